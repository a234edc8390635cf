/-
  The walk of Check (layer 11).
-/
import Derived.Test.YtljcpgeggbbmfaaSquare
import Derived.Test.YtljcpgeggbbmfaaNumbers
import Derived.Deep.RegionHeld3
namespace Go.Proofs.Ytljcpgeggbbmfaa
set_option linter.unusedVariables false
set_option linter.unusedSimpArgs false
open Go.RowKit
def countB (X : InstD) : Bool := manyB X.tm 60 && manyB X.bm 60 && manyB X.sats.length 12 && manyB X.custs.length 48
def codeI (X : InstD) : Int := if !countB X then 9 else if !(sqB X.cost (nodesN X) && sqB X.time (nodesN X)) then 4 else if !numsB X then 2 else 0
theorem keep_cell {w w' : World} {p : Addr} {v : Value} (hb : Below w.heap.size w w') (h : w.cell? p = some v) : w'.cell? p = some v := (hb.cell (lt_of_cell h)).trans h
theorem keep_below {W w w' : World} (h : Below W.heap.size W w) (hb : Below w.heap.size w w') : Below W.heap.size W w' := h.trans (hb.mono h.size)
theorem nodes_below (X : InstD) (h : HdD) (w : World) (h1 : X.sats.length ≤ 1000000) (h2 : X.custs.length ≤ 1000000) :
    Calls Try.prog 37 #[.agg (instC X h)] w fun e w' => e = .returned (.int .i64 (nodesN X)) ∧ Below w.heap.size w w' :=
  (nodes_any X h w h1 h2).mono fun e w' ⟨he, hw⟩ => ⟨he, by subst hw; exact (Below.refl _ _).alloc (Nat.le_refl _) _⟩
theorem square_no (A : Option Addr) (C : Nat) (ls : List (List Int)) (m : Nat) (w : World) (hl : ls.length ≤ 9223372036854775807) (hm : m ≤ 9223372036854775807) (HR : Rows2 w A ls) (h : sqB ls m = false) :
    Calls Try.prog 54 #[.slice A ls.length C, .int .i64 m] w fun e w' => e = .returned (.bool false) ∧ Below w.heap.size w w' :=
  (square_any A C ls m w hl hm HR).mono fun e w' ⟨he, hw⟩ => ⟨by rw [he, h], hw⟩
set_option maxHeartbeats 3200000 in
set_option maxRecDepth 100000 in
theorem check_sq (X : InstD) (h : HdD) (w : World) (H : InstIs w X h) (ls : X.sats.length ≤ 1000000) (lc : X.custs.length ≤ 1000000) (hc : countB X = true) (b1 : Bool) (hs1 : sqB X.cost (nodesN X) = b1) :
    Calls Try.prog 27 #[.agg (instC X h)] w fun e w' => e = .returned (.int .i64 (codeI X)) ∧ Below w.heap.size w w' := by
  have hc0 := hc
  unfold countB at hc
  simp only [Bool.and_eq_true] at hc
  obtain ⟨⟨⟨c1, c2⟩, c3⟩, c4⟩ := hc
  obtain ⟨sa, sc, ca, cc, oa, oc, ta, tc⟩ := h
  have BX := Boxed.new w X ⟨sa, sc, ca, cc, oa, oc, ta, tc⟩ 29
  have BW := (Below.refl w.heap.size w).alloc (Nat.le_refl _) (.cells (instC X ⟨sa, sc, ca, cc, oa, oc, ta, tc⟩) 29)
  have d0 : (w.alloc (.cells (instC X ⟨sa, sc, ca, cc, oa, oc, ta, tc⟩) 29)).cell? ⟨w.heap.size, 0, none⟩ = some (.int .i64 X.fin) := BX.2 0 _ rfl
  have d1 : (w.alloc (.cells (instC X ⟨sa, sc, ca, cc, oa, oc, ta, tc⟩) 29)).cell? ⟨w.heap.size, 1, none⟩ = some (.int .i64 X.tm) := BX.2 1 _ rfl
  have d2 : (w.alloc (.cells (instC X ⟨sa, sc, ca, cc, oa, oc, ta, tc⟩) 29)).cell? ⟨w.heap.size, 2, none⟩ = some (.int .i64 X.tr) := BX.2 2 _ rfl
  have d3 : (w.alloc (.cells (instC X ⟨sa, sc, ca, cc, oa, oc, ta, tc⟩) 29)).cell? ⟨w.heap.size, 3, none⟩ = some (.int .i64 X.bm) := BX.2 3 _ rfl
  have d4 : (w.alloc (.cells (instC X ⟨sa, sc, ca, cc, oa, oc, ta, tc⟩) 29)).cell? ⟨w.heap.size, 4, none⟩ = some (.int .i64 X.br) := BX.2 4 _ rfl
  have d5 : (w.alloc (.cells (instC X ⟨sa, sc, ca, cc, oa, oc, ta, tc⟩) 29)).cell? ⟨w.heap.size, 5, none⟩ = some (.slice sa X.sats.length sc) := BX.2 5 _ rfl
  have d6 : (w.alloc (.cells (instC X ⟨sa, sc, ca, cc, oa, oc, ta, tc⟩) 29)).cell? ⟨w.heap.size, 6, none⟩ = some (.slice ca X.custs.length cc) := BX.2 6 _ rfl
  have d7 : (w.alloc (.cells (instC X ⟨sa, sc, ca, cc, oa, oc, ta, tc⟩) 29)).cell? ⟨w.heap.size, 7, none⟩ = some (.slice oa X.cost.length oc) := BX.2 7 _ rfl
  have d8 : (w.alloc (.cells (instC X ⟨sa, sc, ca, cc, oa, oc, ta, tc⟩) 29)).cell? ⟨w.heap.size, 8, none⟩ = some (.slice ta X.time.length tc) := BX.2 8 _ rfl
  replace H := Lib.hid (H.below BW)
  dsimp only [instC] at d0 d1 d2 d3 d4 d5 d6 d7 d8 BW H ⊢
  have g1 := BX.1
  clear BX
  have HN : Hid (nodesN X ≤ 9223372036854775807) := Lib.hid (by unfold nodesN; omega)
  have HC : Hid (codeI X = if !(b1 && sqB X.time (nodesN X)) then 4 else if !numsB X then 2 else 0) := Lib.hid (by unfold codeI; rw [hc0, hs1]; rfl)
  clear hc0
  go_enter Try.func27, Try.ntmps27
  go_upto_region 4 with (go_at_call 53; refine (many_any _ _ _).mono ?_; rintro e w' ⟨rfl, rfl⟩)
  generalize w.alloc (.cells #[.int .i64 X.fin, .int .i64 X.tm, .int .i64 X.tr, .int .i64 X.bm, .int .i64 X.br, .slice sa X.sats.length sc, .slice ca X.custs.length cc, .slice oa X.cost.length oc, .slice ta X.time.length tc] 29) = W at *
  generalize hg : w.heap.size = g at *
  replace hg := Lib.hid hg
  have hb0 := Below.refl W.heap.size W
  have KS : ∀ w' : World, Below W.heap.size W w' → w'.cell? ⟨g, 0, none⟩ = some (.int .i64 X.fin) ∧ w'.cell? ⟨g, 1, none⟩ = some (.int .i64 X.tm) ∧ w'.cell? ⟨g, 2, none⟩ = some (.int .i64 X.tr) ∧ w'.cell? ⟨g, 3, none⟩ = some (.int .i64 X.bm) ∧ w'.cell? ⟨g, 4, none⟩ = some (.int .i64 X.br)
      ∧ w'.cell? ⟨g, 5, none⟩ = some (.slice sa X.sats.length sc) ∧ w'.cell? ⟨g, 6, none⟩ = some (.slice ca X.custs.length cc) ∧ w'.cell? ⟨g, 7, none⟩ = some (.slice oa X.cost.length oc) ∧ w'.cell? ⟨g, 8, none⟩ = some (.slice ta X.time.length tc) ∧ Below W.heap.size W w' := fun w' hb => ⟨(hb.cell (p := ⟨g, 0, none⟩) g1).trans d0, (hb.cell (p := ⟨g, 1, none⟩) g1).trans d1, (hb.cell (p := ⟨g, 2, none⟩) g1).trans d2, (hb.cell (p := ⟨g, 3, none⟩) g1).trans d3, (hb.cell (p := ⟨g, 4, none⟩) g1).trans d4, (hb.cell (p := ⟨g, 5, none⟩) g1).trans d5, (hb.cell (p := ⟨g, 6, none⟩) g1).trans d6, (hb.cell (p := ⟨g, 7, none⟩) g1).trans d7, (hb.cell (p := ⟨g, 8, none⟩) g1).trans d8, hb⟩
  have KB : ∀ w' : World, (w'.cell? ⟨g, 0, none⟩ = some (.int .i64 X.fin) ∧ w'.cell? ⟨g, 1, none⟩ = some (.int .i64 X.tm) ∧ w'.cell? ⟨g, 2, none⟩ = some (.int .i64 X.tr) ∧ w'.cell? ⟨g, 3, none⟩ = some (.int .i64 X.bm) ∧ w'.cell? ⟨g, 4, none⟩ = some (.int .i64 X.br)
      ∧ w'.cell? ⟨g, 5, none⟩ = some (.slice sa X.sats.length sc) ∧ w'.cell? ⟨g, 6, none⟩ = some (.slice ca X.custs.length cc) ∧ w'.cell? ⟨g, 7, none⟩ = some (.slice oa X.cost.length oc) ∧ w'.cell? ⟨g, 8, none⟩ = some (.slice ta X.time.length tc) ∧ Below W.heap.size W w') → Below W.heap.size W w' := fun w' h => h.2.2.2.2.2.2.2.2.2
  replace KB := Lib.hid KB
  replace KS := Lib.hid KS
  cases b1
  · have HS1 := Lib.hid hs1
    clear hs1
    first | (go_region_with (first | (go_at_call 37; refine (nodes_below X ⟨sa, sc, ca, cc, oa, oc, ta, tc⟩ _ ls lc).mono ?_; rintro e w1 ⟨rfl, hb⟩; have hB1 := keep_below (Below.drew hb0) hb; obtain ⟨e0, e1, e2, e3, e4, e5, e6, e7, e8, _⟩ := KS.out _ hB1) | (go_at_call 54; refine (square_no _ _ X.cost (nodesN X) _ H.out.lo HN.out (H.out.cost.below hB1) HS1.out).mono ?_; rintro e w2 ⟨rfl, hb2⟩))) | fail
    all_goals
      go_wp2
      go_ret
      exact ⟨ret_int (by rw [HC.out]; rfl), by rw [hg.out]; exact BW.trans ((keep_below hB1 hb2).mono (Nat.le_of_lt g1))⟩
  · skip
    go_region_held3 (fun w' => w'.cell? ⟨g, 0, none⟩ = some (.int .i64 X.fin) ∧ w'.cell? ⟨g, 1, none⟩ = some (.int .i64 X.tm) ∧ w'.cell? ⟨g, 2, none⟩ = some (.int .i64 X.tr) ∧ w'.cell? ⟨g, 3, none⟩ = some (.int .i64 X.bm) ∧ w'.cell? ⟨g, 4, none⟩ = some (.int .i64 X.br)
        ∧ w'.cell? ⟨g, 5, none⟩ = some (.slice sa X.sats.length sc) ∧ w'.cell? ⟨g, 6, none⟩ = some (.slice ca X.custs.length cc) ∧ w'.cell? ⟨g, 7, none⟩ = some (.slice oa X.cost.length oc) ∧ w'.cell? ⟨g, 8, none⟩ = some (.slice ta X.time.length tc) ∧ Below W.heap.size W w')
      (first | exact KS.out _ (Below.drew hb0) | exact KS.out _ (keep_below (KB.out _ (by assumption)) (by assumption)))
      (first | (go_at_call 37; refine (nodes_below X ⟨sa, sc, ca, cc, oa, oc, ta, tc⟩ _ ls lc).mono ?_; rintro e w1 ⟨rfl, hb⟩) | (go_at_call_of 54 (Value.slice oa X.cost.length oc); refine (square_any _ _ X.cost (nodesN X) _ H.out.lo HN.out (H.out.cost.below (KB.out _ (by assumption)))).mono ?_; rintro e w1 ⟨rfl, hb⟩) | (go_at_call_of 54 (Value.slice ta X.time.length tc); refine (square_any _ _ X.time (nodesN X) _ H.out.lt HN.out (H.out.time.below (KB.out _ (by assumption)))).mono ?_; rintro e w1 ⟨rfl, hb⟩))
    have hB := KB.out _ (by assumption)
    have e0 := KS.out _ hB
    obtain ⟨e0, e1, e2, e3, e4, e5, e6, e7, e8, _⟩ := e0
    go_wp2_with (go_at_call 55; refine (numbers_any _ X ⟨sa, sc, ca, cc, oa, oc, ta, tc⟩ (H.out.below hB)).mono ?_; rintro e w3 ⟨rfl, hb3⟩)
    all_goals
      go_ret
      first
        | (have q : (!sqB X.time (nodesN X)) = true := by assumption
           exact ⟨ret_int (by rw [HC.out, Bool.true_and, q]; rfl), by rw [hg.out]; exact BW.trans (hB.mono (Nat.le_of_lt g1))⟩)
        | (have q : (!sqB X.time (nodesN X)) = false := by assumption
           have q2 : (!numsB X) = true := by assumption
           exact ⟨ret_int (by rw [HC.out, Bool.true_and, q, q2]; rfl), by rw [hg.out]; exact BW.trans ((keep_below hB hb3).mono (Nat.le_of_lt g1))⟩)
        | (have q : (!sqB X.time (nodesN X)) = false := by assumption
           have q2 : (!numsB X) = false := by assumption
           exact ⟨ret_int (by rw [HC.out, Bool.true_and, q, q2]; rfl), by rw [hg.out]; exact BW.trans ((keep_below hB hb3).mono (Nat.le_of_lt g1))⟩)

set_option maxHeartbeats 1600000 in
theorem check_count (X : InstD) (h : HdD) (w : World) (hc : countB X = false) (ls : X.sats.length ≤ 1000000) (lc : X.custs.length ≤ 1000000) :
    Calls Try.prog 27 #[.agg (instC X h)] w fun e w' => e = .returned (.int .i64 (codeI X)) ∧ Below w.heap.size w w' := by
  have HC : Hid (codeI X = 9) := Lib.hid (by unfold codeI; rw [hc]; rfl)
  have hc' : Hid (manyB X.tm 60 = true → manyB X.bm 60 = true → manyB X.sats.length 12 = true → manyB X.custs.length 48 = true → False) := Lib.hid (fun a b c d => by unfold countB at hc; rw [a, b, c, d] at hc; cases hc)
  clear hc
  unfold instC
  go_enter Try.func27, Try.ntmps27
  go_upto_region 4 with (go_at_call 53; refine (many_any _ _ _).mono ?_; rintro e w' ⟨rfl, rfl⟩)
  all_goals first
    | (go_ret
       exact ⟨ret_int (by rw [HC.out]), (Below.refl _ _).alloc (Nat.le_refl _) _⟩)
    | (have q : (!manyB X.custs.length 48) = false := by assumption
       exact (hc'.out (by assumption) (by assumption) (by assumption) (by rw [Bool.not_eq_false'] at q; exact q)).elim)
theorem check_any (X : InstD) (h : HdD) (w : World) (H : InstIs w X h) (ls : X.sats.length ≤ 1000000) (lc : X.custs.length ≤ 1000000) :
    Calls Try.prog 27 #[.agg (instC X h)] w fun e w' => e = .returned (.int .i64 (codeI X)) ∧ Below w.heap.size w w' := by
  cases hc : countB X with
  | false => exact check_count X h w hc ls lc
  | true => exact check_sq X h w H ls lc hc _ rfl
end Go.Proofs.Ytljcpgeggbbmfaa
