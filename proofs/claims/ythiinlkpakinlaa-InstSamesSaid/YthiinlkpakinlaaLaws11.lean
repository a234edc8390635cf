/-
  The walks of layer 11's statements InstChecks, InstNodes.
-/
import Derived.Test.YthiinlkpakinlaaAwake3
import Derived.Test.YthiinlkpakinlaaLight
import Derived.IntWalk
namespace Go.Proofs.Ythiinlkpakinlaa
set_option linter.unusedVariables false
set_option linter.unusedSimpArgs false
open Go.RowKit
theorem light_yes (w : World) (X : InstD) (h : HdD) (H : InstIs w X h) (hl : lightB X = true) : Calls Try.prog 9 #[.agg (instC X h)] w fun e w' => e = .returned (.bool true) ∧ Below w.heap.size w w' :=
  (light_any w X h H).mono fun e w' ⟨he, hb⟩ => ⟨by rw [he, hl], hb⟩
theorem light_no (w : World) (X : InstD) (h : HdD) (H : InstIs w X h) (hl : lightB X = false) : Calls Try.prog 9 #[.agg (instC X h)] w fun e w' => e = .returned (.bool false) ∧ Below w.heap.size w w' :=
  (light_any w X h H).mono fun e w' ⟨he, hb⟩ => ⟨by rw [he, hl], hb⟩
set_option maxHeartbeats 3200000 in
set_option maxRecDepth 100000 in
theorem walk_InstChecks (w : World) (X : InstD) (h : HdD) (H : InstIs w X h) :
    Calls Try.prog 3 #[.agg (instC X h)] w fun e w' => e = .returned (.bool true) ∧ Below w.heap.size w w' := by
  obtain ⟨sa, sc, ca, cc, oa, oc, ta, tc⟩ := h
  have BW := (Below.refl w.heap.size w).alloc (Nat.le_refl _) (.cells #[.int .i64 X.fin, .int .i64 X.tm, .int .i64 X.tr, .int .i64 X.bm, .int .i64 X.br, .slice sa X.sats.length sc, .slice ca X.custs.length cc, .slice oa X.cost.length oc, .slice ta X.time.length tc] 28)
  replace H := Lib.hid (H.below BW)
  have DD : ∀ j u, #[.int .i64 X.fin, .int .i64 X.tm, .int .i64 X.tr, .int .i64 X.bm, .int .i64 X.br, .slice sa X.sats.length sc, .slice ca X.custs.length cc, .slice oa X.cost.length oc, .slice ta X.time.length tc][j]? = some u → (w.alloc (.cells #[.int .i64 X.fin, .int .i64 X.tm, .int .i64 X.tr, .int .i64 X.bm, .int .i64 X.br, .slice sa X.sats.length sc, .slice ca X.custs.length cc, .slice oa X.cost.length oc, .slice ta X.time.length tc] 28)).cell? ⟨w.heap.size, j, none⟩ = some u := fun j u hu => by rw [World.cell?_alloc_new]; exact hu
  have gA : w.heap.size < (w.alloc (.cells #[.int .i64 X.fin, .int .i64 X.tm, .int .i64 X.tr, .int .i64 X.bm, .int .i64 X.br, .slice sa X.sats.length sc, .slice ca X.custs.length cc, .slice oa X.cost.length oc, .slice ta X.time.length tc] 28)).heap.size := by simp
  replace DD := Lib.hid DD
  replace BW := Lib.hid BW
  go_enter Try.func3, Try.ntmps3
  go_wp2_with fail
  refine (awake_any _).mono ?_
  rintro e W ⟨rfl, hA⟩
  generalize (w.alloc (.cells #[.int .i64 X.fin, .int .i64 X.tm, .int .i64 X.tr, .int .i64 X.bm, .int .i64 X.br, .slice sa X.sats.length sc, .slice ca X.custs.length cc, .slice oa X.cost.length oc, .slice ta X.time.length tc] 28)) = WA at *
  generalize hg : w.heap.size = g at *
  replace hg := Lib.hid hg
  replace H := Lib.hid (H.out.below hA)
  have d0 : W.cell? ⟨g, 0, none⟩ = some (.int .i64 X.fin) := keep_cell hA (DD.out 0 _ rfl)
  have d1 : W.cell? ⟨g, 1, none⟩ = some (.int .i64 X.tm) := keep_cell hA (DD.out 1 _ rfl)
  have d2 : W.cell? ⟨g, 2, none⟩ = some (.int .i64 X.tr) := keep_cell hA (DD.out 2 _ rfl)
  have d3 : W.cell? ⟨g, 3, none⟩ = some (.int .i64 X.bm) := keep_cell hA (DD.out 3 _ rfl)
  have d4 : W.cell? ⟨g, 4, none⟩ = some (.int .i64 X.br) := keep_cell hA (DD.out 4 _ rfl)
  have d5 : W.cell? ⟨g, 5, none⟩ = some (.slice sa X.sats.length sc) := keep_cell hA (DD.out 5 _ rfl)
  have d6 : W.cell? ⟨g, 6, none⟩ = some (.slice ca X.custs.length cc) := keep_cell hA (DD.out 6 _ rfl)
  have d7 : W.cell? ⟨g, 7, none⟩ = some (.slice oa X.cost.length oc) := keep_cell hA (DD.out 7 _ rfl)
  have d8 : W.cell? ⟨g, 8, none⟩ = some (.slice ta X.time.length tc) := keep_cell hA (DD.out 8 _ rfl)
  have g1 : g < W.heap.size := Nat.lt_of_lt_of_le gA hA.size
  replace gA := Lib.hid gA
  replace hA := Lib.hid hA
  have hb0 := Below.refl W.heap.size W
  have KS : ∀ w' : World, Below W.heap.size W w' → w'.cell? ⟨g, 0, none⟩ = some (.int .i64 X.fin) ∧ w'.cell? ⟨g, 1, none⟩ = some (.int .i64 X.tm) ∧ w'.cell? ⟨g, 2, none⟩ = some (.int .i64 X.tr) ∧ w'.cell? ⟨g, 3, none⟩ = some (.int .i64 X.bm) ∧ w'.cell? ⟨g, 4, none⟩ = some (.int .i64 X.br) ∧ w'.cell? ⟨g, 5, none⟩ = some (.slice sa X.sats.length sc) ∧ w'.cell? ⟨g, 6, none⟩ = some (.slice ca X.custs.length cc) ∧ w'.cell? ⟨g, 7, none⟩ = some (.slice oa X.cost.length oc) ∧ w'.cell? ⟨g, 8, none⟩ = some (.slice ta X.time.length tc) ∧ Below W.heap.size W w' := fun w' hb => ⟨(hb.cell (p := ⟨g, 0, none⟩) g1).trans d0, (hb.cell (p := ⟨g, 1, none⟩) g1).trans d1, (hb.cell (p := ⟨g, 2, none⟩) g1).trans d2, (hb.cell (p := ⟨g, 3, none⟩) g1).trans d3, (hb.cell (p := ⟨g, 4, none⟩) g1).trans d4, (hb.cell (p := ⟨g, 5, none⟩) g1).trans d5, (hb.cell (p := ⟨g, 6, none⟩) g1).trans d6, (hb.cell (p := ⟨g, 7, none⟩) g1).trans d7, (hb.cell (p := ⟨g, 8, none⟩) g1).trans d8, hb⟩
  have KB : ∀ w' : World, (w'.cell? ⟨g, 0, none⟩ = some (.int .i64 X.fin) ∧ w'.cell? ⟨g, 1, none⟩ = some (.int .i64 X.tm) ∧ w'.cell? ⟨g, 2, none⟩ = some (.int .i64 X.tr) ∧ w'.cell? ⟨g, 3, none⟩ = some (.int .i64 X.bm) ∧ w'.cell? ⟨g, 4, none⟩ = some (.int .i64 X.br) ∧ w'.cell? ⟨g, 5, none⟩ = some (.slice sa X.sats.length sc) ∧ w'.cell? ⟨g, 6, none⟩ = some (.slice ca X.custs.length cc) ∧ w'.cell? ⟨g, 7, none⟩ = some (.slice oa X.cost.length oc) ∧ w'.cell? ⟨g, 8, none⟩ = some (.slice ta X.time.length tc) ∧ Below W.heap.size W w') → Below W.heap.size W w' := fun w' h => h.2.2.2.2.2.2.2.2.2
  replace KB := Lib.hid KB
  replace KS := Lib.hid KS
  go_wp2_with fail
  cases hl : lightB X
  · replace hl := Lib.hid hl
    first | (go_region_with (go_at_call 9; refine (light_no _ X ⟨sa, sc, ca, cc, oa, oc, ta, tc⟩ (H.out.below (Below.drew hb0)) hl.out).mono ?_; rintro e w2 ⟨rfl, hb2⟩)) | fail
    all_goals
      go_wp2
      go_ret
      exact ⟨rfl, by rw [hg.out]; exact BW.out.trans ((keep_below hA.out (keep_below (Below.drew hb0) hb2)).mono (Nat.le_of_lt gA.out))⟩
  · have hL := (lightB_iff X).1 hl
    have ls : X.sats.length ≤ 1000000 := Nat.le_trans hL.sats (by omega)
    have lc : X.custs.length ≤ 1000000 := Nat.le_trans hL.custs (by omega)
    replace hL := Lib.hid hL
    replace hl := Lib.hid hl
    go_region_held3 (fun w' => w'.cell? ⟨g, 0, none⟩ = some (.int .i64 X.fin) ∧ w'.cell? ⟨g, 1, none⟩ = some (.int .i64 X.tm) ∧ w'.cell? ⟨g, 2, none⟩ = some (.int .i64 X.tr) ∧ w'.cell? ⟨g, 3, none⟩ = some (.int .i64 X.bm) ∧ w'.cell? ⟨g, 4, none⟩ = some (.int .i64 X.br) ∧ w'.cell? ⟨g, 5, none⟩ = some (.slice sa X.sats.length sc) ∧ w'.cell? ⟨g, 6, none⟩ = some (.slice ca X.custs.length cc) ∧ w'.cell? ⟨g, 7, none⟩ = some (.slice oa X.cost.length oc) ∧ w'.cell? ⟨g, 8, none⟩ = some (.slice ta X.time.length tc) ∧ Below W.heap.size W w')
      (first | exact KS.out _ (Below.drew hb0) | exact KS.out _ (keep_below (KB.out _ (by assumption)) (by assumption)))
      (first | (go_at_call 9; refine (light_yes _ X ⟨sa, sc, ca, cc, oa, oc, ta, tc⟩ (H.out.below (KB.out _ (by assumption))) hl.out).mono ?_; rintro e w1 ⟨rfl, hb⟩) | (go_at_call 10; refine (check_any X ⟨sa, sc, ca, cc, oa, oc, ta, tc⟩ _ (H.out.below (KB.out _ (by assumption))) ls lc).mono ?_; rintro e w1 ⟨rfl, hb⟩) | (go_at_call 11; refine (code_any X ⟨sa, sc, ca, cc, oa, oc, ta, tc⟩ _ (H.out.below (KB.out _ (by assumption))) ls lc).mono ?_; rintro e w1 ⟨rfl, hb⟩))
    have hB := KB.out _ (by assumption)
    go_wp2
    go_ret
    exact ⟨rfl, by rw [hg.out]; exact BW.out.trans ((keep_below hA.out hB).mono (Nat.le_of_lt gA.out))⟩
theorem law_InstChecks (w : World) (v : Value) (H : ∃ (X : InstD) (h : HdD), v = .agg (instC X h) ∧ InstIs w X h) :
    Calls Try.prog 3 #[v] w fun e w' => e = .returned (.bool true) ∧ Below w.heap.size w w' := by
  obtain ⟨X, h, rfl, H⟩ := H
  exact walk_InstChecks w X h H
theorem nodes_sum (X : InstD) (h : HdD) (w : World) (h1 : X.sats.length ≤ 1000000) (h2 : X.custs.length ≤ 1000000) :
    Calls Try.prog 13 #[.agg (instC X h)] w fun e w' => e = .returned (.int .i64 (1 + (X.sats.length : Int) + (X.custs.length : Int))) ∧ Below w.heap.size w w' :=
  (nodes_below X h w h1 h2).mono fun e w' ⟨he, hb⟩ => ⟨by rw [he]; exact ret_int (by unfold nodesN; omega), hb⟩
theorem sat_wrap (s : Int) (w : World) (X : InstD) (h : HdD) :
    Calls Try.prog 14 #[.agg (instC X h), .int .i64 s] w fun e w' => e = .returned (.int .i64 (IntKind.i64.wrap (1 + s))) ∧ Below w.heap.size w w' := (sat_any s w X h).mono fun e w' ⟨he, hb⟩ => ⟨by rw [he, IntWalk.i64_left], hb⟩
theorem customer_wrap (c : Int) (w : World) (X : InstD) (h : HdD) (hl : X.sats.length ≤ 1000000) :
    Calls Try.prog 15 #[.agg (instC X h), .int .i64 c] w fun e w' => e = .returned (.int .i64 (IntKind.i64.wrap (1 + (X.sats.length : Int) + c))) ∧ Below w.heap.size w w' := (customer_any c w X h hl).mono fun e w' ⟨he, hb⟩ => ⟨by rw [he, IntWalk.i64_left], hb⟩
set_option maxHeartbeats 3200000 in
set_option maxRecDepth 100000 in
theorem walk_InstNodes (w : World) (X : InstD) (h : HdD) (H : InstIs w X h) (s c : Int) :
    Calls Try.prog 5 #[.agg (instC X h), .int .i64 s, .int .i64 c] w fun e w' => e = .returned (.bool true) ∧ Below w.heap.size w w' := by
  obtain ⟨sa, sc, ca, cc, oa, oc, ta, tc⟩ := h
  have BW := (Below.refl w.heap.size w).alloc (Nat.le_refl _) (.cells #[.int .i64 X.fin, .int .i64 X.tm, .int .i64 X.tr, .int .i64 X.bm, .int .i64 X.br, .slice sa X.sats.length sc, .slice ca X.custs.length cc, .slice oa X.cost.length oc, .slice ta X.time.length tc] 28)
  replace H := Lib.hid (H.below BW)
  have DD : ∀ j u, #[.int .i64 X.fin, .int .i64 X.tm, .int .i64 X.tr, .int .i64 X.bm, .int .i64 X.br, .slice sa X.sats.length sc, .slice ca X.custs.length cc, .slice oa X.cost.length oc, .slice ta X.time.length tc][j]? = some u → (w.alloc (.cells #[.int .i64 X.fin, .int .i64 X.tm, .int .i64 X.tr, .int .i64 X.bm, .int .i64 X.br, .slice sa X.sats.length sc, .slice ca X.custs.length cc, .slice oa X.cost.length oc, .slice ta X.time.length tc] 28)).cell? ⟨w.heap.size, j, none⟩ = some u := fun j u hu => by rw [World.cell?_alloc_new]; exact hu
  have gA : w.heap.size < (w.alloc (.cells #[.int .i64 X.fin, .int .i64 X.tm, .int .i64 X.tr, .int .i64 X.bm, .int .i64 X.br, .slice sa X.sats.length sc, .slice ca X.custs.length cc, .slice oa X.cost.length oc, .slice ta X.time.length tc] 28)).heap.size := by simp
  replace DD := Lib.hid DD
  replace BW := Lib.hid BW
  go_enter Try.func5, Try.ntmps5
  go_wp2_with fail
  refine (awake_any _).mono ?_
  rintro e W ⟨rfl, hA⟩
  generalize (w.alloc (.cells #[.int .i64 X.fin, .int .i64 X.tm, .int .i64 X.tr, .int .i64 X.bm, .int .i64 X.br, .slice sa X.sats.length sc, .slice ca X.custs.length cc, .slice oa X.cost.length oc, .slice ta X.time.length tc] 28)) = WA at *
  generalize hg : w.heap.size = g at *
  replace hg := Lib.hid hg
  replace H := Lib.hid (H.out.below hA)
  have d0 : W.cell? ⟨g, 0, none⟩ = some (.int .i64 X.fin) := keep_cell hA (DD.out 0 _ rfl)
  have d1 : W.cell? ⟨g, 1, none⟩ = some (.int .i64 X.tm) := keep_cell hA (DD.out 1 _ rfl)
  have d2 : W.cell? ⟨g, 2, none⟩ = some (.int .i64 X.tr) := keep_cell hA (DD.out 2 _ rfl)
  have d3 : W.cell? ⟨g, 3, none⟩ = some (.int .i64 X.bm) := keep_cell hA (DD.out 3 _ rfl)
  have d4 : W.cell? ⟨g, 4, none⟩ = some (.int .i64 X.br) := keep_cell hA (DD.out 4 _ rfl)
  have d5 : W.cell? ⟨g, 5, none⟩ = some (.slice sa X.sats.length sc) := keep_cell hA (DD.out 5 _ rfl)
  have d6 : W.cell? ⟨g, 6, none⟩ = some (.slice ca X.custs.length cc) := keep_cell hA (DD.out 6 _ rfl)
  have d7 : W.cell? ⟨g, 7, none⟩ = some (.slice oa X.cost.length oc) := keep_cell hA (DD.out 7 _ rfl)
  have d8 : W.cell? ⟨g, 8, none⟩ = some (.slice ta X.time.length tc) := keep_cell hA (DD.out 8 _ rfl)
  have g1 : g < W.heap.size := Nat.lt_of_lt_of_le gA hA.size
  replace gA := Lib.hid gA
  replace hA := Lib.hid hA
  have hb0 := Below.refl W.heap.size W
  have KS : ∀ w' : World, Below W.heap.size W w' → w'.cell? ⟨g, 0, none⟩ = some (.int .i64 X.fin) ∧ w'.cell? ⟨g, 1, none⟩ = some (.int .i64 X.tm) ∧ w'.cell? ⟨g, 2, none⟩ = some (.int .i64 X.tr) ∧ w'.cell? ⟨g, 3, none⟩ = some (.int .i64 X.bm) ∧ w'.cell? ⟨g, 4, none⟩ = some (.int .i64 X.br) ∧ w'.cell? ⟨g, 5, none⟩ = some (.slice sa X.sats.length sc) ∧ w'.cell? ⟨g, 6, none⟩ = some (.slice ca X.custs.length cc) ∧ w'.cell? ⟨g, 7, none⟩ = some (.slice oa X.cost.length oc) ∧ w'.cell? ⟨g, 8, none⟩ = some (.slice ta X.time.length tc) ∧ Below W.heap.size W w' := fun w' hb => ⟨(hb.cell (p := ⟨g, 0, none⟩) g1).trans d0, (hb.cell (p := ⟨g, 1, none⟩) g1).trans d1, (hb.cell (p := ⟨g, 2, none⟩) g1).trans d2, (hb.cell (p := ⟨g, 3, none⟩) g1).trans d3, (hb.cell (p := ⟨g, 4, none⟩) g1).trans d4, (hb.cell (p := ⟨g, 5, none⟩) g1).trans d5, (hb.cell (p := ⟨g, 6, none⟩) g1).trans d6, (hb.cell (p := ⟨g, 7, none⟩) g1).trans d7, (hb.cell (p := ⟨g, 8, none⟩) g1).trans d8, hb⟩
  have KB : ∀ w' : World, (w'.cell? ⟨g, 0, none⟩ = some (.int .i64 X.fin) ∧ w'.cell? ⟨g, 1, none⟩ = some (.int .i64 X.tm) ∧ w'.cell? ⟨g, 2, none⟩ = some (.int .i64 X.tr) ∧ w'.cell? ⟨g, 3, none⟩ = some (.int .i64 X.bm) ∧ w'.cell? ⟨g, 4, none⟩ = some (.int .i64 X.br) ∧ w'.cell? ⟨g, 5, none⟩ = some (.slice sa X.sats.length sc) ∧ w'.cell? ⟨g, 6, none⟩ = some (.slice ca X.custs.length cc) ∧ w'.cell? ⟨g, 7, none⟩ = some (.slice oa X.cost.length oc) ∧ w'.cell? ⟨g, 8, none⟩ = some (.slice ta X.time.length tc) ∧ Below W.heap.size W w') → Below W.heap.size W w' := fun w' h => h.2.2.2.2.2.2.2.2.2
  replace KB := Lib.hid KB
  replace KS := Lib.hid KS
  go_wp2_with fail
  cases hl : lightB X
  · replace hl := Lib.hid hl
    refine (light_no _ X ⟨sa, sc, ca, cc, oa, oc, ta, tc⟩ H.out hl.out).mono ?_
    rintro e w2 ⟨rfl, hb2⟩
    go_wp2_with fail
    go_ret
    exact ⟨rfl, by rw [hg.out]; exact BW.out.trans ((keep_below hA.out hb2).mono (Nat.le_of_lt gA.out))⟩
  · have hL := (lightB_iff X).1 hl
    have ls : X.sats.length ≤ 40 := hL.sats
    have lc : X.custs.length ≤ 60 := hL.custs
    replace hL := Lib.hid hL
    replace hl := Lib.hid hl
    refine (light_yes _ X ⟨sa, sc, ca, cc, oa, oc, ta, tc⟩ H.out hl.out).mono ?_
    rintro e w2 ⟨rfl, hb2⟩
    have e6 : w2.cell? ⟨g, 6, none⟩ = some (.slice ca X.custs.length cc) := keep_cell hb2 d6
    clear d0 d1 d2 d3 d4 d5 d6 d7 d8
    have H2 := Lib.hid ((H.out.below hb2).custs)
    have hs2 := Lib.hid hb2
    clear hb2
    go_wp2_with fail
    clear e6
    go_loopw [7, 18] (fun s i wr => ∃ k : Nat, k ≤ X.custs.length ∧ i = .int .i64 k ∧ s = .int .i64 (loadTo X.custs k) ∧ Below w2.heap.size w2 wr) (fun _ i _ => X.custs.length - (intOf i).toNat)
    case atStart => exact ⟨0, Nat.zero_le _, rfl, rfl, Below.refl _ _⟩
    case round =>
      obtain ⟨k, hk, rfl, rfl, hb⟩ := hrel
      by_cases hlt : k < X.custs.length
      · obtain ⟨b, off, rfl, hc1, hc2, hc3, hc4⟩ := (H2.out.below hb).cust hlt
        have HS := Lib.hid (loadTo_succ X.custs hlt)
        generalize X.custs[k] = cu at *
        generalize loadTo X.custs k = su at *
        go_wp2_with fail
        go_roundw
        case rel => exact ⟨k + 1, by omega, by go_num, by rw [HS.out], hb.alloc hb.size _⟩
        case measure => simp [intOf]; omega
      · obtain rfl : k = X.custs.length := by omega
        have hbr := keep_below hs2.out hb
        clear hb
        have hlo : loadTo X.custs X.custs.length = loadOf X.custs := rfl
        rw [hlo]
        clear hlo
        go_wp2_with fail
        have i1 : IntKind.i64.wrap (1 + (X.sats.length : Int)) = 1 + (X.sats.length : Int) := IntWalk.i64_in _ (by omega)
        have i2 : IntKind.i64.wrap (1 + (X.sats.length : Int) + (X.custs.length : Int)) = 1 + (X.sats.length : Int) + (X.custs.length : Int) := IntWalk.i64_in _ (by omega)
        have l6 : X.sats.length ≤ 1000000 := by omega
        have c6 : X.custs.length ≤ 1000000 := by omega
        go_region_held3 (fun w' => w'.cell? ⟨g, 0, none⟩ = some (.int .i64 X.fin) ∧ w'.cell? ⟨g, 1, none⟩ = some (.int .i64 X.tm) ∧ w'.cell? ⟨g, 2, none⟩ = some (.int .i64 X.tr) ∧ w'.cell? ⟨g, 3, none⟩ = some (.int .i64 X.bm) ∧ w'.cell? ⟨g, 4, none⟩ = some (.int .i64 X.br) ∧ w'.cell? ⟨g, 5, none⟩ = some (.slice sa X.sats.length sc) ∧ w'.cell? ⟨g, 6, none⟩ = some (.slice ca X.custs.length cc) ∧ w'.cell? ⟨g, 7, none⟩ = some (.slice oa X.cost.length oc) ∧ w'.cell? ⟨g, 8, none⟩ = some (.slice ta X.time.length tc) ∧ Below W.heap.size W w')
      (first | exact KS.out _ (Below.drew hbr) | exact KS.out _ (keep_below (KB.out _ (by assumption)) (by assumption)))
      (first | (go_at_call 13; refine (nodes_sum X ⟨sa, sc, ca, cc, oa, oc, ta, tc⟩ _ l6 c6).mono ?_; rintro e w1 ⟨rfl, hb⟩) | (go_at_call 14; refine (sat_wrap _ _ X ⟨sa, sc, ca, cc, oa, oc, ta, tc⟩).mono ?_; rintro e w1 ⟨rfl, hb⟩) | (go_at_call 15; refine (customer_wrap _ _ X ⟨sa, sc, ca, cc, oa, oc, ta, tc⟩ l6).mono ?_; rintro e w1 ⟨rfl, hb⟩) | (go_at_call 16; refine (load_any _ X ⟨sa, sc, ca, cc, oa, oc, ta, tc⟩ (H.out.below (KB.out _ (by assumption)))).mono ?_; rintro e w1 ⟨rfl, hb⟩))
        have hB := KB.out _ (by assumption)
        go_wp2_with fail
        go_ret
        exact ⟨rfl, by rw [hg.out]; exact BW.out.trans ((keep_below hA.out hB).mono (Nat.le_of_lt gA.out))⟩
theorem law_InstNodes (w : World) (v : Value) (H : ∃ (X : InstD) (h : HdD), v = .agg (instC X h) ∧ InstIs w X h) (s : Int) (hs : (Lit.int .i64 s).wf = true) (c : Int) (hc : (Lit.int .i64 c).wf = true) :
    Calls Try.prog 5 #[v, .int .i64 s, .int .i64 c] w fun e w' => e = .returned (.bool true) ∧ Below w.heap.size w w' := by
  obtain ⟨X, h, rfl, H⟩ := H
  exact walk_InstNodes w X h H s c
end Go.Proofs.Ythiinlkpakinlaa
