/-
  The walks of light, Load, Sat, Customer (layer 11).
-/
import Derived.Test.YthiinlkpakinlaaCheck
import Derived.Test.YthiinlkpakinlaaCust
namespace Go.Proofs.Ythiinlkpakinlaa
set_option linter.unusedVariables false
set_option linter.unusedSimpArgs false
open Go.RowKit
structure LightP (X : InstD) : Prop where
  sats : X.sats.length ≤ 40
  custs : X.custs.length ≤ 60
  cost : X.cost.length ≤ 70
  time : X.time.length ≤ 70
  costs : ∀ r ∈ X.cost, r.length ≤ 80
  times : ∀ r ∈ X.time, r.length ≤ 80
/-- all rows of the first k matrices are short. -/
def shortTo (X : InstD) : Nat → Prop
  | 0 => True
  | 1 => ∀ r ∈ X.cost, r.length ≤ 80
  | _ => (∀ r ∈ X.cost, r.length ≤ 80) ∧ ∀ r ∈ X.time, r.length ≤ 80
def lightB (X : InstD) : Bool := decide (X.sats.length ≤ 40) && decide (X.custs.length ≤ 60) && decide (X.cost.length ≤ 70) && decide (X.time.length ≤ 70) && X.cost.all (fun r => decide (r.length ≤ 80)) && X.time.all (fun r => decide (r.length ≤ 80))
theorem lightB_iff (X : InstD) : lightB X = true ↔ LightP X := by
  unfold lightB
  simp only [Bool.and_eq_true, decide_eq_true_eq, List.all_eq_true]
  exact ⟨fun ⟨⟨⟨⟨⟨a, b⟩, c⟩, d⟩, e⟩, f⟩ => ⟨a, b, c, d, e, f⟩, fun h => ⟨⟨⟨⟨⟨h.sats, h.custs⟩, h.cost⟩, h.time⟩, h.costs⟩, h.times⟩⟩
theorem lightB_no {X : InstD} (h : ¬ LightP X) : lightB X = false := by
  cases e : lightB X with
  | false => rfl
  | true => exact absurd ((lightB_iff X).1 e) h
def LightEnd (X : InstD) (w : World) (e : Ending) (w' : World) : Prop :=
  e = .returned (.bool (lightB X)) ∧ Below w.heap.size w w'
theorem short_snoc {ls : List (List Int)} {j : Nat} (h : j < ls.length) (h0 : ∀ r ∈ ls.take j, r.length ≤ 80) (h1 : ls[j].length ≤ 80) : ∀ r ∈ ls.take (j + 1), r.length ≤ 80 := by
  rw [List.take_succ_eq_append_getElem h]
  intro r hr
  rcases List.mem_append.1 hr with hr | hr
  · exact h0 r hr
  · simp at hr; subst hr; exact h1
set_option maxHeartbeats 4000000 in
set_option maxRecDepth 100000 in
theorem light_any (w : World) (X : InstD) (h : HdD) (H : InstIs w X h) :
    Calls Try.prog 9 #[.agg (instC X h)] w (LightEnd X w) := by
  obtain ⟨sa, sc, ca, cc, oa, oc, ta, tc⟩ := h
  obtain ⟨H1, H2, H3, H4, hls, hlc, hlo, hln⟩ := H
  have BX := Boxed.new w X ⟨sa, sc, ca, cc, oa, oc, ta, tc⟩ 28
  have BW := (Below.refl w.heap.size w).alloc (Nat.le_refl _) (.cells (instC X ⟨sa, sc, ca, cc, oa, oc, ta, tc⟩) 28)
  have c5 := BX.2 5 _ rfl
  have c6 := BX.2 6 _ rfl
  have c7 := BX.2 7 _ rfl
  have c8 := BX.2 8 _ rfl
  have g1 := BX.1
  dsimp only [instC] at H1 H2 H3 H4 c5 c6 c7 c8 g1 BW ⊢
  have BV := BW.alloc BW.size (.cells #[.slice oa X.cost.length oc, .slice ta X.time.length tc] 26)
  have e0 : ((w.alloc (.cells #[.int .i64 X.fin, .int .i64 X.tm, .int .i64 X.tr, .int .i64 X.bm, .int .i64 X.br, .slice sa X.sats.length sc, .slice ca X.custs.length cc, .slice oa X.cost.length oc, .slice ta X.time.length tc] 28)).alloc (.cells #[.slice oa X.cost.length oc, .slice ta X.time.length tc] 26)).cell? ⟨w.heap.size + 1, 0, none⟩ = some (.slice oa X.cost.length oc) := by
    rw [show w.heap.size + 1 = (w.alloc (.cells #[.int .i64 X.fin, .int .i64 X.tm, .int .i64 X.tr, .int .i64 X.bm, .int .i64 X.br, .slice sa X.sats.length sc, .slice ca X.custs.length cc, .slice oa X.cost.length oc, .slice ta X.time.length tc] 28)).heap.size by simp, World.cell?_alloc_new]; rfl
  have e1 : ((w.alloc (.cells #[.int .i64 X.fin, .int .i64 X.tm, .int .i64 X.tr, .int .i64 X.bm, .int .i64 X.br, .slice sa X.sats.length sc, .slice ca X.custs.length cc, .slice oa X.cost.length oc, .slice ta X.time.length tc] 28)).alloc (.cells #[.slice oa X.cost.length oc, .slice ta X.time.length tc] 26)).cell? ⟨w.heap.size + 1, 1, none⟩ = some (.slice ta X.time.length tc) := by
    rw [show w.heap.size + 1 = (w.alloc (.cells #[.int .i64 X.fin, .int .i64 X.tm, .int .i64 X.tr, .int .i64 X.bm, .int .i64 X.br, .slice sa X.sats.length sc, .slice ca X.custs.length cc, .slice oa X.cost.length oc, .slice ta X.time.length tc] 28)).heap.size by simp, World.cell?_alloc_new]; rfl
  replace H3 := Lib.hid (H3.below BV)
  replace H4 := Lib.hid (H4.below BV)
  clear BX H1 H2
  replace BW := Lib.hid BW
  replace BV := Lib.hid BV
  replace e0 := Lib.hid e0
  replace e1 := Lib.hid e1
  by_cases h1 : X.sats.length ≤ 40 ∧ X.custs.length ≤ 60 ∧ X.cost.length ≤ 70 ∧ X.time.length ≤ 70
  · obtain ⟨h1, h2, h3, h4⟩ := h1
    go_enter Try.func9, Try.ntmps9
    go_wp2
    generalize (w.alloc (.cells #[.int .i64 X.fin, .int .i64 X.tm, .int .i64 X.tr, .int .i64 X.bm, .int .i64 X.br, .slice sa X.sats.length sc, .slice ca X.custs.length cc, .slice oa X.cost.length oc, .slice ta X.time.length tc] 28)).alloc (.cells #[.slice oa X.cost.length oc, .slice ta X.time.length tc] 26) = W at *
    clear c5 c6 c7 c8
    go_loop [35] (fun i => ∃ k : Nat, k ≤ 2 ∧ i = .int .i64 k ∧ Hid (shortTo X k)) (fun i => 2 - (intOf i).toNat)
    case atStart => exact ⟨0, by omega, rfl, Lib.hid trivial⟩
    case round =>
      obtain ⟨k, hk, rfl, hsh⟩ := hrel
      by_cases hlt : k < 2
      · have hk2 : decide ((k : Int) < 2) = true := decide_eq_true (by omega)
        obtain ⟨ls, A, C, hl, HR, hnx, hno, hcl⟩ : ∃ (ls : List (List Int)) (A : Option Addr) (C : Nat), ls.length ≤ 9223372036854775807 ∧ Hid (Rows2 W A ls) ∧ Hid ((∀ r ∈ ls, r.length ≤ 80) → shortTo X (k + 1)) ∧ Hid ((¬ ∀ r ∈ ls, r.length ≤ 80) → lightB X = false) ∧ W.cell? ⟨w.heap.size + 1, k, none⟩ = some (.slice A ls.length C) := by
          rcases Nat.lt_or_ge k 1 with h0 | h0
          · obtain rfl : k = 0 := by omega
            exact ⟨X.cost, oa, oc, hlo, H3, Lib.hid (fun h => h), Lib.hid (fun h => lightB_no (fun p => h p.costs)), e0.out⟩
          · obtain rfl : k = 1 := by omega
            exact ⟨X.time, ta, tc, hln, H4, Lib.hid (fun h => ⟨hsh.out, h⟩), Lib.hid (fun h => lightB_no (fun p => h p.times)), e1.out⟩
        go_wp2
        go_loop [41] (fun i => ∃ j : Nat, j ≤ ls.length ∧ i = .int .i64 j ∧ Hid (∀ r ∈ ls.take j, r.length ≤ 80)) (fun i => ls.length - (intOf i).toNat)
        case atStart => exact ⟨0, by omega, rfl, Lib.hid (by simp)⟩
        case round =>
          obtain ⟨j, hj, rfl, hsj⟩ := hrel
          by_cases hjl : j < ls.length
          · obtain ⟨b, off, a, c, rfl, hc, hr, HA⟩ := HR.out.row hjl
            clear HA
            have HM := Lib.hid (show ls[j] ∈ ls from List.getElem_mem hjl)
            have HS := fun h1 => short_snoc hjl hsj.out h1
            replace HS := Lib.hid HS
            generalize ls[j] = r at *
            by_cases hr8 : r.length ≤ 80
            · go_wp2
              go_round
              case rel => exact ⟨j + 1, by omega, by go_num, Lib.hid (HS.out hr8)⟩
              case measure => simp [intOf]; omega
            · go_wp2
              go_ret
              exact ⟨ret_bool (hno.out (fun h => hr8 (h _ HM.out))).symm, BV.out⟩
          · obtain rfl : j = ls.length := by omega
            have hs2 : ∀ r ∈ ls, r.length ≤ 80 := by have := hsj.out; rwa [List.take_length] at this
            replace hs2 := Lib.hid hs2
            go_wp2
            go_round
            case rel => exact ⟨k + 1, by omega, by go_num, Lib.hid (hnx.out hs2.out)⟩
            case measure => simp [intOf]; omega
      · obtain rfl : k = 2 := by omega
        go_wp2
        go_ret
        exact ⟨ret_bool ((lightB_iff X).2 ⟨h1, h2, h3, h4, hsh.out.1, hsh.out.2⟩).symm, BV.out⟩
  · have hx : X.sats.length ≤ 40 → X.custs.length ≤ 60 → X.cost.length ≤ 70 → X.time.length ≤ 70 → False := fun a b c d => h1 ⟨a, b, c, d⟩
    replace hx := Lib.hid hx
    have hlb := Lib.hid (lightB_no (X := X) (fun p => h1 ⟨p.sats, p.custs, p.cost, p.time⟩))
    clear h1
    go_enter Try.func9, Try.ntmps9
    go_upto_region 3 with fail
    all_goals first
      | (go_ret
         exact ⟨ret_bool hlb.out.symm, BW.out⟩)
      | exact (hx.out (by omega) (by omega) (by omega) (by omega)).elim
/-- the loads of the first k customers, as Go adds them. -/
def loadTo (l : List CustD) : Nat → Int
  | 0 => 0
  | k + 1 => wrap64 (loadTo l k + (match l[k]? with | some c => c.load | none => 0))
def loadOf (l : List CustD) : Int := loadTo l l.length
theorem loadTo_succ (l : List CustD) {k : Nat} (h : k < l.length) : loadTo l (k + 1) = wrap64 (loadTo l k + l[k].load) := by
  show wrap64 (loadTo l k + (match l[k]? with | some c => c.load | none => 0)) = _
  rw [List.getElem?_eq_getElem h]
set_option maxHeartbeats 1600000 in
theorem load_any (w : World) (X : InstD) (h : HdD) (H : InstIs w X h) :
    Calls Try.prog 16 #[.agg (instC X h)] w fun e w' => e = .returned (.int .i64 (loadOf X.custs)) ∧ Below w.heap.size w w' := by
  obtain ⟨sa, sc, ca, cc, oa, oc, ta, tc⟩ := h
  obtain ⟨H1, H2, H3, H4, hls, hlc, hlo, hln⟩ := H
  have BX := Boxed.new w X ⟨sa, sc, ca, cc, oa, oc, ta, tc⟩ 28
  have BW := (Below.refl w.heap.size w).alloc (Nat.le_refl _) (.cells (instC X ⟨sa, sc, ca, cc, oa, oc, ta, tc⟩) 28)
  have c6 := BX.2 6 _ rfl
  dsimp only [instC] at H2 c6 BW ⊢
  replace H2 := Lib.hid (H2.below BW)
  clear BX H1 H3 H4
  have hW1 : w.heap.size ≤ (w.alloc (.cells #[.int .i64 X.fin, .int .i64 X.tm, .int .i64 X.tr, .int .i64 X.bm, .int .i64 X.br, .slice sa X.sats.length sc, .slice ca X.custs.length cc, .slice oa X.cost.length oc, .slice ta X.time.length tc] 28)).heap.size := by simp
  replace BW := Lib.hid BW
  go_enter Try.func16, Try.ntmps16
  go_wp2
  generalize w.alloc (.cells #[.int .i64 X.fin, .int .i64 X.tm, .int .i64 X.tr, .int .i64 X.bm, .int .i64 X.br, .slice sa X.sats.length sc, .slice ca X.custs.length cc, .slice oa X.cost.length oc, .slice ta X.time.length tc] 28) = W at *
  clear c6
  go_loopw [3, 9] (fun s i wr => ∃ k : Nat, k ≤ X.custs.length ∧ i = .int .i64 k ∧ s = .int .i64 (loadTo X.custs k) ∧ Below W.heap.size W wr) (fun _ i _ => X.custs.length - (intOf i).toNat)
  case atStart => exact ⟨0, Nat.zero_le _, rfl, rfl, Below.refl _ _⟩
  case round =>
    obtain ⟨k, hk, rfl, rfl, hb⟩ := hrel
    by_cases hlt : k < X.custs.length
    · obtain ⟨b, off, rfl, hc1, hc2, hc3, hc4⟩ := (H2.out.below hb).cust hlt
      have HS := Lib.hid (loadTo_succ X.custs hlt)
      generalize X.custs[k] = c at *
      generalize loadTo X.custs k = s at *
      go_wp2
      go_roundw
      case rel => exact ⟨k + 1, by omega, by go_num, by rw [HS.out], hb.alloc hb.size _⟩
      case measure => simp [intOf]; omega
    · obtain rfl : k = X.custs.length := by omega
      go_wp2
      go_ret
      exact ⟨rfl, BW.out.trans (hb.mono hW1)⟩
set_option maxHeartbeats 400000 in
theorem sat_any (s : Int) (w : World) (X : InstD) (h : HdD) :
    Calls Try.prog 14 #[.agg (instC X h), .int .i64 s] w fun e w' => e = .returned (.int .i64 (wrap64 (1 + s))) ∧ Below w.heap.size w w' := by
  dsimp only [instC]
  go_enter Try.func14, Try.ntmps14
  go_wp2
  go_ret
  exact ⟨rfl, (Below.refl _ _).alloc (Nat.le_refl _) _⟩
end Go.Proofs.Ythiinlkpakinlaa
