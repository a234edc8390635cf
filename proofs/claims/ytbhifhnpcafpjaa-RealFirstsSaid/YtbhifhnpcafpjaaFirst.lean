/-
  The walks of real.First and of layer 2's statement RealFirsts.
-/
import Derived.Test.YtbhifhnpcafpjaaLaws2
import Derived.Test.YtbhifhnpcafpjaaMem
import Derived.Deep.OwnRows
import Derived.Deep.QuietTactic
import Derived.BigQuiet
namespace Go.Proofs.Ytbhifhnpcafpjaa
set_option linter.unusedVariables false
set_option linter.unusedSimpArgs false
open Go.RowKit
/-- where the first of the first k is that none is ahead of; -1 of none. -/
def firstTo (l : List Nat) : Nat → Int
  | 0 => -1
  | k + 1 => if firstTo l k < 0 then (k : Int) else if placeI (l.getD k 0) < placeI (l.getD (firstTo l k).toNat 0) then (k : Int) else firstTo l k
theorem firstTo_range (l : List Nat) (k : Nat) : -1 ≤ firstTo l k ∧ firstTo l k < k ∨ k = 0 ∧ firstTo l k = -1 := by
  induction k with
  | zero => exact .inr ⟨rfl, rfl⟩
  | succ k ih =>
    left
    unfold firstTo
    split
    · omega
    · split <;> omega
theorem firstTo_lo (l : List Nat) (k : Nat) : -1 ≤ firstTo l k ∧ firstTo l k < (k : Int) := by
  rcases firstTo_range l k with h | ⟨h, h2⟩
  · exact h
  · rw [h2, h]; omega
theorem firstTo_none {l : List Nat} {k : Nat} (h : firstTo l k < 0) : firstTo l (k + 1) = (k : Int) := by
  show (if firstTo l k < 0 then _ else _) = _
  rw [if_pos h]
theorem firstTo_new {l : List Nat} {k : Nat} (h : ¬ firstTo l k < 0) (h2 : placeI (l.getD k 0) < placeI (l.getD (firstTo l k).toNat 0)) : firstTo l (k + 1) = (k : Int) := by
  show (if firstTo l k < 0 then _ else _) = _
  rw [if_neg h, if_pos h2]
theorem firstTo_old {l : List Nat} {k : Nat} (h : ¬ firstTo l k < 0) (h2 : ¬ placeI (l.getD k 0) < placeI (l.getD (firstTo l k).toNat 0)) : firstTo l (k + 1) = firstTo l k := by
  show (if firstTo l k < 0 then _ else _) = _
  rw [if_neg h, if_neg h2]
def f64s (l : List Nat) : List Value := l.map (fun b => Value.float .f64 b)
set_option maxHeartbeats 800000 in
theorem first_any (l : List Nat) (g C : Nat) (A : Option Addr) (w : World) (hl : l.length ≤ 1000) (hlt : ∀ q, l.getD q 0 < 18446744073709551616) (hA : 0 < l.length → A = some ⟨g, 0, none⟩) (hc : ∀ q, q < l.length → w.cell? ⟨g, q, none⟩ = some (.float .f64 (l.getD q 0))) :
    Calls Try.prog 25 #[.slice A l.length C] w fun e w' => e = .returned (.int .i64 (firstTo l l.length)) ∧ w = w' := by
  replace hc := Lib.hid hc
  replace hlt := Lib.hid hlt
  replace hA := Lib.hid hA
  go_enter Try.func25, Try.ntmps25
  go_wp2
  go_loop [3, 8] (fun a i => ∃ k : Nat, k ≤ l.length ∧ i = .int .i64 k ∧ a = .int .i64 (firstTo l k)) (fun _ i => l.length - (intOf i).toNat)
  case atStart => exact ⟨0, Nat.zero_le _, rfl, rfl⟩
  case round =>
    obtain ⟨k, hk, rfl, rfl⟩ := hrel
    by_cases hlt' : k < l.length
    · obtain rfl := hA.out (by omega)
      have hck := hc.out k hlt'
      obtain ⟨r1, r2⟩ := firstTo_lo l k
      have hb := hlt.out k
      by_cases hn : firstTo l k < 0
      · have hf := Lib.hid (firstTo_none hn)
        have hn' : decide (firstTo l k < 0) = true := decide_eq_true hn
        go_wp2
        go_round
        case rel => exact ⟨k + 1, by omega, by go_num, by rw [hf.out]⟩
        case measure => simp [intOf]; omega
      · obtain ⟨m, hm⟩ : ∃ m : Nat, firstTo l k = (m : Int) := ⟨(firstTo l k).toNat, by omega⟩
        have hml : m < l.length := by omega
        have hcm := hc.out m hml
        have hbm := hlt.out m
        have hL := Lib.hid (lessB_eq (l.getD k 0) (l.getD m 0))
        by_cases hp : placeI (l.getD k 0) < placeI (l.getD m 0)
        · have hf := Lib.hid (firstTo_new hn (by rw [hm]; exact hp))
          have hL' : Hid (lessB (l.getD k 0) (l.getD m 0) = true) := Lib.hid (by rw [hL.out]; exact decide_eq_true hp)
          rw [hm]
          replace hm := Lib.hid hm
          clear hn hp hL r1 r2
          generalize l.getD k 0 = x at *
          generalize l.getD m 0 = y at *
          go_wp2_with (go_at_call 23; refine (less_any x y hb hbm _).mono ?_; rw [hL'.out]; rintro e w' ⟨rfl, rfl⟩)
          go_round
          case rel => exact ⟨k + 1, by omega, by go_num, by rw [hf.out]⟩
          case measure => simp [intOf]; omega
        · have hf := Lib.hid (firstTo_old hn (by rw [hm]; exact hp))
          have hL' : Hid (lessB (l.getD k 0) (l.getD m 0) = false) := Lib.hid (by rw [hL.out]; exact decide_eq_false hp)
          rw [hm]
          replace hm := Lib.hid hm
          clear hn hp hL r1 r2
          generalize l.getD k 0 = x at *
          generalize l.getD m 0 = y at *
          go_wp2_with (go_at_call 23; refine (less_any x y hb hbm _).mono ?_; rw [hL'.out]; rintro e w' ⟨rfl, rfl⟩)
          go_round
          case rel => exact ⟨k + 1, by omega, by go_num, by rw [hf.out, hm.out]⟩
          case measure => simp [intOf]; omega
    · obtain rfl : k = l.length := by omega
      go_wp2
      go_ret
      exact ⟨rfl, rfl⟩
theorem below_drewN {B n : Nat} {w w' : World} (h : Below B w w') : Below B w (w'.drewN n) := ⟨h.os, h.tape, h.output, h.size, h.block⟩
theorem own_drewN {w : World} {B e s n m : Nat} {v : Value} {xs : List Value} (h : w.ownsRow B e s v n xs) : (w.drewN m).ownsRow B e s v n xs := h
theorem info_f64 : (Try.prog.info? 26).map (fun i => (i.zero, i.size, i.bytes)) = some (some (.float .f64 0), 1, 8) := by kernel_rfl
theorem own_formF {w : World} {B e size n : Nat} {v : Value} {xs : List Value} (h : w.ownsRow B e size v n xs) (hn : 0 < n) : ∃ g cap, v = .slice (some ⟨g, 0, none⟩) n cap := by
  rcases h.2 with ⟨_, h0⟩ | ⟨g, cap, _, hv, _⟩
  · omega
  · exact ⟨g, cap, hv⟩
theorem cells_newF (w : World) (u0 : Value) (t : TypeId) (q : Nat) (u : Value) (h : [u0][q]? = some u) : (w.alloc (.cells #[u0] t)).cell? ((⟨w.heap.size, 0, none⟩ : Addr).add q) = some u := by
  have e : (⟨w.heap.size, 0, none⟩ : Addr).add q = ⟨w.heap.size, q, none⟩ := by unfold Addr.add; by_cases hz : q = 0 <;> simp [hz]
  rw [e, World.cell?_alloc_new]; simpa using h
theorem own_cellF {w : World} {B e g n C : Nat} {l : List Nat} (h : w.ownsRow B e 1 (.slice (some ⟨g, 0, none⟩) n C) n (f64s l)) {q : Nat} (hq : q < l.length) : w.cell? ⟨g, q, none⟩ = some (.float .f64 (l.getD q 0)) := by
  have hc := h.cells (g := g) rfl q (.float .f64 (l.getD q 0)) (by unfold f64s; rw [List.getElem?_map, List.getElem?_eq_getElem hq, List.getD_eq_getElem?_getD, List.getElem?_eq_getElem hq]; rfl)
  rwa [show (⟨g, 0, none⟩ : Addr).add q = ⟨g, q, none⟩ from by unfold Addr.add; by_cases hz : q = 0 <;> simp [hz]] at hc
theorem f64s_snoc (l : List Nat) {k : Nat} (h : k < l.length) : f64s (l.take (k + 1)) = f64s (l.take k) ++ [.float .f64 (l.getD k 0)] := by
  unfold f64s
  rw [List.take_succ_eq_append_getElem h, List.map_append, List.getD_eq_getElem?_getD, List.getElem?_eq_getElem h]; rfl
theorem getD_take (l : List Nat) {k q : Nat} (h : q < k) : (l.take k).getD q 0 = l.getD q 0 := by
  rw [List.getD_eq_getElem?_getD, List.getD_eq_getElem?_getD, List.getElem?_take, if_pos h]
theorem place_q (b : Nat) (hb : b < 18446744073709551616) (w : World) : Calls Try.prog 24 #[.float .f64 b] w fun e w' => e = .returned (.int .i64 (placeI b)) ∧ w' = w :=
  (place_any b hb w).mono fun e w' ⟨he, hw⟩ => ⟨he, hw.symm⟩
theorem of_q (b : Nat) (w : World) : Calls Try.prog 13 #[.int .u64 b] w fun e w' => e = .returned (.float .f64 b) ∧ w' = w :=
  (of02_any b w).mono fun e w' ⟨he, hw⟩ => ⟨he, hw.symm⟩
set_option maxHeartbeats 3200000 in
theorem walk_RealFirsts (w : World) (a : Option Addr) (cap : Nat) (l : List Nat) (hlt : ∀ q, l.getD q 0 < 18446744073709551616) (hl : l.length ≤ 9223372036854775807) (he : ∀ i, i < l.length → ∃ x, a = some x ∧ w.cell? (x.add i) = some (.int .u64 (l.getD i 0 : Nat))) :
    Calls Try.prog 10 #[.slice a l.length cap] w fun e w' => e = .returned (.bool true) ∧ Below w.heap.size w w' := by
  by_cases h40 : 40 < l.length
  · clear he hlt
    go_enter Try.func10, Try.ntmps10
    go_wp2_with (first | (go_at_call 11; refine (awake2_any _).mono ?_; rintro e w1 ⟨rfl, hb1⟩))
    go_ret
    exact ⟨rfl, hb1⟩
  · obtain ⟨i0, hi0, hz0, hz1, hz2⟩ := info_parts info_f64
    replace he := Lib.hid he
    replace hlt := Lib.hid hlt
    go_enter Try.func10, Try.ntmps10
    go_wp2_with (first | (go_at_call 11; refine (awake2_any _).mono ?_; rintro e W ⟨rfl, hb1⟩))
    have HE : ∀ w', Below W.heap.size W w' → ∀ i, i < l.length → ∃ x, a = some x ∧ w'.cell? (x.add i) = some (.int .u64 (l.getD i 0 : Nat)) := fun w' hb i hi => by
      obtain ⟨x, e, hc⟩ := he.out i hi
      have hc1 := (hb1.cell (lt_of_cell hc)).trans hc
      exact ⟨x, e, (hb.cell (lt_of_cell hc1)).trans hc1⟩
    replace HE := Lib.hid HE
    replace hb1 := Lib.hid hb1
    go_loopw [3, 4, 14] (fun s b i wr => ∃ (k : Nat) (A : Option Addr) (C : Nat), k ≤ l.length ∧ i = .int .i64 k ∧ b = .int .i64 (firstTo l k) ∧ s = .slice A k C ∧ wr.ownsRow W.heap.size 26 1 (.slice A k C) k (f64s (l.take k)) ∧ Below W.heap.size W wr) (fun _ _ i _ => l.length - (intOf i).toNat)
    case atStart => exact ⟨0, none, 0, Nat.zero_le _, rfl, rfl, rfl, ⟨by simp [f64s], .inl ⟨rfl, rfl⟩⟩, Below.refl _ _⟩
    case round =>
      obtain ⟨k, A, C, hk, rfl, rfl, rfl, hown, hb⟩ := hrel
      by_cases hkl : k < l.length
      · obtain ⟨x, rfl, hck⟩ := HE.out _ hb k hkl
        obtain ⟨r1, r2⟩ := firstTo_lo l k
        have hlk := hlt.out k
        have hsn := Lib.hid (f64s_snoc l hkl)
        have HOWN := Lib.hid (hown.alloc (.cells #[.float .f64 (l.getD k 0)] 26))
        have HNEW := Lib.hid (cells_newF wr (.float .f64 (l.getD k 0)) 26)
        have hbs := hb.size
        have hba := Lib.hid (hb.alloc hb.size (.cells #[.float .f64 (l.getD k 0)] 26))
        have hownlt := Lib.hid (fun g e => hown.lt g e)
        clear hown hb
        generalize hbb : l.getD k 0 = b0 at *
        replace hbb := Lib.hid hbb
        have hft := Lib.hid (firstTo_none (l := l) (k := k))
        have hfn := Lib.hid (firstTo_new (l := l) (k := k))
        have hfo := Lib.hid (firstTo_old (l := l) (k := k))
        by_cases hn : firstTo l k < 0
        · have hn' : decide (firstTo l k < 0) = true := decide_eq_true hn
          have hf := Lib.hid (hft.out hn)
          go_wp2_with (first | (go_at_call 13; refine (of02_any _ _).mono ?_; rintro e w' ⟨rfl, rfl⟩) | (at_builtin; refine wpList_append_own _ rfl _ _ 42 rfl W.heap.size 26 i0 (.float .f64 0) 1 8 Try.underlying42 hi0 hz0 hz1 hz2 rfl (by decide) _ _ _ rfl HOWN.out ⟨wr.heap.size, 0, none⟩ 1 1 [.float .f64 b0] rfl rfl HNEW.out (fun x hx => by simp at hx; subst hx; rfl) (by unfold maxLen; omega) (by omega) (by simp; omega) ?_; intro v' w1 hown1 hgrow _))
          rw [← hsn.out] at hown1
          obtain ⟨g', cap', hv'⟩ := own_formF hown1 (by omega)
          subst hv'
          have hb2 := hba.out.grown hgrow hba.out.size (fun j e => (hownlt.out j e).1)
          replace hown1 := Lib.hid hown1
          replace hb2 := Lib.hid hb2
          clear hgrow
          go_quiet (fail)
          go_wp2_with fail
          go_roundw
          case rel => exact ⟨k + 1, _, _, by omega, by go_num, by rw [hf.out], rfl, own_drewN hown1.out, below_drewN hb2.out⟩
          case measure => simp [intOf]; omega
        · obtain ⟨m, hm⟩ : ∃ m : Nat, firstTo l k = (m : Int) := ⟨(firstTo l k).toNat, by omega⟩
          have hml : m < k := by omega
          have hlm := hlt.out m
          obtain ⟨bm, hbm⟩ : ∃ bm, l.getD m 0 = bm := ⟨_, rfl⟩
          rw [hbm] at hlm
          have hbm0 := Lib.hid hbm
          by_cases hp : placeI b0 < placeI bm
          · have hpp : decide (placeI b0 < placeI bm) = true := decide_eq_true hp
            have hf := Lib.hid (hfn.out hn (by rw [hm, hbb.out, Int.toNat_natCast, hbm]; exact hp))
            clear hp
            rw [hm]
            replace hm := Lib.hid hm
            go_wp2_with (first | (go_at_call 13; refine (of02_any _ _).mono ?_; rintro e w' ⟨rfl, rfl⟩) | (at_builtin; refine wpList_append_own _ rfl _ _ 42 rfl W.heap.size 26 i0 (.float .f64 0) 1 8 Try.underlying42 hi0 hz0 hz1 hz2 rfl (by decide) _ _ _ rfl HOWN.out ⟨wr.heap.size, 0, none⟩ 1 1 [.float .f64 b0] rfl rfl HNEW.out (fun x hx => by simp at hx; subst hx; rfl) (by unfold maxLen; omega) (by omega) (by simp; omega) ?_; intro v' w1 hown1 hgrow _))
            rw [← hsn.out] at hown1
            obtain ⟨g', cap', hv'⟩ := own_formF hown1 (by omega)
            subst hv'
            have hb2 := hba.out.grown hgrow hba.out.size (fun j e => (hownlt.out j e).1)
            have hcm := own_cellF hown1 (q := m) (by simp; omega)
            rw [getD_take l (by omega), hbm0.out] at hcm
            have m1 : (0 : Int) ≤ (m : Int) := by omega
            have m2 : (m : Int) < ((k + 1 : Nat) : Int) := by omega
            have m3 : ((m : Int) < 0) = False := by simp
            replace hown1 := Lib.hid hown1
            replace hb2 := Lib.hid hb2
            clear hgrow
            go_quiet ((first | (go_at_call 13; exact Calls.quiet_of_same (of_q _ _)) | (go_at_call 24; exact Calls.quiet_of_same (place_q _ (by assumption) _))))
            go_wp2_with fail
            go_roundw
            case rel => exact ⟨k + 1, _, _, by omega, by go_num, by rw [hf.out], rfl, own_drewN hown1.out, below_drewN hb2.out⟩
            case measure => simp [intOf]; omega
          · have hpp : decide (placeI b0 < placeI bm) = false := decide_eq_false hp
            have hf := Lib.hid (hfo.out hn (by rw [hm, hbb.out, Int.toNat_natCast, hbm]; exact hp))
            clear hp
            rw [hm]
            replace hm := Lib.hid hm
            go_wp2_with (first | (go_at_call 13; refine (of02_any _ _).mono ?_; rintro e w' ⟨rfl, rfl⟩) | (at_builtin; refine wpList_append_own _ rfl _ _ 42 rfl W.heap.size 26 i0 (.float .f64 0) 1 8 Try.underlying42 hi0 hz0 hz1 hz2 rfl (by decide) _ _ _ rfl HOWN.out ⟨wr.heap.size, 0, none⟩ 1 1 [.float .f64 b0] rfl rfl HNEW.out (fun x hx => by simp at hx; subst hx; rfl) (by unfold maxLen; omega) (by omega) (by simp; omega) ?_; intro v' w1 hown1 hgrow _))
            rw [← hsn.out] at hown1
            obtain ⟨g', cap', hv'⟩ := own_formF hown1 (by omega)
            subst hv'
            have hb2 := hba.out.grown hgrow hba.out.size (fun j e => (hownlt.out j e).1)
            have hcm := own_cellF hown1 (q := m) (by simp; omega)
            rw [getD_take l (by omega), hbm0.out] at hcm
            have m1 : (0 : Int) ≤ (m : Int) := by omega
            have m2 : (m : Int) < ((k + 1 : Nat) : Int) := by omega
            have m3 : ((m : Int) < 0) = False := by simp
            replace hown1 := Lib.hid hown1
            replace hb2 := Lib.hid hb2
            clear hgrow
            go_quiet ((first | (go_at_call 13; exact Calls.quiet_of_same (of_q _ _)) | (go_at_call 24; exact Calls.quiet_of_same (place_q _ (by assumption) _))))
            go_wp2_with fail
            go_roundw
            case rel => exact ⟨k + 1, _, _, by omega, by go_num, by rw [hf.out, hm.out], rfl, own_drewN hown1.out, below_drewN hb2.out⟩
            case measure => simp [intOf]; omega
      · obtain rfl : k = l.length := by omega
        rw [List.take_length] at hown
        have hb2 := Lib.hid hb
        have hcells : ∀ g, A = some ⟨g, 0, none⟩ → ∀ q, q < l.length → wr.cell? ⟨g, q, none⟩ = some (.float .f64 (l.getD q 0)) := fun g hg q hq => by subst hg; exact own_cellF hown hq
        obtain ⟨g, hA⟩ : ∃ g, 0 < l.length → A = some ⟨g, 0, none⟩ := by
          by_cases h0 : 0 < l.length
          · obtain ⟨g, cap', hv'⟩ := own_formF hown h0
            injection hv' with hv'
            exact ⟨g, fun _ => hv'⟩
          · exact ⟨0, fun h => absurd h h0⟩
        have hF := Lib.hid (first_any l g C A wr (by omega) hlt.out hA (fun q hq => hcells g (hA (by omega)) q hq))
        clear hb hcells hA hown
        go_wp2_with (go_at_call 25; refine hF.out.mono ?_; rintro e w' ⟨rfl, rfl⟩)
        go_ret
        exact ⟨ret_bool (by simp), keepB hb1.out hb2.out⟩
theorem law_RealFirsts (w : World) (a : Option Addr) (len cap : Nat) (zs : List Int) (hr : IsRow .u64 w a len cap zs) :
    Calls Try.prog 10 #[.slice a len cap] w fun e w' => e = .returned (.bool true) ∧ Below w.heap.size w w' := by
  obtain ⟨hz, hl, hm⟩ := elems_of hr
  clear hr
  generalize zs.take len = ys at *
  subst hl
  have hw : ∀ i, i < ys.length → ∃ n : Nat, ys.getD i 0 = (n : Int) ∧ n < 18446744073709551616 := fun i hi => by
    obtain ⟨x, _, _, hwf⟩ := hz i hi
    exact u64_nat hwf
  have hget : ∀ i, i < ys.length → (ys.map Int.toNat).getD i 0 = (ys.getD i 0).toNat := fun i hi => by
    rw [List.getD_eq_getElem?_getD, List.getElem?_map, List.getD_eq_getElem?_getD, List.getElem?_eq_getElem hi]; rfl
  have h := walk_RealFirsts w a cap (ys.map Int.toNat) (fun q => by
    by_cases hq : q < ys.length
    · obtain ⟨n, e, hn⟩ := hw q hq
      rw [hget q hq, e, Int.toNat_natCast]; exact hn
    · rw [List.getD_eq_getElem?_getD, List.getElem?_eq_none (by simp; omega)]; decide) (by simpa using hm) (fun i hi => by
    have hi' : i < ys.length := by simpa using hi
    obtain ⟨x, e, hc, _⟩ := hz i hi'
    obtain ⟨n, e2, hn⟩ := hw i hi'
    refine ⟨x, e, ?_⟩
    rw [hget i hi', hc, e2]; rfl)
  rwa [List.length_map] at h
end Go.Proofs.Ytbhifhnpcafpjaa
