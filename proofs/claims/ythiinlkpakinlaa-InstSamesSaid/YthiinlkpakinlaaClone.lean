/-
  The walks of slices.Clone at the three kinds of elements, of inst.rows (layer 11).
-/
import Derived.Test.YthiinlkpakinlaaSqr
import Derived.Test.YthiinlkpakinlaaOwn
import Derived.Laws.OwnMore
namespace Go.Proofs.Ythiinlkpakinlaa
set_option linter.unusedVariables false
set_option linter.unusedSimpArgs false
open Go.RowKit
/-- what slices.Clone leaves: the same cells, in a block of its own. -/
def CloneEnd (T sz : Nat) (xs : List Value) (n : Nat) (w : World) (e : Ending) (w' : World) : Prop :=
  ∃ (A : Option Addr) (C : Nat), e = .returned (.slice A n C) ∧ w'.ownsRow w.heap.size T sz (.slice A n C) n xs ∧ Below w.heap.size w w'
set_option maxHeartbeats 1600000 in
theorem cloneInts_any (A : Option Addr) (C : Nat) (xs : List Int) (w : World) (hx : xs.length ≤ 1000000) (RA : Rd w A (i64s xs)) :
    Calls Try.prog 39 #[.slice A xs.length C] w (CloneEnd 2 1 (i64s xs) xs.length w) := by
  have hl : (i64s xs).length = xs.length * 1 := by simp [i64s]
  have h1 : ∀ u ∈ i64s xs, u.oneCell' = true := by intro u hu; obtain ⟨_, _, rfl⟩ := List.mem_map.1 hu; rfl
  obtain ⟨i0, hi0, hz0, hz1, hz2⟩ := info_parts info_i64
  cases A with
  | none =>
    have h0 : xs.length = 0 := by
      have := congrArg List.length (rd_none RA)
      rw [hl] at this; simp only [List.length_nil] at this; omega
    have h0' : xs = [] := List.eq_nil_of_length_eq_zero h0
    subst h0'
    have e0 : ∀ w : World, (binOp .eql 45 (.slice none ([] : List Int).length C) (.slice none 0 0)).run Try.prog w = .ok (.bool true) w := fun _ => by kernel_rfl
    have e0' : ∀ w : World, (binOp .eql 45 (.slice none 0 C) (.slice none 0 0)).run Try.prog w = .ok (.bool true) w := fun _ => by kernel_rfl
    clear hl h1 RA
    go_enter Try.func39, Try.ntmps39
    go_wp2_with fail
    go_ret
    exact ⟨none, 0, rfl, World.ownsRow_nil _ _ _ _, Below.refl _ _⟩
  | some a =>
    have hn : Hid (∀ j u, (i64s xs)[j]? = some u → (w.alloc (.cells #[] 2)).cell? (a.add j) = some u) := Lib.hid (fun j u hu => keep_cell ((Below.refl _ _).alloc (Nat.le_refl _) _) (rd_some RA j u hu))
    have ho : Hid ((w.alloc (.cells #[] 2)).ownsRow w.heap.size 2 1 (.slice (some ⟨w.heap.size, 0, none⟩) 0 0) 0 []) := Lib.hid (World.ownsRow_lit w #[] 0 (Nat.le_refl _) (Nat.zero_le _) rfl)
    have e0 : ∀ w : World, (binOp .eql 45 (.slice (some a) xs.length C) (.slice none 0 0)).run Try.prog w = .ok (.bool false) w := fun _ => by kernel_rfl
    replace RA := Lib.hid RA
    replace hl := Lib.hid hl
    replace h1 := Lib.hid h1
    go_enter Try.func39, Try.ntmps39
    go_wp2_with (at_builtin; refine wpList_append_own _ rfl _ _ 45 rfl w.heap.size 2 i0 (.int .i64 0) 1 8 Try.underlying45 hi0 hz0 hz1 hz2 rfl (by decide) _ _ _ rfl ho.out a xs.length C (i64s xs) rfl hl.out hn.out h1.out (by unfold maxLen; omega) (by omega) (by simp) ?_; intro v' w1 hown1 hgrow _; obtain ⟨A1, C1, hv'⟩ := own_val hown1; subst hv')
    rw [Nat.zero_add] at *
    replace hown1 := Lib.hid hown1
    replace hgrow := Lib.hid hgrow
    go_wp2_with fail
    go_ret
    exact ⟨A1, C1, rfl, hown1.out, ((Below.refl _ _).alloc (Nat.le_refl _) _).grown hgrow.out (by simp) (fun k hk => by have hk2 : w.heap.size = k := Option.some.inj hk; omega)⟩
theorem satV_len' (l : List SatD) : (l.flatMap satV).length = l.length * 2 := by
  induction l with
  | nil => rfl
  | cons s l ih => rw [List.flatMap_cons, List.length_append, ih, List.length_cons]; show 2 + l.length * 2 = _; omega
theorem custV_len' (l : List CustD) : (l.flatMap custV).length = l.length * 4 := by
  induction l with
  | nil => rfl
  | cons s l ih => rw [List.flatMap_cons, List.length_append, ih, List.length_cons]; show 4 + l.length * 4 = _; omega
set_option maxHeartbeats 1600000 in
theorem cloneSats_any (A : Option Addr) (C : Nat) (xs : List SatD) (w : World) (hx : xs.length ≤ 1000000) (RA : Rd w A (xs.flatMap satV)) :
    Calls Try.prog 27 #[.slice A xs.length C] w (CloneEnd 42 2 (xs.flatMap satV) xs.length w) := by
  have hl : (xs.flatMap satV).length = xs.length * 2 := by exact satV_len' xs
  have h1 : ∀ u ∈ xs.flatMap satV, u.oneCell' = true := by intro u hu; obtain ⟨x, _, hx⟩ := List.mem_flatMap.1 hu; simp [satV] at hx; rcases hx with rfl | rfl <;> rfl
  obtain ⟨i0, hi0, hz0, hz1, hz2⟩ := info_parts info_sat
  cases A with
  | none =>
    have h0 : xs.length = 0 := by
      have := congrArg List.length (rd_none RA)
      rw [hl] at this; simp only [List.length_nil] at this; omega
    have h0' : xs = [] := List.eq_nil_of_length_eq_zero h0
    subst h0'
    have e0 : ∀ w : World, (binOp .eql 24 (.slice none ([] : List SatD).length C) (.slice none 0 0)).run Try.prog w = .ok (.bool true) w := fun _ => by kernel_rfl
    have e0' : ∀ w : World, (binOp .eql 24 (.slice none 0 C) (.slice none 0 0)).run Try.prog w = .ok (.bool true) w := fun _ => by kernel_rfl
    clear hl h1 RA
    go_enter Try.func27, Try.ntmps27
    go_wp2_with fail
    go_ret
    exact ⟨none, 0, rfl, World.ownsRow_nil _ _ _ _, Below.refl _ _⟩
  | some a =>
    have hn : Hid (∀ j u, (xs.flatMap satV)[j]? = some u → (w.alloc (.cells #[] 42)).cell? (a.add j) = some u) := Lib.hid (fun j u hu => keep_cell ((Below.refl _ _).alloc (Nat.le_refl _) _) (rd_some RA j u hu))
    have ho : Hid ((w.alloc (.cells #[] 42)).ownsRow w.heap.size 42 2 (.slice (some ⟨w.heap.size, 0, none⟩) 0 0) 0 []) := Lib.hid (World.ownsRow_lit w #[] 0 (Nat.le_refl _) (Nat.zero_le _) rfl)
    have e0 : ∀ w : World, (binOp .eql 24 (.slice (some a) xs.length C) (.slice none 0 0)).run Try.prog w = .ok (.bool false) w := fun _ => by kernel_rfl
    replace RA := Lib.hid RA
    replace hl := Lib.hid hl
    replace h1 := Lib.hid h1
    go_enter Try.func27, Try.ntmps27
    go_wp2_with (at_builtin; refine wpList_append_own _ rfl _ _ 24 rfl w.heap.size 42 i0 (.agg #[.int .i64 0, .int .i64 0]) 2 16 Try.underlying24 hi0 hz0 hz1 hz2 rfl (by decide) _ _ _ rfl ho.out a xs.length C (xs.flatMap satV) rfl hl.out hn.out h1.out (by unfold maxLen; omega) (by omega) (by simp) ?_; intro v' w1 hown1 hgrow _; obtain ⟨A1, C1, hv'⟩ := own_val hown1; subst hv')
    rw [Nat.zero_add] at *
    replace hown1 := Lib.hid hown1
    replace hgrow := Lib.hid hgrow
    go_wp2_with fail
    go_ret
    exact ⟨A1, C1, rfl, hown1.out, ((Below.refl _ _).alloc (Nat.le_refl _) _).grown hgrow.out (by simp) (fun k hk => by have hk2 : w.heap.size = k := Option.some.inj hk; omega)⟩
set_option maxHeartbeats 1600000 in
theorem cloneCusts_any (A : Option Addr) (C : Nat) (xs : List CustD) (w : World) (hx : xs.length ≤ 1000000) (RA : Rd w A (xs.flatMap custV)) :
    Calls Try.prog 28 #[.slice A xs.length C] w (CloneEnd 44 4 (xs.flatMap custV) xs.length w) := by
  have hl : (xs.flatMap custV).length = xs.length * 4 := by exact custV_len' xs
  have h1 : ∀ u ∈ xs.flatMap custV, u.oneCell' = true := by intro u hu; obtain ⟨x, _, hx⟩ := List.mem_flatMap.1 hu; simp [custV] at hx; rcases hx with rfl | rfl | rfl | rfl <;> rfl
  obtain ⟨i0, hi0, hz0, hz1, hz2⟩ := info_parts info_cust
  cases A with
  | none =>
    have h0 : xs.length = 0 := by
      have := congrArg List.length (rd_none RA)
      rw [hl] at this; simp only [List.length_nil] at this; omega
    have h0' : xs = [] := List.eq_nil_of_length_eq_zero h0
    subst h0'
    have e0 : ∀ w : World, (binOp .eql 25 (.slice none ([] : List CustD).length C) (.slice none 0 0)).run Try.prog w = .ok (.bool true) w := fun _ => by kernel_rfl
    have e0' : ∀ w : World, (binOp .eql 25 (.slice none 0 C) (.slice none 0 0)).run Try.prog w = .ok (.bool true) w := fun _ => by kernel_rfl
    clear hl h1 RA
    go_enter Try.func28, Try.ntmps28
    go_wp2_with fail
    go_ret
    exact ⟨none, 0, rfl, World.ownsRow_nil _ _ _ _, Below.refl _ _⟩
  | some a =>
    have hn : Hid (∀ j u, (xs.flatMap custV)[j]? = some u → (w.alloc (.cells #[] 44)).cell? (a.add j) = some u) := Lib.hid (fun j u hu => keep_cell ((Below.refl _ _).alloc (Nat.le_refl _) _) (rd_some RA j u hu))
    have ho : Hid ((w.alloc (.cells #[] 44)).ownsRow w.heap.size 44 4 (.slice (some ⟨w.heap.size, 0, none⟩) 0 0) 0 []) := Lib.hid (World.ownsRow_lit w #[] 0 (Nat.le_refl _) (Nat.zero_le _) rfl)
    have e0 : ∀ w : World, (binOp .eql 25 (.slice (some a) xs.length C) (.slice none 0 0)).run Try.prog w = .ok (.bool false) w := fun _ => by kernel_rfl
    replace RA := Lib.hid RA
    replace hl := Lib.hid hl
    replace h1 := Lib.hid h1
    go_enter Try.func28, Try.ntmps28
    go_wp2_with (at_builtin; refine wpList_append_own _ rfl _ _ 25 rfl w.heap.size 44 i0 (.agg #[.int .i64 0, .int .i64 0, .int .i64 0, .int .i64 0]) 4 32 Try.underlying25 hi0 hz0 hz1 hz2 rfl (by decide) _ _ _ rfl ho.out a xs.length C (xs.flatMap custV) rfl hl.out hn.out h1.out (by unfold maxLen; omega) (by omega) (by simp) ?_; intro v' w1 hown1 hgrow _; obtain ⟨A1, C1, hv'⟩ := own_val hown1; subst hv')
    rw [Nat.zero_add] at *
    replace hown1 := Lib.hid hown1
    replace hgrow := Lib.hid hgrow
    go_wp2_with fail
    go_ret
    exact ⟨A1, C1, rfl, hown1.out, ((Below.refl _ _).alloc (Nat.le_refl _) _).grown hgrow.out (by simp) (fun k hk => by have hk2 : w.heap.size = k := Option.some.inj hk; omega)⟩
/-- v is a slice of the call's own (blocks from B on) whose elements are slices of the call's own: the rows of ls. -/
structure RowsOwn (B : Nat) (w : World) (v : Value) (ls : List (List Int)) (hs : List Value) : Prop where
  len : hs.length = ls.length
  own : w.ownsRow B 45 1 v ls.length hs
  rows : ∀ (i : Nat) (r : List Int), ls[i]? = some r → ∃ A C, hs[i]? = some (.slice A r.length C) ∧ w.ownsRow B 2 1 (.slice A r.length C) r.length (i64s r)
theorem RowsOwn.grown {B : Nat} {w w' : World} {v : Value} {ls : List (List Int)} {hs : List Value} (h : RowsOwn B w v ls hs) {row : Option Nat} (hg : w.grownBy w' row) (hv : v.ownBlock = none ∨ v.ownBlock ≠ row)
    (hr : ∀ (i : Nat) (A : Option Addr) (n C : Nat), hs[i]? = some (.slice A n C) → (Value.slice A n C).ownBlock = none ∨ (Value.slice A n C).ownBlock ≠ row) : RowsOwn B w' v ls hs :=
  ⟨h.len, h.own.kept hg hv, fun i r hi => by
    obtain ⟨A, C, h1, h2⟩ := h.rows i r hi
    exact ⟨A, C, h1, h2.kept hg (hr i A _ C h1)⟩⟩
theorem RowsOwn.below {B : Nat} {w w' : World} {v : Value} {ls : List (List Int)} {hs : List Value} (h : RowsOwn B w v ls hs) (hb : Below w.heap.size w w') : RowsOwn B w' v ls hs :=
  h.grown (grown_of_below hb) (by cases e : v.ownBlock <;> simp) (fun i A n C _ => by cases e : (Value.slice A n C).ownBlock <;> simp)
theorem RowsOwn.push {B : Nat} {wo w2 : World} {v v' : Value} {ls : List (List Int)} {hs : List Value} (h : RowsOwn B wo v ls hs) {A : Option Addr} {C : Nat} {r : List Int} (hr : wo.ownsRow B 2 1 (.slice A r.length C) r.length (i64s r)) (o : Obj)
    (hown : w2.ownsRow B 45 1 v' (ls.length + 1) (hs ++ [.slice A r.length C])) (hg : (wo.alloc o).grownBy w2 v.ownBlock) : RowsOwn B w2 v' (ls ++ [r]) (hs ++ [.slice A r.length C]) := by
  have tt : 2 ≠ 45 := by decide
  refine ⟨by simp [h.len], by simpa using hown, fun i r' hi => ?_⟩
  by_cases hil : i < ls.length
  · rw [List.getElem?_append_left hil] at hi
    obtain ⟨A', C', h1, h2⟩ := h.rows i r' hi
    exact ⟨A', C', by rw [List.getElem?_append_left (by rw [h.len]; exact hil)]; exact h1, (h2.alloc o).kept hg (own_types h2 h.own tt)⟩
  · have e : i = ls.length := by
      have := (List.getElem?_eq_some_iff.1 hi).1
      simp at this; omega
    subst e
    rw [List.getElem?_append_right (Nat.le_refl _), Nat.sub_self] at hi
    have hi' : r = r' := by simpa using hi
    subst hi'
    exact ⟨A, C, by rw [List.getElem?_append_right (by rw [h.len]; exact Nat.le_refl _), h.len, Nat.sub_self]; rfl, (hr.alloc o).kept hg (own_types hr h.own tt)⟩
theorem RowsOwn.nil (B : Nat) (w : World) : RowsOwn B w (.slice none 0 0) [] [] := ⟨rfl, World.ownsRow_nil _ _ _ _, fun i r h => by simp at h⟩
theorem RowsOwn.rows2 {B : Nat} {w : World} {A : Option Addr} {n C : Nat} {ls : List (List Int)} {hs : List Value} (h : RowsOwn B w (.slice A n C) ls hs) (hn : n = ls.length) (hl : ∀ r ∈ ls, r.length ≤ 9223372036854775807) : Rows2 w A ls := by
  subst hn
  refine ⟨hs, h.len, own_rd' h.own, fun i r hi => ?_⟩
  obtain ⟨A', C', h1, h2⟩ := h.rows i r hi
  exact ⟨A', C', h1, hl r (List.mem_of_getElem? hi), own_rd' h2⟩
def RowsEnd (ls : List (List Int)) (w : World) (e : Ending) (w' : World) : Prop :=
  ∃ (A : Option Addr) (C : Nat) (hs : List Value), e = .returned (.slice A ls.length C) ∧ RowsOwn w.heap.size w' (.slice A ls.length C) ls hs ∧ Below w.heap.size w w'
set_option maxHeartbeats 1600000 in
theorem rows_any (A : Option Addr) (C : Nat) (ls : List (List Int)) (w : World) (hl : ls.length ≤ 100000) (hr : ∀ r ∈ ls, r.length ≤ 1000000) (R : Rows2 w A ls) :
    Calls Try.prog 29 #[.slice A ls.length C] w (RowsEnd ls w) := by
  obtain ⟨i0, hi0, hz0, hz1, hz2⟩ := info_parts info_row
  replace R := Lib.hid R
  replace hr := Lib.hid hr
  go_enter Try.func29, Try.ntmps29
  go_wp2_with fail
  go_loopw [3, 8] (fun v i wr => ∃ (k : Nat) (hs : List Value), k ≤ ls.length ∧ i = .int .i64 k ∧ RowsOwn w.heap.size wr v (ls.take k) hs ∧ Below w.heap.size w wr) (fun _ i _ => ls.length - (intOf i).toNat)
  case atStart => exact ⟨0, [], Nat.zero_le _, rfl, RowsOwn.nil _ _, Below.refl _ _⟩
  case round =>
    obtain ⟨k, hs, hk, rfl, HO, hb⟩ := hrel
    by_cases hkl : k < ls.length
    · obtain ⟨b, off, a, c, rfl, hc, hm, R1⟩ := (R.out.below hb).row hkl
      have hm6 := hr.out _ (List.getElem_mem hkl)
      have e1 := Lib.hid (List.take_succ_eq_append_getElem hkl)
      have hlen : Hid ((ls.take k).length = k) := Lib.hid (by rw [List.length_take]; omega)
      have k0 : (0 : Int) ≤ (k : Int) := by omega
      have k1 : (k : Int) < (ls.length : Int) := by omega
      generalize ls[k] = r at *
      have hbs := Lib.hid hb.size
      replace HO := Lib.hid HO
      replace hb := Lib.hid hb
      go_wp2_with fail
      refine (cloneInts_any a c r _ hm6 R1).mono ?_
      rintro e w1 ⟨A1, C1, rfl, hown1, hb1⟩
      have HO1 := Lib.hid (HO.out.below hb1)
      have ho1 := Lib.hid (own_base hown1 hbs.out)
      have hbb := Lib.hid (keep_below hb.out hb1)
      clear hown1
      have HOWN := Lib.hid (HO1.out.own.alloc (.cells #[.slice A1 r.length C1] 45))
      have HNEW : Hid (∀ (q : Nat) (u : Value), [Value.slice A1 r.length C1][q]? = some u → (w1.alloc (.cells #[.slice A1 r.length C1] 45)).cell? ((⟨w1.heap.size, 0, none⟩ : Addr).add q) = some u) := Lib.hid (fun q u hu => cells_new _ _ _ q u (by simpa using hu))
      clear hb1 hc
      go_wp2_with (first | (at_builtin; refine wpList_append_own _ rfl _ _ 26 rfl w.heap.size 45 i0 (.slice none 0 0) 1 24 Try.underlying26 hi0 hz0 hz1 hz2 rfl (by decide) _ _ _ rfl HOWN.out ⟨w1.heap.size, 0, none⟩ 1 1 [.slice A1 r.length C1] rfl rfl HNEW.out (fun x hx => by simp at hx; subst hx; rfl) (by have := hlen.out; unfold maxLen; omega) (by have := hlen.out; omega) (by have := hbb.out.size; simp; omega) ?_; intro v' w2 hown2 hgrow _))
      go_roundw
      case rel =>
        refine ⟨k + 1, hs ++ [.slice A1 r.length C1], by omega, by go_num, ?_, (hbb.out.alloc hbb.out.size _).grown hgrow (by have := hbb.out.size; simp; omega) (fun g hg => (own_lt HO1.out.own hg).1)⟩
        rw [e1.out]
        exact HO1.out.push ho1.out _ (by rw [hlen.out] at hown2 ⊢; exact hown2) hgrow
      case measure => simp [intOf]; omega
    · obtain rfl : k = ls.length := by omega
      rw [List.take_length] at HO
      obtain ⟨A1, C1, hv⟩ := own_val HO.own
      subst hv
      replace HO := Lib.hid HO
      replace hb := Lib.hid hb
      go_wp2_with fail
      go_ret
      exact ⟨A1, C1, hs, rfl, HO.out, hb.out⟩
end Go.Proofs.Ythiinlkpakinlaa
