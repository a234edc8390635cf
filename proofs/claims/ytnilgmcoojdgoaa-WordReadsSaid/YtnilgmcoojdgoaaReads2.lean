/-
  The walks of WordReads' closures (layer 5).
-/
import Derived.Test.YtnilgmcoojdgoaaStep
import Derived.Test.YtnilgmcoojdgoaaRegN
namespace Go.Proofs.Ytnilgmcoojdgoaa
set_option linter.unusedVariables false
set_option linter.unusedSimpArgs false
open Go.RowKit
theorem if_true_ofR {c : Prop} [Decidable c] {A B : Prop} (h : c) (ha : A) : if c then A else B := by rw [if_pos h]; exact ha
theorem grown_undrew {w w2 : World} {r : Option Nat} (h : w.drew.grownBy w2 r) : w.grownBy w2 r := ⟨h.os, h.tape, h.output, h.size, h.block⟩
theorem told_val {w : World} {B n : Nat} {v : Value} {xs : List Value} (h : w.ownsRow B 2 1 v n xs) : ∃ A C, v = .slice A n C := own_val h
set_option maxHeartbeats 3200000 in
set_option maxRecDepth 100000 in
theorem yes_any (b B : Nat) (told : List Int) (f : Bool) (w : World) (hT : Told b B told w) (hB : B ≤ w.heap.size) (hl : told.length ≤ 100) :
    Calls Try.prog 21 #[.bool f, .pointer (some ⟨b, 0, none⟩)] w fun e w' => e = .returned (.tuple #[]) ∧ Told b B (told ++ [b01 f]) w' ∧ Chg (fun k => k = b ∨ B ≤ k) w w' := by
  obtain ⟨v, h1, hv⟩ := hT
  obtain ⟨A, C, rfl⟩ := told_val hv
  obtain ⟨i0, hi0, hz0, hz1, hz2⟩ := info_parts info_i64
  have c1 := box_cell h1
  cases f
  · have HOWN := Lib.hid (hv.alloc (.cells #[.int .i64 0] 2))
    have HNEW : Hid (∀ (q : Nat) (u : Value), [Value.int .i64 0][q]? = some u → (w.alloc (.cells #[.int .i64 0] 2)).cell? ((⟨w.heap.size, 0, none⟩ : Addr).add q) = some u) := Lib.hid (fun q u hu => cells_new _ _ _ q u (by simpa using hu))
    replace h1 := Lib.hid h1
    replace hv := Lib.hid hv
    go_enter Try.func21, Try.ntmps21
    go_wp2_with (first | (at_builtin; refine wpList_append_own _ rfl _ _ 46 rfl B 2 i0 (.int .i64 0) 1 8 Try.underlying46 hi0 hz0 hz1 hz2 rfl (by decide) _ _ _ rfl HOWN.out ⟨w.heap.size, 0, none⟩ 1 1 [.int .i64 0] rfl rfl HNEW.out (fun x hx => by simp at hx; subst hx; rfl) (by unfold maxLen; omega) (by omega) (by simp; omega) ?_; intro v' w2 hown2 hgrow _; obtain ⟨A', C', hv'⟩ := own_val hown2; subst hv'; obtain ⟨g2, HT, HC⟩ := Told.push h1.out hv.out ((Below.refl _ _).alloc (Nat.le_refl _) _) hown2 hgrow; have d1 := box_cell g2; have d2 := box_frozen g2; have HT2 := Lib.hid HT; have HC2 := Lib.hid HC; clear HT HC g2))
    go_end0
    exact ⟨rfl, HT2.out, HC2.out⟩
  · have HOWN := Lib.hid (hv.alloc (.cells #[.int .i64 1] 2))
    have HNEW : Hid (∀ (q : Nat) (u : Value), [Value.int .i64 1][q]? = some u → (w.alloc (.cells #[.int .i64 1] 2)).cell? ((⟨w.heap.size, 0, none⟩ : Addr).add q) = some u) := Lib.hid (fun q u hu => cells_new _ _ _ q u (by simpa using hu))
    replace h1 := Lib.hid h1
    replace hv := Lib.hid hv
    go_enter Try.func21, Try.ntmps21
    go_wp2_with (first | (at_builtin; refine wpList_append_own _ rfl _ _ 46 rfl B 2 i0 (.int .i64 0) 1 8 Try.underlying46 hi0 hz0 hz1 hz2 rfl (by decide) _ _ _ rfl HOWN.out ⟨w.heap.size, 0, none⟩ 1 1 [.int .i64 1] rfl rfl HNEW.out (fun x hx => by simp at hx; subst hx; rfl) (by unfold maxLen; omega) (by omega) (by simp; omega) ?_; intro v' w2 hown2 hgrow _; obtain ⟨A', C', hv'⟩ := own_val hown2; subst hv'; obtain ⟨g2, HT, HC⟩ := Told.push h1.out hv.out ((Below.refl _ _).alloc (Nat.le_refl _) _) hown2 hgrow; have d1 := box_cell g2; have d2 := box_frozen g2; have HT2 := Lib.hid HT; have HC2 := Lib.hid HC; clear HT HC g2))
    go_end0
    exact ⟨rfl, HT2.out, HC2.out⟩
end Go.Proofs.Ytnilgmcoojdgoaa
