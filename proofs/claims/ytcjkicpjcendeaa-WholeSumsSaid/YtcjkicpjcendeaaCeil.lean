/-
  The walk of whole.Ceil (layer 1).
-/
import Derived.Test.YtcjkicpjcendeaaPlain
import Derived.Test.YtcjkicpjcendeaaRows
namespace Go.Proofs.Ytcjkicpjcendeaa
open Go.RowKit
def ceilV (a b : Int) : Int := if a < 0 ∨ b < 1 then 0 else if 0 < a % b then a / b + 1 else a / b
set_option maxHeartbeats 400000 in
theorem ceil_any (a b : Int) (w : World) (ha : I64 a) (_hb : I64 b) :
    Calls Try.prog 28 #[.int .i64 a, .int .i64 b] w fun e w' => e = .returned (.int .i64 (ceilV a b)) ∧ w = w' := by
  by_cases h0 : a < 0
  · go_enter Try.func28, Try.ntmps28
    go_wp2
    go_ret
    exact ⟨ret_int (by unfold ceilV; rw [if_pos (Or.inl h0)]), rfl⟩
  · by_cases h1 : b < 1
    · go_enter Try.func28, Try.ntmps28
      go_wp2
      go_ret
      exact ⟨ret_int (by unfold ceilV; rw [if_pos (Or.inr h1)]), rfl⟩
    · have a0 : 0 ≤ a := by omega
      have b0 : 1 ≤ b := by omega
      have bz : ¬ b = 0 := by omega
      have d0 : a % b + b * (a / b) = a := Int.emod_add_mul_ediv a b
      have d1 : 0 ≤ a / b := Int.ediv_nonneg a0 (by omega)
      have d2 : 0 ≤ a % b := Int.emod_nonneg a bz
      have d3 : a / b ≤ b * (a / b) := by
        have := Int.mul_le_mul_of_nonneg_right b0 d1
        omega
      have hr : ceilV a b = if 0 < a % b then a / b + 1 else a / b := by unfold ceilV; rw [if_neg (by omega)]
      have HR := Lib.hid hr
      have H0 := Lib.hid d0
      clear hr d0
      unfold I64 at ha
      by_cases hm : 0 < a % b
      · have d4 : a / b + 1 ≤ 9223372036854775807 := by have := H0.out; omega
        go_enter Try.func28, Try.ntmps28
        go_wp2
        go_ret
        exact ⟨ret_int (by rw [HR.out, if_pos hm]), rfl⟩
      · go_enter Try.func28, Try.ntmps28
        go_wp2
        go_ret
        exact ⟨ret_int (by rw [HR.out, if_neg (by omega)]), rfl⟩
end Go.Proofs.Ytcjkicpjcendeaa
