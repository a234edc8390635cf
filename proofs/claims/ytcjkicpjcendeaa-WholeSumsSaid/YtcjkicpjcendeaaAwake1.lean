/-
  The walk of wharfagelaw01.Awake: it returns true.
-/
import Derived.Test.YtcjkicpjcendeaaMul
import Derived.Test.YtcjkicpjcendeaaCeil
import Derived.Test.YtcjkicpjcendeaaParse
namespace Go.Proofs.Ytcjkicpjcendeaa
open Go.RowKit
theorem aw_add (w : World) : Calls Try.prog 24 #[.int .i64 9223372036854775807, .int .i64 1] w fun e w' => e = .returned (.tuple #[.int .i64 0, .bool false]) ∧ w = w' :=
  (add_any _ _ w (by unfold I64; omega) (by unfold I64; omega)).mono fun e w' ⟨h, hw⟩ => ⟨by rw [h]; rfl, hw⟩
theorem aw_mul (w : World) : Calls Try.prog 26 #[.int .i64 (-4611686018427387904), .int .i64 2] w fun e w' => e = .returned (.tuple #[.int .i64 (-9223372036854775808), .bool true]) ∧ w = w' :=
  (mul_any _ _ w (by unfold I64; omega) (by unfold I64; omega)).mono fun e w' ⟨h, hw⟩ => ⟨by rw [h]; rfl, hw⟩
theorem aw_parse (w : World) : Calls Try.prog 29 #[.string ⟨#[48, 55]⟩] w fun e w' => e = .returned (.tuple #[.int .i64 0, .bool false]) ∧ Below w.heap.size w w' :=
  (parse_any _ w (by decide)).mono fun e w' ⟨h, hw⟩ => ⟨by rw [h]; rfl, hw⟩
theorem aw_ceil (w : World) : Calls Try.prog 28 #[.int .i64 7, .int .i64 2] w fun e w' => e = .returned (.int .i64 4) ∧ w = w' :=
  (ceil_any _ _ w (by unfold I64; omega) (by unfold I64; omega)).mono fun e w' ⟨h, hw⟩ => ⟨by rw [h]; rfl, hw⟩
set_option maxHeartbeats 800000 in
theorem awake1_any (w : World) :
    Calls Try.prog 23 #[] w fun e w' => e = .returned (.bool true) ∧ Below w.heap.size w w' := by
  go_enter Try.func23, Try.ntmps23
  go_wp2_with (first | (go_at_call 24; refine (aw_add _).mono ?_; rintro e w' ⟨rfl, rfl⟩) | (go_at_call 26; refine (aw_mul _).mono ?_; rintro e w' ⟨rfl, rfl⟩) | (go_at_call 29; refine (aw_parse _).mono ?_; rintro e w1 ⟨rfl, hb⟩) | (go_at_call 28; refine (aw_ceil _).mono ?_; rintro e w' ⟨rfl, rfl⟩))
  go_ret
  exact ⟨rfl, hb⟩
end Go.Proofs.Ytcjkicpjcendeaa
