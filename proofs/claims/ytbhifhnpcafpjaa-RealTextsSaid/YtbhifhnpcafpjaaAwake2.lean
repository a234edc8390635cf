/-
  The walk of wharfagelaw02.Awake: it returns true.
-/
import Derived.Test.YtbhifhnpcafpjaaTextF
namespace Go.Proofs.Ytbhifhnpcafpjaa
set_option linter.unusedVariables false
set_option linter.unusedSimpArgs false
open Go.RowKit
theorem aw_r1 (w : World) : Calls Try.prog 21 #[.int .i64 0, .int .i64 (-5)] w fun e w' => e = .returned (.float .f64 9223372036854775808) ∧ Below w.heap.size w w' :=
  (ratio_any 0 (-5) w).mono fun e w' ⟨r, he, hv, hb⟩ => ⟨(by
    have h : floatBits .quo .f64 (floatOfInt .f64 0) (floatOfInt .f64 (-5)) = some 9223372036854775808 := by decide +kernel
    rw [h] at hv
    rcases hv.2 with hv | ⟨hv, _⟩
    · injection hv with hv; rw [he, hv]
    · cases hv), hb⟩
theorem aw_r2 (w : World) : Calls Try.prog 21 #[.int .i64 0, .int .i64 0] w fun e w' => (∃ r, e = .returned (.float .f64 r) ∧ Hid (kindN r = 6) ∧ r < 18446744073709551616) ∧ Below w.heap.size w w' :=
  (ratio_any 0 0 w).mono fun e w' ⟨r, he, hv, hb⟩ => ⟨⟨r, he, (by
    have h : floatBits .quo .f64 (floatOfInt .f64 0) (floatOfInt .f64 0) = none := by decide +kernel
    rw [h] at hv
    rcases hv.2 with hv | ⟨_, hv⟩
    · cases hv
    · exact Lib.hid hv), hv.1⟩, hb⟩
theorem aw_a1 (w : World) : Calls Try.prog 15 #[.int .i64 1, .float .f64 4607182418800017408, .int .u32 2147483647] w fun e w' => e = .returned (.bool true) ∧ Below w.heap.size w w' :=
  (accept_any 1 4607182418800017408 2147483647 (by decide) w).mono fun e w' ⟨he, hb⟩ => ⟨by rw [he]; exact ret_bool (by decide +kernel), hb⟩
theorem aw_a2 (w : World) : Calls Try.prog 15 #[.int .i64 1, .float .f64 4607182418800017408, .int .u32 2147483648] w fun e w' => e = .returned (.bool false) ∧ Below w.heap.size w w' :=
  (accept_any 1 4607182418800017408 2147483648 (by decide) w).mono fun e w' ⟨he, hb⟩ => ⟨by rw [he]; exact ret_bool (by decide +kernel), hb⟩
theorem aw_t (w : World) : Calls Try.prog 17 #[.float .f64 4611685568067425167] w fun e w' => e = .returned (.string ⟨#[49, 46, 57, 57, 57]⟩) ∧ Below w.heap.size w w' :=
  (text_pos 4611685568067425167 4656510468663908762 4 1999 0 (by decide) (Lib.hid (by decide +kernel)) (by decide) (by decide) (by decide +kernel) (by decide +kernel) (by decide +kernel) (by decide) (by decide) ⟨#[49]⟩ ⟨#[49, 57, 57, 57]⟩ (Lib.hid (by rfl)) (Lib.hid (by rfl)) (by decide) (by decide) (by decide) w).mono fun e w' ⟨he, hb⟩ => ⟨by rw [he]; rfl, hb⟩
set_option maxHeartbeats 1600000 in
theorem awake2_any (w : World) : Calls Try.prog 11 #[] w fun e w' => e = .returned (.bool true) ∧ Below w.heap.size w w' := by
  go_enter Try.func11, Try.ntmps11
  go_wp2_with fail
  refine (aw_r1 _).mono ?_
  rintro e w1 ⟨rfl, hb1⟩
  replace hb1 := Lib.hid hb1
  go_wp2_with fail
  refine (kindOf_is 9223372036854775808 2 (Lib.hid (by decide +kernel)) (by decide) _).mono ?_
  rintro e w' ⟨rfl, rfl⟩
  go_wp2_with fail
  refine (aw_r2 _).mono ?_
  rintro e w2 ⟨⟨r, rfl, hr, hr2⟩, hb2⟩
  replace hb2 := Lib.hid (keepB hb1.out hb2)
  go_wp2_with fail
  refine (kindOf_is r 6 hr hr2 _).mono ?_
  rintro e w' ⟨rfl, rfl⟩
  go_wp2_with fail
  refine (aw_a1 _).mono ?_
  rintro e w3 ⟨rfl, hb3⟩
  replace hb3 := Lib.hid (keepB hb2.out hb3)
  go_wp2_with fail
  refine (aw_a2 _).mono ?_
  rintro e w4 ⟨rfl, hb4⟩
  replace hb4 := Lib.hid (keepB hb3.out hb4)
  go_wp2_with fail
  refine (aw_t _).mono ?_
  rintro e w5 ⟨rfl, hb5⟩
  replace hb5 := Lib.hid (keepB hb4.out hb5)
  go_wp2_with fail
  go_ret
  exact ⟨rfl, hb5.out⟩
end Go.Proofs.Ytbhifhnpcafpjaa
