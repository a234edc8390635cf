/-
  The walks of layer 2's statements: RealKinds, RealLess, RealCools, RealRatios, RealAccepts.
-/
import Derived.Test.YtbhifhnpcafpjaaAwake2
namespace Go.Proofs.Ytbhifhnpcafpjaa
set_option linter.unusedVariables false
set_option linter.unusedSimpArgs false
open Go.RowKit
theorem u64_nat {x : Int} (h : (Lit.int .u64 x).wf = true) : ∃ n : Nat, x = (n : Int) ∧ n < 18446744073709551616 := by
  have h2 : (0 : Int) ≤ x ∧ x ≤ 18446744073709551615 := by simpa [Lit.wf, IntKind.min, IntKind.max, IntKind.signed, IntKind.bits] using h
  exact ⟨x.toNat, by omega, by omega⟩
set_option maxHeartbeats 800000 in
theorem law_RealKinds (w : World) (x : Int) (hx : (Lit.int .u64 x).wf = true) :
    Calls Try.prog 3 #[.int .u64 x] w fun e w' => e = .returned (.bool true) ∧ Below w.heap.size w w' := by
  obtain ⟨b, rfl, hb⟩ := u64_nat hx
  clear hx
  go_enter Try.func3, Try.ntmps3
  go_wp2_with (first | (go_at_call 11; refine (awake2_any _).mono ?_; rintro e w1 ⟨rfl, hb1⟩) | (go_at_call 13; refine (of02_any _ _).mono ?_; rintro e w' ⟨rfl, rfl⟩) | (go_at_call 12; refine (kindOf_any b hb _).mono ?_; rintro e w' ⟨rfl, rfl⟩) | (go_at_call 14; refine (kind_any b _ hb).mono ?_; rintro e w' ⟨rfl, rfl⟩))
  go_ret
  exact ⟨rfl, hb1⟩
set_option maxHeartbeats 800000 in
theorem law_RealLess (w : World) (x : Int) (hx : (Lit.int .u64 x).wf = true) (y : Int) (hy : (Lit.int .u64 y).wf = true) :
    Calls Try.prog 9 #[.int .u64 x, .int .u64 y] w fun e w' => e = .returned (.bool true) ∧ Below w.heap.size w w' := by
  obtain ⟨a, rfl, ha⟩ := u64_nat hx
  obtain ⟨b, rfl, hb⟩ := u64_nat hy
  clear hx hy
  have hl := Lib.hid (lessB_eq a b)
  go_enter Try.func9, Try.ntmps9
  go_wp2_with (first | (go_at_call 11; refine (awake2_any _).mono ?_; rintro e w1 ⟨rfl, hb1⟩) | (go_at_call 13; refine (of02_any _ _).mono ?_; rintro e w' ⟨rfl, rfl⟩) | (go_at_call 23; refine (less_any a b ha hb _).mono ?_; rw [hl.out]; rintro e w' ⟨rfl, rfl⟩) | (go_at_call 24; refine (place_any _ (by assumption) _).mono ?_; rintro e w' ⟨rfl, rfl⟩))
  go_ret
  exact ⟨ret_bool (by simp), hb1⟩
set_option maxHeartbeats 800000 in
theorem law_RealAccepts (w : World) (c : Int) (hc : (Lit.int .i64 c).wf = true) (x : Int) (hx : (Lit.int .u64 x).wf = true) (d : Int) (hd : (Lit.int .u32 d).wf = true) :
    Calls Try.prog 4 #[.int .i64 c, .int .u64 x, .int .u32 d] w fun e w' => e = .returned (.bool true) ∧ Below w.heap.size w w' := by
  obtain ⟨h, rfl, hh⟩ := u64_nat hx
  clear hx hc hd
  go_enter Try.func4, Try.ntmps4
  go_wp2_with fail
  refine (awake2_any _).mono ?_
  rintro e w1 ⟨rfl, hb1⟩
  replace hb1 := Lib.hid hb1
  go_wp2_with (go_at_call 13; refine (of02_any _ _).mono ?_; rintro e w' ⟨rfl, rfl⟩)
  refine (accept_any c h d hh _).mono ?_
  rintro e w2 ⟨rfl, hb2⟩
  replace hb2 := Lib.hid (keepB hb1.out hb2)
  go_wp2_with (go_at_call 13; refine (of02_any _ _).mono ?_; rintro e w' ⟨rfl, rfl⟩)
  refine (refAccept_any c h d hh _).mono ?_
  rintro e w3 ⟨rfl, hb3⟩
  replace hb3 := Lib.hid (keepB hb2.out hb3)
  go_wp2_with fail
  go_ret
  exact ⟨ret_bool (by simp), hb3.out⟩
end Go.Proofs.Ytbhifhnpcafpjaa
