/-
  The walk of layer 2's statement RealFairer.
-/
import Derived.Test.YtbhifhnpcafpjaaLaws2
import Derived.Test.YtbhifhnpcafpjaaFltQ
namespace Go.Proofs.Ytbhifhnpcafpjaa
set_option linter.unusedVariables false
set_option linter.unusedSimpArgs false
open Go.RowKit
theorem accept_is (c : Int) (h : Nat) (d : Int) (b : Bool) (hb : Hid (acceptB c h d = b)) (hh : h < 18446744073709551616) (w : World) :
    Calls Try.prog 15 #[.int .i64 c, .float .f64 h, .int .u32 d] w fun e w' => e = .returned (.bool b) ∧ Below w.heap.size w w' :=
  (accept_any c h d hh w).mono fun e w' ⟨he, hw⟩ => ⟨by rw [he, hb.out], hw⟩
theorem u32_range {x : Int} (h : (Lit.int .u32 x).wf = true) : 0 ≤ x ∧ x ≤ 4294967295 := by
  simpa [Lit.wf, IntKind.min, IntKind.max, IntKind.signed, IntKind.bits] using h
theorem i64_range {x : Int} (h : (Lit.int .i64 x).wf = true) : -9223372036854775808 ≤ x ∧ x ≤ 9223372036854775807 := by
  simpa [Lit.wf, IntKind.min, IntKind.max, IntKind.signed, IntKind.bits] using h
set_option maxHeartbeats 1600000 in
theorem law_RealFairer (w : World) (c : Int) (hc : (Lit.int .i64 c).wf = true) (l : Int) (hl : (Lit.int .i64 l).wf = true) (x : Int) (hx : (Lit.int .u64 x).wf = true) (d : Int) (hd : (Lit.int .u32 d).wf = true) (low : Int) (hlow : (Lit.int .u32 low).wf = true) :
    Calls Try.prog 5 #[.int .i64 c, .int .i64 l, .int .u64 x, .int .u32 d, .int .u32 low] w fun e w' => e = .returned (.bool true) ∧ Below w.heap.size w w' := by
  obtain ⟨h, rfl, hh⟩ := u64_nat hx
  obtain ⟨d1, d2⟩ := u32_range hd
  obtain ⟨o1, o2⟩ := u32_range hlow
  obtain ⟨c1, c2⟩ := i64_range hc
  clear hx hc hl hd hlow
  by_cases hg : l ≤ c ∧ low ≤ d ∧ 1 ≤ low
  · obtain ⟨g1, g2, g3⟩ := hg
    have e0 : (low == 0) = false := by rw [beq_eq_false_iff_ne]; omega
    cases hb : acceptB c h d with
    | true =>
      have hf := Lib.hid (accept_fair c l h d low g1 c2 g2 g3 d2 hh hb)
      replace hb := Lib.hid hb
      go_enter Try.func5, Try.ntmps5
      go_wp2_with fail
      refine (awake2_any _).mono ?_
      rintro e w1 ⟨rfl, hb1⟩
      replace hb1 := Lib.hid hb1
      go_wp2_with (go_at_call 13; refine (of02_any _ _).mono ?_; rintro e w' ⟨rfl, rfl⟩)
      refine (accept_is c h d true hb hh _).mono ?_
      rintro e w2 ⟨rfl, hb2⟩
      replace hb2 := Lib.hid (keepB hb1.out hb2)
      go_wp2_with (go_at_call 13; refine (of02_any _ _).mono ?_; rintro e w' ⟨rfl, rfl⟩)
      refine (accept_is l h low true hf hh _).mono ?_
      rintro e w3 ⟨rfl, hb3⟩
      replace hb3 := Lib.hid (keepB hb2.out hb3)
      go_wp2_with fail
      go_ret
      exact ⟨rfl, hb3.out⟩
    | false =>
      replace hb := Lib.hid hb
      go_enter Try.func5, Try.ntmps5
      go_wp2_with fail
      refine (awake2_any _).mono ?_
      rintro e w1 ⟨rfl, hb1⟩
      replace hb1 := Lib.hid hb1
      go_wp2_with (go_at_call 13; refine (of02_any _ _).mono ?_; rintro e w' ⟨rfl, rfl⟩)
      refine (accept_is c h d false hb hh _).mono ?_
      rintro e w2 ⟨rfl, hb2⟩
      replace hb2 := Lib.hid (keepB hb1.out hb2)
      go_wp2_with fail
      go_ret
      exact ⟨rfl, hb2.out⟩
  · replace hg := Lib.hid (show l ≤ c → low ≤ d → 1 ≤ low → False from fun a b e => hg ⟨a, b, e⟩)
    go_enter Try.func5, Try.ntmps5
    go_wp2_with fail
    refine (awake2_any _).mono ?_
    rintro e w1 ⟨rfl, hb1⟩
    replace hb1 := Lib.hid hb1
    go_upto_region 5 with (fail)
    all_goals first
      | (go_ret
         exact ⟨rfl, hb1.out⟩)
      | exact (hg.out (by omega) (by omega) (by omega)).elim
      | (have q : (l ≤ c ∧ low ≤ d) ∧ (low == 0) = false := by assumption
         have q2 := q.2
         rw [beq_eq_false_iff_ne] at q2
         exact (hg.out q.1.1 q.1.2 (by omega)).elim)
end Go.Proofs.Ytbhifhnpcafpjaa
