/-
  The walk of real.Text (layer 2), where a number is told by its digits.
-/
import Derived.Test.YtbhifhnpcafpjaaAccept
import Derived.Test.YtbhifhnpcafpjaaText
import Derived.Deep.RegionHeld3
import Derived.IntWalk
namespace Go.Proofs.Ytbhifhnpcafpjaa
set_option linter.unusedVariables false
set_option linter.unusedSimpArgs false
open Go.RowKit
theorem keepB {W w w' : World} (h : Below W.heap.size W w) (hb : Below w.heap.size w w') : Below W.heap.size W w' := h.trans (hb.mono h.size)
theorem text_str (n : Int) (w : World) (s : ByteArray) (hs : Hid (s = ⟨(textV n).toArray⟩)) (hn : I64 n) :
    Calls Try.prog 30 #[.int .i64 n] w fun e w' => e = .returned (.string s) ∧ Below w.heap.size w w' := by
  rw [hs.out]; exact text_any n w hn
set_option maxHeartbeats 800000 in
theorem text_pos (b r : Nat) (k : Int) (n m : Int) (hb : b < 18446744073709551616) (hk : Hid (kindN b = k)) (hk2 : 3 ≤ k) (hk6 : k ≤ 5) (hge : (FloatKind.f64.format.order b 4831355200913801216 == some Ordering.gt || FloatKind.f64.format.order b 4831355200913801216 == some Ordering.eq) = false)
    (hm : floatBits .mul .f64 b 4652007308841189376 = some r) (hi : floatToIntVal .f64 r .i64 = some n) (h0 : 0 ≤ n) (h1 : n ≤ 4611686018427387904) (S T : ByteArray) (hS : Hid (S = ⟨(textV (n / 1000)).toArray⟩)) (hT : Hid (T = ⟨(textV (1000 + n % 1000)).toArray⟩)) (hT1 : 1 ≤ T.size) (hT2 : T.size ≤ 100) (hS2 : S.size ≤ 100) (w : World) :
    Calls Try.prog 17 #[.float .f64 b] w fun e w' => e = .returned (.string (⟨#[]⟩ ++ S ++ ⟨#[46]⟩ ++ T.extract 1 T.size)) ∧ Below w.heap.size w w' := by
  have s1 := fun (w : World) => run_float_arith (P := Try.prog) w .mul 26 .f64 _ _ _ hm
  have s2 := fun (w : World) => run_convert_float_int (P := Try.prog) w 26 2 .f64 .i64 r n (by kernel_rfl) Try.underlying2 hi
  have i1 : I64 (1000 + n % 1000) := by unfold I64; omega
  have i2 : I64 (n / 1000) := by unfold I64; omega
  replace i1 := Lib.hid i1
  replace i2 := Lib.hid i2
  clear hm hi
  have e6 : (k == 6) = false := by rw [beq_eq_false_iff_ne]; omega
  have e3 : decide (k ≤ 2) = false := decide_eq_false (by omega)
  go_enter Try.func17, Try.ntmps17
  go_wp2_with (first | (go_at_call 12; refine (kindOf_is b k hk hb _).mono ?_; rintro e w' ⟨rfl, rfl⟩) | (go_at_call 30; refine (text_str _ _ T hT i1.out).mono ?_; rintro e w1 ⟨rfl, hb1⟩))
  have hb0 := Lib.hid hb1
  clear hb1 s1 s2 hge
  have dq : IntKind.i64.wrap (n.tdiv 1000) = n / 1000 := by
    rw [Int.tdiv_eq_ediv_of_nonneg h0]; exact IntWalk.i64_in _ (by omega)
  go_region_with (go_at_call 30; refine (text_str _ _ S hS i2.out).mono ?_; rintro e w2 ⟨rfl, hb2⟩)
  all_goals
    go_wp2_with fail
    go_ret
    exact ⟨rfl, keepB hb0.out.drew hb2⟩
end Go.Proofs.Ytbhifhnpcafpjaa
