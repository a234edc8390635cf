/-
  The walk of the reference's Mul (layer 1).
-/
import Derived.Test.YtcjkicpjcendeaaWhole
import Derived.Deep.Light
namespace Go.Proofs.Ytcjkicpjcendeaa
open Go.RowKit
theorem back_t {a b : Int} (ha : I64 a) (b0 : b ≠ 0) (h : I64 (a * b)) : wrap64 ((wrap64 (a * b)).tdiv b) = a := by
  rw [wrap_of h, Int.mul_tdiv_cancel _ b0, wrap_of ha]
theorem back_f {a b : Int} (hb : I64 b) (b0 : b ≠ 0) (hx : ¬ (a = -9223372036854775808 ∧ b = -1)) (h : wrap64 ((wrap64 (a * b)).tdiv b) = a) : I64 (a * b) := by
  have hq := I64_wrap (a * b)
  have hm : ∃ k : Int, a * b = wrap64 (a * b) + 18446744073709551616 * k := ⟨(a * b + 9223372036854775808) / 18446744073709551616, by unfold wrap64; omega⟩
  generalize wrap64 (a * b) = q at *
  have e1 := Int.natAbs_tdiv_le_natAbs q b
  have e2 := Int.mul_tdiv_add_tmod q b
  have e3 : (q.tmod b).natAbs ≤ q.natAbs := by rw [Int.natAbs_tmod]; exact Nat.mod_le _ _
  have e4 : (b * q.tdiv b).natAbs ≤ q.natAbs := by
    rw [Int.natAbs_mul, Int.natAbs_tdiv, Nat.mul_comm]; exact Nat.div_mul_le_self _ _
  by_cases hr : I64 (q.tdiv b)
  · rw [wrap_of hr] at h
    rw [h, Int.mul_comm] at e2 e4
    obtain ⟨k, hk⟩ := hm
    generalize a * b = p at *
    unfold I64 at *
    omega
  · exfalso
    have hq' : q = -9223372036854775808 ∧ q.tdiv b = 9223372036854775808 := by unfold I64 at *; omega
    obtain ⟨rfl, h2⟩ := hq'
    rw [h2] at h e2
    have h3 : a = -9223372036854775808 := by rw [← h]; unfold wrap64; omega
    have h4 : b = -1 := by
      have h5 : b ≠ -2 := by
        rintro rfl
        have h6 : Int.tdiv (-9223372036854775808) (-2) = 4611686018427387904 := by decide
        omega
      omega
    exact hx ⟨h3, h4⟩
set_option maxHeartbeats 800000 in
theorem refMul_nz (a b : Int) (w : World) (ha : I64 a) (hb : I64 b) (a0 : (a == 0) = false) (b0 : (b == 0) = false) (b1 : ¬ b = 0) :
    Calls Try.prog 27 #[.int .i64 a, .int .i64 b] w fun e w' => CutEnd (a * b) e ∧ w = w' := by
  go_enter Try.func27, Try.ntmps27
  go_wp2
  all_goals go_ret2
  all_goals refine ⟨?_, rfl⟩
  all_goals go_light
  all_goals have k1 := back_t ha b1
  all_goals have k2 := back_f (a := a) hb b1
  all_goals clear a0 b0
  all_goals by_cases hI : I64 (a * b)
  all_goals first
    | (have e : a * b = 1 := by rw [‹a = -1›, ‹b = -1›]; omega
       rw [e]; exact cut_t (by unfold I64; omega) (by first | rfl | (unfold wrap64; omega)))
    | exact cut_t hI (wrap_of hI)
    | (have e : a * b = -b := by rw [‹a = -1›]; omega
       rw [e] at hI ⊢; exact cut_t hI (wrap_of hI))
    | (have e : a * b = -a := by rw [‹b = -1›]; omega
       rw [e] at hI ⊢; exact cut_t hI (wrap_of hI))
    | (refine cut_f hI)
    | (exfalso; rw [‹a = -1›, ‹b = -9223372036854775808›] at hI; unfold I64 at hI; omega)
    | (exfalso; rw [‹b = -1›, ‹a = -9223372036854775808›] at hI; unfold I64 at hI; omega)
    | (exfalso; simp_all; done)
theorem refMul_any (a b : Int) (w : World) (ha : I64 a) (hb : I64 b) :
    Calls Try.prog 27 #[.int .i64 a, .int .i64 b] w fun e w' => CutEnd (a * b) e ∧ w = w' := by
  by_cases a0 : a = 0
  · subst a0
    go_enter Try.func27, Try.ntmps27
    go_wp2
    go_ret2
    exact ⟨by rw [Int.zero_mul]; exact cut_t (by unfold I64; omega) rfl, rfl⟩
  · by_cases b0 : b = 0
    · subst b0
      go_enter Try.func27, Try.ntmps27
      go_wp2
      go_ret2
      exact ⟨by rw [Int.mul_zero]; exact cut_t (by unfold I64; omega) rfl, rfl⟩
    · exact refMul_nz a b w ha hb (by simpa using a0) (by simpa using b0) b0
end Go.Proofs.Ytcjkicpjcendeaa
