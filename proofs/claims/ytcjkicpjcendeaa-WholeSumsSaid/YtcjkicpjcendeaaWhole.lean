/-
  The walks of layer 1: what whole.Add, Mul, Ceil, Sum and the references' Add, Mul compute.
-/
import Derived.Test.YtcjkicpjcendeaaRows
import Derived.Test.YtcjkicpjcendeaaPlain
import Derived.Lib.Mul64
import Derived.Laws.Bits64b
namespace Go.Proofs.Ytcjkicpjcendeaa
open Go.RowKit

set_option maxHeartbeats 400000 in
theorem add_any (a b : Int) (w : World) (ha : I64 a) (hb : I64 b) :
    Calls Try.prog 24 #[.int .i64 a, .int .i64 b] w fun e w' => CutEnd (a + b) e ∧ w = w' := by
  go_enter Try.func24, Try.ntmps24
  go_wp2
  all_goals go_ret2
  all_goals refine ⟨?_, rfl⟩
  all_goals unfold I64 at ha hb
  all_goals unfold wrap64 at *
  all_goals first
    | exact cut_t (by unfold I64; omega) (by omega)
    | exact cut_f (by unfold I64; omega)

set_option maxHeartbeats 400000 in
theorem refAdd_any (a b : Int) (w : World) (ha : I64 a) (hb : I64 b) :
    Calls Try.prog 25 #[.int .i64 a, .int .i64 b] w fun e w' => CutEnd (a + b) e ∧ w = w' := by
  have ea := and_low a
  have eb := and_low b
  have el := and_low (a % 4294967296 + b % 4294967296)
  unfold I64 at ha hb
  go_enter Try.func25, Try.ntmps25
  go_wp2
  all_goals go_ret2
  all_goals refine ⟨?_, rfl⟩
  all_goals clear ea eb el
  all_goals first
    | exact cut_t (by unfold I64; omega) (by omega)
    | exact cut_f (by unfold I64; omega)

/-- a number without its sign. -/
def sizeN (a : Int) : Nat := a.natAbs
theorem sizeN_lt {a : Int} (h : I64 a) : sizeN a ≤ 9223372036854775808 := by unfold I64 at h; unfold sizeN; omega
set_option maxHeartbeats 400000 in
theorem size_any (a : Int) (w : World) (ha : I64 a) :
    Calls Try.prog 45 #[.int .i64 a] w fun e w' => e = .returned (.int .u64 (sizeN a)) ∧ w = w' := by
  go_enter Try.func45, Try.ntmps45
  go_wp2
  all_goals go_ret
  all_goals refine ⟨ret_int ?_, rfl⟩
  all_goals unfold I64 at ha
  all_goals (try simp only [IntKind.wrap_u64]); unfold sizeN; omega

namespace Mul64
theorem maskN (a : Nat) (ha : a < 18446744073709551616) : bits .and .u64 (a : Int) 4294967295 = ((a % 4294967296 : Nat) : Int) := by
  have h := bits_and_u64_nat a 4294967295 ha (by omega)
  have e : a &&& 4294967295 = a % 4294967296 := Nat.and_two_pow_sub_one_eq_mod a 32
  rw [e] at h
  exact h
theorem divN (a : Nat) : (a : Int) / 4294967296 = ((a / 4294967296 : Nat) : Int) := by omega
theorem mulN (a b : Nat) : (a : Int) * (b : Int) = ((a * b : Nat) : Int) := (Int.natCast_mul a b).symm
theorem addN (a b : Nat) : (a : Int) + (b : Int) = ((a + b : Nat) : Int) := (Int.natCast_add a b).symm
theorem wrapN (a : Nat) (ha : a < 18446744073709551616) : IntKind.u64.wrap (a : Int) = (a : Int) := by rw [IntKind.wrap_u64]; omega
theorem wrapM (a : Nat) : IntKind.u64.wrap (a : Int) = ((a % 18446744073709551616 : Nat) : Int) := by rw [IntKind.wrap_u64]; omega
end Mul64

set_option maxHeartbeats 1000000 in
theorem mul64_any (x y : Nat) (hx : x < 18446744073709551616) (hy : y < 18446744073709551616) (w : World) :
    Calls Try.prog 44 #[.int .u64 x, .int .u64 y] w fun e w' => e = .returned (.tuple #[.int .u64 ((x * y / 18446744073709551616 : Nat) : Int), .int .u64 ((x * y % 18446744073709551616 : Nat) : Int)]) ∧ w = w' := by
  obtain ⟨bd, bt, bw, hhi⟩ := Lib.mul64_hi x y hx hy
  have ba := Lib.half_mul_le (a := x / 4294967296) (b := y / 4294967296) (by omega) (by omega)
  have bb := Lib.half_mul_le (a := x / 4294967296) (b := y % 4294967296) (by omega) (by omega)
  have bc := Lib.half_mul_le (a := x % 4294967296) (b := y / 4294967296) (by omega) (by omega)
  have ba' : x / 4294967296 * (y / 4294967296) < 18446744073709551616 := by omega
  have bb' : x / 4294967296 * (y % 4294967296) < 18446744073709551616 := by omega
  have bc' : x % 4294967296 * (y / 4294967296) < 18446744073709551616 := by omega
  have bh1 : x / 4294967296 * (y / 4294967296) + (x / 4294967296 * (y % 4294967296) + x % 4294967296 * (y % 4294967296) / 4294967296) / 4294967296 < 18446744073709551616 := by omega
  have bh : x / 4294967296 * (y / 4294967296) + (x / 4294967296 * (y % 4294967296) + x % 4294967296 * (y % 4294967296) / 4294967296) / 4294967296 + ((x / 4294967296 * (y % 4294967296) + x % 4294967296 * (y % 4294967296) / 4294967296) % 4294967296 + x % 4294967296 * (y / 4294967296)) / 4294967296 < 18446744073709551616 := by omega
  go_enter Try.func44, Try.ntmps44
  go_wp2
  simp only [Mul64.maskN x hx, Mul64.maskN y hy, Mul64.divN, Mul64.mulN, Mul64.addN, Mul64.wrapN _ bd, Mul64.wrapN _ bb', Mul64.wrapN _ bt, Mul64.maskN _ bt, Mul64.wrapN _ bc', Mul64.wrapN _ bw, Mul64.wrapN _ ba', Mul64.wrapN _ bh1, Mul64.wrapN _ bh, Mul64.wrapM (x * y)]
  rw [hhi]
  go_ret2
  exact ⟨rfl, rfl⟩

theorem mul64_abs (a b : Int) (ha : I64 a) (hb : I64 b) (w : World) :
    Calls Try.prog 44 #[.int .u64 (sizeN a), .int .u64 (sizeN b)] w fun e w' => e = .returned (.tuple #[.int .u64 ((sizeN (a * b) / 18446744073709551616 : Nat) : Int), .int .u64 ((sizeN (a * b) % 18446744073709551616 : Nat) : Int)]) ∧ w = w' := by
  have h1 := sizeN_lt ha
  have h2 := sizeN_lt hb
  have e : sizeN (a * b) = sizeN a * sizeN b := Int.natAbs_mul a b
  rw [e]
  exact mul64_any _ _ (by omega) (by omega) w
theorem sign_mul (a b : Int) : (a < 0 → b < 0 → 0 ≤ a * b) ∧ (a < 0 → 0 ≤ b → a * b ≤ 0) ∧ (0 ≤ a → b < 0 → a * b ≤ 0) ∧ (0 ≤ a → 0 ≤ b → 0 ≤ a * b) := by
  refine ⟨fun h k => ?_, fun h k => ?_, fun h k => ?_, fun h k => Int.mul_nonneg h k⟩
  · have := Int.mul_nonneg (a := -a) (b := -b) (by omega) (by omega)
    rwa [Int.neg_mul_neg] at this
  · have := Int.mul_nonneg (a := -a) (b := b) (by omega) (by omega)
    rw [Int.neg_mul] at this; omega
  · have := Int.mul_nonneg (a := a) (b := -b) (by omega) (by omega)
    rw [Int.mul_neg] at this; omega
set_option maxHeartbeats 800000 in
theorem mul_any (a b : Int) (w : World) (ha : I64 a) (hb : I64 b) :
    Calls Try.prog 26 #[.int .i64 a, .int .i64 b] w fun e w' => CutEnd (a * b) e ∧ w = w' := by
  obtain ⟨s1, s2, s3, s4⟩ := sign_mul a b
  obtain ⟨x, da⟩ : ∃ x, decide (a < 0) = x := ⟨_, rfl⟩
  obtain ⟨y, db⟩ : ∃ x, decide (b < 0) = x := ⟨_, rfl⟩
  cases x <;> cases y
  all_goals
    have ca := da
    have cb := db
    first | replace ca := of_decide_eq_true ca | replace ca : 0 ≤ a := by have := of_decide_eq_false ca; omega
    first | replace cb := of_decide_eq_true cb | replace cb : 0 ≤ b := by have := of_decide_eq_false cb; omega
    have sg := by first | exact s1 ca cb | exact s2 ca cb | exact s3 ca cb | exact s4 ca cb
    clear s1 s2 s3 s4
    go_enter Try.func26, Try.ntmps26
    go_wp2_with (first | (go_at_call 45; refine (size_any _ _ (by assumption)).mono ?_; rintro e w' ⟨rfl, rfl⟩) | (go_at_call 44; refine (mul64_abs _ _ (by assumption) (by assumption) _).mono ?_; rintro e w' ⟨rfl, rfl⟩))
    all_goals
      go_ret2
      refine ⟨?_, rfl⟩
      clear ha hb da db
      generalize a * b = q at *
      unfold sizeN at *
      try unfold wrap64
      first
        | exact cut_t (by unfold I64; omega) (by omega)
        | exact cut_f (by unfold I64; omega)
end Go.Proofs.Ytcjkicpjcendeaa
