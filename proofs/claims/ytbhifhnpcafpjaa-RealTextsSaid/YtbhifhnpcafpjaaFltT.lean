/-
  A positive float cut to a whole number; the text of a float. No program in sight.
-/
import Derived.Test.YtbhifhnpcafpjaaFltN
import Derived.Test.YtbhifhnpcafpjaaDig
namespace Go.Proofs.Ytbhifhnpcafpjaa
set_option linter.unusedVariables false
set_option linter.unusedSimpArgs false
open Ieee Go
theorem read_nat (b : Nat) (h : b < infR) : ∃ m k : Nat, double.read b = .number false m (-1074 + (k : Int)) ∧ m * 2 ^ k = magR b := by
  obtain ⟨e1, e2⟩ := pos_rung (Nat.le_of_lt h)
  obtain ⟨m, k, e, hm⟩ := read_num b (by rw [e1]; exact h)
  rw [e2] at e
  rw [e1] at hm
  exact ⟨m, k, e, hm⟩
theorem toInt_pos (b E : Nat) (hE : E = 1074) (h : b < infR) : (double.read b).toInt .zero = some ((magR b / 2 ^ E : Nat) : Int) := by
  obtain ⟨m, k, e, hm⟩ := read_nat b h
  rw [e]
  unfold Datum.toInt Datum.integral
  dsimp only
  unfold signed
  simp only [Bool.false_eq_true, if_false, Nat.shiftLeft_zero]
  congr 2
  unfold Toward.cut
  dsimp only
  rw [Nat.one_shiftLeft, Bool.toNat_false, Nat.add_zero, ← hm]
  by_cases hk : E ≤ k
  · rw [show (-1074 + (k : Int)).toNat = k - E by omega, show (-(-1074 + (k : Int))).toNat = 0 by omega, Nat.zero_min, Nat.pow_zero, Nat.div_one, Nat.shiftLeft_eq]
    obtain ⟨j, rfl⟩ : ∃ j, k = j + E := ⟨k - E, by omega⟩
    rw [Nat.add_sub_cancel, Nat.pow_add, ← Nat.mul_assoc, Nat.mul_div_cancel _ (Nat.two_pow_pos _)]
  · rw [show (-1074 + (k : Int)).toNat = 0 by omega, show (-(-1074 + (k : Int))).toNat = E - k by omega, Nat.shiftLeft_zero]
    obtain ⟨j, rfl⟩ : ∃ j, E = j + k := ⟨E - k, by omega⟩
    rw [Nat.add_sub_cancel, Nat.pow_add, Nat.mul_div_mul_right _ _ (Nat.two_pow_pos _)]
    by_cases hj : j ≤ m.log2 + 2
    · rw [Nat.min_eq_left hj]
    · rw [Nat.min_eq_right (by omega)]
      have hlt : m < 2 ^ (m.log2 + 1) := Nat.lt_log2_self
      have a : 2 ^ (m.log2 + 1) ≤ 2 ^ (m.log2 + 2) := Nat.pow_le_pow_right (by omega) (by omega)
      have b : 2 ^ (m.log2 + 2) ≤ 2 ^ j := Nat.pow_le_pow_right (by omega) (by omega)
      rw [Nat.div_eq_of_lt (by omega), Nat.div_eq_of_lt (by omega)]
/-- a float below 10^15, times 1000, as a whole number. -/
theorem milli (y : Nat) (h : y < 4831355200913801216) : ∃ (r : Nat) (n : Int), floatBits .mul .f64 y 4652007308841189376 = some r ∧ floatToIntVal .f64 r .i64 = some n ∧ 0 ≤ n ∧ n ≤ 1000000000000000000 := by
  have hi : infR = 9218868437227405312 := rfl
  have key : ∀ r, r ≤ 4876203697187506176 → ∃ n, floatToIntVal .f64 r .i64 = some n ∧ 0 ≤ n ∧ n ≤ 1000000000000000000 := fun r hr => by
    obtain ⟨E, hE⟩ : ∃ E : Nat, E = 1074 := ⟨_, rfl⟩
    have ht := toInt_pos r E hE (by omega)
    have hC := toInt_pos 4876203697187506176 E hE (by decide)
    have hC2 : (double.read 4876203697187506176).toInt .zero = some 1000000000000000000 := by decide +kernel
    rw [hC2] at hC
    injection hC with hC
    have hle : magR r / 2 ^ E ≤ magR 4876203697187506176 / 2 ^ E := Nat.div_le_div_right (magR_le hr)
    generalize magR r / 2 ^ E = N at *
    generalize magR 4876203697187506176 / 2 ^ E = N' at *
    refine ⟨(N : Int), ?_, by omega, by omega⟩
    unfold floatToIntVal
    have ht' : (FloatKind.f64.decode r).toInt .zero = some (N : Int) := ht
    rw [ht']
    dsimp only
    rw [if_pos]
    have h1 : IntKind.i64.min = -9223372036854775808 := by decide
    have h2 : IntKind.i64.max = 9223372036854775807 := by decide
    rw [h1, h2]
    omega
  rcases Nat.eq_zero_or_pos y with h0 | h0
  · subst h0
    obtain ⟨n, a, b, c⟩ := key 0 (by omega)
    exact ⟨0, n, by decide +kernel, a, b, c⟩
  · obtain ⟨E, hE⟩ : ∃ E : Nat, E = 1074 := ⟨_, rfl⟩
    obtain ⟨R, e, hn⟩ := mul_near y 4652007308841189376 E hE h0 (by omega) (by decide) (by decide)
    obtain ⟨R', e', hn'⟩ := mul_near 4831355200913801216 4652007308841189376 E hE (by decide) (by decide) (by decide) (by decide)
    have hc : floatBits .mul .f64 4831355200913801216 4652007308841189376 = some 4876203697187506176 := by decide +kernel
    rw [hc] at e'
    injection e' with e'
    have hm := hn.mono hn' (Nat.two_pow_pos _) (Nat.two_pow_pos _) (Nat.mul_le_mul_right _ (Nat.mul_le_mul_right _ (magR_le (Nat.le_of_lt h))))
    obtain ⟨n, a, b, c⟩ := key (min R infR) (by have := min_mono (c := infR) hm; omega)
    exact ⟨_, n, e, a, b, c⟩
/-- three digits at least. -/
def pad3 (l : List UInt8) : List UInt8 := List.replicate (3 - l.length) 48 ++ l
theorem pad3_thousand : ∀ m : Nat, m < 1000 → (textV (1000 + (m : Int))).drop 1 = pad3 (textV (m : Int)) ∧ (textV (1000 + (m : Int))).length = 4 ∧ 1 ≤ (textV (m : Int)).length ∧ (textV (m : Int)).length ≤ 3 := by decide +kernel
theorem pad3_more (l : List UInt8) (h : l.length < 3) : pad3 (48 :: l) = pad3 l := by
  unfold pad3
  rw [List.length_cons]
  obtain ⟨k, hk⟩ : ∃ k, 3 - l.length = k + 1 := ⟨2 - l.length, by omega⟩
  rw [hk, show 3 - (l.length + 1) = k by omega, List.replicate_succ', List.append_assoc]; rfl
theorem pad3_full (l : List UInt8) (h : 3 ≤ l.length) : pad3 l = l := by
  unfold pad3; rw [show 3 - l.length = 0 by omega]; rfl
end Go.Proofs.Ytbhifhnpcafpjaa
