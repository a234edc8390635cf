/-
  Quotients, sums and products of positive floats keep the order. No program in sight.
-/
import Derived.Test.YtbhifhnpcafpjaaFltM
namespace Go.Proofs.Ytbhifhnpcafpjaa
set_option linter.unusedVariables false
set_option linter.unusedSimpArgs false
open Ieee Go
theorem pos_rung {b : Nat} (h : b ≤ infR) : rung b = b ∧ below b = false := by
  have hi : infR = 9218868437227405312 := rfl
  unfold rung below
  exact ⟨by omega, by rw [show b / 9223372036854775808 = 0 by omega]; rfl⟩
theorem word_pos (R : Nat) : double.word false (min R infR) = min R infR := rfl
/-- a positive float's significand and place. -/
theorem read_pos (b : Nat) (h0 : 0 < b) (h : b < infR) : ∃ m k : Nat, double.read b = .number false m (-1074 + (k : Int)) ∧ m * 2 ^ k = magR b ∧ 0 < m ∧ m < 9007199254740992 := by
  obtain ⟨e1, e2⟩ := pos_rung (Nat.le_of_lt h)
  rw [read_d, e1, e2]
  unfold magR
  by_cases h1 : b < 4503599627370496
  · rw [if_pos h1, if_pos h1]
    exact ⟨b, 0, rfl, by simp, h0, by omega⟩
  · rw [if_neg h1, if_pos h, if_neg h1]
    exact ⟨_, _, rfl, rfl, by omega, by omega⟩
theorem magR_le {r s : Nat} (h : r ≤ s) : magR r ≤ magR s := by
  rcases Nat.lt_or_ge r s with h1 | h1
  · exact Nat.le_of_lt (magR_lt h1)
  · rw [show r = s by omega]; exact Nat.le_refl _
theorem magR_pos {r : Nat} (h : 0 < r) : 0 < magR r := Nat.lt_of_le_of_lt (Nat.zero_le _) (magR_lt h)
theorem int_near (n E : Nat) (hE : E = 1074) (h : 1 ≤ n) : ∃ R, floatOfInt .f64 (n : Int) = min R infR ∧ Near (n * 2 ^ E) 1 R := by
  obtain ⟨R, e, hn⟩ := nearest_near false n 0 (by omega)
  rw [show ((0 : Int) + 1074).toNat = E by omega, show (-1074 - (0 : Int)).toNat = 0 by omega, Nat.pow_zero] at hn
  refine ⟨R, ?_, hn⟩
  have : floatOfInt .f64 (n : Int) = double.nearest (decide ((n : Int) < 0)) n 0 := rfl
  rw [this, decide_eq_false (by omega), e]; rfl
theorem min_mono {a b c : Nat} (h : a ≤ b) : min a c ≤ min b c := by omega
theorem int_mono (a b : Nat) (h : a ≤ b) : floatOfInt .f64 (a : Int) ≤ floatOfInt .f64 (b : Int) := by
  rcases Nat.eq_zero_or_pos a with h0 | h0
  · subst h0
    have : floatOfInt .f64 ((0 : Nat) : Int) = 0 := by decide +kernel
    rw [this]; exact Nat.zero_le _
  · obtain ⟨E, hE⟩ : ∃ E : Nat, E = 1074 := ⟨_, rfl⟩
    obtain ⟨R, e, hn⟩ := int_near a E hE h0
    obtain ⟨R', e', hn'⟩ := int_near b E hE (by omega)
    rw [e, e']
    exact min_mono (hn.mono hn' (by omega) (by omega) (Nat.mul_le_mul_right _ (Nat.mul_le_mul_right _ h)))
theorem int_fin (n : Nat) (h : 1 ≤ n) (h2 : n ≤ 9223372036854775808) : 0 < floatOfInt .f64 (n : Int) ∧ floatOfInt .f64 (n : Int) < infR := by
  have a := int_mono 1 n h
  have b := int_mono n 9223372036854775808 h2
  have e1 : floatOfInt .f64 ((1 : Nat) : Int) = 4607182418800017408 := by decide +kernel
  have e2 : floatOfInt .f64 ((9223372036854775808 : Nat) : Int) = 4890909195324358656 := by decide +kernel
  have hi : infR = 9218868437227405312 := rfl
  omega
theorem mul_near (a o E : Nat) (hE : E = 1074) (a0 : 0 < a) (a1 : a < infR) (o0 : 0 < o) (o1 : o < infR) : ∃ R, floatBits .mul .f64 a o = some (min R infR) ∧ Near (magR a * magR o) (2 ^ E) R := by
  obtain ⟨m, k, e, hm, m0, m1⟩ := read_pos a a0 a1
  obtain ⟨n, j, e', hn, n0, n1⟩ := read_pos o o0 o1
  obtain ⟨R, eR, hR⟩ := nearest_near false (m * n) (-1074 + (k : Int) + (-1074 + (j : Int))) (Nat.mul_ne_zero (by omega) (by omega))
  refine ⟨R, ?_, hR.congr (Nat.two_pow_pos _) (Nat.two_pow_pos _) ?_⟩
  · show ((double.read a).product (double.read o)).map double.write = _
    rw [e, e']
    show some (double.nearest (false ^^ false) (m * n) _) = _
    rw [Bool.xor_self, eR]; rfl
  · rw [← hm, ← hn]
    generalize hs : (-1074 - (-1074 + (k : Int) + (-1074 + (j : Int)))).toNat = s
    generalize hu : (-1074 + (k : Int) + (-1074 + (j : Int)) + 1074).toNat = u
    have e2 : u + E = k + j + s := by omega
    have e3 : 2 ^ u * 2 ^ E = 2 ^ k * 2 ^ j * 2 ^ s := by rw [← Nat.pow_add, ← Nat.pow_add, ← Nat.pow_add, e2]
    calc m * n * 2 ^ u * 2 ^ E = m * n * (2 ^ u * 2 ^ E) := by rw [Nat.mul_assoc]
      _ = m * n * (2 ^ k * 2 ^ j * 2 ^ s) := by rw [e3]
      _ = m * 2 ^ k * (n * 2 ^ j) * 2 ^ s := by
        generalize 2 ^ k = x; generalize 2 ^ j = y; generalize 2 ^ s = z
        simp only [Nat.mul_assoc, Nat.mul_left_comm, Nat.mul_comm]
theorem mul_inf (a : Nat) (a0 : 0 < a) (a1 : a < infR) : floatBits .mul .f64 a infR = some infR := by
  obtain ⟨m, k, e, hm, m0, m1⟩ := read_pos a a0 a1
  show ((double.read a).product (double.read infR)).map double.write = _
  rw [e, show double.read infR = .infinity false by decide +kernel]
  show (if m = 0 then none else some (Datum.infinity (false ^^ false))).map double.write = _
  rw [if_neg (by omega)]; rfl
theorem add_near (q : Nat) (q0 : 0 < q) (q1 : q < infR) : ∃ R, floatBits .add .f64 4607182418800017408 q = some (min R infR) ∧ Near (magR 4607182418800017408 + magR q) 1 R := by
  obtain ⟨m, k, e, hm, m0, m1⟩ := read_pos 4607182418800017408 (by decide) (by decide)
  obtain ⟨n, j, e', hn, n0, n1⟩ := read_pos q q0 q1
  obtain ⟨b, hb, hbk, hbj⟩ : ∃ b : Nat, min (-1074 + (k : Int)) (-1074 + (j : Int)) = -1074 + (b : Int) ∧ b ≤ k ∧ b ≤ j := by
    rcases Nat.le_total k j with h | h
    · exact ⟨k, by omega, by omega, h⟩
    · exact ⟨j, by omega, h, by omega⟩
  have hT : m * 2 ^ (k - b) + n * 2 ^ (j - b) ≠ 0 := by
    have := Nat.mul_pos m0 (Nat.two_pow_pos (k - b)); omega
  obtain ⟨R, eR, hR⟩ := nearest_near false (m * 2 ^ (k - b) + n * 2 ^ (j - b)) (-1074 + (b : Int)) hT
  refine ⟨R, ?_, ?_⟩
  · show ((double.read 4607182418800017408).sum (double.read q)).map double.write = _
    rw [e, e']
    unfold Datum.sum
    dsimp only
    rw [hb, show (-1074 + (k : Int) - (-1074 + (b : Int))).toNat = k - b by omega, show (-1074 + (j : Int) - (-1074 + (b : Int))).toNat = j - b by omega]
    have hs : signed false m (k - b) + signed false n (j - b) = ((m * 2 ^ (k - b) + n * 2 ^ (j - b) : Nat) : Int) := by
      unfold signed
      simp only [Bool.false_eq_true, if_false, Nat.shiftLeft_eq]
      omega
    rw [hs, if_neg (by omega), decide_eq_false (by omega), Int.natAbs_natCast]
    show some (double.nearest false _ _) = _
    rw [eR]; rfl
  · have e1 : (-1074 + (b : Int) + 1074).toNat = b := by omega
    have e2 : (-1074 - (-1074 + (b : Int))).toNat = 0 := by omega
    rw [e1, e2, Nat.pow_zero, Nat.add_mul, Nat.mul_assoc, Nat.mul_assoc, ← Nat.pow_add, ← Nat.pow_add, show k - b + b = k by omega, show j - b + b = j by omega, hm, hn] at hR
    exact hR
theorem add_inf : floatBits .add .f64 4607182418800017408 infR = some infR := by decide +kernel
end Go.Proofs.Ytbhifhnpcafpjaa
