/-
  Floats of 64 bits as words: their sign and rung; the order of IEEE 754 as the order of whole numbers. No program in sight.
-/
import Derived.Laws.FloatBits
namespace Go.Proofs.Ytbhifhnpcafpjaa
set_option linter.unusedVariables false
set_option linter.unusedSimpArgs false
open Ieee
/-- the word's rung: all its bits but the sign. -/
def rung (b : Nat) : Nat := b % 9223372036854775808
def below (b : Nat) : Bool := b / 9223372036854775808 % 2 == 1
def infR : Nat := 9218868437227405312
def nanB (b : Nat) : Bool := decide (infR < rung b)
/-- where a float that is no NaN stands: its rung, below nought for a negative one; the two noughts stand at 0. -/
def posZ (b : Nat) : Int := if below b then -(rung b : Int) else (rung b : Int)
theorem infRung_d : double.infRung = infR := by decide
theorem binade_d : double.binade = 4503599627370496 := by decide
theorem sign_d : double.signWeight = 9223372036854775808 := by decide
theorem least_d : double.leastPlace = -1074 := by decide
/-- a rung's magnitude in units of the least place. -/
def magR (r : Nat) : Nat := if r < 4503599627370496 then r else (4503599627370496 + r % 4503599627370496) * 2 ^ (r / 4503599627370496 - 1)
theorem magR_step (r : Nat) : magR r < magR (r + 1) := by
  unfold magR
  by_cases h1 : r + 1 < 4503599627370496
  · rw [if_pos (by omega), if_pos h1]; omega
  · by_cases h2 : r < 4503599627370496
    · obtain rfl : r = 4503599627370495 := by omega
      decide
    · rw [if_neg h2, if_neg h1]
      by_cases h3 : (r + 1) % 4503599627370496 = 0
      · have e1 : (r + 1) / 4503599627370496 = r / 4503599627370496 + 1 := by omega
        have e2 : r % 4503599627370496 = 4503599627370495 := by omega
        obtain ⟨k, hk⟩ : ∃ k, r / 4503599627370496 = k + 1 := ⟨r / 4503599627370496 - 1, by omega⟩
        rw [e1, e2, h3, hk, show k + 1 + 1 - 1 = k + 1 from rfl, show k + 1 - 1 = k from rfl, Nat.pow_succ]
        have hp : 0 < 2 ^ k := Nat.two_pow_pos k
        generalize 2 ^ k = p at *
        omega
      · have e1 : (r + 1) / 4503599627370496 = r / 4503599627370496 := by omega
        have e2 : (r + 1) % 4503599627370496 = r % 4503599627370496 + 1 := by omega
        rw [e1, e2]
        exact Nat.mul_lt_mul_of_pos_right (by omega) (Nat.two_pow_pos _)
theorem magR_lt {r s : Nat} (h : r < s) : magR r < magR s := by
  induction s with
  | zero => omega
  | succ s ih =>
    rcases Nat.lt_succ_iff_lt_or_eq.1 h with h | rfl
    · exact Nat.lt_trans (ih h) (magR_step s)
    · exact magR_step r
theorem magR_iff {r s : Nat} : magR r < magR s ↔ r < s :=
  ⟨fun h => by
    rcases Nat.lt_trichotomy r s with h1 | h1 | h1
    · exact h1
    · subst h1; omega
    · have := magR_lt h1; omega, magR_lt⟩
theorem magR_inj {r s : Nat} (h : magR r = magR s) : r = s := by
  rcases Nat.lt_trichotomy r s with h1 | h1 | h1
  · have := magR_lt h1; omega
  · exact h1
  · have := magR_lt h1; omega
/-- what a word stands for, by sign and rung. -/
theorem read_d (b : Nat) : double.read b = (if rung b < 4503599627370496 then Datum.number (below b) (rung b) (-1074) else if rung b < infR then .number (below b) (4503599627370496 + rung b % 4503599627370496) (-1074 + ((rung b / 4503599627370496 - 1 : Nat) : Int)) else if rung b = infR then .infinity (below b) else .nan (below b) (rung b - infR)) := by
  unfold Format.read
  rw [sign_d, binade_d, infRung_d, least_d]
  rfl
/-- the number's magnitude: 'mag * 2 ^ (place + 1074)'. -/
theorem read_num (b : Nat) (h : rung b < infR) : ∃ m k : Nat, double.read b = .number (below b) m (-1074 + (k : Int)) ∧ m * 2 ^ k = magR (rung b) := by
  rw [read_d]
  unfold magR
  by_cases h1 : rung b < 4503599627370496
  · rw [if_pos h1, if_pos h1]
    exact ⟨rung b, 0, rfl, by simp⟩
  · rw [if_neg h1, if_pos h, if_neg h1]
    exact ⟨_, _, rfl, rfl⟩
theorem compare_mul (x y : Int) (p : Nat) (hp : 0 < p) : compare (x * p) (y * p) = compare x y := by
  have hp' : (0 : Int) < (p : Int) := by omega
  simp only [compare, compareOfLessAndEq]
  by_cases h1 : x < y
  · rw [if_pos (Int.mul_lt_mul_of_pos_right h1 hp'), if_pos h1]
  · rw [if_neg (fun h => h1 (Int.lt_of_mul_lt_mul_right h (by omega))), if_neg h1]
    by_cases h2 : x = y
    · subst h2; rw [if_pos rfl, if_pos rfl]
    · rw [if_neg (fun h => h2 (Int.eq_of_mul_eq_mul_right (by omega) h)), if_neg h2]
theorem compare_iff {x y u v : Int} (h1 : x < y ↔ u < v) (h2 : x = y ↔ u = v) : compare x y = compare u v := by
  simp only [compare, compareOfLessAndEq]
  by_cases a : x < y
  · rw [if_pos a, if_pos (h1.1 a)]
  · rw [if_neg a, if_neg (fun h => a (h1.2 h))]
    by_cases b : x = y
    · rw [if_pos b, if_pos (h2.1 b)]
    · rw [if_neg b, if_neg (fun h => b (h2.2 h))]
theorem signed_mul (s : Bool) (m k p : Nat) : signed s m k * ((2 ^ p : Nat) : Int) = if s then -((m * 2 ^ (k + p) : Nat) : Int) else ((m * 2 ^ (k + p) : Nat) : Int) := by
  have e : ((m <<< k : Nat) : Int) * ((2 ^ p : Nat) : Int) = ((m * 2 ^ (k + p) : Nat) : Int) := by
    rw [← Int.natCast_mul, Nat.shiftLeft_eq, Nat.mul_assoc, ← Nat.pow_add]
  unfold signed
  cases s
  · simpa using e
  · simp only [if_true]
    rw [Int.neg_mul, e]
theorem posZ_cmp (s t : Bool) (r q : Nat) : compare (if s then -((magR r : Nat) : Int) else (magR r : Int)) (if t then -((magR q : Nat) : Int) else (magR q : Int)) = compare (if s then -(r : Int) else (r : Int)) (if t then -(q : Int) else (q : Int)) := by
  have z : magR 0 = 0 := by decide
  have l : ∀ n, n ≤ magR n := fun n => by
    induction n with
    | zero => omega
    | succ n ih => have := magR_step n; omega
  have lr := l r
  have lq := l q
  have hi := @magR_iff r q
  have hj := @magR_iff q r
  have e0 : magR r = 0 → r = 0 := fun h => magR_inj (h.trans z.symm)
  have e1 : magR q = 0 → q = 0 := fun h => magR_inj (h.trans z.symm)
  have e2 : r = 0 → magR r = 0 := fun h => by rw [h, z]
  have e3 : q = 0 → magR q = 0 := fun h => by rw [h, z]
  have e4 : magR r = magR q ↔ r = q := ⟨magR_inj, fun h => by rw [h]⟩
  generalize magR r = a at *
  generalize magR q = c at *
  cases s <;> cases t <;> simp only [if_true, if_false, Bool.false_eq_true] <;> refine compare_iff ?_ ?_ <;> omega
/-- THE ORDER of two words. -/
theorem order_d (a b : Nat) (ha : rung a ≤ infR) (hb : rung b ≤ infR) : double.order a b = some (compare (posZ a) (posZ b)) := by
  unfold Format.order
  rcases Nat.lt_or_ge (rung a) infR with h1 | h1
  · obtain ⟨m, i, ea, em⟩ := read_num a h1
    rcases Nat.lt_or_ge (rung b) infR with h2 | h2
    · obtain ⟨n, j, eb, en⟩ := read_num b h2
      rw [ea, eb]
      unfold Datum.order
      dsimp only
      congr 1
      obtain ⟨k, hk⟩ : ∃ k : Nat, min (-1074 + (i : Int)) (-1074 + (j : Int)) = -1074 + (k : Int) ∧ k ≤ i ∧ k ≤ j := by
        rcases Nat.le_total i j with h | h
        · exact ⟨i, by omega, by omega, h⟩
        · exact ⟨j, by omega, h, by omega⟩
      rw [hk.1, show (-1074 + (i : Int) - (-1074 + (k : Int))).toNat = i - k by omega, show (-1074 + (j : Int) - (-1074 + (k : Int))).toNat = j - k by omega]
      rw [← compare_mul _ _ (2 ^ k) (Nat.two_pow_pos k), signed_mul, signed_mul, show i - k + k = i by omega, show j - k + k = j by omega, em, en]
      exact posZ_cmp _ _ _ _
    · have e2 : rung b = infR := by omega
      have eb : double.read b = .infinity (below b) := by
        rw [read_d, e2, if_neg (by decide), if_neg (by decide), if_pos rfl]
      rw [ea, eb]
      unfold Datum.order posZ
      rw [e2]
      dsimp only
      cases below b <;> cases below a <;> simp only [if_true, if_false, Bool.false_eq_true, Option.some.injEq, compare, compareOfLessAndEq]
      all_goals
        first
          | rw [if_pos (by omega)]
          | rw [if_neg (by omega), if_neg (by omega)]
  · have e1 : rung a = infR := by omega
    have ea : double.read a = .infinity (below a) := by
      rw [read_d, e1, if_neg (by decide), if_neg (by decide), if_pos rfl]
    rcases Nat.lt_or_ge (rung b) infR with h2 | h2
    · obtain ⟨n, j, eb, en⟩ := read_num b h2
      rw [ea, eb]
      unfold Datum.order posZ
      rw [e1]
      dsimp only
      cases below a <;> cases below b <;> simp only [if_true, if_false, Bool.false_eq_true, Option.some.injEq, compare, compareOfLessAndEq]
      all_goals
        first
          | rw [if_pos (by omega)]
          | rw [if_neg (by omega), if_neg (by omega)]
    · have e2 : rung b = infR := by omega
      have eb : double.read b = .infinity (below b) := by
        rw [read_d, e2, if_neg (by decide), if_neg (by decide), if_pos rfl]
      rw [ea, eb]
      unfold Datum.order posZ
      rw [e1, e2]
      dsimp only
      cases below a <;> cases below b <;> decide
theorem order_nan (a b : Nat) (h : infR < rung a ∨ infR < rung b) : double.order a b = none := by
  have nan : ∀ c, infR < rung c → double.read c = .nan (below c) (rung c - infR) := fun c hc => by
    have : infR = 9218868437227405312 := rfl
    rw [read_d, if_neg (by omega), if_neg (by omega), if_neg (by omega)]
  unfold Format.order
  rcases h with h | h
  · rw [nan a h]; rfl
  · rw [nan b h]
    cases double.read a <;> rfl
theorem order_any (a b : Nat) : double.order a b = if infR < rung a ∨ infR < rung b then none else some (compare (posZ a) (posZ b)) := by
  by_cases h : infR < rung a ∨ infR < rung b
  · rw [if_pos h, order_nan a b h]
  · rw [if_neg h, order_d a b (by omega) (by omega)]
/-- a float's kind, from 0 (the infinity below) to 6 (no number). -/
def kindN (b : Nat) : Int := if infR < rung b then 6 else if rung b = infR then (if below b then 0 else 5) else if rung b = 0 then (if below b then 2 else 3) else if below b then 1 else 4
/-- where a float stands among all. -/
def placeI (b : Nat) : Int := if infR < rung b then 9223372036854775807 else if below b then -(rung b : Int) - 1 else (rung b : Int)
theorem cmp_lt (x y : Int) : (some (compare x y) == some Ordering.lt) = decide (x < y) := by
  simp only [compare, compareOfLessAndEq]
  by_cases a : x < y
  · rw [if_pos a, decide_eq_true a]; rfl
  · rw [if_neg a, decide_eq_false a]
    split <;> rfl
theorem cmp_gt (x y : Int) : (some (compare x y) == some Ordering.gt) = decide (y < x) := by
  simp only [compare, compareOfLessAndEq]
  by_cases a : x < y
  · rw [if_pos a, decide_eq_false (by omega)]; rfl
  · rw [if_neg a]
    by_cases b : x = y
    · rw [if_pos b, decide_eq_false (by omega)]; rfl
    · rw [if_neg b, decide_eq_true (by omega)]; rfl
theorem cmp_eq (x y : Int) : (some (compare x y) == some Ordering.eq) = decide (x = y) := by
  simp only [compare, compareOfLessAndEq]
  by_cases a : x < y
  · rw [if_pos a, decide_eq_false (by omega)]; rfl
  · rw [if_neg a]
    by_cases b : x = y
    · rw [if_pos b, decide_eq_true b]; rfl
    · rw [if_neg b, decide_eq_false b]; rfl
theorem lt_d (a b : Nat) : (double.order a b == some Ordering.lt) = (decide (rung a ≤ infR) && decide (rung b ≤ infR) && decide (posZ a < posZ b)) := by
  rw [order_any]
  by_cases h : infR < rung a ∨ infR < rung b
  · rw [if_pos h]
    rcases h with h | h
    · rw [decide_eq_false (p := rung a ≤ infR) (by omega)]; rfl
    · rw [decide_eq_false (p := rung b ≤ infR) (by omega)]; simp
  · rw [if_neg h, cmp_lt, decide_eq_true (p := rung a ≤ infR) (by omega), decide_eq_true (p := rung b ≤ infR) (by omega)]; rfl
theorem gt_d (a b : Nat) : (double.order a b == some Ordering.gt) = (decide (rung a ≤ infR) && decide (rung b ≤ infR) && decide (posZ b < posZ a)) := by
  rw [order_any]
  by_cases h : infR < rung a ∨ infR < rung b
  · rw [if_pos h]
    rcases h with h | h
    · rw [decide_eq_false (p := rung a ≤ infR) (by omega)]; rfl
    · rw [decide_eq_false (p := rung b ≤ infR) (by omega)]; simp
  · rw [if_neg h, cmp_gt, decide_eq_true (p := rung a ≤ infR) (by omega), decide_eq_true (p := rung b ≤ infR) (by omega)]; rfl
theorem self_d (b : Nat) : (double.order b b != some Ordering.eq) = decide (infR < rung b) := by
  rw [order_any]
  by_cases h : infR < rung b
  · rw [if_pos (.inl h), decide_eq_true h]; rfl
  · rw [if_neg (by omega), decide_eq_false h]
    show (!(some (compare (posZ b) (posZ b)) == some Ordering.eq)) = false
    rw [cmp_eq, decide_eq_true rfl]; rfl
theorem kind_cases (b : Nat) : (kindN b = 6 ∧ 9218868437227405312 < rung b ∧ placeI b = 9223372036854775807) ∨ (kindN b = 0 ∧ rung b = 9218868437227405312 ∧ placeI b = -9218868437227405313 ∧ posZ b = -9218868437227405312) ∨
    (kindN b = 5 ∧ rung b = 9218868437227405312 ∧ placeI b = 9218868437227405312 ∧ posZ b = 9218868437227405312) ∨ (kindN b = 2 ∧ rung b = 0 ∧ placeI b = -1 ∧ posZ b = 0) ∨ (kindN b = 3 ∧ rung b = 0 ∧ placeI b = 0 ∧ posZ b = 0) ∨
    (kindN b = 1 ∧ 0 < rung b ∧ rung b < 9218868437227405312 ∧ placeI b = -(rung b : Int) - 1 ∧ posZ b = -(rung b : Int)) ∨ (kindN b = 4 ∧ 0 < rung b ∧ rung b < 9218868437227405312 ∧ placeI b = (rung b : Int) ∧ posZ b = (rung b : Int)) := by
  unfold kindN placeI posZ
  rw [show infR = 9218868437227405312 from rfl]
  by_cases h1 : 9218868437227405312 < rung b
  · rw [if_pos h1, if_pos h1]; exact .inl ⟨rfl, h1, rfl⟩
  · rw [if_neg h1, if_neg h1]
    by_cases h2 : rung b = 9218868437227405312
    · rw [if_pos h2, h2]
      cases below b
      · exact .inr (.inr (.inl ⟨rfl, rfl, rfl, rfl⟩))
      · exact .inr (.inl ⟨rfl, rfl, rfl, rfl⟩)
    · rw [if_neg h2]
      by_cases h3 : rung b = 0
      · rw [if_pos h3, h3]
        cases below b
        · exact .inr (.inr (.inr (.inr (.inl ⟨rfl, rfl, rfl, rfl⟩))))
        · exact .inr (.inr (.inr (.inl ⟨rfl, rfl, rfl, rfl⟩)))
      · rw [if_neg h3]
        cases below b
        · exact .inr (.inr (.inr (.inr (.inr (.inr ⟨rfl, by omega, by omega, rfl, rfl⟩)))))
        · exact .inr (.inr (.inr (.inr (.inr (.inl ⟨rfl, by omega, by omega, rfl, rfl⟩)))))
theorem kind_range (b : Nat) : 0 ≤ kindN b ∧ kindN b ≤ 6 := by
  have := kind_cases b
  omega
/-- a float ahead of another, as the program has it. -/
def lessB (a b : Nat) : Bool := if kindN a = kindN b then double.order a b == some Ordering.lt else decide (kindN a < kindN b)
theorem lessB_eq (a b : Nat) : lessB a b = decide (placeI a < placeI b) := by
  have ra : rung a < 9223372036854775808 := Nat.mod_lt _ (by omega)
  have rb : rung b < 9223372036854775808 := Nat.mod_lt _ (by omega)
  have ka := kind_cases a
  have kb := kind_cases b
  have h : lessB a b = true ↔ placeI a < placeI b := by
    unfold lessB
    by_cases hk : kindN a = kindN b
    · rw [if_pos hk, lt_d]
      simp only [Bool.and_eq_true, decide_eq_true_eq]
      rw [show infR = 9218868437227405312 from rfl]
      rcases ka with ka | ka | ka | ka | ka | ka | ka <;> rcases kb with kb | kb | kb | kb | kb | kb | kb <;> omega
    · rw [if_neg hk, decide_eq_true_eq]
      rcases ka with ka | ka | ka | ka | ka | ka | ka <;> rcases kb with kb | kb | kb | kb | kb | kb | kb <;> omega
  rw [Bool.eq_iff_iff, h, decide_eq_true_eq]
theorem same_kind (a b : Nat) (h : placeI a = placeI b) : kindN a = kindN b := by
  have ra : rung a < 9223372036854775808 := Nat.mod_lt _ (by omega)
  have rb : rung b < 9223372036854775808 := Nat.mod_lt _ (by omega)
  have ka := kind_cases a
  have kb := kind_cases b
  rcases ka with ka | ka | ka | ka | ka | ka | ka <;> rcases kb with kb | kb | kb | kb | kb | kb | kb <;> omega
theorem below_iff (b : Nat) (hb : b < 18446744073709551616) : below b = true ↔ b / 9223372036854775808 = 1 := by
  unfold below; rw [beq_iff_eq]; omega
theorem kindN_of (b : Nat) (hb : b < 18446744073709551616) : kindN b = if b / 4503599627370496 % 2048 = 2047 then (if b % 4503599627370496 = 0 then (if b / 9223372036854775808 = 1 then 0 else 5) else 6) else if b / 4503599627370496 % 2048 = 0 ∧ b % 4503599627370496 = 0 then (if b / 9223372036854775808 = 1 then 2 else 3) else if b / 9223372036854775808 = 1 then 1 else 4 := by
  have hs := below_iff b hb
  unfold kindN rung
  rw [show infR = 9218868437227405312 from rfl]
  by_cases h0 : b / 9223372036854775808 = 1
  · rw [hs.2 h0]
    simp only [if_pos h0, if_true]
    by_cases h1 : b / 4503599627370496 % 2048 = 2047
    · rw [if_pos h1]
      by_cases h2 : b % 4503599627370496 = 0
      · rw [if_pos h2, if_neg (by omega), if_pos (by omega)]
      · rw [if_neg h2, if_pos (by omega)]
    · rw [if_neg h1, if_neg (by omega), if_neg (by omega)]
      by_cases h2 : b / 4503599627370496 % 2048 = 0 ∧ b % 4503599627370496 = 0
      · rw [if_pos h2, if_pos (by omega)]
      · rw [if_neg h2, if_neg (by omega)]
  · have e : below b = false := by
      cases h : below b with
      | false => rfl
      | true => exact absurd (hs.1 h) h0
    rw [e]
    simp only [if_neg h0, Bool.false_eq_true, if_false]
    by_cases h1 : b / 4503599627370496 % 2048 = 2047
    · rw [if_pos h1]
      by_cases h2 : b % 4503599627370496 = 0
      · rw [if_pos h2, if_neg (by omega), if_pos (by omega)]
      · rw [if_neg h2, if_pos (by omega)]
    · rw [if_neg h1, if_neg (by omega), if_neg (by omega)]
      by_cases h2 : b / 4503599627370496 % 2048 = 0 ∧ b % 4503599627370496 = 0
      · rw [if_pos h2, if_pos (by omega)]
      · rw [if_neg h2, if_neg (by omega)]
theorem placeI_of (b : Nat) (hb : b < 18446744073709551616) (hk : kindN b ≠ 6) : placeI b = if b / 9223372036854775808 = 1 then -((b % 9223372036854775808 : Nat) : Int) - 1 else (b : Int) := by
  have hs := below_iff b hb
  have hc := kind_cases b
  unfold placeI
  rw [show infR = 9218868437227405312 from rfl, if_neg (by omega)]
  by_cases h0 : b / 9223372036854775808 = 1
  · rw [hs.2 h0, if_pos h0]; rfl
  · have e : below b = false := by
      cases h : below b with
      | false => rfl
      | true => exact absurd (hs.1 h) h0
    rw [e, if_neg h0]
    unfold rung
    simp only [Bool.false_eq_true, if_false]
    omega
end Go.Proofs.Ytbhifhnpcafpjaa
