/-
  Rounding to the nearest float keeps the order of numbers. No program in sight.
-/
import Derived.Test.YtbhifhnpcafpjaaFlt2
namespace Go.Proofs.Ytbhifhnpcafpjaa
set_option linter.unusedVariables false
set_option linter.unusedSimpArgs false
open Ieee Go
/-- a rung of 'place' L (above the least) and significand K. -/
theorem magR_form (L K : Nat) (h1 : K ≤ 9007199254740992) (h2 : L = 0 ∨ 4503599627370496 ≤ K) : magR (L * 4503599627370496 + K) = K * 2 ^ L := by
  unfold magR
  by_cases hK : K < 4503599627370496
  · obtain rfl : L = 0 := by omega
    rw [if_pos (by omega)]; simp
  · rw [if_neg (by omega)]
    by_cases hK2 : K = 9007199254740992
    · subst hK2
      rw [show (L * 4503599627370496 + 9007199254740992) % 4503599627370496 = 0 by omega, show (L * 4503599627370496 + 9007199254740992) / 4503599627370496 - 1 = L + 1 by omega, Nat.pow_succ]
      generalize 2 ^ L = p
      omega
    · rw [show (L * 4503599627370496 + K) % 4503599627370496 = K - 4503599627370496 by omega, show (L * 4503599627370496 + K) / 4503599627370496 - 1 = L by omega, show 4503599627370496 + (K - 4503599627370496) = K by omega]
/-- the next one. -/
theorem magR_next (L K : Nat) (h1 : K ≤ 9007199254740992) (h2 : L = 0 ∨ 4503599627370496 ≤ K) : (K + 1) * 2 ^ L ≤ magR (L * 4503599627370496 + K + 1) := by
  by_cases h : K = 9007199254740992
  · subst h
    have e : L * 4503599627370496 + 9007199254740992 + 1 = (L + 1) * 4503599627370496 + 4503599627370497 := by omega
    rw [e, magR_form (L + 1) 4503599627370497 (by omega) (by omega), Nat.pow_succ]
    generalize 2 ^ L = p
    omega
  · rw [show L * 4503599627370496 + K + 1 = L * 4503599627370496 + (K + 1) by omega, magR_form L (K + 1) (by omega) (by omega)]
    exact Nat.le_refl _
/-- the one ahead. -/
theorem magR_prev (L K : Nat) (h0 : 1 ≤ K) (h1 : K ≤ 9007199254740992) (h2 : L = 0 ∨ 4503599627370497 ≤ K) : magR (L * 4503599627370496 + K - 1) = (K - 1) * 2 ^ L := by
  rw [show L * 4503599627370496 + K - 1 = L * 4503599627370496 + (K - 1) by omega]
  exact magR_form L (K - 1) (by omega) (by omega)
/-- R is what a number rounds to: the number is V / W, in the units of the rungs' magnitudes. -/
structure Near (V W R : Nat) : Prop where
  lo : 1 ≤ R → (magR (R - 1) + magR R) * W ≤ 2 * V
  loEq : 1 ≤ R → (magR (R - 1) + magR R) * W = 2 * V → R % 2 = 0
  hi : 2 * V ≤ (magR R + magR (R + 1)) * W
  hiEq : 2 * V = (magR R + magR (R + 1)) * W → R % 2 = 0
/-- the same number, otherwise told. -/
theorem Near.congr {V W V' W' R : Nat} (h : Near V W R) (p1 : 0 < W) (p2 : 0 < W') (e : V * W' = V' * W) : Near V' W' R := by
  have k : ∀ M, M * W' * W = M * W * W' := fun M => Nat.mul_right_comm _ _ _
  have v : 2 * V' * W = 2 * V * W' := by rw [Nat.mul_assoc, Nat.mul_assoc, e]
  refine ⟨fun hr => ?_, fun hr he => ?_, ?_, fun he => ?_⟩
  · refine Nat.le_of_mul_le_mul_right ?_ p1
    rw [k, v]; exact Nat.mul_le_mul_right _ (h.lo hr)
  · refine h.loEq hr (Nat.eq_of_mul_eq_mul_right p2 ?_)
    rw [← k, he, v]
  · refine Nat.le_of_mul_le_mul_right ?_ p1
    rw [k, v]; exact Nat.mul_le_mul_right _ h.hi
  · refine h.hiEq (Nat.eq_of_mul_eq_mul_right p2 ?_)
    rw [← k, ← he, v]
/-- the order of numbers is kept. -/
theorem Near.mono {V V' W W' R R' : Nat} (h : Near V W R) (h' : Near V' W' R') (p1 : 0 < W) (p2 : 0 < W') (hv : V * W' ≤ V' * W) : R ≤ R' := by
  rcases Nat.lt_or_ge R' R with hlt | hge
  · exfalso
    have m1 : magR R' ≤ magR (R - 1) := by
      rcases Nat.lt_or_ge R' (R - 1) with h1 | h1
      · exact Nat.le_of_lt (magR_lt h1)
      · rw [show R - 1 = R' by omega]; exact Nat.le_refl _
    have m2 : magR (R' + 1) ≤ magR R := by
      rcases Nat.lt_or_ge (R' + 1) R with h1 | h1
      · exact Nat.le_of_lt (magR_lt h1)
      · rw [show R = R' + 1 by omega]; exact Nat.le_refl _
    have a := h.lo (by omega)
    have b := h'.hi
    have c1 : (magR (R - 1) + magR R) * W * W' ≤ 2 * V * W' := Nat.mul_le_mul_right _ a
    have c2 : 2 * V' * W ≤ (magR R' + magR (R' + 1)) * W' * W := Nat.mul_le_mul_right _ b
    have c3 : 2 * V * W' ≤ 2 * V' * W := by rw [Nat.mul_assoc, Nat.mul_assoc]; exact Nat.mul_le_mul_left _ hv
    have c4 : (magR R' + magR (R' + 1)) * W' * W ≤ (magR (R - 1) + magR R) * W' * W := Nat.mul_le_mul_right _ (Nat.mul_le_mul_right _ (by omega))
    have e : (magR (R - 1) + magR R) * W' * W = (magR (R - 1) + magR R) * W * W' := Nat.mul_right_comm _ _ _
    have q1 : (magR (R - 1) + magR R) * W * W' = 2 * V * W' := by omega
    have q2 : 2 * V' * W = (magR R' + magR (R' + 1)) * W' * W := by omega
    have q3 : (magR R' + magR (R' + 1)) * W' * W = (magR (R - 1) + magR R) * W' * W := by omega
    have r1 : (magR (R - 1) + magR R) * W = 2 * V := Nat.eq_of_mul_eq_mul_right p2 q1
    have r2 : 2 * V' = (magR R' + magR (R' + 1)) * W' := Nat.eq_of_mul_eq_mul_right p1 q2
    have r3 : magR R' + magR (R' + 1) = magR (R - 1) + magR R := Nat.eq_of_mul_eq_mul_right p2 (Nat.eq_of_mul_eq_mul_right p1 q3)
    have e1 := h.loEq (by omega) r1
    have e2 := h'.hiEq r2
    have e3 : R' + 1 = R := magR_inj (by omega)
    omega
  · exact hge
/-- rounding a whole number: to even. -/
theorem cut_even (n d : Nat) (s : Bool) : (2 * (Toward.even.cut s n d) * 2 ^ d ≤ 2 * n + 2 ^ d ∧ 2 * n ≤ 2 * (Toward.even.cut s n d) * 2 ^ d + 2 ^ d) ∧
    (2 * (Toward.even.cut s n d) * 2 ^ d = 2 * n + 2 ^ d → Toward.even.cut s n d % 2 = 0) ∧ (2 * n = 2 * (Toward.even.cut s n d) * 2 ^ d + 2 ^ d → Toward.even.cut s n d % 2 = 0) ∧
    n / 2 ^ d ≤ Toward.even.cut s n d ∧ Toward.even.cut s n d ≤ n / 2 ^ d + 1 := by
  unfold Toward.cut
  dsimp only
  rw [Nat.one_shiftLeft]
  by_cases h : d ≤ n.log2 + 2
  · rw [Nat.min_eq_left h]
    have hp := Nat.two_pow_pos d
    have hdm := Nat.div_add_mod n (2 ^ d)
    have hm := Nat.mod_lt n hp
    generalize hg : 2 ^ d = g at *
    generalize hq : n / g = q at *
    generalize hr : n % g = r at *
    have eqn : q * g + r = n := by rw [Nat.mul_comm]; exact hdm
    by_cases c1 : g < 2 * r
    · rw [decide_eq_true c1, Bool.true_or]
      show (2 * (q + 1) * g ≤ _ ∧ _) ∧ _
      have x : 2 * (q + 1) * g = 2 * (q * g) + 2 * g := by rw [Nat.mul_assoc, Nat.add_mul]; omega
      simp only [Bool.toNat_true]
      rw [x]
      omega
    · rw [decide_eq_false c1, Bool.false_or]
      by_cases c2 : g = 2 * r ∧ q % 2 = 1
      · rw [show (g == 2 * r && q % 2 == 1) = true by rw [Bool.and_eq_true, beq_iff_eq, beq_iff_eq]; exact c2]
        have x : 2 * (q + 1) * g = 2 * (q * g) + 2 * g := by rw [Nat.mul_assoc, Nat.add_mul]; omega
        simp only [Bool.toNat_true]
        rw [x]
        omega
      · rw [show (g == 2 * r && q % 2 == 1) = false by rw [Bool.eq_false_iff]; intro hh; rw [Bool.and_eq_true, beq_iff_eq, beq_iff_eq] at hh; exact c2 hh]
        have x : 2 * (q + 0) * g = 2 * (q * g) := by rw [Nat.mul_assoc, Nat.add_zero]
        simp only [Bool.toNat_false]
        rw [x]
        omega
  · rw [Nat.min_eq_right (by omega)]
    have hlt : n < 2 ^ (n.log2 + 1) := Nat.lt_log2_self
    have e2 : 2 ^ (n.log2 + 2) = 2 * 2 ^ (n.log2 + 1) := by rw [Nat.pow_succ, Nat.mul_comm]
    have hle : 2 ^ (n.log2 + 2) ≤ 2 ^ d := Nat.pow_le_pow_right (by omega) (by omega)
    have q0 : n / 2 ^ (n.log2 + 2) = 0 := Nat.div_eq_of_lt (by omega)
    have r0 : n % 2 ^ (n.log2 + 2) = n := Nat.mod_eq_of_lt (by omega)
    have q1 : n / 2 ^ d = 0 := Nat.div_eq_of_lt (by omega)
    rw [q0, r0, q1, decide_eq_false (by omega), Bool.false_or, show (2 ^ (n.log2 + 2) == 2 * n && 0 % 2 == 1) = false by simp]
    simp only [Bool.toNat_false]
    omega
theorem near_exact (L K : Nat) (h1 : K < 9007199254740992) (h2 : L = 0 ∨ 4503599627370496 ≤ K) : Near (K * 2 ^ L) 1 (L * 4503599627370496 + K) := by
  have e := magR_form L K (by omega) h2
  refine ⟨fun h => ?_, fun h he => ?_, ?_, fun he => ?_⟩
  · have := magR_lt (show L * 4503599627370496 + K - 1 < L * 4503599627370496 + K by omega)
    rw [Nat.mul_one]; omega
  · have := magR_lt (show L * 4503599627370496 + K - 1 < L * 4503599627370496 + K by omega)
    rw [Nat.mul_one] at he; omega
  · have := magR_lt (show L * 4503599627370496 + K < L * 4503599627370496 + K + 1 by omega)
    rw [Nat.mul_one]; omega
  · have := magR_lt (show L * 4503599627370496 + K < L * 4503599627370496 + K + 1 by omega)
    rw [Nat.mul_one] at he; omega
theorem near_cut (L K V G W : Nat) (hW : 0 < W) (hG : G = 2 ^ L * W) (h1 : K ≤ 9007199254740992) (h2 : L = 0 ∨ 4503599627370496 ≤ K) (a : 2 * K * G ≤ 2 * V + G) (b : 2 * V ≤ 2 * K * G + G) (ae : 2 * K * G = 2 * V + G → K % 2 = 0) (be : 2 * V = 2 * K * G + G → K % 2 = 0) (lo : L ≠ 0 → 4503599627370496 * G ≤ V) :
    Near V W (L * 4503599627370496 + K) := by
  have e := magR_form L K h1 h2
  have eG : magR (L * 4503599627370496 + K) * W = K * G := by rw [e, hG, Nat.mul_assoc]
  have hn : (K + 1) * G ≤ magR (L * 4503599627370496 + K + 1) * W := by
    rw [hG, ← Nat.mul_assoc]; exact Nat.mul_le_mul_right _ (magR_next L K h1 h2)
  have hp : 0 < G := by rw [hG]; exact Nat.mul_pos (Nat.two_pow_pos _) hW
  have k1 : (K + 1) * G = K * G + G := by rw [Nat.add_mul, Nat.one_mul]
  have k2 : 2 * K * G = 2 * (K * G) := Nat.mul_assoc _ _ _
  have par : K % 2 = 0 → (L * 4503599627370496 + K) % 2 = 0 := fun h => by omega
  rw [k2] at a b ae be
  have low : 1 ≤ L * 4503599627370496 + K → (magR (L * 4503599627370496 + K - 1) * W + K * G < 2 * V) ∨ (magR (L * 4503599627370496 + K - 1) * W + G = K * G) := fun h => by
    by_cases hc : L = 0 ∨ 4503599627370497 ≤ K
    · right
      have h0 : 1 ≤ K := by omega
      rw [magR_prev L K h0 h1 hc, Nat.mul_assoc, ← hG]
      obtain ⟨j, rfl⟩ : ∃ j, K = j + 1 := ⟨K - 1, by omega⟩
      rw [Nat.add_sub_cancel, Nat.add_mul, Nat.one_mul]
    · left
      have hk : K = 4503599627370496 := by omega
      have hl : L ≠ 0 := by omega
      have h3 := lo hl
      have h4 := magR_lt (show L * 4503599627370496 + K - 1 < L * 4503599627370496 + K by omega)
      have h5 := Nat.mul_lt_mul_of_pos_right h4 hW
      rw [eG] at h5
      rw [hk] at h5 ⊢
      omega
  refine ⟨fun h => ?_, fun h he => ?_, ?_, fun he => ?_⟩
  · rw [Nat.add_mul, eG]
    rcases low h with l | l <;> omega
  · rw [Nat.add_mul, eG] at he
    rcases low h with l | l
    · omega
    · exact par (ae (by omega))
  · rw [Nat.add_mul, eG]; omega
  · rw [Nat.add_mul, eG] at he
    exact par (be (by omega))
/-- WHAT A NUMBER ROUNDS TO. -/
theorem nearest_near (s : Bool) (m : Nat) (p : Int) (hm : m ≠ 0) : ∃ R, double.nearest s m p = double.word s (min R infR) ∧ Near (m * 2 ^ (p + 1074).toNat) (2 ^ (-1074 - p).toNat) R := by
  unfold Format.nearest
  rw [if_neg hm, infRung_d, binade_d, least_d]
  dsimp only
  have hlo := Nat.log2_self_le hm
  have hhi : m < 2 ^ (m.log2 + 1) := Nat.lt_log2_self
  generalize m.log2 = g at *
  have hf : ((double.fractionBits : Nat) : Int) = 52 := rfl
  rw [hf]
  generalize hlast : max (p + (g : Int) - 52) (-1074) = last
  have l1 : -1074 ≤ last := by omega
  have l2 : p + (g : Int) - 52 ≤ last := by omega
  have l3 : last = -1074 ∨ last = p + (g : Int) - 52 := by omega
  obtain ⟨L, hL⟩ : ∃ L : Nat, last = -1074 + (L : Int) := ⟨(last + 1074).toNat, by omega⟩
  have eL : (last - -1074).toNat = L := by omega
  rw [eL]
  by_cases hc : last ≤ p
  · obtain ⟨k, hk⟩ : ∃ k : Nat, p = last + (k : Int) := ⟨(p - last).toNat, by omega⟩
    rw [show (p - last).toNat = k by omega, show (last - p).toNat = 0 by omega, show (-1074 - p).toNat = 0 by omega, show (p + 1074).toNat = k + L by omega, Nat.shiftLeft_eq]
    have hce := cut_even (m * 2 ^ k) 0 s
    rw [Nat.pow_zero] at hce
    have e : Toward.even.cut s (m * 2 ^ k) 0 = m * 2 ^ k := by omega
    rw [e, Nat.pow_add, ← Nat.mul_assoc, Nat.pow_zero]
    have hk52 : k + g ≤ 52 := by omega
    have b1 : m * 2 ^ k < 9007199254740992 := by
      have h1 : m * 2 ^ k < 2 ^ (g + 1) * 2 ^ k := Nat.mul_lt_mul_of_pos_right hhi (Nat.two_pow_pos _)
      rw [← Nat.pow_add] at h1
      exact Nat.lt_of_lt_of_le h1 (Nat.pow_le_pow_right (n := 2) (by omega) (show g + 1 + k ≤ 53 by omega))
    have b2 : L = 0 ∨ 4503599627370496 ≤ m * 2 ^ k := by
      rcases Nat.eq_zero_or_pos L with h0 | h0
      · exact .inl h0
      · right
        have hg : g + k = 52 := by omega
        have h1 : 2 ^ g * 2 ^ k ≤ m * 2 ^ k := Nat.mul_le_mul_right _ hlo
        rw [← Nat.pow_add, hg] at h1
        exact h1
    exact ⟨_, rfl, near_exact L _ b1 b2⟩
  · obtain ⟨d, hd⟩ : ∃ d : Nat, last = p + (d : Int) := ⟨(last - p).toNat, by omega⟩
    rw [show (p - last).toNat = 0 by omega, show (last - p).toNat = d by omega, Nat.shiftLeft_zero]
    obtain ⟨⟨a, b⟩, ae, be, c1, c2⟩ := cut_even m d s
    generalize Toward.even.cut s m d = K at *
    obtain ⟨e, s', he, hs', hes⟩ : ∃ e s' : Nat, (p + 1074).toNat = e ∧ (-1074 - p).toNat = s' ∧ d + e = L + s' := ⟨_, _, rfl, rfl, by omega⟩
    rw [he, hs']
    have hp := Nat.two_pow_pos d
    have hpe := Nat.two_pow_pos e
    have b1 : K ≤ 9007199254740992 := by
      have h1 : m / 2 ^ d < 9007199254740992 := by
        rw [Nat.div_lt_iff_lt_mul hp]
        have h2 : 2 ^ (g + 1) ≤ 2 ^ (53 + d) := Nat.pow_le_pow_right (by omega) (by omega)
        rw [Nat.pow_add 2 53 d] at h2
        exact Nat.lt_of_lt_of_le hhi h2
      omega
    have lo : L ≠ 0 → 4503599627370496 * 2 ^ d ≤ m := fun h0 => by
      have hg : g = 52 + d := by omega
      rw [hg, Nat.pow_add] at hlo
      exact hlo
    have b2 : L = 0 ∨ 4503599627370496 ≤ K := by
      rcases Nat.eq_zero_or_pos L with h0 | h0
      · exact .inl h0
      · right
        have h1 := (Nat.le_div_iff_mul_le hp).2 (lo (by omega))
        omega
    have hG : 2 ^ d * 2 ^ e = 2 ^ L * 2 ^ s' := by rw [← Nat.pow_add, ← Nat.pow_add, hes]
    refine ⟨_, rfl, near_cut L K (m * 2 ^ e) (2 ^ d * 2 ^ e) (2 ^ s') (Nat.two_pow_pos _) hG b1 b2 ?_ ?_ ?_ ?_ ?_⟩
    · have := Nat.mul_le_mul_right (2 ^ e) a
      rw [Nat.add_mul] at this
      simpa [Nat.mul_assoc] using this
    · have := Nat.mul_le_mul_right (2 ^ e) b
      rw [Nat.add_mul] at this
      simpa [Nat.mul_assoc] using this
    · intro h
      refine ae (Nat.eq_of_mul_eq_mul_right hpe ?_)
      rw [Nat.add_mul]
      simpa [Nat.mul_assoc] using h
    · intro h
      refine be (Nat.eq_of_mul_eq_mul_right hpe ?_)
      rw [Nat.add_mul]
      simpa [Nat.mul_assoc] using h
    · intro h0
      have := Nat.mul_le_mul_right (2 ^ e) (lo h0)
      simpa [Nat.mul_assoc] using this
end Go.Proofs.Ytbhifhnpcafpjaa
