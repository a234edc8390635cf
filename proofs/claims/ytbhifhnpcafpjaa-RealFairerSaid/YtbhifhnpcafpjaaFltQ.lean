/-
  Quotients of positive floats: rounded to the nearest; and what Accept keeps. No program in sight.
-/
import Derived.Test.YtbhifhnpcafpjaaFltN
namespace Go.Proofs.Ytbhifhnpcafpjaa
set_option linter.unusedVariables false
set_option linter.unusedSimpArgs false
open Ieee Go
/-- rounding a quotient D / n by way of its digits and one more, which tells whether anything is left over. -/
theorem sticky (D n S d : Nat) (hn : 0 < n) (hd : 2 ≤ d) (hS : S = 2 * (D / n) + (D % n != 0).toNat) (K : Nat) (a : 2 * K * 2 ^ d ≤ 2 * S + 2 ^ d) (b : 2 * S ≤ 2 * K * 2 ^ d + 2 ^ d) (ae : 2 * K * 2 ^ d = 2 * S + 2 ^ d → K % 2 = 0) (be : 2 * S = 2 * K * 2 ^ d + 2 ^ d → K % 2 = 0) :
    (2 * K * (2 ^ d * n) ≤ 2 * (2 * D) + 2 ^ d * n) ∧ (2 * (2 * D) ≤ 2 * K * (2 ^ d * n) + 2 ^ d * n) ∧ (2 * K * (2 ^ d * n) = 2 * (2 * D) + 2 ^ d * n → K % 2 = 0) ∧ (2 * (2 * D) = 2 * K * (2 ^ d * n) + 2 ^ d * n → K % 2 = 0) := by
  obtain ⟨c, rfl⟩ : ∃ c, d = c + 2 := ⟨d - 2, by omega⟩
  have e4 : 2 ^ (c + 2) = 4 * 2 ^ c := by rw [Nat.pow_add, Nat.mul_comm]
  rw [e4] at a b ae be ⊢
  have hdm : n * (D / n) + D % n = D := Nat.div_add_mod D n
  have hr := Nat.mod_lt D hn
  generalize 2 ^ c = u at *
  generalize D / n = q at *
  generalize D % n = r at *
  obtain ⟨X, hX⟩ : ∃ X, K * u = X := ⟨_, rfl⟩
  have x1 : 2 * K * (4 * u) = 8 * X := by rw [← hX]; simp only [Nat.mul_assoc, Nat.mul_left_comm, Nat.mul_comm]
  have x2 : 2 * K * (4 * u * n) = 8 * (X * n) := by
    rw [← hX]
    rw [show 2 * K * (4 * u * n) = 2 * K * (4 * u) * n by rw [Nat.mul_assoc (2 * K) (4 * u) n], show 2 * K * (4 * u) = 8 * (K * u) by rw [hX]; exact x1, Nat.mul_assoc]
  have x3 : 4 * u * n = 4 * (u * n) := Nat.mul_assoc _ _ _
  rw [x1] at a b ae be
  rw [x2, x3]
  have qn : n * q = q * n := Nat.mul_comm _ _
  rw [qn] at hdm
  by_cases h0 : r = 0
  · have s0 : S = 2 * q := by rw [hS, h0]; rfl
    rw [s0] at a b ae be
    have m1 : 2 * X ≤ q + u := by omega
    have m2 : q ≤ 2 * X + u := by omega
    have n1 := Nat.mul_le_mul_right n m1
    have n2 := Nat.mul_le_mul_right n m2
    rw [Nat.add_mul, Nat.mul_assoc] at n1 n2
    refine ⟨by omega, by omega, fun h => ae ?_, fun h => be ?_⟩
    · have : (2 * X) * n = (q + u) * n := by rw [Nat.add_mul, Nat.mul_assoc]; omega
      have := Nat.eq_of_mul_eq_mul_right hn this
      omega
    · have : q * n = (2 * X + u) * n := by rw [Nat.add_mul, Nat.mul_assoc]; omega
      have := Nat.eq_of_mul_eq_mul_right hn this
      omega
  · have s0 : S = 2 * q + 1 := by
      rw [hS, show (r != 0) = true by rw [bne_iff_ne]; exact h0]; rfl
    rw [s0] at a b ae be
    have m1 : 2 * X ≤ q + u := by omega
    have m2 : q + 1 ≤ 2 * X + u := by omega
    have n1 := Nat.mul_le_mul_right n m1
    have n2 := Nat.mul_le_mul_right n m2
    rw [Nat.add_mul, Nat.mul_assoc] at n1
    rw [Nat.add_mul, Nat.add_mul, Nat.mul_assoc, Nat.one_mul] at n2
    exact ⟨by omega, by omega, fun h => by omega, fun h => by omega⟩
theorem quo_near (x h E : Nat) (hE : E = 1074) (x0 : 0 < x) (x1 : x < infR) (h0 : 0 < h) (h1 : h < infR) : ∃ R, floatBits .quo .f64 x h = some (min R infR) ∧ Near (magR x * 2 ^ E) (magR h) R := by
  obtain ⟨m, kx, e, hm, m0, m1⟩ := read_pos x x0 x1
  obtain ⟨n, kh, e', hn, n0, n1⟩ := read_pos h h0 h1
  have lm : m.log2 ≤ 52 := by
    rcases Nat.lt_or_ge 52 m.log2 with hh | hh
    · have h1 := Nat.log2_self_le (show m ≠ 0 by omega)
      have h2 : 2 ^ 53 ≤ 2 ^ m.log2 := Nat.pow_le_pow_right (by omega) hh
      omega
    · exact hh
  obtain ⟨more, hmore⟩ : ∃ more, 54 + n.log2 - m.log2 = more := ⟨_, rfl⟩
  have hml : more + m.log2 = 54 + n.log2 := by omega
  have hq : floatBits .quo .f64 x h = some (double.nearest false (2 * (m <<< more / n) + (m <<< more % n != 0).toNat) (-1074 + (kx : Int) - (-1074 + (kh : Int)) - (more : Int) - 1)) := by
    show ((double.read x).quotient 54 (double.read h)).map double.write = _
    rw [e, e']
    unfold Datum.quotient
    dsimp only
    rw [if_neg (by omega), hmore]; rfl
  rw [hq, Nat.shiftLeft_eq]
  obtain ⟨D, hD⟩ : ∃ D, m * 2 ^ more = D := ⟨_, rfl⟩
  rw [hD]
  have hqb : 2 ^ 53 ≤ D / n := by
    rw [Nat.le_div_iff_mul_le n0, ← hD]
    have a1 : n < 2 ^ (n.log2 + 1) := Nat.lt_log2_self
    have a2 : 2 ^ m.log2 ≤ m := Nat.log2_self_le (by omega)
    have a3 : 2 ^ m.log2 * 2 ^ more ≤ m * 2 ^ more := Nat.mul_le_mul_right _ a2
    have a4 : 2 ^ 53 * n ≤ 2 ^ 53 * 2 ^ (n.log2 + 1) := Nat.mul_le_mul_left _ (Nat.le_of_lt a1)
    rw [← Nat.pow_add] at a3 a4
    rw [show m.log2 + more = 53 + (n.log2 + 1) by omega] at a3
    omega
  obtain ⟨S, hS⟩ : ∃ S, S = 2 * (D / n) + (D % n != 0).toNat := ⟨_, rfl⟩
  rw [← hS]
  obtain ⟨pl, hpl⟩ : ∃ pl : Int, -1074 + (kx : Int) - (-1074 + (kh : Int)) - (more : Int) - 1 = pl := ⟨_, rfl⟩
  rw [hpl]
  have hS54 : 2 ^ 54 ≤ S := by omega
  have hS0 : S ≠ 0 := by omega
  unfold Format.nearest
  rw [if_neg hS0, infRung_d, binade_d, least_d]
  dsimp only
  have hlo := Nat.log2_self_le hS0
  have hhi : S < 2 ^ (S.log2 + 1) := Nat.lt_log2_self
  have hg54 : 54 ≤ S.log2 := by
    rcases Nat.lt_or_ge S.log2 54 with hh | hh
    · have : 2 ^ (S.log2 + 1) ≤ 2 ^ 54 := Nat.pow_le_pow_right (by omega) hh
      omega
    · exact hh
  generalize S.log2 = g at *
  have hf : ((double.fractionBits : Nat) : Int) = 52 := rfl
  rw [hf]
  generalize hlast : max (pl + (g : Int) - 52) (-1074) = last
  have l1 : -1074 ≤ last := by omega
  have l2 : pl + (g : Int) - 52 ≤ last := by omega
  have l3 : last = -1074 ∨ last = pl + (g : Int) - 52 := by omega
  obtain ⟨L, hL⟩ : ∃ L : Nat, last = -1074 + (L : Int) := ⟨(last + 1074).toNat, by omega⟩
  rw [show (last - -1074).toNat = L by omega]
  obtain ⟨d, hd⟩ : ∃ d : Nat, last = pl + (d : Int) := ⟨(last - pl).toNat, by omega⟩
  have hd2 : 2 ≤ d := by omega
  rw [show (pl - last).toNat = 0 by omega, show (last - pl).toNat = d by omega, Nat.shiftLeft_zero]
  obtain ⟨⟨a, b⟩, ae, be, c1, c2⟩ := cut_even S d false
  generalize Toward.even.cut false S d = K at *
  obtain ⟨ex, s', he, hs', hes⟩ : ∃ ex s' : Nat, (pl + 1074).toNat = ex ∧ (-1074 - pl).toNat = s' ∧ d + ex = L + s' := ⟨_, _, rfl, rfl, by omega⟩
  have hp := Nat.two_pow_pos d
  have hpe := Nat.two_pow_pos ex
  have b1 : K ≤ 9007199254740992 := by
    have h1 : S / 2 ^ d < 9007199254740992 := by
      rw [Nat.div_lt_iff_lt_mul hp]
      have h2 : 2 ^ (g + 1) ≤ 2 ^ (53 + d) := Nat.pow_le_pow_right (by omega) (by omega)
      rw [Nat.pow_add 2 53 d] at h2
      exact Nat.lt_of_lt_of_le hhi h2
    omega
  have lo : L ≠ 0 → 4503599627370496 * 2 ^ d ≤ S := fun h0 => by
    have hg : g = 52 + d := by omega
    rw [hg, Nat.pow_add] at hlo
    exact hlo
  have b2 : L = 0 ∨ 4503599627370496 ≤ K := by
    rcases Nat.eq_zero_or_pos L with h0 | h0
    · exact .inl h0
    · right
      have h1 := (Nat.le_div_iff_mul_le hp).2 (lo (by omega))
      omega
  obtain ⟨t1, t2, t3, t4⟩ := sticky D n S d n0 hd2 hS K a b ae be
  have hG : 2 ^ d * n * 2 ^ ex = 2 ^ L * (2 ^ s' * n) := by
    rw [Nat.mul_right_comm, ← Nat.pow_add, hes, Nat.pow_add, Nat.mul_assoc]
  have lo2 : L ≠ 0 → 4503599627370496 * (2 ^ d * n) ≤ 2 * D := fun hL0 => by
    have h2 := lo hL0
    obtain ⟨c, rfl⟩ : ∃ c, d = c + 2 := ⟨d - 2, by omega⟩
    rw [show 2 ^ (c + 2) = 4 * 2 ^ c by rw [Nat.pow_add, Nat.mul_comm]] at h2 ⊢
    have hbit : (D % n != 0).toNat ≤ 1 := by cases (D % n != 0) <;> decide
    have h3 : 4503599627370496 * (2 * 2 ^ c) ≤ D / n := by omega
    have h4 := Nat.mul_le_mul_right n h3
    have h5 : D / n * n ≤ D := Nat.div_mul_le_self D n
    have h6 : 4503599627370496 * (2 * 2 ^ c) * n = 4503599627370496 * (2 * (2 ^ c * n)) := by rw [Nat.mul_assoc, Nat.mul_assoc]
    have h7 : 4 * 2 ^ c * n = 4 * (2 ^ c * n) := Nat.mul_assoc _ _ _
    rw [h7]
    omega
  have hnear : Near (2 * D * 2 ^ ex) (2 ^ s' * n) (L * 4503599627370496 + K) := by
    refine near_cut L K (2 * D * 2 ^ ex) (2 ^ d * n * 2 ^ ex) (2 ^ s' * n) (Nat.mul_pos (Nat.two_pow_pos _) n0) hG b1 b2 ?_ ?_ ?_ ?_ ?_
    · have := Nat.mul_le_mul_right (2 ^ ex) t1
      rw [Nat.add_mul] at this
      rw [← Nat.mul_assoc (2 * K), ← Nat.mul_assoc 2 (2 * D)]
      exact this
    · have := Nat.mul_le_mul_right (2 ^ ex) t2
      rw [Nat.add_mul] at this
      rw [← Nat.mul_assoc (2 * K), ← Nat.mul_assoc 2 (2 * D)]
      exact this
    · intro hh
      refine t3 (Nat.eq_of_mul_eq_mul_right hpe ?_)
      rw [Nat.add_mul]
      rw [← Nat.mul_assoc (2 * K), ← Nat.mul_assoc 2 (2 * D)] at hh
      exact hh
    · intro hh
      refine t4 (Nat.eq_of_mul_eq_mul_right hpe ?_)
      rw [Nat.add_mul]
      rw [← Nat.mul_assoc (2 * K), ← Nat.mul_assoc 2 (2 * D)] at hh
      exact hh
    · intro hL0
      have := Nat.mul_le_mul_right (2 ^ ex) (lo2 hL0)
      rw [← Nat.mul_assoc]
      exact this
  refine ⟨L * 4503599627370496 + K, by rw [word_pos], hnear.congr (Nat.mul_pos (Nat.two_pow_pos _) n0) (magR_pos h0) ?_⟩
  rw [← hm, ← hn, ← hD]
  have e2 : 1 + more + ex + kh = kx + E + s' := by omega
  have e3 : 2 * 2 ^ more * 2 ^ ex * 2 ^ kh = 2 ^ kx * 2 ^ E * 2 ^ s' := by
    have : 2 * 2 ^ more * 2 ^ ex * 2 ^ kh = 2 ^ (1 + more + ex + kh) := by rw [Nat.pow_add, Nat.pow_add, Nat.pow_add]
    rw [this, e2, Nat.pow_add, Nat.pow_add]
  calc 2 * (m * 2 ^ more) * 2 ^ ex * (n * 2 ^ kh) = m * n * (2 * 2 ^ more * 2 ^ ex * 2 ^ kh) := by
        generalize 2 ^ more = a1; generalize 2 ^ ex = a2; generalize 2 ^ kh = a3
        simp only [Nat.mul_assoc, Nat.mul_left_comm, Nat.mul_comm]
    _ = m * n * (2 ^ kx * 2 ^ E * 2 ^ s') := by rw [e3]
    _ = m * 2 ^ kx * 2 ^ E * (2 ^ s' * n) := by
        generalize 2 ^ kx = a1; generalize 2 ^ E = a2; generalize 2 ^ s' = a3
        simp only [Nat.mul_assoc, Nat.mul_left_comm, Nat.mul_comm]
theorem quo_mono {x x' h q q' : Nat} (x0 : 0 < x) (hx : x ≤ x') (x1 : x' < infR) (h0 : 0 < h) (h1 : h < infR) (hq : floatBits .quo .f64 x h = some q) (hq' : floatBits .quo .f64 x' h = some q') : q ≤ q' ∧ q' ≤ infR := by
  obtain ⟨E, hE⟩ : ∃ E : Nat, E = 1074 := ⟨_, rfl⟩
  obtain ⟨R, e, hn⟩ := quo_near x h E hE x0 (by omega) h0 h1
  obtain ⟨R', e', hn'⟩ := quo_near x' h E hE (by omega) x1 h0 h1
  rw [hq] at e; injection e with e
  rw [hq'] at e'; injection e' with e'
  subst e; subst e'
  exact ⟨min_mono (hn.mono hn' (magR_pos h0) (magR_pos h0) (Nat.mul_le_mul_right _ (Nat.mul_le_mul_right _ (magR_le hx)))), Nat.min_le_right _ _⟩
theorem add_zero : floatBits .add .f64 4607182418800017408 0 = some 4607182418800017408 := by decide +kernel
theorem add_mono {q q' o o' : Nat} (hq : q ≤ q') (q1 : q' ≤ infR) (ho : floatBits .add .f64 4607182418800017408 q = some o) (ho' : floatBits .add .f64 4607182418800017408 q' = some o') : o ≤ o' ∧ o' ≤ infR ∧ 0 < o := by
  have one : ∀ q o, 0 < q → q < infR → floatBits .add .f64 4607182418800017408 q = some o → 4607182418800017408 ≤ o ∧ o ≤ infR := fun q o q0 q1 ho => by
    obtain ⟨R, e, hn⟩ := add_near q q0 q1
    rw [ho] at e; injection e with e
    subst e
    have h1 : Near (magR 4607182418800017408) 1 4607182418800017408 := by
      have := near_exact 1022 4503599627370496 (by omega) (by omega)
      have e2 := magR_form 1022 4503599627370496 (by omega) (by omega)
      rw [← e2] at this
      exact this
    have := h1.mono hn (by omega) (by omega) (Nat.mul_le_mul_right _ (Nat.le_add_right _ _))
    have hi : infR = 9218868437227405312 := rfl
    omega
  have hi : infR = 9218868437227405312 := rfl
  rcases Nat.eq_zero_or_pos q' with z' | z'
  · have z : q = 0 := by omega
    subst z; subst z'
    rw [add_zero] at ho ho'
    injection ho with ho; injection ho' with ho'
    omega
  · rcases Nat.lt_or_ge q' infR with f | f
    · have b' := one q' o' z' f ho'
      rcases Nat.eq_zero_or_pos q with z | z
      · subst z
        rw [add_zero] at ho
        injection ho with ho
        omega
      · have b := one q o z (by omega) ho
        obtain ⟨R, e, hn⟩ := add_near q z (by omega)
        obtain ⟨R', e', hn'⟩ := add_near q' z' f
        rw [ho] at e; injection e with e
        rw [ho'] at e'; injection e' with e'
        have := hn.mono hn' (by omega) (by omega) (Nat.mul_le_mul_right _ (Nat.add_le_add_left (magR_le hq) _))
        omega
    · have e : q' = infR := by omega
      subst e
      rw [add_inf] at ho'
      injection ho' with ho'
      rcases Nat.eq_zero_or_pos q with z | z
      · subst z
        rw [add_zero] at ho
        injection ho with ho
        omega
      · rcases Nat.lt_or_ge q infR with g | g
        · have b := one q o z g ho
          omega
        · have e2 : q = infR := by omega
          subst e2
          rw [add_inf] at ho
          injection ho with ho
          omega
theorem mul_mono {a a' o o' : Nat} (a0 : 0 < a) (ha : a ≤ a') (a1 : a' < infR) (o0 : 0 < o) (ho : o ≤ o') (o1 : o' ≤ infR) : ∃ x x', floatBits .mul .f64 a o = some x ∧ floatBits .mul .f64 a' o' = some x' ∧ x ≤ x' ∧ x' ≤ infR := by
  obtain ⟨E, hE⟩ : ∃ E : Nat, E = 1074 := ⟨_, rfl⟩
  rcases Nat.lt_or_ge o' infR with f | f
  · obtain ⟨R, e, hn⟩ := mul_near a o E hE a0 (by omega) o0 (by omega)
    obtain ⟨R', e', hn'⟩ := mul_near a' o' E hE (by omega) a1 (by omega) f
    exact ⟨_, _, e, e', min_mono (hn.mono hn' (Nat.two_pow_pos _) (Nat.two_pow_pos _) (Nat.mul_le_mul_right _ (Nat.mul_le_mul (magR_le ha) (magR_le ho)))), Nat.min_le_right _ _⟩
  · have e : o' = infR := by omega
    subst e
    have e' := mul_inf a' (by omega) a1
    rcases Nat.lt_or_ge o infR with g | g
    · obtain ⟨R, e, hn⟩ := mul_near a o E hE a0 (by omega) o0 g
      exact ⟨_, _, e, e', Nat.min_le_right _ _, Nat.le_refl _⟩
    · have e2 : o = infR := by omega
      subst e2
      exact ⟨_, _, mul_inf a a0 (by omega), e', Nat.le_refl _, Nat.le_refl _⟩
theorem lt_pos (x C : Nat) (hx : x ≤ infR) (hC : C ≤ infR) : (double.order x C == some Ordering.lt) = decide (x < C) := by
  obtain ⟨e1, e2⟩ := pos_rung hx
  obtain ⟨e3, e4⟩ := pos_rung hC
  rw [lt_d, e1, e3, decide_eq_true hx, decide_eq_true hC]
  unfold posZ
  rw [e1, e2, e3, e4]
  simp
/-- WHAT IS TAKEN is taken at a lesser change, and by a lesser draw, too. -/
theorem accept_fair (c l : Int) (h : Nat) (d low : Int) (hl : l ≤ c) (hc2 : c ≤ 9223372036854775807) (hd : low ≤ d) (h1 : 1 ≤ low) (h2 : d ≤ 4294967295) (hh : h < 18446744073709551616) (ha : acceptB c h d = true) : acceptB l h low = true := by
  by_cases k5 : kindN h = 5
  · exact acceptB_above k5
  · by_cases hl0 : 0 < l
    · by_cases k4 : kindN h = 4
      · have kc := kind_cases h
        have hb := below_iff h hh
        have hhb : below h = false := by
          revert k4
          unfold kindN
          cases below h
          · intro _; rfl
          · simp only [if_true]
            intro hx
            (repeat' split at hx) <;> omega
        have hr : rung h = h := by
          unfold rung
          have : ¬ (h / 9223372036854775808 = 1) := fun x => by rw [hb.2 x] at hhb; cases hhb
          omega
        have hi : infR = 9218868437227405312 := rfl
        have p0 : 0 < h := by omega
        have p1 : h < infR := by omega
        obtain ⟨q, o, hq, ho, hv⟩ := acceptV_steps c h d k4
        obtain ⟨q', o', hq', ho', hv'⟩ := acceptV_steps l h low k4
        obtain ⟨cn, rfl⟩ := Int.eq_ofNat_of_zero_le (show 0 ≤ c by omega)
        obtain ⟨ln, rfl⟩ := Int.eq_ofNat_of_zero_le (show 0 ≤ l by omega)
        obtain ⟨dn, rfl⟩ := Int.eq_ofNat_of_zero_le (show 0 ≤ d by omega)
        obtain ⟨wn, rfl⟩ := Int.eq_ofNat_of_zero_le (show 0 ≤ low by omega)
        have f1 := int_fin cn (by omega) (by omega)
        have f2 := int_fin ln (by omega) (by omega)
        have f3 := int_fin dn (by omega) (by omega)
        have f4 := int_fin wn (by omega) (by omega)
        have g1 := int_mono ln cn (by omega)
        have g2 := int_mono wn dn (by omega)
        obtain ⟨m1, m2⟩ := quo_mono f2.1 g1 f1.2 p0 p1 hq' hq
        obtain ⟨m3, m4, m5⟩ := add_mono m1 m2 ho' ho
        obtain ⟨x', x, ex', ex, m6, m7⟩ := mul_mono f4.1 g2 f3.2 m5 m3 m4
        rw [acceptB_some k4 (by omega) (hv.trans ex), lt_pos x _ m7 (by decide)] at ha
        have ha' := of_decide_eq_true ha
        rw [acceptB_some k4 (by omega) (hv'.trans ex'), lt_pos x' _ (by omega) (by decide)]
        exact decide_eq_true (by omega)
      · rw [acceptB_rest k5 (fun x => k4 x.1)] at ha
        have := of_decide_eq_true ha
        omega
    · rw [acceptB_rest k5 (fun x => hl0 x.2)]
      exact decide_eq_true (by omega)
end Go.Proofs.Ytbhifhnpcafpjaa
