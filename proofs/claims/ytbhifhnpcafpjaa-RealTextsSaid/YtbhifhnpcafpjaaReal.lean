/-
  The walks of layer 2's small functions: kinds, places, the order of floats.
-/
import Derived.Test.YtbhifhnpcafpjaaRows
import Derived.Test.YtbhifhnpcafpjaaPlain
import Derived.Test.YtbhifhnpcafpjaaFlt
import Derived.Laws.Bits64b
import Derived.Laws.FloatArith
import Derived.Deep.DeepCutAuto
import Derived.Deep.RegionWith
namespace Go.Proofs.Ytbhifhnpcafpjaa
set_option linter.unusedVariables false
set_option linter.unusedSimpArgs false
open Go.RowKit
theorem run_from (b : Nat) (w : World) : Sem.run Try.prog (callFunc 28 #[.int .u64 (b : Int)]) w = .ok (.value (.float .f64 b)) w := by kernel_rfl
theorem run_bits (b : Nat) (w : World) : Sem.run Try.prog (callFunc 29 #[.float .f64 b]) w = .ok (.value (.int .u64 (b : Int))) w := by kernel_rfl
set_option maxHeartbeats 400000 in
theorem of02_any (b : Nat) (w : World) :
    Calls Try.prog 13 #[.int .u64 b] w fun e w' => e = .returned (.float .f64 b) ∧ w = w' := by
  have r1 := run_from b
  go_enter Try.func13, Try.ntmps13
  go_wp2
  go_ret
  exact ⟨rfl, rfl⟩
theorem exp_bits (b : Nat) (hb : b < 18446744073709551616) : bits .and .u64 ((b : Int) / 4503599627370496) 2047 = (b : Int) / 4503599627370496 % 2048 := by
  have h := bits_and_u64_nat (b / 4503599627370496) 2047 (by omega) (by omega)
  have e : (b / 4503599627370496) &&& 2047 = b / 4503599627370496 % 2048 := Nat.and_two_pow_sub_one_eq_mod _ 11
  rw [e] at h
  have c : ((b / 4503599627370496 : Nat) : Int) = (b : Int) / 4503599627370496 := by omega
  rw [c] at h
  exact h.trans (by omega)
theorem frac_bits (b : Nat) (hb : b < 18446744073709551616) : bits .and .u64 (b : Int) 4503599627370495 = (b : Int) % 4503599627370496 := by
  have h := bits_and_u64_nat b 4503599627370495 hb (by omega)
  have e : b &&& 4503599627370495 = b % 4503599627370496 := Nat.and_two_pow_sub_one_eq_mod _ 52
  rw [e] at h
  exact h.trans (by omega)
set_option maxHeartbeats 400000 in
theorem kind_any (b : Nat) (w : World) (hb : b < 18446744073709551616) :
    Calls Try.prog 14 #[.float .f64 b] w fun e w' => e = .returned (.int .i64 (kindN b)) ∧ w = w' := by
  have r1 := run_bits b
  go_enter Try.func14, Try.ntmps14
  go_wp2
  all_goals
    go_ret
    refine ⟨ret_int ?_, rfl⟩
    simp only [exp_bits b hb, frac_bits b hb, beq_iff_eq, bne_iff_ne, ne_eq, beq_eq_false_iff_ne, bne_eq_false_iff_eq] at *
    rw [kindN_of b hb]
    (repeat' split) <;> omega
/-- the sign turned. -/
theorem neg_float (b : Nat) (hb : b < 18446744073709551616) : Op.negFloat .f64 b < 18446744073709551616 ∧ rung (Op.negFloat .f64 b) = rung b ∧ below (Op.negFloat .f64 b) = !below b := by
  have hn : Op.negFloat .f64 b = b ^^^ 2 ^ 63 := rfl
  have hm : Op.negFloat .f64 b % 2 ^ 63 = b % 2 ^ 63 := by
    rw [hn, Nat.xor_mod_two_pow, Nat.mod_self, Nat.xor_zero]
  have hd : Op.negFloat .f64 b / 2 ^ 63 = b / 2 ^ 63 ^^^ 1 := by
    rw [hn, Nat.xor_div_two_pow, Nat.div_self (Nat.two_pow_pos 63)]
  have h1 : b / 2 ^ 63 = 0 ∨ b / 2 ^ 63 = 1 := by omega
  unfold rung below
  rcases h1 with h1 | h1
  · rw [h1] at hd
    have hd' : Op.negFloat .f64 b / 2 ^ 63 = 1 := hd
    refine ⟨by omega, by omega, ?_⟩
    rw [show Op.negFloat .f64 b / 9223372036854775808 = 1 from hd', show b / 9223372036854775808 = 0 from h1]; rfl
  · rw [h1] at hd
    have hd' : Op.negFloat .f64 b / 2 ^ 63 = 0 := hd
    refine ⟨by omega, by omega, ?_⟩
    rw [show Op.negFloat .f64 b / 9223372036854775808 = 0 from hd', show b / 9223372036854775808 = 1 from h1]; rfl
theorem above_max (b : Nat) : (FloatKind.f64.format.order b 9218868437227405311 == some Ordering.gt) = decide (kindN b = 5) := by
  have h := gt_d b 9218868437227405311
  have p : posZ 9218868437227405311 = 9218868437227405311 := by decide
  have r : rung 9218868437227405311 = 9218868437227405311 := by decide
  rw [p, r, show infR = 9218868437227405312 from rfl] at h
  refine h.trans ?_
  rw [Bool.eq_iff_iff]
  simp only [Bool.and_eq_true, decide_eq_true_eq]
  have hc := kind_cases b
  rcases hc with hc | hc | hc | hc | hc | hc | hc <;> omega
theorem neg_kind (b : Nat) (hb : b < 18446744073709551616) : kindN (Op.negFloat .f64 b) = 5 ↔ kindN b = 0 := by
  obtain ⟨h1, h2, h3⟩ := neg_float b hb
  unfold kindN
  rw [h2, h3, show infR = 9218868437227405312 from rfl]
  cases below b <;> simp only [Bool.not_true, Bool.not_false, if_true, if_false, Bool.false_eq_true] <;> (repeat' split) <;> omega
set_option maxHeartbeats 400000 in
theorem isinf_hi (b : Nat) (w : World) :
    Calls Try.prog 26 #[.float .f64 b, .int .i64 1] w fun e w' => e = .returned (.bool (decide (kindN b = 5))) ∧ w = w' := by
  have h := above_max b
  go_enter Try.func26, Try.ntmps26
  go_wp2
  go_ret
  exact ⟨rfl, rfl⟩
set_option maxHeartbeats 400000 in
theorem isinf_lo (b : Nat) (hb : b < 18446744073709551616) (w : World) :
    Calls Try.prog 26 #[.float .f64 b, .int .i64 (-1)] w fun e w' => e = .returned (.bool (decide (kindN b = 0))) ∧ w = w' := by
  have h := above_max (Op.negFloat .f64 b)
  have he : Op.unary .neg (.float .f64 b) = pure (.float .f64 (Op.negFloat .f64 b)) := rfl
  have hk : decide (kindN (Op.negFloat .f64 b) = 5) = decide (kindN b = 0) := by
    rw [Bool.eq_iff_iff, decide_eq_true_eq, decide_eq_true_eq]; exact neg_kind b hb
  rw [hk] at h
  clear hk
  generalize Op.negFloat .f64 b = c at *
  go_enter Try.func26, Try.ntmps26
  go_wp2
  go_ret
  exact ⟨rfl, rfl⟩
set_option maxHeartbeats 400000 in
theorem signbit_any (b : Nat) (hb : b < 18446744073709551616) (w : World) :
    Calls Try.prog 27 #[.float .f64 b] w fun e w' => e = .returned (.bool (below b)) ∧ w = w' := by
  have r1 := run_bits b
  have hs := below_iff b hb
  by_cases h : b < 9223372036854775808
  · have hb' : below b = false := by
      cases e : below b with
      | false => rfl
      | true => have := hs.1 e; omega
    rw [hb']
    clear hs hb'
    go_enter Try.func27, Try.ntmps27
    go_wp2
    go_ret
    exact ⟨rfl, rfl⟩
  · have hb' : below b = true := hs.2 (by omega)
    rw [hb']
    clear hs hb'
    go_enter Try.func27, Try.ntmps27
    go_wp2
    go_ret
    exact ⟨ret_bool (decide_eq_true (by unfold wrap64; omega)), rfl⟩
theorem neq_self (b : Nat) : (FloatKind.f64.format.order b b != some Ordering.eq) = decide (kindN b = 6) := by
  refine (self_d b).trans ?_
  rw [Bool.eq_iff_iff, decide_eq_true_eq, decide_eq_true_eq, show infR = 9218868437227405312 from rfl]
  have hc := kind_cases b
  rcases hc with hc | hc | hc | hc | hc | hc | hc <;> omega
theorem lt_zero (b : Nat) : (FloatKind.f64.format.order b 0 == some Ordering.lt) = decide (kindN b = 0 ∨ kindN b = 1) := by
  have h := lt_d b 0
  rw [show posZ 0 = 0 by decide, show rung 0 = 0 by decide, show infR = 9218868437227405312 from rfl] at h
  refine h.trans ?_
  rw [Bool.eq_iff_iff]
  simp only [Bool.and_eq_true, decide_eq_true_eq]
  have hc := kind_cases b
  rcases hc with hc | hc | hc | hc | hc | hc | hc <;> omega
theorem gt_zero (b : Nat) : (FloatKind.f64.format.order b 0 == some Ordering.gt) = decide (kindN b = 4 ∨ kindN b = 5) := by
  have h := gt_d b 0
  rw [show posZ 0 = 0 by decide, show rung 0 = 0 by decide, show infR = 9218868437227405312 from rfl] at h
  refine h.trans ?_
  rw [Bool.eq_iff_iff]
  simp only [Bool.and_eq_true, decide_eq_true_eq]
  have hc := kind_cases b
  rcases hc with hc | hc | hc | hc | hc | hc | hc <;> omega
theorem below_kind (b : Nat) (h : kindN b = 2 ∨ kindN b = 3) : below b = decide (kindN b = 2) := by
  revert h
  unfold kindN
  rw [show infR = 9218868437227405312 from rfl]
  cases below b <;> simp only [if_true, if_false, Bool.false_eq_true] <;> (repeat' split) <;> (intro h) <;> first | (exfalso; omega) | rfl
theorem isinf_lo' (b : Nat) (hb : b < 18446744073709551616) (v : Bool) (h : Hid (decide (kindN b = 0) = v)) (w : World) :
    Calls Try.prog 26 #[.float .f64 b, .int .i64 (-1)] w fun e w' => e = .returned (.bool v) ∧ w = w' := by
  rw [← h.out]; exact isinf_lo b hb w
theorem isinf_hi' (b : Nat) (v : Bool) (h : Hid (decide (kindN b = 5) = v)) (w : World) :
    Calls Try.prog 26 #[.float .f64 b, .int .i64 1] w fun e w' => e = .returned (.bool v) ∧ w = w' := by
  rw [← h.out]; exact isinf_hi b w
theorem signbit' (b : Nat) (hb : b < 18446744073709551616) (v : Bool) (h : Hid (below b = v)) (w : World) :
    Calls Try.prog 27 #[.float .f64 b] w fun e w' => e = .returned (.bool v) ∧ w = w' := by
  rw [← h.out]; exact signbit_any b hb w
def kindOf (n z f l g s : Bool) : Int := if n then 6 else if z then 0 else if f then 5 else if l then 1 else if g then 4 else if s then 2 else 3
set_option maxHeartbeats 800000 in
theorem of_walk (b : Nat) (hb : b < 18446744073709551616) (w : World) (n z f l g s : Bool) (hn : Hid ((FloatKind.f64.format.order b b != some Ordering.eq) = n)) (hz : Hid (decide (kindN b = 0) = z)) (hf : Hid (decide (kindN b = 5) = f))
    (hl : Hid ((FloatKind.f64.format.order b 0 == some Ordering.lt) = l)) (hg : Hid ((FloatKind.f64.format.order b 0 == some Ordering.gt) = g)) (hs : Hid (below b = s)) :
    Calls Try.prog 12 #[.float .f64 b] w fun e w' => e = .returned (.int .i64 (kindOf n z f l g s)) ∧ w = w' := by
  have e1 := hn.out
  have e2 := hl.out
  have e3 := hg.out
  go_enter Try.func12, Try.ntmps12
  go_wp2_with fail
  · go_ret
    exact ⟨ret_int (by unfold kindOf; simp [*]), rfl⟩
  · refine (isinf_lo' b hb z hz _).mono ?_
    rintro e w' ⟨rfl, rfl⟩
    go_wp2_with fail
    · go_ret
      exact ⟨ret_int (by unfold kindOf; simp [*]), rfl⟩
    · refine (isinf_hi' b f hf _).mono ?_
      rintro e w' ⟨rfl, rfl⟩
      go_wp2_with fail
      · go_ret
        exact ⟨ret_int (by unfold kindOf; simp [*]), rfl⟩
      · go_ret
        exact ⟨ret_int (by unfold kindOf; simp [*]), rfl⟩
      · go_ret
        exact ⟨ret_int (by unfold kindOf; simp [*]), rfl⟩
      · refine (signbit' b hb s hs _).mono ?_
        rintro e w' ⟨rfl, rfl⟩
        go_wp2_with fail
        · go_ret
          exact ⟨ret_int (by unfold kindOf; simp [*]), rfl⟩
        · go_ret
          exact ⟨ret_int (by unfold kindOf; simp [*]), rfl⟩
theorem kindOf_any (b : Nat) (hb : b < 18446744073709551616) (w : World) :
    Calls Try.prog 12 #[.float .f64 b] w fun e w' => e = .returned (.int .i64 (kindN b)) ∧ w = w' := by
  refine (of_walk b hb w _ _ _ _ _ _ (Lib.hid rfl) (Lib.hid rfl) (Lib.hid rfl) (Lib.hid rfl) (Lib.hid rfl) (Lib.hid rfl)).mono fun e w' ⟨he, hw⟩ => ⟨?_, hw⟩
  rw [he]
  refine ret_int ?_
  rw [neq_self, lt_zero, gt_zero]
  have n3 := below_kind b
  have n4 := kind_range b
  unfold kindOf
  generalize kindN b = k at *
  have hk : k = 0 ∨ k = 1 ∨ k = 2 ∨ k = 3 ∨ k = 4 ∨ k = 5 ∨ k = 6 := by omega
  rcases hk with rfl | rfl | rfl | rfl | rfl | rfl | rfl
  · rfl
  · rfl
  · rw [n3 (.inl rfl)]; rfl
  · rw [n3 (.inr rfl)]; rfl
  · rfl
  · rfl
  · rfl
set_option maxHeartbeats 800000 in
theorem less_any (a b : Nat) (ha : a < 18446744073709551616) (hb : b < 18446744073709551616) (w : World) :
    Calls Try.prog 23 #[.float .f64 a, .float .f64 b] w fun e w' => e = .returned (.bool (lessB a b)) ∧ w = w' := by
  have hl : Hid (lessB a b = if kindN a = kindN b then FloatKind.f64.format.order a b == some Ordering.lt else decide (kindN a < kindN b)) := Lib.hid rfl
  go_enter Try.func23, Try.ntmps23
  go_wp2_with (first | (go_at_call 12; refine (kindOf_any _ (by assumption) _).mono ?_; rintro e w' ⟨rfl, rfl⟩))
  all_goals
    go_ret
    refine ⟨ret_bool ?_, rfl⟩
    rw [hl.out]
  · rename_i h1
    rw [if_neg (by simpa using h1)]
  · rename_i h1
    rw [if_pos (by simpa using h1)]
set_option maxHeartbeats 800000 in
theorem place_any (b : Nat) (hb : b < 18446744073709551616) (w : World) :
    Calls Try.prog 24 #[.float .f64 b] w fun e w' => e = .returned (.int .i64 (placeI b)) ∧ w = w' := by
  have r1 := run_bits b
  by_cases hk : kindN b = 6
  · have hp : Hid (placeI b = 9223372036854775807) := Lib.hid (by have := kind_cases b; omega)
    have hc := fun w => kind_any b w hb
    rw [hk] at hc
    replace hc := Lib.hid hc
    clear hk
    go_enter Try.func24, Try.ntmps24
    go_wp2_with (go_at_call 14; refine (hc.out _).mono ?_; rintro e w' ⟨rfl, rfl⟩)
    go_ret
    exact ⟨ret_int hp.out.symm, rfl⟩
  · have hp := placeI_of b hb hk
    have hkb : (kindN b == 6) = false := by rw [beq_eq_false_iff_ne]; exact hk
    have e1 : bits .and .u64 (b : Int) 9223372036854775807 = (b : Int) % 9223372036854775808 := by
      have h := bits_and_u64_nat b 9223372036854775807 hb (by omega)
      have e : b &&& 9223372036854775807 = b % 9223372036854775808 := Nat.and_two_pow_sub_one_eq_mod _ 63
      rw [e] at h
      exact h.trans (by omega)
    by_cases hs : b / 9223372036854775808 = 1
    · rw [if_pos hs] at hp
      replace hp := Lib.hid hp
      have hd : ((b : Int) / 9223372036854775808 == 1) = true := by rw [beq_iff_eq]; omega
      go_enter Try.func24, Try.ntmps24
      go_wp2_with (go_at_call 14; refine (kind_any _ _ (by assumption)).mono ?_; rintro e w' ⟨rfl, rfl⟩)
      go_ret
      refine ⟨ret_int ?_, rfl⟩
      rw [hp.out]
      omega
    · rw [if_neg hs] at hp
      replace hp := Lib.hid hp
      have hd : ((b : Int) / 9223372036854775808 == 1) = false := by rw [beq_eq_false_iff_ne]; omega
      have hb2 : b < 9223372036854775808 := by omega
      go_enter Try.func24, Try.ntmps24
      go_wp2_with (go_at_call 14; refine (kind_any _ _ (by assumption)).mono ?_; rintro e w' ⟨rfl, rfl⟩)
      go_ret
      exact ⟨ret_int hp.out.symm, rfl⟩
set_option maxHeartbeats 800000 in
theorem same_any (a b : Nat) (ha : a < 18446744073709551616) (hb : b < 18446744073709551616) (w : World) :
    Calls Try.prog 19 #[.float .f64 a, .float .f64 b] w fun e w' => e = .returned (.bool (placeI a == placeI b)) ∧ w = w' := by
  go_enter Try.func19, Try.ntmps19
  go_wp2_with (go_at_call 24; refine (place_any _ (by assumption) _).mono ?_; rintro e w' ⟨rfl, rfl⟩)
  go_ret
  exact ⟨rfl, rfl⟩
end Go.Proofs.Ytbhifhnpcafpjaa
