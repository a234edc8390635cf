/-
  The walks of the statements WholeCeils, WholeParses, WholeTexts of layer 1.
-/
import Derived.Test.YtcjkicpjcendeaaAwake1
import Derived.Test.YtcjkicpjcendeaaRefParse
import Derived.Test.YtcjkicpjcendeaaText
import Derived.Deep.QuietTactic
import Derived.BigQuiet
namespace Go.Proofs.Ytcjkicpjcendeaa
open Go.RowKit
theorem emod_le_self {a b : Int} (ha : 0 ≤ a) (hb : 1 ≤ b) : a % b ≤ a := by
  have d0 : a % b + b * (a / b) = a := Int.emod_add_mul_ediv a b
  have d1 : 0 ≤ b * (a / b) := Int.mul_nonneg (by omega) (Int.ediv_nonneg ha (by omega))
  omega
theorem ceil_up (a b : Int) (w : World) (ha : I64 a) (hb : I64 b) (a0 : 0 ≤ a) (b0 : 1 ≤ b) (hm : 0 < a % b) :
    Calls Try.prog 28 #[.int .i64 a, .int .i64 b] w fun e w' => e = .returned (.int .i64 (a / b + 1)) ∧ w = w' :=
  (ceil_any a b w ha hb).mono fun e w' ⟨h, hw⟩ => ⟨by rw [h]; unfold ceilV; rw [if_neg (by omega), if_pos hm], hw⟩
theorem ceil_even (a b : Int) (w : World) (ha : I64 a) (hb : I64 b) (a0 : 0 ≤ a) (b0 : 1 ≤ b) (hm : a % b ≤ 0) :
    Calls Try.prog 28 #[.int .i64 a, .int .i64 b] w fun e w' => e = .returned (.int .i64 (a / b)) ∧ w = w' :=
  (ceil_any a b w ha hb).mono fun e w' ⟨h, hw⟩ => ⟨by rw [h]; unfold ceilV; rw [if_neg (by omega), if_neg (by omega)], hw⟩
theorem ceil_none (a b : Int) (w : World) (ha : I64 a) (hb : I64 b) (h : a < 0 ∨ b < 1) :
    Calls Try.prog 28 #[.int .i64 a, .int .i64 b] w fun e w' => e = .returned (.int .i64 0) ∧ w = w' :=
  (ceil_any a b w ha hb).mono fun e w' ⟨h', hw⟩ => ⟨by rw [h']; unfold ceilV; rw [if_pos h], hw⟩
set_option maxHeartbeats 800000 in
theorem law_WholeCeils (w : World) (a : Int) (ha : (Lit.int .i64 a).wf = true) (b : Int) (hb : (Lit.int .i64 b).wf = true) :
    Calls Try.prog 8 #[.int .i64 a, .int .i64 b] w fun e w' => e = .returned (.bool true) ∧ Below w.heap.size w w' := by
  have Ha := I64_of ha
  have Hb := I64_of hb
  clear ha hb
  by_cases h0 : a < 0 ∨ b < 1
  · have H0 := Lib.hid h0
    rcases h0 with h0 | h0
    · go_enter Try.func8, Try.ntmps8
      go_wp2_with (first | (go_at_call 23; refine (awake1_any _).mono ?_; rintro e w1 ⟨rfl, hb1⟩) | (go_at_call 28; refine (ceil_none _ _ _ (by assumption) (by assumption) H0.out).mono ?_; rintro e w2 ⟨rfl, rfl⟩))
      go_ret
      exact ⟨rfl, hb1⟩
    · by_cases h1 : a < 0
      all_goals
        go_enter Try.func8, Try.ntmps8
        go_wp2_with (first | (go_at_call 23; refine (awake1_any _).mono ?_; rintro e w1 ⟨rfl, hb1⟩) | (go_at_call 28; refine (ceil_none _ _ _ (by assumption) (by assumption) H0.out).mono ?_; rintro e w2 ⟨rfl, rfl⟩))
        go_ret
        exact ⟨rfl, hb1⟩
  · have a0 : 0 ≤ a := by omega
    have b0 : 1 ≤ b := by omega
    clear h0
    have bz : ¬ b = 0 := by omega
    have d1 : 0 ≤ a / b := Int.ediv_nonneg a0 (by omega)
    have d2 : 0 ≤ a % b := Int.emod_nonneg a bz
    have d4 : a % b < b := Int.emod_lt_of_pos a (by omega)
    have d9 : a % b ≤ a := emod_le_self a0 b0
    have d3 : a / b ≤ a ∧ (0 < a % b → a / b + 1 ≤ a) := by
      have d0 : a % b + b * (a / b) = a := Int.emod_add_mul_ediv a b
      have h1 : a / b ≤ b * (a / b) := by
        have := Int.mul_le_mul_of_nonneg_right b0 d1
        omega
      refine ⟨by omega, fun hm => ?_⟩
      have : 2 * (a / b) ≤ b * (a / b) := Int.mul_le_mul_of_nonneg_right (by omega) d1
      omega
    obtain ⟨d5, d6⟩ := d3
    have d7 : a ≤ 9223372036854775807 := Ha.2
    by_cases hm : 0 < a % b
    · have d8 := d6 hm
      have e1 : (a / b + 1 == a / b) = false := by rw [beq_eq_false_iff_ne]; omega
      have e2 : (a % b == 0) = false := by rw [beq_eq_false_iff_ne]; omega
      clear d6
      have p1 : decide (0 ≤ a / b + 1) = true := decide_eq_true (by omega)
      have p2 : decide (a / b + 1 ≤ a) = true := decide_eq_true (by omega)
      have p3 : decide (a / b ≤ a / b + 1) = true := decide_eq_true (by omega)
      have q1 : a.tdiv b = a / b := Int.tdiv_eq_ediv_of_nonneg a0
      have q2 : a.tmod b = a % b := Int.tmod_eq_emod_of_nonneg a0
      have q3 : IntKind.i64.wrap (a / b) = a / b := IntWalk.i64_in _ (by omega)
      have q4 : IntKind.i64.wrap (a % b) = a % b := IntWalk.i64_in _ (by omega)
      have q5 : IntKind.i64.wrap (a / b + 1 - a / b) = 1 := by rw [show a / b + 1 - a / b = 1 by omega]; rfl
      go_enter Try.func8, Try.ntmps8
      go_wp2_with (first | (go_at_call 23; refine (awake1_any _).mono ?_; rintro e w1 ⟨rfl, hb1⟩) | (go_at_call 28; refine (ceil_up _ _ _ (by assumption) (by assumption) (by assumption) (by assumption) (by assumption)).mono ?_; rintro e w2 ⟨rfl, rfl⟩))
      go_quiet (fail)
      go_wp2
      go_ret
      exact ⟨rfl, below_drewN hb1 _⟩
    · have e2 : (a % b == 0) = true := by rw [beq_iff_eq]; omega
      have Hm : a % b ≤ 0 := by omega
      clear d6 hm
      have p1 : decide (0 ≤ a / b) = true := decide_eq_true (by omega)
      have p2 : decide (a / b ≤ a) = true := decide_eq_true (by omega)
      have p3 : decide (a / b ≤ a / b) = true := decide_eq_true (by omega)
      have q1 : a.tdiv b = a / b := Int.tdiv_eq_ediv_of_nonneg a0
      have q2 : a.tmod b = a % b := Int.tmod_eq_emod_of_nonneg a0
      have q3 : IntKind.i64.wrap (a / b) = a / b := IntWalk.i64_in _ (by omega)
      have q4 : IntKind.i64.wrap (a % b) = a % b := IntWalk.i64_in _ (by omega)
      have q5 : IntKind.i64.wrap 0 = 0 := rfl
      go_enter Try.func8, Try.ntmps8
      go_wp2_with (first | (go_at_call 23; refine (awake1_any _).mono ?_; rintro e w1 ⟨rfl, hb1⟩) | (go_at_call 28; refine (ceil_even _ _ _ (by assumption) (by assumption) (by assumption) (by assumption) (by assumption)).mono ?_; rintro e w2 ⟨rfl, rfl⟩))
      go_quiet (fail)
      go_wp2
      go_ret
      exact ⟨rfl, below_drewN hb1 _⟩
set_option maxHeartbeats 800000 in
theorem law_WholeParses (w : World) (s : ByteArray) (hs : s.size ≤ maxLen) :
    Calls Try.prog 9 #[.string s] w fun e w' => e = .returned (.bool true) ∧ Below w.heap.size w w' := by
  unfold maxLen at hs
  go_enter Try.func9, Try.ntmps9
  go_wp2_with (first | (go_at_call 23; refine (awake1_any _).mono ?_; rintro e w1 ⟨rfl, hb1⟩) | (go_at_call 29; refine (parse_any _ _ (by assumption)).mono ?_; rintro e w2 ⟨hc, hb2⟩; unfold ParseEnd at hc; subst hc) | (go_at_call 30; refine (refParse_any _ _ (by assumption)).mono ?_; rintro e w3 ⟨hc, rfl⟩; unfold ParseEnd at hc; subst hc))
  go_ret
  exact ⟨rfl, hb1.trans (hb2.mono hb1.size)⟩

theorem text_in (n : Int) (w : World) (h0 : 0 ≤ n) (h1 : n ≤ 1000000000000000) :
    Calls Try.prog 29 #[.string ⟨(textV n).toArray⟩] w fun e w' => e = .returned (.tuple #[.int .i64 n, .bool true]) ∧ Below w.heap.size w w' := by
  obtain ⟨e1, e2⟩ := parse_text n (by omega)
  refine (parse_any _ w ?_).mono fun e w' ⟨h, hw⟩ => ⟨?_, hw⟩
  · show (textV n).length ≤ _
    have := digF_len 19 n.natAbs
    unfold textV digN; rw [if_neg (by omega)]; omega
  · rw [h]
    show Ending.returned (.tuple #[.int .i64 (parseV (textV n)), .bool (okNum (textV n))]) = _
    unfold parseV
    rw [e1, show decide (0 ≤ n ∧ n ≤ 1000000000000000) = true from decide_eq_true ⟨h0, h1⟩, if_pos rfl, e2 h0]
theorem text_out (n : Int) (w : World) (hn : I64 n) (h : n < 0 ∨ 1000000000000000 < n) :
    Calls Try.prog 29 #[.string ⟨(textV n).toArray⟩] w fun e w' => e = .returned (.tuple #[.int .i64 0, .bool false]) ∧ Below w.heap.size w w' := by
  obtain ⟨e1, e2⟩ := parse_text n (by unfold I64 at hn; omega)
  refine (parse_any _ w ?_).mono fun e w' ⟨h', hw⟩ => ⟨?_, hw⟩
  · show (textV n).length ≤ _
    have := digF_len 19 n.natAbs
    unfold textV digN; split <;> simp <;> omega
  · rw [h']
    show Ending.returned (.tuple #[.int .i64 (parseV (textV n)), .bool (okNum (textV n))]) = _
    unfold parseV
    rw [e1, show decide (0 ≤ n ∧ n ≤ 1000000000000000) = false from decide_eq_false (by omega)]; rfl
set_option maxHeartbeats 800000 in
theorem law_WholeTexts (w : World) (n : Int) (hn : (Lit.int .i64 n).wf = true) :
    Calls Try.prog 12 #[.int .i64 n] w fun e w' => e = .returned (.bool true) ∧ Below w.heap.size w w' := by
  have Hn := I64_of hn
  clear hn
  by_cases h0 : 0 ≤ n
  · by_cases h1 : n ≤ 1000000000000000
    · go_enter Try.func12, Try.ntmps12
      go_wp2_with (first | (go_at_call 23; refine (awake1_any _).mono ?_; rintro e w1 ⟨rfl, hb1⟩) | (go_at_call 34; refine (text_any _ _ (by assumption)).mono ?_; rintro e w2 ⟨rfl, hb2⟩) | (go_at_call 29; refine (text_in _ _ (by assumption) (by assumption)).mono ?_; rintro e w3 ⟨rfl, hb3⟩) | (go_at_call 35; refine (refText_any _ _ (by assumption)).mono ?_; rintro e w4 ⟨rfl, rfl⟩))
      go_ret
      exact ⟨rfl, (hb1.trans (hb2.mono hb1.size)).trans (hb3.mono (Nat.le_trans hb1.size hb2.size))⟩
    · have H0 := Lib.hid (show n < 0 ∨ 1000000000000000 < n by omega)
      have d1 : decide (n ≤ 1000000000000000) = false := decide_eq_false h1
      go_enter Try.func12, Try.ntmps12
      go_wp2_with (first | (go_at_call 23; refine (awake1_any _).mono ?_; rintro e w1 ⟨rfl, hb1⟩) | (go_at_call 34; refine (text_any _ _ (by assumption)).mono ?_; rintro e w2 ⟨rfl, hb2⟩) | (go_at_call 29; refine (text_out _ _ (by assumption) H0.out).mono ?_; rintro e w3 ⟨rfl, hb3⟩) | (go_at_call 35; refine (refText_any _ _ (by assumption)).mono ?_; rintro e w4 ⟨rfl, rfl⟩))
      go_ret
      exact ⟨rfl, (hb1.trans (hb2.mono hb1.size)).trans (hb3.mono (Nat.le_trans hb1.size hb2.size))⟩
  · have H0 := Lib.hid (show n < 0 ∨ 1000000000000000 < n by omega)
    go_enter Try.func12, Try.ntmps12
    go_wp2_with (first | (go_at_call 23; refine (awake1_any _).mono ?_; rintro e w1 ⟨rfl, hb1⟩) | (go_at_call 34; refine (text_any _ _ (by assumption)).mono ?_; rintro e w2 ⟨rfl, hb2⟩) | (go_at_call 29; refine (text_out _ _ (by assumption) H0.out).mono ?_; rintro e w3 ⟨rfl, hb3⟩) | (go_at_call 35; refine (refText_any _ _ (by assumption)).mono ?_; rintro e w4 ⟨rfl, rfl⟩))
    go_ret
    exact ⟨rfl, (hb1.trans (hb2.mono hb1.size)).trans (hb3.mono (Nat.le_trans hb1.size hb2.size))⟩
end Go.Proofs.Ytcjkicpjcendeaa
