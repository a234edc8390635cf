/-
  A text of digits is the one that Text tells of its number just if no nought stands ahead: no program in sight.
-/
import Derived.Test.YtljcpgeggbbmfaaDig
namespace Go.Proofs.Ytljcpgeggbbmfaa
set_option linter.unusedVariables false
set_option linter.unusedSimpArgs false

/-- digits, one at least, without noughts ahead. -/
structure Canon (l : List UInt8) : Prop where
  dig : l.all isDig = true
  ne : l ≠ []
  head : 1 < l.length → l.getD 0 0 ≠ 48
theorem numN_ge (l : List UInt8) : ∀ n, n ≤ l.foldl (fun n c => 10 * n + (c.toNat - 48)) n := by
  induction l with
  | nil => intro n; exact Nat.le_refl _
  | cons c l ih => intro n; exact Nat.le_trans (by omega) (ih (10 * n + (c.toNat - 48)))
theorem numN_pos {l : List UInt8} (hd : l.all isDig = true) (hn : l ≠ []) (h : l.getD 0 0 ≠ 48) : 1 ≤ numN l := by
  match l, hn with
  | c :: l, _ =>
    have hc : isDig c = true := by simp only [List.all_cons, Bool.and_eq_true] at hd; exact hd.1
    rw [dig_iff] at hc
    have h1 : c ≠ 48 := by simpa using h
    have h2 : c.toNat ≠ 48 := fun e => h1 (UInt8.toNat_inj.1 (by rw [e]; rfl))
    exact Nat.le_trans (by omega) (numN_ge l (10 * 0 + (c.toNat - 48)))
theorem snoc_of {l : List UInt8} (h : l ≠ []) : ∃ l' c, l = l' ++ [c] := ⟨l.dropLast, l.getLast h, (List.dropLast_concat_getLast h).symm⟩
theorem dg_of (n : Nat) (c : UInt8) (hc : isDig c = true) : dg (10 * n + (c.toNat - 48)) = c := by
  rw [dig_iff] at hc
  apply UInt8.toNat_inj.1
  rw [dg_toNat]; omega
theorem getD_head_append {l : List UInt8} (h : l ≠ []) (t : List UInt8) : (l ++ t).getD 0 0 = l.getD 0 0 := by
  match l, h with
  | c :: l, _ => rfl
theorem digF_num : ∀ (f : Nat) (l : List UInt8), Canon l → l.length ≤ f → digF f (numN l) = l := by
  intro f
  induction f with
  | zero => intro l h hl; exact absurd (List.eq_nil_of_length_eq_zero (by omega)) h.ne
  | succ f ih =>
    intro l h hl
    obtain ⟨l', c, rfl⟩ := snoc_of h.ne
    have hd := h.dig
    rw [all_snoc, Bool.and_eq_true] at hd
    rw [numN_snoc]
    by_cases he : l' = []
    · subst he
      have hc := hd.2
      rw [digF_lo (by omega) (by rw [dig_iff] at hc; simp [numN]; omega), dg_of _ _ hc]; rfl
    · have hlen : 1 < (l' ++ [c]).length := by
        have := List.length_pos_iff.2 he
        simp; omega
      have hh := h.head hlen
      rw [getD_head_append he] at hh
      have hp := numN_pos hd.1 he hh
      have hc := hd.2
      have hc' := (dig_iff c).1 hc
      rw [digF_hi (by omega), dg_of _ _ hc, show (10 * numN l' + (c.toNat - 48)) / 10 = numN l' by omega, ih l' ⟨hd.1, he, fun _ => hh⟩ (by simp at hl; omega)]
theorem isDig_dg (n : Nat) : isDig (dg n) = true := by rw [dig_iff, dg_toNat]; omega
theorem dg_ne {n : Nat} (h : n % 10 ≠ 0) : dg n ≠ 48 := by
  intro e
  have := congrArg UInt8.toNat e
  rw [dg_toNat] at this
  have h48 : (48 : UInt8).toNat = 48 := rfl
  omega
theorem digF_props : ∀ (f n : Nat), 1 ≤ f → n < 10 ^ f → (digF f n).all isDig = true ∧ digF f n ≠ [] ∧ numN (digF f n) = n ∧ (1 ≤ n → (digF f n).getD 0 0 ≠ 48) ∧ (n < 10 → (digF f n).length = 1) := by
  intro f
  induction f with
  | zero => intro n h; omega
  | succ f ih =>
    intro n _ hn
    by_cases hlt : n < 10
    · rw [digF_lo (by omega) hlt]
      refine ⟨by simp [isDig_dg], by simp, ?_, fun h => ?_, fun _ => rfl⟩
      · show 10 * 0 + ((dg n).toNat - 48) = n
        rw [dg_toNat]; omega
      · show dg n ≠ 48
        exact dg_ne (by omega)
    · have hf : 1 ≤ f := by
        rcases Nat.eq_zero_or_pos f with h | h
        · subst h; omega
        · exact h
      obtain ⟨a, b, c, d, _⟩ := ih (n / 10) hf (by rw [Nat.pow_succ] at hn; omega)
      rw [digF_hi hlt]
      refine ⟨by rw [all_snoc, a, isDig_dg]; rfl, by simp, ?_, fun _ => ?_, fun h => absurd h hlt⟩
      · rw [numN_snoc, c, dg_toNat]; omega
      · rw [getD_head_append b]; exact d (by omega)
theorem digF_length : ∀ (f k n : Nat), 1 ≤ k → n < 10 ^ k → (digF f n).length ≤ k := by
  intro f
  induction f with
  | zero => intro k n _ _; simp [digF]
  | succ f ih =>
    intro k n hk hn
    by_cases hlt : n < 10
    · rw [digF_lo (by omega) hlt]; simpa using hk
    · have hk2 : 2 ≤ k := by
        rcases Nat.lt_or_ge k 2 with h | h
        · obtain rfl : k = 1 := by omega
          omega
        · exact h
      obtain ⟨j, rfl⟩ : ∃ j, k = j + 1 := ⟨k - 1, by omega⟩
      rw [digF_hi hlt]
      have := ih j (n / 10) (by omega) (by rw [Nat.pow_succ] at hn; omega)
      simp; omega
theorem canon_digN {n : Nat} (h : n < 10 ^ 19) : Canon (digN n) ∧ numN (digN n) = n := by
  obtain ⟨a, b, c, d, e⟩ := digF_props 19 n (by omega) h
  refine ⟨⟨a, b, fun hl => ?_⟩, c⟩
  rcases Nat.eq_zero_or_pos n with h0 | h0
  · have := e (by omega)
    unfold digN at hl; omega
  · exact d h0
theorem digN_num {l : List UInt8} (h : Canon l) (hl : l.length ≤ 19) : digN (numN l) = l := digF_num 19 l h hl
theorem okNum_iff (l : List UInt8) : okNum l = true ↔ Canon l ∧ l.length ≤ 16 ∧ numN l ≤ 1000000000000000 := by
  unfold okNum
  simp only [Bool.and_eq_true, Bool.not_eq_true', decide_eq_true_eq, Bool.and_eq_false_iff, decide_eq_false_iff_not, beq_eq_false_iff_ne, ne_eq, List.isEmpty_eq_false_iff]
  constructor
  · rintro ⟨⟨⟨⟨a, b⟩, c⟩, d⟩, e⟩
    exact ⟨⟨d, a, fun h => by rcases c with c | c; exact absurd h c; exact c⟩, b, e⟩
  · rintro ⟨⟨a, b, c⟩, d, e⟩
    refine ⟨⟨⟨⟨b, d⟩, ?_⟩, a⟩, e⟩
    by_cases h : 1 < l.length
    · exact .inr (c h)
    · exact .inl h
/-- of digits whose number is small enough: the number may be read just if it tells the very text. -/
theorem okNum_text {l : List UInt8} (_hd : l.all isDig = true) (hl : l.length ≤ 16) (hn : numN l ≤ 1000000000000000) : okNum l = true ↔ textV (numN l : Int) = l := by
  have e : textV (numN l : Int) = digN (numN l) := by unfold textV; rw [if_neg (by omega), Int.natAbs_natCast]
  rw [e, okNum_iff]
  constructor
  · rintro ⟨h, _, _⟩
    exact digN_num h (by omega)
  · intro h
    have hc := (canon_digN (n := numN l) (by omega)).1
    rw [h] at hc
    exact ⟨hc, hl, hn⟩
theorem parse_text (n : Int) (hn : n.natAbs < 10 ^ 19) : okNum (textV n) = decide (0 ≤ n ∧ n ≤ 1000000000000000) ∧ (0 ≤ n → (numN (textV n) : Int) = n) := by
  by_cases h : n < 0
  · refine ⟨?_, fun h' => by omega⟩
    rw [show decide (0 ≤ n ∧ n ≤ 1000000000000000) = false from decide_eq_false (by omega)]
    apply okNum_nd
    unfold textV; rw [if_pos h]; rfl
  · have e : textV n = digN n.natAbs := by unfold textV; rw [if_neg h]
    obtain ⟨hc, hv⟩ := canon_digN hn
    rw [e]
    refine ⟨?_, fun _ => by rw [hv]; omega⟩
    rw [Bool.eq_iff_iff, okNum_iff, decide_eq_true_eq, hv]
    constructor
    · rintro ⟨_, _, h3⟩; omega
    · rintro ⟨h1, h2⟩
      exact ⟨hc, digF_length 19 16 _ (by omega) (by omega), by omega⟩
end Go.Proofs.Ytljcpgeggbbmfaa
