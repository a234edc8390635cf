/-
  A text's words, in plain Lean: byte by byte; no program in sight (layer 5).
-/
import Derived.Test.YtljcpgeggbbmfaaNum
namespace Go.Proofs.Ytljcpgeggbbmfaa
set_option linter.unusedVariables false
set_option linter.unusedSimpArgs false
open Go.RowKit
structure WordD where
  text : ByteArray
  pos : Nat
def wordV (x : WordD) : List Value := [.string x.text, .int .i64 (x.pos : Int)]
/-- may a byte stand in a text? -/
def okB (c : Nat) : Bool := c == 10 || (decide (32 ≤ c) && decide (c ≤ 126))
/-- the byte at a place; behind the end a newline. -/
def bX (s : ByteArray) (k : Nat) : Nat := if h : k < s.size then s[k].toNat else 10
theorem bX_in (s : ByteArray) {k : Nat} (h : k < s.size) : bX s k = s[k].toNat := by unfold bX; rw [dif_pos h]
theorem bX_end (s : ByteArray) {k : Nat} (h : ¬ k < s.size) : bX s k = 10 := by unfold bX; rw [dif_neg h]
/-- what the reader of bytes holds: the words so far; where one has begun; within a remark. -/
structure St where
  out : List WordD
  frm : Option Nat
  note : Bool
def flushW (s : ByteArray) (t : St) (i : Nat) : List WordD := match t.frm with | some f => t.out ++ [⟨s.extract f i, f⟩] | none => t.out
def isDel (c : Nat) : Bool := c == 32 || c == 10 || c == 35
def stepS (s : ByteArray) (i c : Nat) (t : St) : St :=
  if t.note then ⟨t.out, t.frm, c != 10⟩
  else if isDel c then ⟨flushW s t i, none, c == 35⟩
  else match t.frm with | none => ⟨t.out, some i, false⟩ | some f => ⟨t.out, some f, false⟩
def stN (s : ByteArray) : Nat → St
  | 0 => ⟨[], none, false⟩
  | k + 1 => stepS s k (bX s k) (stN s k)
def wordsL (s : ByteArray) : List WordD := (stN s (s.size + 1)).out
/-- the first k bytes may stand. -/
def okTo (s : ByteArray) : Nat → Bool
  | 0 => true
  | k + 1 => okTo s k && okB (bX s k)
/-- all bytes may stand. -/
def okAll (s : ByteArray) : Bool := okTo s s.size
/-- where the first byte is that may not stand. -/
def IsBad (s : ByteArray) (k : Nat) : Prop := k < s.size ∧ okTo s k = true ∧ okB (bX s k) = false
theorem okTo_mono {s : ByteArray} {j k : Nat} (h : j ≤ k) (hk : okTo s k = true) : okTo s j = true := by
  induction k with
  | zero => rw [Nat.le_zero.1 h]; rfl
  | succ k ih =>
    simp only [okTo, Bool.and_eq_true] at hk
    rcases Nat.lt_or_ge j (k + 1) with h1 | h1
    · exact ih (by omega) hk.1
    · rw [show j = k + 1 by omega]; simp only [okTo, Bool.and_eq_true]; exact hk
theorem bad_all {s : ByteArray} {k : Nat} (h : IsBad s k) : okAll s = false := by
  cases e : okAll s with
  | false => rfl
  | true =>
    have := okTo_mono (s := s) (j := k + 1) (k := s.size) h.1 e
    simp only [okTo, Bool.and_eq_true] at this
    rw [h.2.2] at this
    cases this.2
theorem bad_unique {s : ByteArray} {j k : Nat} (hj : IsBad s j) (hk : IsBad s k) : j = k := by
  rcases Nat.lt_trichotomy j k with h | h | h
  · have := okTo_mono (s := s) (j := j + 1) h hk.2.1
    simp only [okTo, Bool.and_eq_true] at this
    rw [hj.2.2] at this; cases this.2
  · exact h
  · have := okTo_mono (s := s) (j := k + 1) h hj.2.1
    simp only [okTo, Bool.and_eq_true] at this
    rw [hk.2.2] at this; cases this.2
theorem bad_or (s : ByteArray) : okAll s = true ∨ ∃ k, IsBad s k := by
  have : ∀ k, k ≤ s.size → okTo s k = true ∨ ∃ j, IsBad s j := by
    intro k
    induction k with
    | zero => intro _; exact .inl rfl
    | succ k ih =>
      intro h
      rcases ih (by omega) with h1 | h1
      · cases e : okB (bX s k) with
        | true => exact .inl (by simp only [okTo, h1, e]; rfl)
        | false => exact .inr ⟨k, h, h1, e⟩
      · exact .inr h1
  exact this s.size (Nat.le_refl _)
/-- what always holds of the reader's state. -/
structure StOk (s : ByteArray) (k : Nat) (t : St) : Prop where
  len : t.out.length ≤ k
  frm : ∀ f, t.frm = some f → f < k ∧ f < s.size
  note : t.note = true → t.frm = none
  pos : ∀ x ∈ t.out, x.pos < s.size ∧ ∃ e, x.text = s.extract x.pos e ∧ e ≤ s.size ∧ x.pos < e
  more : t.out.length + (if t.frm.isSome then 1 else 0) ≤ k
theorem stN_ok (s : ByteArray) : ∀ k, k ≤ s.size + 1 → StOk s k (stN s k)
  | 0, _ => ⟨Nat.le_refl _, (fun f h => by cases h), (fun h => by cases h), (fun x h => by cases h), by simp [stN]⟩
  | k + 1, hk => by
    have ih := stN_ok s k (by omega)
    show StOk s (k + 1) (stepS s k (bX s k) (stN s k))
    generalize stN s k = t at *
    unfold stepS
    split
    · exact ⟨Nat.le_succ_of_le ih.len, fun f h => ⟨Nat.lt_succ_of_lt (ih.frm f h).1, (ih.frm f h).2⟩, fun _ => ih.note (by assumption), ih.pos, Nat.le_succ_of_le ih.more⟩
    · split
      · unfold flushW
        have hm := ih.more
        cases hf : t.frm with
        | none =>
          rw [hf] at hm
          simp at hm
          exact ⟨by dsimp only; omega, (fun f h => by cases h), fun _ => rfl, ih.pos, by simp; omega⟩
        | some f =>
          rw [hf] at hm
          simp at hm
          have hfk := ih.frm f hf
          refine ⟨by simp; omega, fun f h => (by cases h), fun _ => rfl, fun x hx => ?_, by simp; omega⟩
          rcases List.mem_append.1 hx with h | h
          · exact ih.pos x h
          · rw [List.mem_singleton] at h
            subst h
            exact ⟨hfk.2, k, rfl, by omega, hfk.1⟩
      · rename_i h1 h2
        have hm := ih.more
        have hks : k < s.size := by
          by_cases h : k < s.size
          · exact h
          · rw [bX_end s h] at h2
            exact absurd rfl h2
        cases hf : t.frm with
        | none =>
          rw [hf] at hm
          simp at hm
          exact ⟨by dsimp only; omega, (fun f h => by injection h with h; subst h; exact ⟨by omega, hks⟩), (fun h => by cases h), ih.pos, by simp; omega⟩
        | some f =>
          rw [hf] at hm
          simp at hm
          exact ⟨by dsimp only; omega, (fun f' h => by injection h with h; subst h; exact ⟨Nat.lt_succ_of_lt (ih.frm f hf).1, (ih.frm f hf).2⟩), (fun h => by cases h), ih.pos, by simp; omega⟩
theorem wordsL_len (s : ByteArray) : (wordsL s).length ≤ s.size + 1 := (stN_ok s (s.size + 1) (Nat.le_refl _)).len
theorem wordsL_pos (s : ByteArray) : ∀ x ∈ wordsL s, x.pos < s.size ∧ ∃ e, x.text = s.extract x.pos e ∧ e ≤ s.size ∧ x.pos < e := (stN_ok s (s.size + 1) (Nat.le_refl _)).pos
theorem wordV_len (l : List WordD) : (l.flatMap wordV).length = l.length * 2 := by
  induction l with
  | nil => rfl
  | cons s l ih => rw [List.flatMap_cons, List.length_append, ih, List.length_cons]; show 2 + l.length * 2 = _; omega
/-- where a word has begun, as a number: -1, where none has. -/
def frmV : Option Nat → Int
  | some f => (f : Int)
  | none => -1
end Go.Proofs.Ytljcpgeggbbmfaa
