/-
  The words of an instance with other gaps between them: what is read of them (layer 12); plain Lean, no program in sight.
-/
import Derived.Test.YtljcpgeggbbmfaaInstT3
namespace Go.Proofs.Ytljcpgeggbbmfaa
set_option linter.unusedVariables false
set_option linter.unusedSimpArgs false
open Go.RowKit
/-- what stands behind a word, by a number. -/
def gapP (q : Nat) : ByteArray := if q % 4 = 0 then ⟨#[32]⟩ else if q % 4 = 1 then ⟨#[10]⟩ else if q % 4 = 2 then ⟨#[32, 32, 10, 32]⟩ else ⟨#[32, 35, 32, 55, 32, 101, 110, 100, 10]⟩
theorem gap_p3 : isGap [32, 32, 10, 32] := gap_of fun _ _ _ => rfl
theorem gap_p4 : isGap [32, 35, 32, 55, 32, 101, 110, 100, 10] := gap_of fun _ _ _ => rfl
theorem gapP_ok (q : Nat) : isGap (L (gapP q)) ∧ (L (gapP q)).length ≤ 9 ∧ (L (gapP q)).all (fun c => okB c.toNat) = true := by
  unfold gapP
  split
  · exact ⟨gap_a, by decide, by decide⟩
  · split
    · exact ⟨gap_b, by decide, by decide⟩
    · split
      · exact ⟨gap_p3, by decide, by decide⟩
      · exact ⟨gap_p4, by decide, by decide⟩
def txtP (ws : List WordD) (i : Nat) : ByteArray := (ws[i]?.map WordD.text).getD ByteArray.empty
theorem txtP_in {ws : List WordD} {i : Nat} (h : i < ws.length) : txtP ws i = ws[i].text := by unfold txtP; rw [List.getElem?_eq_getElem h]; rfl
/-- the text that is built of the words, up to the k-th. -/
def tP (ws : List WordD) (g : Nat → ByteArray) : Nat → ByteArray
  | 0 => ⟨#[]⟩
  | k + 1 => tP ws g k ++ (txtP ws k ++ g k)
theorem tP_mono (ws : List WordD) (g : Nat → ByteArray) {j k : Nat} (h : j ≤ k) : (tP ws g j).size ≤ (tP ws g k).size := by
  induction k with
  | zero => rw [Nat.le_zero.1 h]; exact Nat.le_refl _
  | succ k ih =>
    rcases Nat.lt_or_ge j (k + 1) with h1 | h1
    · have := ih (by omega)
      show _ ≤ (tP ws g k ++ (txtP ws k ++ g k)).size
      rw [ByteArray.size_append]; omega
    · rw [show j = k + 1 by omega]; exact Nat.le_refl _
def pairsP (ws : List WordD) (g : Nat → ByteArray) (k : Nat) : List (List UInt8 × List UInt8) := (List.range k).map fun i => (L (txtP ws i), L (g i))
theorem joinT_app (a b : List (List UInt8 × List UInt8)) : joinT (a ++ b) = joinT a ++ joinT b := by
  induction a with
  | nil => rfl
  | cons x a ih => obtain ⟨p, q⟩ := x; simp only [List.cons_append, joinT, ih, List.append_assoc]
theorem tP_join (ws : List WordD) (g : Nat → ByteArray) : ∀ k, L (tP ws g k) = joinT (pairsP ws g k)
  | 0 => rfl
  | k + 1 => by
    show L (tP ws g k ++ (txtP ws k ++ g k)) = _
    rw [L_cat, L_cat, tP_join ws g k]
    unfold pairsP
    rw [List.range_succ, List.map_append, joinT_app]
    simp [joinT]
theorem pairsP_fst (ws : List WordD) (g : Nat → ByteArray) : (pairsP ws g ws.length).map Prod.fst = texts ws := by
  unfold pairsP texts
  rw [List.map_map]
  apply List.ext_getElem
  · simp
  · intro i h1 h2
    have hi : i < ws.length := by simpa using h1
    simp [txtP_in hi]
theorem joinP_len (l : List (List UInt8 × List UInt8)) (m : Nat) (h : ∀ x ∈ l, x.1.length + x.2.length ≤ m) : (joinT l).length ≤ m * l.length := by
  induction l with
  | nil => simp [joinT]
  | cons x l ih =>
    obtain ⟨p, q⟩ := x
    have h1 := h (p, q) (List.mem_cons_self)
    have h2 := ih (fun x hx => h x (List.mem_cons_of_mem _ hx))
    simp only [joinT, List.length_append, List.length_cons, Nat.mul_succ] at *
    omega
theorem joinP_all (p : UInt8 → Bool) (l : List (List UInt8 × List UInt8)) (h : ∀ x ∈ l, x.1.all p = true ∧ x.2.all p = true) : (joinT l).all p = true := by
  induction l with
  | nil => rfl
  | cons x l ih =>
    obtain ⟨a, b⟩ := x
    obtain ⟨h1, h2⟩ := h (a, b) (List.mem_cons_self)
    simp only [joinT, List.all_append, h1, h2, ih (fun x hx => h x (List.mem_cons_of_mem _ hx))]
    rfl
/-- the text with other gaps: its bytes may stand, it is no longer than so, its words are the instance's. -/
theorem back_t (X : InstD) (ws : List WordD) (hw : texts ws = wordsI X) (g : Nat → ByteArray) (hg : ∀ i, isGap (L (g i)) ∧ (L (g i)).length ≤ 9 ∧ (L (g i)).all (fun c => okB c.toNat) = true) :
    okAll (tP ws g ws.length) = true ∧ (tP ws g ws.length).size ≤ 29 * ws.length ∧ texts (wordsL (tP ws g ws.length)) = wordsI X := by
  have hp : ∀ x ∈ pairsP ws g ws.length, okW x.1 ∧ isGap x.2 ∧ x.2.length ≤ 9 ∧ x.2.all (fun c => okB c.toNat) = true := by
    intro x hx
    obtain ⟨i, hi, rfl⟩ := List.mem_map.1 hx
    have hi := List.mem_range.1 hi
    refine ⟨okW_I X _ ?_, hg i⟩
    rw [← hw, txtP_in hi]
    exact List.mem_map.2 ⟨ws[i], List.getElem_mem hi, rfl⟩
  have hj := tP_join ws g ws.length
  refine ⟨?_, ?_, ?_⟩
  · rw [okAll_iff, hj]
    exact joinP_all _ _ (fun x hx => ⟨(hp x hx).1.2.1, (hp x hx).2.2.2⟩)
  · have := joinP_len (pairsP ws g ws.length) 29 (fun x hx => by have := (hp x hx).1.2.2; have := (hp x hx).2.2.1; omega)
    rw [← hj, L_length] at this
    have e : (pairsP ws g ws.length).length = ws.length := by unfold pairsP; simp
    rwa [e] at this
  · show (wordsL _).map (fun x => L x.text) = _
    rw [words_texts, hj, end_join _ (fun x hx => ⟨(hp x hx).1.1, (hp x hx).2.1⟩), pairsP_fst, hw]
/-- the words of an instance are short. -/
theorem word_short {X : InstD} {ws : List WordD} (hw : texts ws = wordsI X) : ∀ x ∈ ws, x.text.size ≤ 20 := by
  intro x hx
  have : L x.text ∈ wordsI X := by rw [← hw]; exact List.mem_map.2 ⟨x, hx, rfl⟩
  exact (okW_I X _ this).2.2
theorem texts_len {X : InstD} {ws : List WordD} (hw : texts ws = wordsI X) : ws.length = (wordsI X).length := by
  rw [← hw]; simp [texts]
end Go.Proofs.Ytljcpgeggbbmfaa
