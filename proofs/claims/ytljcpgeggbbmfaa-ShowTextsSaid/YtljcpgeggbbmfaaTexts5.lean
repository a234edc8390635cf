/-
  A text's words as lists of bytes, their places left out; words with other gaps between them: plain Lean, no program in sight (layer 5).
-/
import Derived.Test.YtljcpgeggbbmfaaWords
namespace Go.Proofs.Ytljcpgeggbbmfaa
set_option linter.unusedVariables false
set_option linter.unusedSimpArgs false
open Go.RowKit
structure StT where
  out : List (List UInt8)
  cur : List UInt8
  note : Bool
def putT (t : StT) : List (List UInt8) := if t.cur = [] then t.out else t.out ++ [t.cur]
def stepT (t : StT) (c : UInt8) : StT :=
  if t.note then ⟨t.out, t.cur, c.toNat != 10⟩
  else if isDel c.toNat then ⟨putT t, [], c.toNat == 35⟩
  else ⟨t.out, t.cur ++ [c], false⟩
def runT (l : List UInt8) : StT := l.foldl stepT ⟨[], [], false⟩
/-- the words of a text. -/
def endT (l : List UInt8) : List (List UInt8) := putT (runT l)
theorem runT_snoc (l : List UInt8) (c : UInt8) : runT (l ++ [c]) = stepT (runT l) c := by unfold runT; rw [List.foldl_append]; rfl
theorem L_extract (s : ByteArray) (f k : Nat) : L (s.extract f k) = ((L s).take k).drop f := by
  show (s.extract f k).data.toList = _
  rw [ByteArray.data_extract, Array.toList_extract, List.extract_eq_take_drop, List.drop_take]
/-- what the two readers of bytes hold agrees. -/
theorem st_run (s : ByteArray) : ∀ k, k ≤ s.size → (stN s k).out.map (fun x => L x.text) = (runT ((L s).take k)).out ∧ (runT ((L s).take k)).cur = (match (stN s k).frm with | some f => ((L s).take k).drop f | none => []) ∧ (runT ((L s).take k)).note = (stN s k).note
  | 0, _ => ⟨rfl, rfl, rfl⟩
  | k + 1, hk => by
    obtain ⟨h1, h2, h3⟩ := st_run s k (by omega)
    have hok := stN_ok s k (by omega)
    have hks : k < s.size := by omega
    have hlen : ((L s).take k).length = k := by rw [List.length_take, L_length]; omega
    rw [take_snoc s k hks, runT_snoc]
    show (stepS s k (bX s k) (stN s k)).out.map _ = _ ∧ _ = (match (stepS s k (bX s k) (stN s k)).frm with | some f => _ | none => _) ∧ _ = (stepS s k (bX s k) (stN s k)).note
    rw [bX_in s hks]
    generalize hr : runT ((L s).take k) = r at *
    generalize stN s k = tt at *
    obtain ⟨out, frm, note⟩ := tt
    obtain ⟨o2, c2, n2⟩ := r
    dsimp only at h1 h2 h3 hok
    subst h1 h3
    unfold stepT stepS
    dsimp only
    cases n2 with
    | true =>
      have hf := hok.note rfl
      dsimp only at hf
      subst hf
      exact ⟨rfl, h2, rfl⟩
    | false =>
      simp only [Bool.false_eq_true, if_false]
      cases hd : isDel s[k].toNat with
      | true =>
        simp only [if_true]
        refine ⟨?_, by first | trivial | rfl, by first | trivial | rfl⟩
        unfold flushW putT
        cases frm with
        | none =>
          dsimp only at h2
          subst h2
          simp
        | some f =>
          dsimp only at h2
          have hfk : f < k := (hok.frm f rfl).1
          have hne : c2 ≠ [] := fun e => by
            have := congrArg List.length (h2.symm.trans e)
            simp at this
            omega
          simp only [hne, if_false, List.map_append, List.map_cons, List.map_nil]
          rw [L_extract, ← h2]
      | false =>
        simp only [Bool.false_eq_true, if_false]
        cases frm with
        | none =>
          dsimp only at h2 ⊢
          subst h2
          refine ⟨rfl, ?_, rfl⟩
          rw [List.drop_append_of_le_length (by omega), List.drop_of_length_le (by omega)]
        | some f =>
          dsimp only at h2 ⊢
          have hfk : f < k := (hok.frm f rfl).1
          refine ⟨rfl, ?_, rfl⟩
          rw [List.drop_append_of_le_length (by omega), ← h2]
theorem words_texts (s : ByteArray) : (wordsL s).map (fun x => L x.text) = endT (L s) := by
  obtain ⟨h1, h2, h3⟩ := st_run s s.size (Nat.le_refl _)
  rw [take_all] at h1 h2 h3
  have hok := stN_ok s s.size (Nat.le_succ _)
  show (stepS s s.size (bX s s.size) (stN s s.size)).out.map _ = _
  rw [bX_end s (Nat.lt_irrefl _)]
  unfold endT
  generalize runT (L s) = r at *
  generalize stN s s.size = tt at *
  obtain ⟨out, frm, note⟩ := tt
  obtain ⟨o2, c2, n2⟩ := r
  dsimp only at h1 h2 h3 hok
  subst h1 h3
  unfold stepS putT
  cases n2 with
  | true =>
    have hf := hok.note rfl
    dsimp only at hf
    subst hf
    dsimp only at h2
    subst h2
    simp
  | false =>
    show (flushW s ⟨out, frm, false⟩ s.size).map _ = _
    unfold flushW
    cases frm with
    | none =>
      dsimp only at h2
      subst h2
      simp
    | some f =>
      dsimp only at h2
      have hfk : f < s.size := (hok.frm f rfl).1
      have hne : c2 ≠ [] := fun e => by
        have := congrArg List.length (h2.symm.trans e)
        simp [L_length] at this
        have e2 : s.data.size = s.size := rfl
        omega
      simp only [hne, if_false, List.map_append, List.map_cons, List.map_nil]
      rw [L_extract, take_all, ← h2]
/-- a word: some bytes, none of which parts words. -/
def isW (w : List UInt8) : Prop := w ≠ [] ∧ ∀ c ∈ w, isDel c.toNat = false
/-- what always holds of the words. -/
structure TOk (l : List UInt8) (t : StT) : Prop where
  word : ∀ w ∈ t.out, isW w
  cur : ∀ c ∈ t.cur, isDel c.toNat = false
  sub : ∀ w ∈ t.out, ∀ c ∈ w, c ∈ l
  subc : ∀ c ∈ t.cur, c ∈ l
  len : (t.out.map List.length).sum + t.cur.length ≤ l.length
theorem runT_ok (l : List UInt8) : TOk l (runT l) := by
  have : ∀ n, n ≤ l.length → TOk (l.take n) (runT (l.take n)) := by
    intro n
    induction n with
    | zero => intro _; exact ⟨(fun w h => by cases h), (fun c h => by cases h), (fun w h => by cases h), (fun c h => by cases h), by simp [runT]⟩
    | succ n ih =>
      intro hn
      have ih := ih (by omega)
      rw [List.take_succ_eq_append_getElem (by omega), runT_snoc]
      generalize l[n] = c
      generalize hl : l.take n = m at *
      generalize runT m = t at *
      unfold stepT
      split
      · exact ⟨ih.word, ih.cur, fun w hw c hc => List.mem_append_left _ (ih.sub w hw c hc), fun c hc => List.mem_append_left _ (ih.subc c hc), by rw [List.length_append]; exact Nat.le_trans ih.len (Nat.le_add_right _ _)⟩
      · split
        · unfold putT
          split
          · rename_i he
            refine ⟨ih.word, (fun c h => by cases h), fun w hw c hc => List.mem_append_left _ (ih.sub w hw c hc), (fun c h => by cases h), ?_⟩
            have := ih.len
            rw [he] at this
            rw [List.length_append]; exact Nat.le_trans this (Nat.le_add_right _ _)
          · rename_i he
            refine ⟨fun w hw => ?_, (fun c h => by cases h), fun w hw c hc => ?_, (fun c h => by cases h), ?_⟩
            · rcases List.mem_append.1 hw with h | h
              · exact ih.word w h
              · rw [List.mem_singleton] at h; subst h; exact ⟨he, ih.cur⟩
            · rcases List.mem_append.1 hw with h | h
              · exact List.mem_append_left _ (ih.sub w h c hc)
              · rw [List.mem_singleton] at h; subst h; exact List.mem_append_left _ (ih.subc c hc)
            · have := ih.len
              simp [List.sum_append]
              omega
        · rename_i h1 h2
          refine ⟨ih.word, fun x hx => ?_, fun w hw c hc => List.mem_append_left _ (ih.sub w hw c hc), fun x hx => ?_, ?_⟩
          · rcases List.mem_append.1 hx with h | h
            · exact ih.cur x h
            · rw [List.mem_singleton] at h; subst h; simpa using h2
          · rcases List.mem_append.1 hx with h | h
            · exact List.mem_append_left _ (ih.subc x h)
            · exact List.mem_append_right _ h
          · have := ih.len
            simp
            omega
  have h := this l.length (Nat.le_refl _)
  rwa [List.take_length] at h
theorem endT_ok (l : List UInt8) : (∀ w ∈ endT l, isW w ∧ ∀ c ∈ w, c ∈ l) ∧ ((endT l).map List.length).sum ≤ l.length := by
  have h := runT_ok l
  unfold endT putT
  split
  · exact ⟨fun w hw => ⟨h.word w hw, h.sub w hw⟩, Nat.le_trans (Nat.le_add_right _ _) h.len⟩
  · rename_i he
    refine ⟨fun w hw => ?_, ?_⟩
    · rcases List.mem_append.1 hw with h1 | h1
      · exact ⟨h.word w h1, h.sub w h1⟩
      · rw [List.mem_singleton] at h1; subst h1; exact ⟨⟨he, h.cur⟩, h.subc⟩
    · have := h.len
      simp [List.sum_append]
      exact this
/-- a word behind what is clean. -/
theorem run_word (out : List (List UInt8)) : ∀ (w a : List UInt8), (∀ c ∈ w, isDel c.toNat = false) → w.foldl stepT ⟨out, a, false⟩ = ⟨out, a ++ w, false⟩
  | [], a, _ => by simp
  | c :: w, a, h => by
    have hc := h c (List.mem_cons_self)
    rw [List.foldl_cons]
    have : stepT ⟨out, a, false⟩ c = ⟨out, a ++ [c], false⟩ := by unfold stepT; simp [hc]
    rw [this, run_word out w _ (fun x hx => h x (List.mem_cons_of_mem _ hx))]
    simp
/-- bytes that end a word and leave nothing begun. -/
def isGap (g : List UInt8) : Prop := ∀ (out : List (List UInt8)) (w : List UInt8), w ≠ [] → g.foldl stepT ⟨out, w, false⟩ = ⟨out ++ [w], [], false⟩
theorem gap_of {g : List UInt8} (h : ∀ (out : List (List UInt8)) (c : UInt8) (w : List UInt8), g.foldl stepT ⟨out, c :: w, false⟩ = ⟨out ++ [c :: w], [], false⟩) : isGap g := by
  intro out w hw
  cases w with
  | nil => exact absurd rfl hw
  | cons c w => exact h out c w
theorem gap_a : isGap [32] := gap_of fun _ _ _ => rfl
theorem gap_b : isGap [10] := gap_of fun _ _ _ => rfl
theorem gap_c : isGap [32, 32] := gap_of fun _ _ _ => rfl
theorem gap_d : isGap [32, 35, 32, 110, 111, 32, 119, 111, 114, 100, 115, 44, 32, 55, 10] := gap_of fun _ _ _ => rfl
theorem gap_e : isGap [10, 10, 32] := gap_of fun _ _ _ => rfl
theorem gap_f : isGap [35, 10] := gap_of fun _ _ _ => rfl
/-- words, each with what stands behind it. -/
def joinT : List (List UInt8 × List UInt8) → List UInt8
  | [] => []
  | (w, g) :: l => w ++ (g ++ joinT l)
theorem run_join (out : List (List UInt8)) : ∀ (l : List (List UInt8 × List UInt8)), (∀ x ∈ l, isW x.1 ∧ isGap x.2) → (joinT l).foldl stepT ⟨out, [], false⟩ = ⟨out ++ l.map Prod.fst, [], false⟩
  | [], _ => by simp [joinT]
  | (w, g) :: l, h => by
    obtain ⟨hw, hg⟩ := h (w, g) (List.mem_cons_self)
    unfold joinT
    rw [List.foldl_append, run_word out w [] hw.2, List.nil_append, List.foldl_append, hg out w hw.1, run_join _ l (fun x hx => h x (List.mem_cons_of_mem _ hx))]
    simp
theorem end_join (l : List (List UInt8 × List UInt8)) (h : ∀ x ∈ l, isW x.1 ∧ isGap x.2) : endT (joinT l) = l.map Prod.fst := by
  unfold endT runT
  rw [run_join [] l h]
  simp [putT]
theorem okTo_all (s : ByteArray) : ∀ k, k ≤ s.size → okTo s k = ((L s).take k).all (fun c => okB c.toNat)
  | 0, _ => rfl
  | k + 1, h => by
    show (okTo s k && okB (bX s k)) = _
    rw [take_snoc s k h, List.all_append, okTo_all s k (by omega), bX_in s h]
    simp
theorem okAll_iff (s : ByteArray) : okAll s = (L s).all (fun c => okB c.toNat) := by
  unfold okAll
  rw [okTo_all s s.size (Nat.le_refl _), take_all]
end Go.Proofs.Ytljcpgeggbbmfaa
