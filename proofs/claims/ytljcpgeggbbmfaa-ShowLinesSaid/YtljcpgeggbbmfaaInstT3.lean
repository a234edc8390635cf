/-
  The words of an instance's text are its words; no beginning of it holds the word 'end'; its size; what Make makes may be read (layer 12): no program in sight.
-/
import Derived.Test.YtljcpgeggbbmfaaInstT2
namespace Go.Proofs.Ytljcpgeggbbmfaa
set_option linter.unusedVariables false
set_option linter.unusedSimpArgs false
open Go.RowKit
theorem endT_sp (l : List UInt8) : endT (32 :: l) = endT l := rfl
theorem endT_snoc (l : List UInt8) : endT (l ++ [32]) = endT l := by
  unfold endT
  rw [runT_snoc]
  generalize runT l = t
  obtain ⟨o, c, n⟩ := t
  cases n with
  | false =>
    show putT ⟨putT ⟨o, c, false⟩, [], false⟩ = _
    unfold putT
    simp
  | true => rfl
theorem blank_join (ws : List (List UInt8)) : blank ws ++ [32] = 32 :: joinT (ws.map (fun w => (w, [32]))) := by
  induction ws with
  | nil => rfl
  | cons w ws ih =>
    rw [blank_cons, List.map_cons]
    show 32 :: ((w ++ blank ws) ++ [32]) = 32 :: (w ++ ([32] ++ joinT _))
    rw [List.append_assoc, ih]; rfl
theorem end_blank (ws : List (List UInt8)) (h : ∀ w ∈ ws, isW w) : endT (blank ws) = ws := by
  rw [← endT_snoc, blank_join, endT_sp, end_join]
  · rw [List.map_map]; simp [Function.comp_def]
  · intro x hx
    obtain ⟨w, hw, rfl⟩ := List.mem_map.1 hx
    exact ⟨h w hw, gap_a⟩
/-- the words but for the last one. -/
def wordsJ (X : InstD) : List (List UInt8) :=
  L sWharfage :: textV X.fin :: L sTrucks :: textV X.tm :: textV X.tr :: L sBikes :: textV X.bm :: textV X.br :: L sSats :: textV (X.sats.length : Int) ::
    (X.sats.flatMap (fun x => [textV x.room, textV x.hold]) ++ (L sCusts :: textV (X.custs.length : Int) :: (X.custs.flatMap (fun x => [textV x.load, textV x.opn, textV x.close, textV x.stay]) ++
      (L sCost :: (X.cost.flatMap (fun r => r.map textV) ++ (L sTime :: X.time.flatMap (fun r => r.map textV)))))))
theorem words_J (X : InstD) : wordsI X = wordsJ X ++ [L sEnd] := by
  unfold wordsI wordsJ
  simp [List.append_assoc]
theorem wordsJ_all (X : InstD) (Q : List UInt8 → Prop) (hk : ∀ t ∈ [sWharfage, sTrucks, sBikes, sSats, sCusts, sCost, sTime], Q (L t)) (hn : ∀ v, Q (textV v)) : ∀ w ∈ wordsJ X, Q w := by
  intro w hw
  unfold wordsJ at hw
  simp only [List.mem_cons, List.mem_append, List.mem_flatMap, List.mem_map, List.not_mem_nil, or_false] at hw
  rcases hw with h | h | h | h | h | h | h | h | h | h | ⟨x, _, h | h⟩ | h | h | ⟨x, _, h | h | h | h⟩ | h | ⟨r, _, v, _, h⟩ | h | ⟨r, _, v, _, h⟩
  all_goals first
    | (rw [h]; exact hn _)
    | (rw [← h]; exact hn _)
    | (rw [h]; exact hk _ (by simp))
theorem wordsI_all (X : InstD) (Q : List UInt8 → Prop) (hk : ∀ t ∈ [sWharfage, sTrucks, sBikes, sSats, sCusts, sCost, sTime], Q (L t)) (he : Q (L sEnd)) (hn : ∀ v, Q (textV v)) : ∀ w ∈ wordsI X, Q w := by
  intro w hw
  rw [words_J] at hw
  rcases List.mem_append.1 hw with h | h
  · exact wordsJ_all X Q hk hn w h
  · rw [List.mem_singleton.1 h]; exact he
theorem digF_dig : ∀ (f n : Nat), ∀ c ∈ digF f n, 48 ≤ c.toNat ∧ c.toNat ≤ 57
  | 0, n, c, h => by cases h
  | f + 1, n, c, h => by
    unfold digF at h
    split at h
    · rw [List.mem_singleton.1 h, dg_toNat]; omega
    · rcases List.mem_append.1 h with h | h
      · exact digF_dig f _ c h
      · rw [List.mem_singleton.1 h, dg_toNat]; omega
theorem digN_ne (n : Nat) : digN n ≠ [] := by
  unfold digN
  by_cases h : n < 10
  · rw [digF_lo (by omega) h]; simp
  · rw [digF_hi h]; simp
theorem textV_in (v : Int) : textV v ≠ [] ∧ ∀ c ∈ textV v, c.toNat = 45 ∨ (48 ≤ c.toNat ∧ c.toNat ≤ 57) := by
  unfold textV
  split
  · refine ⟨by simp, fun c hc => ?_⟩
    rcases List.mem_cons.1 hc with h | h
    · left; rw [h]; rfl
    · exact .inr (digF_dig _ _ c h)
  · exact ⟨digN_ne _, fun c hc => .inr (digF_dig _ _ c hc)⟩
/-- what all words of an instance are. -/
def okW (w : List UInt8) : Prop := isW w ∧ w.all (fun c => okB c.toNat) = true ∧ w.length ≤ 20
theorem isDel_no {c : Nat} (h : c = 45 ∨ (48 ≤ c ∧ c ≤ 57)) : isDel c = false := by
  unfold isDel
  rw [show (c == 32) = false from by rw [beq_eq_false_iff_ne]; omega, show (c == 10) = false from by rw [beq_eq_false_iff_ne]; omega, show (c == 35) = false from by rw [beq_eq_false_iff_ne]; omega]; rfl
theorem okB_yes {c : Nat} (h : c = 45 ∨ (48 ≤ c ∧ c ≤ 57)) : okB c = true := by
  unfold okB
  rw [decide_eq_true (show 32 ≤ c by omega), decide_eq_true (show c ≤ 126 by omega)]; simp
theorem okW_text (v : Int) : okW (textV v) := by
  obtain ⟨h1, h2⟩ := textV_in v
  exact ⟨⟨h1, fun c hc => isDel_no (h2 c hc)⟩, List.all_eq_true.2 fun c hc => okB_yes (h2 c hc), textV_len v⟩
theorem okW_key : (∀ t ∈ [sWharfage, sTrucks, sBikes, sSats, sCusts, sCost, sTime], okW (L t)) ∧ okW (L sEnd) := by
  unfold okW isW
  decide
theorem okW_I (X : InstD) : ∀ w ∈ wordsI X, okW w := wordsI_all X okW okW_key.1 okW_key.2 okW_text
theorem no101 (X : InstD) : ∀ w ∈ wordsJ X, w.head? ≠ some 101 := by
  refine wordsJ_all X (fun w => w.head? ≠ some 101) (by decide) fun v h => ?_
  obtain ⟨_, h2⟩ := textV_in v
  have := h2 101 (List.mem_of_mem_head? h)
  revert this
  decide
theorem texts_I (X : InstD) : texts (wordsL (textI X)) = wordsI X := by
  show (wordsL (textI X)).map (fun x => L x.text) = _
  rw [words_texts, ← endT_sp, L_textI, end_blank _ (fun w hw => (okW_I X w hw).1)]
theorem blank_all (p : UInt8 → Bool) (h32 : p 32 = true) (ws : List (List UInt8)) (h : ∀ w ∈ ws, w.all p = true) : (blank ws).all p = true := by
  induction ws with
  | nil => rfl
  | cons w ws ih =>
    rw [blank_cons, List.all_cons, List.all_append, h32, h w (List.mem_cons_self), ih (fun x hx => h x (List.mem_cons_of_mem _ hx))]; rfl
theorem okAll_I (X : InstD) : okAll (textI X) = true := by
  have := blank_all (fun c => okB c.toNat) rfl (wordsI X) (fun w hw => (okW_I X w hw).2.1)
  rw [← L_textI, List.all_cons, Bool.and_eq_true] at this
  rw [okAll_iff]
  exact this.2
theorem blank_len (ws : List (List UInt8)) (h : ∀ w ∈ ws, w.length ≤ 20) : (blank ws).length ≤ 21 * ws.length := by
  induction ws with
  | nil => simp [blank]
  | cons w ws ih =>
    rw [blank_cons, List.length_cons, List.length_append, List.length_cons]
    have := ih (fun x hx => h x (List.mem_cons_of_mem _ hx))
    have := h w (List.mem_cons_self)
    omega
theorem flat_len {α β : Type} (f : α → List β) (m : Nat) (l : List α) (h : ∀ x ∈ l, (f x).length = m) : (l.flatMap f).length = m * l.length := by
  induction l with
  | nil => simp
  | cons x l ih =>
    rw [List.flatMap_cons, List.length_append, ih (fun y hy => h y (List.mem_cons_of_mem _ hy)), h x (List.mem_cons_self), List.length_cons, Nat.mul_succ, Nat.add_comm]
theorem wordsI_len {X : InstD} (K : ReadOk X) : (wordsI X).length = 15 + 2 * X.sats.length + 4 * X.custs.length + 2 * (nodesN X * nodesN X) := by
  unfold wordsI
  simp only [List.length_cons, List.length_append, List.length_nil]
  rw [flat_len _ 2 X.sats (fun x _ => rfl), flat_len _ 4 X.custs (fun x _ => rfl), flat_len _ (nodesN X) X.cost (fun r hr => by rw [List.length_map]; exact K.ro r hr), flat_len _ (nodesN X) X.time (fun r hr => by rw [List.length_map]; exact K.rt r hr), K.o, K.t]
  omega
theorem textI_size {X : InstD} (K : ReadOk X) : (textI X).size ≤ 21 * (wordsI X).length := by
  have := blank_len (wordsI X) (fun w hw => (okW_I X w hw).2.2)
  rw [← L_textI, List.length_cons, L_length] at this
  omega
theorem textI_3 (X : InstD) : 3 ≤ (textI X).size ∧ 0 < (wordsI X).length := by
  have h : L (textI X) = L (tx5 X) ++ [32, 101, 110, 100] := by
    unfold textI; rw [L_cat]
  have := congrArg List.length h
  rw [List.length_append, L_length] at this
  refine ⟨by simp at this; omega, ?_⟩
  rw [words_J, List.length_append]; simp
theorem put_pre (c : UInt8) (t : StT) : ∀ w ∈ putT t, ∃ w' ∈ putT (stepT t c), w <+: w' := by
  obtain ⟨o, q, n⟩ := t
  intro w hw
  unfold stepT
  split
  · exact ⟨w, by exact hw, List.prefix_refl _⟩
  · split
    · refine ⟨w, ?_, List.prefix_refl _⟩
      show w ∈ putT ⟨putT ⟨o, q, n⟩, [], _⟩
      unfold putT at hw ⊢
      simpa using hw
    · unfold putT at hw ⊢
      dsimp only at hw ⊢
      rw [if_neg (by simp)]
      split at hw
      · exact ⟨w, List.mem_append_left _ hw, List.prefix_refl _⟩
      · rcases List.mem_append.1 hw with h | h
        · exact ⟨w, List.mem_append_left _ h, List.prefix_refl _⟩
        · rw [List.mem_singleton.1 h]
          exact ⟨q ++ [c], List.mem_append_right _ (List.mem_singleton.2 rfl), List.prefix_append _ _⟩
theorem put_pres : ∀ (l : List UInt8) (t : StT), ∀ w ∈ putT t, ∃ w' ∈ putT (l.foldl stepT t), w <+: w'
  | [], t, w, h => ⟨w, h, List.prefix_refl _⟩
  | c :: l, t, w, h => by
    obtain ⟨w1, h1, p1⟩ := put_pre c t w h
    obtain ⟨w2, h2, p2⟩ := put_pres l (stepT t c) w1 h1
    exact ⟨w2, h2, p1.trans p2⟩
theorem end_pre (a b : List UInt8) : ∀ w ∈ endT a, ∃ w' ∈ endT (a ++ b), w <+: w' := by
  intro w hw
  unfold endT runT at hw ⊢
  rw [List.foldl_append]
  exact put_pres b _ w hw
/-- a beginning that ends ahead of the last word holds no such word. -/
theorem cut_noend (X : InstD) (k : Nat) (hk : k + 3 ≤ (textI X).size) : ∀ w ∈ texts (wordsL ((textI X).extract 0 k)), w ≠ L sEnd := by
  intro w hw he
  have hw2 : w ∈ (wordsL ((textI X).extract 0 k)).map (fun x => L x.text) := hw
  rw [words_texts, L_extract, List.drop_zero] at hw2
  have h : L (textI X) = (L (tx5 X) ++ [32]) ++ [101, 110, 100] := by
    unfold textI; rw [L_cat, List.append_assoc]; rfl
  have hl := congrArg List.length h
  rw [List.length_append, L_length] at hl
  have hkl : k ≤ (L (tx5 X) ++ [32]).length := by simp at hl ⊢; omega
  rw [h, List.take_append_of_le_length hkl] at hw2
  obtain ⟨w', h1, h2⟩ := end_pre _ ((L (tx5 X) ++ [32]).drop k) w hw2
  rw [List.take_append_drop, endT_snoc] at h1
  have hj : 32 :: L (tx5 X) = blank (wordsJ X) := by
    have e := L_textI X
    rw [words_J, blank_app, h] at e
    have e2 : blank [L sEnd] = [32, 101, 110, 100] := rfl
    rw [e2, List.append_assoc, ← List.cons_append] at e
    exact List.append_cancel_right e
  rw [← endT_sp, hj, end_blank _ (fun w hw => (okW_I X w (by rw [words_J]; exact List.mem_append_left _ hw)).1)] at h1
  have := no101 X w' h1
  obtain ⟨t, ht⟩ := h2
  rw [he] at ht
  rw [← ht] at this
  exact this rfl
theorem matM_cell (l : List Nat) (n : Nat) (i : Nat) (r : List Int) (hr : (matM l n)[i]? = some r) (k : Nat) (v : Int) (hv : r[k]? = some v) : 0 ≤ v ∧ v ≤ 1000000000 ∧ (i = k → v = 0) := by
  obtain ⟨hi, e⟩ := List.getElem?_eq_some_iff.1 hr
  rw [matM_length] at hi
  rw [matM_get l n i hi] at hr
  injection hr with hr
  subst hr
  unfold rowM at hv
  rw [List.getElem?_map] at hv
  obtain ⟨q, hq, rfl⟩ := Option.map_eq_some_iff.1 hv
  obtain ⟨hj, hq⟩ := List.getElem?_eq_some_iff.1 hq
  rw [List.getElem_range] at hq
  subst hq
  obtain ⟨a, b, c⟩ := cellM_ok l n i k
  exact ⟨a, by omega, c⟩
theorem matM_row (l : List Nat) (n : Nat) : ∀ r ∈ matM l n, r.length = n := by
  intro r hr
  unfold matM at hr
  obtain ⟨i, _, rfl⟩ := List.mem_map.1 hr
  exact rowM_length _ _ _
theorem mayB_to {n l : Int} (h : mayB n l = true) : l ≤ n ∧ n ≤ 1000000000 := by
  unfold mayB at h
  simpa using h
/-- what Make makes may be read. -/
theorem make_ok {w : World} {S : SmallD} {h : SmallH} (H : SmallIs w S h) : ReadOk (makeI S) := by
  have h1 := satsI_len S
  have h2 := custsI_len S
  have h3 := satsI_may S H.bs
  have h4 := custsI_may S H.bc
  have b1 := H.b1
  have w1 := wide_mul S (S.tr % 40) (by omega)
  have w2 := wide_mul S (S.br % 20) (by omega)
  have w3 := wide_mul S S.fin (by omega)
  refine ⟨h1.1, Nat.le_trans h1.2 (by omega), h2.1, Nat.le_trans h2.2 (by omega), matM_length _ _, matM_length _ _, matM_row _ _, matM_row _ _, ?_, ?_, ?_, ?_, ?_, ?_, ?_, matM_cell _ _, matM_cell _ _⟩
  · show 1 ≤ 1 + ((S.tm % 4 : Nat) : Int) ∧ 1 + ((S.tm % 4 : Nat) : Int) ≤ 60
    omega
  · show 1 ≤ 1 + ((S.bm % 6 : Nat) : Int) ∧ 1 + ((S.bm % 6 : Nat) : Int) ≤ 60
    omega
  · show (0 : Int) ≤ 40 + (S.fin : Int) * wideI S ∧ 40 + (S.fin : Int) * wideI S ≤ 1000000000
    rw [Int.mul_comm]; omega
  · show (0 : Int) ≤ 5 + wideI S * ((S.tr % 40 : Nat) : Int) ∧ 5 + wideI S * ((S.tr % 40 : Nat) : Int) ≤ 1000000000
    omega
  · show (0 : Int) ≤ 3 + wideI S * ((S.br % 20 : Nat) : Int) ∧ 3 + wideI S * ((S.br % 20 : Nat) : Int) ≤ 1000000000
    omega
  · intro x hx
    obtain ⟨a, b⟩ := h3 x hx
    exact ⟨mayB_to a, mayB_to b⟩
  · intro x hx
    obtain ⟨a, b, c, d⟩ := h4 x hx
    exact ⟨⟨a.1, by omega⟩, ⟨b.1, by omega⟩, ⟨c.1, by omega⟩, d.1, by omega⟩
theorem make_text {w : World} {S : SmallD} {h : SmallH} (H : SmallIs w S h) : (textI (makeI S)).size ≤ 5200 ∧ (wordsI (makeI S)).length ≤ 250 := by
  have K := make_ok H
  have h1 := textI_size K
  have h2 := wordsI_len K
  have a := (satsI_len S).2
  have b := (custsI_len S).2
  have e : nodesN (makeI S) = 1 + (satsI S).length + (custsI S).length := rfl
  have hn : nodesN (makeI S) * nodesN (makeI S) ≤ 10 * 10 := Nat.mul_le_mul (by omega) (by omega)
  have e1 : (makeI S).sats.length = (satsI S).length := rfl
  have e2 : (makeI S).custs.length = (custsI S).length := rfl
  rw [e1, e2] at h2
  omega
end Go.Proofs.Ytljcpgeggbbmfaa
