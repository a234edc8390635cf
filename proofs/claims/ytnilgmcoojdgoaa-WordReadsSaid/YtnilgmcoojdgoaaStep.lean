/-
  What a reader tells that is asked anything (layer 5, WordReads): plain; the walk of the law's small closure.
-/
import Derived.Test.YtnilgmcoojdgoaaLaws5
namespace Go.Proofs.Ytnilgmcoojdgoaa
set_option linter.unusedVariables false
set_option linter.unusedSimpArgs false
open Go.RowKit
structure StepD where
  dv : Nat
  text : ByteArray
  fr : Int
  upto : Int
def stepV (x : StepD) : List Value := [.int .u8 (x.dv : Int), .string x.text, .int .i64 x.fr, .int .i64 x.upto]
def b01 (b : Bool) : Int := if b then 1 else 0
/-- one question: what has been told by then, and where the reader stands; or the fault. -/
def stepD (ws : List WordD) (n : Nat) (x : StepD) (told : List Int) (i : Nat) : List Int × (Nat ⊕ (Int × Int)) :=
  if x.dv % 5 = 0 then (told ++ [(placeN ws i n : Int)], .inl i)
  else if x.dv % 5 = 1 then (told ++ [b01 (decide (i < ws.length))], .inl i)
  else if x.dv % 5 = 2 then (told ++ [b01 (isB ws i x.text)], .inl (if isB ws i x.text then i + 1 else i))
  else if x.dv % 5 = 3 then (if isB ws i x.text then (told, .inl (i + 1)) else (told, .inr ((placeN ws i n : Int), 5)))
  else if h : i < ws.length then
    (if okNum (L ws[i].text) then (if parseV (L ws[i].text) < x.fr ∨ x.upto < parseV (L ws[i].text) then (told, .inr ((placeN ws i n : Int), 2)) else (told ++ [parseV (L ws[i].text)], .inl (i + 1))) else (told, .inr ((placeN ws i n : Int), 3)))
  else (told, .inr ((placeN ws i n : Int), 3))
def nextD (ws : List WordD) (n : Nat) (r : List Int × (Nat ⊕ (Int × Int))) (x : StepD) : List Int × (Nat ⊕ (Int × Int)) :=
  match r with
  | (told, .inl i) => stepD ws n x told i
  | (told, .inr e) => (told, .inr e)
def runD (ws : List WordD) (n : Nat) (l : List StepD) : List Int × (Nat ⊕ (Int × Int)) := l.foldl (nextD ws n) ([], .inl 0)
theorem runD_snoc (ws : List WordD) (n : Nat) (l : List StepD) (k : Nat) (h : k < l.length) : runD ws n (l.take (k + 1)) = nextD ws n (runD ws n (l.take k)) l[k] := by
  unfold runD
  rw [List.take_succ_eq_append_getElem h, List.foldl_append]; rfl
theorem fold_err (ws : List WordD) (n : Nat) (told : List Int) (e : Int × Int) : ∀ l : List StepD, l.foldl (nextD ws n) (told, .inr e) = (told, .inr e)
  | [] => rfl
  | x :: l => by rw [List.foldl_cons]; exact fold_err ws n told e l
theorem runD_err (ws : List WordD) (n : Nat) (l : List StepD) (k : Nat) {told : List Int} {e : Int × Int} (h : runD ws n (l.take k) = (told, .inr e)) : runD ws n l = (told, .inr e) := by
  conv => lhs; rw [← List.take_append_drop k l]
  unfold runD at *
  rw [List.foldl_append, h]
  exact fold_err ws n told e _
theorem stepD_len {ws : List WordD} {n : Nat} {x : StepD} {told : List Int} {i : Nat} : (stepD ws n x told i).1.length ≤ told.length + 1 := by
  unfold stepD
  repeat' split
  all_goals simp
theorem runD_len (ws : List WordD) (n : Nat) (l : List StepD) : ∀ k, k ≤ l.length → (runD ws n (l.take k)).1.length ≤ k
  | 0, _ => Nat.le_refl _
  | k + 1, h => by
    rw [runD_snoc ws n l k h]
    have ih := runD_len ws n l k (by omega)
    generalize runD ws n (l.take k) = r at *
    obtain ⟨told, i | e⟩ := r
    · have := stepD_len (ws := ws) (n := n) (x := l[k]) (told := told) (i := i)
      exact Nat.le_trans this (Nat.succ_le_succ ih)
    · exact Nat.le_succ_of_le ih
theorem ownT_keptS {w : World} {B e s n : Nat} {v : Value} {xs : List Value} (h : w.ownsRow B e s v n xs) {p : Addr} {cur : Array Value} {T : TypeId} (hp : w.heap[p.block]? = some (.cells cur T (0, 0))) (hT : T ≠ e) (u : Value) : (w.setCell p u).ownsRow B e s v n xs := by
  refine h.kept (grown_set w p u) ?_
  rcases h.2 with ⟨rfl, _⟩ | ⟨g, cap, c2, rfl, _, hh, _⟩
  · exact .inl rfl
  · refine .inr (fun e => ?_)
    have e2 : g = p.block := by simpa [Value.ownBlock] using e
    subst e2
    rw [hp] at hh
    injection hh with hh
    injection hh with _ ht
    exact hT ht
/-- block b holds what has been told; the numbers lie in blocks from B on. -/
def Told (b B : Nat) (told : List Int) (w : World) : Prop := ∃ v, w.heap[b]? = some (.cells #[v] 46 (0, 0)) ∧ w.ownsRow B 2 1 v told.length (i64s told)
theorem i64s_snoc (l : List Int) (v : Int) : i64s (l ++ [v]) = i64s l ++ [.int .i64 v] := by simp [i64s]
theorem Told.below {b B : Nat} {told : List Int} {w w' : World} (h : Told b B told w) (hb : Below w.heap.size w w') : Told b B told w' := by
  obtain ⟨v, h1, h2⟩ := h
  exact ⟨v, (hb.block b (heap_lt h1)).trans h1, own_below h2 hb⟩
/-- what was told stays where only blocks that hold no such thing turn. -/
theorem Told.chg {b B : Nat} {told : List Int} {w w' : World} {may : Nat → Prop} (h : Told b B told w) (hc : Chg may w w') (hb : ¬ may b) (hB : ∀ k, may k → k < B) : Told b B told w' := by
  obtain ⟨v, h1, h2⟩ := h
  refine ⟨v, (hc.block b (heap_lt h1) hb).trans h1, h2.1, ?_⟩
  rcases h2.2 with h0 | ⟨g, cap, cur, a, c, d, e⟩
  · exact .inl h0
  · exact .inr ⟨g, cap, cur, a, c, (hc.block g (heap_lt d) (fun hm => by have := hB g hm; omega)).trans d, e⟩
/-- the number is told, too: a new row, stored into the box. -/
theorem Told.push {b B : Nat} {told : List Int} {w w1 w2 : World} {v v' : Value} {x : Int} (h1 : w.heap[b]? = some (.cells #[v] 46 (0, 0))) (hv : w.ownsRow B 2 1 v told.length (i64s told)) (hb : Below w.heap.size w w1)
    (hown : w2.ownsRow B 2 1 v' (told.length + 1) (i64s told ++ [.int .i64 x])) (hg : w1.grownBy w2 v.ownBlock) : w2.heap[b]? = some (.cells #[v] 46 (0, 0)) ∧ Told b B (told ++ [x]) (w2.setCell ⟨b, 0, none⟩ v') ∧ Chg (fun k => k = b ∨ B ≤ k) w (w2.setCell ⟨b, 0, none⟩ v') := by
  have hb1 : w1.heap[b]? = some (.cells #[v] 46 (0, 0)) := (hb.block b (heap_lt h1)).trans h1
  have hvne : ∀ k, v.ownBlock = some k → k ≠ b := fun k hk e => by
    subst e
    rcases hv.2 with ⟨rfl, _⟩ | ⟨g, cap, cur, rfl, _, hh, _⟩
    · simp [Value.ownBlock] at hk
    · have : g = k := by simpa [Value.ownBlock] using hk
      subst this
      rw [h1] at hh
      injection hh with hh
      injection hh with _ ht
      exact absurd ht (by decide)
  have hb2 : w2.heap[b]? = some (.cells #[v] 46 (0, 0)) := (hg.block b (heap_lt hb1) (fun e => hvne b e.symm rfl)).trans hb1
  refine ⟨hb2, ⟨v', heap_set w2 b 0 _ _ v' hb2, ?_⟩, ?_⟩
  · rw [List.length_append, i64s_snoc]
    exact ownT_keptS hown (p := ⟨b, 0, none⟩) hb2 (by decide) _
  · have c1 : Chg (fun k => k = b ∨ B ≤ k) w w1 := Chg.below hb
    have c2 : Chg (fun k => k = b ∨ B ≤ k) w1 w2 := ⟨hg.os, hg.tape, hg.output, hg.size, fun k hk hn => hg.block k hk (fun e => hn (.inr (own_lt hv e.symm).1))⟩
    exact (c1.trans c2).trans (Chg.grown (grown_set w2 ⟨b, 0, none⟩ v') (.inl rfl))
end Go.Proofs.Ytnilgmcoojdgoaa
