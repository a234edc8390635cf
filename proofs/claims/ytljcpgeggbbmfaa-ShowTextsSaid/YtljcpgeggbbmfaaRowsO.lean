/-
  Rows of numbers in memory of the call's own: kept by what turns elsewhere (layers 11, 12).
-/
import Derived.Test.YtljcpgeggbbmfaaSqr
import Derived.Test.YtljcpgeggbbmfaaOwn
import Derived.Laws.OwnMore
namespace Go.Proofs.Ytljcpgeggbbmfaa
set_option linter.unusedVariables false
set_option linter.unusedSimpArgs false
open Go.RowKit
theorem satV_len' (l : List SatD) : (l.flatMap satV).length = l.length * 2 := by
  induction l with
  | nil => rfl
  | cons s l ih => rw [List.flatMap_cons, List.length_append, ih, List.length_cons]; show 2 + l.length * 2 = _; omega
theorem custV_len' (l : List CustD) : (l.flatMap custV).length = l.length * 4 := by
  induction l with
  | nil => rfl
  | cons s l ih => rw [List.flatMap_cons, List.length_append, ih, List.length_cons]; show 4 + l.length * 4 = _; omega
/-- v is a slice of the call's own (blocks from B on) whose elements are slices of the call's own: the rows of ls. -/
structure RowsOwn (B : Nat) (w : World) (v : Value) (ls : List (List Int)) (hs : List Value) : Prop where
  len : hs.length = ls.length
  own : w.ownsRow B 53 1 v ls.length hs
  rows : ∀ (i : Nat) (r : List Int), ls[i]? = some r → ∃ A C, hs[i]? = some (.slice A r.length C) ∧ w.ownsRow B 2 1 (.slice A r.length C) r.length (i64s r)
theorem RowsOwn.grown {B : Nat} {w w' : World} {v : Value} {ls : List (List Int)} {hs : List Value} (h : RowsOwn B w v ls hs) {row : Option Nat} (hg : w.grownBy w' row) (hv : v.ownBlock = none ∨ v.ownBlock ≠ row)
    (hr : ∀ (i : Nat) (A : Option Addr) (n C : Nat), hs[i]? = some (.slice A n C) → (Value.slice A n C).ownBlock = none ∨ (Value.slice A n C).ownBlock ≠ row) : RowsOwn B w' v ls hs :=
  ⟨h.len, h.own.kept hg hv, fun i r hi => by
    obtain ⟨A, C, h1, h2⟩ := h.rows i r hi
    exact ⟨A, C, h1, h2.kept hg (hr i A _ C h1)⟩⟩
theorem RowsOwn.below {B : Nat} {w w' : World} {v : Value} {ls : List (List Int)} {hs : List Value} (h : RowsOwn B w v ls hs) (hb : Below w.heap.size w w') : RowsOwn B w' v ls hs :=
  h.grown (grown_of_below hb) (by cases e : v.ownBlock <;> simp) (fun i A n C _ => by cases e : (Value.slice A n C).ownBlock <;> simp)
theorem RowsOwn.push {B : Nat} {wo w2 : World} {v v' : Value} {ls : List (List Int)} {hs : List Value} (h : RowsOwn B wo v ls hs) {A : Option Addr} {C : Nat} {r : List Int} (hr : wo.ownsRow B 2 1 (.slice A r.length C) r.length (i64s r)) (o : Obj)
    (hown : w2.ownsRow B 53 1 v' (ls.length + 1) (hs ++ [.slice A r.length C])) (hg : (wo.alloc o).grownBy w2 v.ownBlock) : RowsOwn B w2 v' (ls ++ [r]) (hs ++ [.slice A r.length C]) := by
  have tt : 2 ≠ 53 := by decide
  refine ⟨by simp [h.len], by simpa using hown, fun i r' hi => ?_⟩
  by_cases hil : i < ls.length
  · rw [List.getElem?_append_left hil] at hi
    obtain ⟨A', C', h1, h2⟩ := h.rows i r' hi
    exact ⟨A', C', by rw [List.getElem?_append_left (by rw [h.len]; exact hil)]; exact h1, (h2.alloc o).kept hg (own_types h2 h.own tt)⟩
  · have e : i = ls.length := by
      have := (List.getElem?_eq_some_iff.1 hi).1
      simp at this; omega
    subst e
    rw [List.getElem?_append_right (Nat.le_refl _), Nat.sub_self] at hi
    have hi' : r = r' := by simpa using hi
    subst hi'
    exact ⟨A, C, by rw [List.getElem?_append_right (by rw [h.len]; exact Nat.le_refl _), h.len, Nat.sub_self]; rfl, (hr.alloc o).kept hg (own_types hr h.own tt)⟩
theorem RowsOwn.nil (B : Nat) (w : World) : RowsOwn B w (.slice none 0 0) [] [] := ⟨rfl, World.ownsRow_nil _ _ _ _, fun i r h => by simp at h⟩
theorem RowsOwn.rows2 {B : Nat} {w : World} {A : Option Addr} {n C : Nat} {ls : List (List Int)} {hs : List Value} (h : RowsOwn B w (.slice A n C) ls hs) (hn : n = ls.length) (hl : ∀ r ∈ ls, r.length ≤ 9223372036854775807) : Rows2 w A ls := by
  subst hn
  refine ⟨hs, h.len, own_rd' h.own, fun i r hi => ?_⟩
  obtain ⟨A', C', h1, h2⟩ := h.rows i r hi
  exact ⟨A', C', h1, hl r (List.mem_of_getElem? hi), own_rd' h2⟩
theorem RowsOwn.blocks {B : Nat} {w : World} {v : Value} {ls : List (List Int)} {hs : List Value} (h : RowsOwn B w v ls hs) : ∀ (i : Nat) (a : Addr) (n C : Nat), hs[i]? = some (.slice (some a) n C) → a.block < w.heap.size := by
  intro i a n C hi
  have hl : i < ls.length := by rw [← h.len]; exact (List.getElem?_eq_some_iff.1 hi).1
  obtain ⟨A, C', h1, h2⟩ := h.rows i ls[i] (List.getElem?_eq_getElem hl)
  rw [hi] at h1
  injection h1 with h1
  injection h1 with e1 e2 e3
  subst e1
  exact (own_lt h2 (g := a.block) rfl).2
theorem RowsOwn.set {B : Nat} {w : World} {v : Value} {ls : List (List Int)} {hs : List Value} (h : RowsOwn B w v ls hs) {g : Nat} (hg : g < B) (j : Nat) (u : Value) : RowsOwn B (w.setCell ⟨g, j, none⟩ u) v ls hs :=
  ⟨h.len, own_set h.own hg j u, fun i r hi => by
    obtain ⟨A, C, h1, h2⟩ := h.rows i r hi
    exact ⟨A, C, h1, own_set h2 hg j u⟩⟩
theorem RowsOwn.grownG {B : Nat} {w w' : World} {v : Value} {ls : List (List Int)} {hs : List Value} (h : RowsOwn B w v ls hs) {g : Nat} (hg : w.grownBy w' (some g)) (hB : g < B) : RowsOwn B w' v ls hs :=
  ⟨h.len, h.own.kept hg (.inr (fun e => absurd (own_lt h.own e).1 (Nat.not_le.2 hB))), fun i r hi => by
    obtain ⟨A, C, h1, h2⟩ := h.rows i r hi
    exact ⟨A, C, h1, h2.kept hg (.inr (fun e => absurd (own_lt h2 e).1 (Nat.not_le.2 hB)))⟩⟩
theorem own_grownG {w w' : World} {B e s n g : Nat} {v : Value} {xs : List Value} (h : w.ownsRow B e s v n xs) (hg : w.grownBy w' (some g)) (hB : g < B) : w'.ownsRow B e s v n xs :=
  h.kept hg (.inr (fun e => absurd (own_lt h e).1 (Nat.not_le.2 hB)))
theorem RowsOwn.base {B B' : Nat} {w : World} {v : Value} {ls : List (List Int)} {hs : List Value} (h : RowsOwn B w v ls hs) (hB : B' ≤ B) : RowsOwn B' w v ls hs :=
  ⟨h.len, own_base h.own hB, fun i r hi => by
    obtain ⟨A, C, h1, h2⟩ := h.rows i r hi
    exact ⟨A, C, h1, own_base h2 hB⟩⟩
end Go.Proofs.Ytljcpgeggbbmfaa
