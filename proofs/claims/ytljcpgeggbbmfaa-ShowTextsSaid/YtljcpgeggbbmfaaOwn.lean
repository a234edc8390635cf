/-
  Memory of the call's own: small facts that several walks share.
-/
import Derived.Test.YtljcpgeggbbmfaaMake
import Derived.Laws.OwnMore
namespace Go.Proofs.Ytljcpgeggbbmfaa
set_option linter.unusedVariables false
set_option linter.unusedSimpArgs false
open Go.RowKit
theorem own_val {w : World} {B e s n : Nat} {v : Value} {xs : List Value} (h : w.ownsRow B e s v n xs) : ∃ A C, v = .slice A n C := by
  rcases h.2 with ⟨rfl, h0⟩ | ⟨g, cap, _, hv, _⟩
  · exact ⟨none, 0, by rw [h0]⟩
  · exact ⟨_, cap, hv⟩
theorem cells1_new (w : World) (t : TypeId) (cs : Array Value) (o : Obj) (p : Addr) (u : Value) (h : w.cell? p = some u) : (w.alloc o).cell? p = some u := keep_cell ((Below.refl _ _).alloc (Nat.le_refl _) o) h
theorem add_off (b off j : Nat) : (⟨b, off, none⟩ : Addr).add j = ⟨b, off + j, none⟩ := by unfold Addr.add; by_cases hz : j = 0 <;> simp [hz]
theorem rd_none {w : World} {xs : List Value} (h : Rd w none xs) : xs = [] := by
  cases xs with
  | nil => rfl
  | cons x l => obtain ⟨_, _, e, _⟩ := h (by simp); cases e
theorem rd_some {w : World} {a : Addr} {xs : List Value} (h : Rd w (some a) xs) : ∀ j u, xs[j]? = some u → w.cell? (a.add j) = some u := by
  intro j u hu
  obtain ⟨b, off, e, hc⟩ := h (fun e => by rw [e] at hu; simp at hu)
  injection e with e
  subst e
  rw [add_off]
  exact hc j u hu
theorem own_rd' {w : World} {B e s n C : Nat} {A : Option Addr} {xs : List Value} (h : w.ownsRow B e s (.slice A n C) n xs) : Rd w A xs := by
  intro hne
  rcases h.2 with ⟨_, h0⟩ | ⟨g, cap, cur, hv, _, _, _⟩
  · have h1 := h.1
    subst h0
    rw [Nat.zero_mul] at h1
    exact absurd (List.eq_nil_of_length_eq_zero h1) hne
  · injection hv with hA hn' hc'
    subst hA
    refine ⟨g, 0, rfl, fun j u hu => ?_⟩
    have hc := h.cells (g := g) rfl j u hu
    rwa [add_off] at hc
/-- what lies in blocks beyond g is kept by a store into block g. -/
theorem own_set {w : World} {B e s n g : Nat} {v : Value} {xs : List Value} (h : w.ownsRow B e s v n xs) (hg : g < B) (j : Nat) (u : Value) : (w.setCell ⟨g, j, none⟩ u).ownsRow B e s v n xs :=
  h.kept (grown_set _ _ _) (.inr (fun e => absurd (own_lt h e).1 (Nat.not_le.2 hg)))
theorem own_below {w w' : World} {B e s n : Nat} {v : Value} {xs : List Value} (h : w.ownsRow B e s v n xs) (hb : Below w.heap.size w w') : w'.ownsRow B e s v n xs :=
  h.kept (grown_of_below hb) (by cases e : v.ownBlock <;> simp)
end Go.Proofs.Ytljcpgeggbbmfaa
