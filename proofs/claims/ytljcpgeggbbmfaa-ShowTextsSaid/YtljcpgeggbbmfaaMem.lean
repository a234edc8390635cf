/-
  Slices of integers as the walks read them, nil or not.
-/
import Derived.Test.YtljcpgeggbbmfaaLift
import Derived.Test.YtljcpgeggbbmfaaPlain
namespace Go.Proofs.Ytljcpgeggbbmfaa
set_option linter.unusedVariables false
set_option linter.unusedSimpArgs false
open Go.RowKit
theorem lt_of_cell {w : World} {a : Addr} {v : Value} (h : w.cell? a = some v) : a.block < w.heap.size := by
  rcases Nat.lt_or_ge a.block w.heap.size with hlt | hge
  · exact hlt
  · unfold World.cell? at h
    rw [Array.getElem?_eq_none hge] at h
    cases h
theorem block_add (a : Addr) (n : Nat) : (a.add n).block = a.block := by unfold Addr.add; split <;> rfl
/-- the slice's elements are the numbers zs. -/
def Elems (k : IntKind) (w : World) (a : Option Addr) (zs : List Int) : Prop :=
  ∀ i, i < zs.length → ∃ x, a = some x ∧ w.cell? (x.add i) = some (.int k (zs.getD i 0)) ∧ (Lit.int k (zs.getD i 0)).wf = true
theorem Elems.below {k : IntKind} {w w' : World} {a : Option Addr} {zs : List Int} (h : Elems k w a zs) (hb : Below w.heap.size w w') : Elems k w' a zs := by
  intro i hi
  obtain ⟨x, e, hc, hw⟩ := h i hi
  exact ⟨x, e, (hb.cell (lt_of_cell hc)).trans hc, hw⟩
theorem elems_of {k : IntKind} {w : World} {a : Option Addr} {len cap : Nat} {zs : List Int} (h : IsRow k w a len cap zs) : Elems k w a (zs.take len) ∧ (zs.take len).length = len ∧ len ≤ 9223372036854775807 := by
  rcases h with ⟨rfl, rfl, rfl, rfl⟩ | ⟨x, rfl, hl, hm, hz, hc, hw⟩
  · exact ⟨fun i hi => by simp at hi, rfl, by omega⟩
  · refine ⟨fun i hi => ?_, by simp; omega, by unfold maxLen at hm; omega⟩
    have hi' : i < len := by simp at hi; omega
    have e : (zs.take len).getD i 0 = zs.getD i 0 := by simp [List.getD_eq_getElem?_getD, hi']
    rw [e]
    have hm : zs.getD i 0 ∈ zs := by
      rw [List.getD_eq_getElem?_getD, List.getElem?_eq_getElem (by omega)]
      exact List.getElem_mem _
    exact ⟨x, rfl, hc i (by omega), hw _ hm⟩
theorem takeI_snoc (zs : List Int) (k : Nat) (h : k < zs.length) : zs.take (k + 1) = zs.take k ++ [zs.getD k 0] := by
  rw [List.take_succ_eq_append_getElem h, List.getD_eq_getElem?_getD, List.getElem?_eq_getElem h]; rfl
end Go.Proofs.Ytljcpgeggbbmfaa
