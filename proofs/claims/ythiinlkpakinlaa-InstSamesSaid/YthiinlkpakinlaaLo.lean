/-
  Memory of the call's own that may be written, whatever it holds: its size and its type stay (layer 11, InstClones).
-/
import Derived.Test.YthiinlkpakinlaaClone2
namespace Go.Proofs.Ythiinlkpakinlaa
set_option linter.unusedVariables false
set_option linter.unusedSimpArgs false
open Go.RowKit
theorem heap_setAny (w : World) (p : Addr) (u : Value) (g : Nat) (cur : Array Value) (t : TypeId) (h : w.heap[g]? = some (.cells cur t (0, 0))) : ∃ cur', (w.setCell p u).heap[g]? = some (.cells cur' t (0, 0)) ∧ cur'.size = cur.size := by
  by_cases e : g = p.block
  · subst e
    cases hs : p.spot.isSome with
    | true => exact ⟨cur, by simp [World.setCell, Array.getElem?_modify, h, hs], rfl⟩
    | false => exact ⟨cur.setIfInBounds p.off u, by simp [World.setCell, Array.getElem?_modify, h, hs], by simp⟩
  · exact ⟨cur, (heap_setCell_other w p g u (fun e' => e e')).trans h, rfl⟩
/-- n elements of sz cells each, of type T, lie in one block from B up to M. -/
def Lo (w : World) (B M : Nat) (T : TypeId) (sz : Nat) (A : Option Addr) (n : Nat) : Prop :=
  n = 0 ∨ ∃ g cur, A = some ⟨g, 0, none⟩ ∧ B ≤ g ∧ g < M ∧ w.heap[g]? = some (.cells cur T (0, 0)) ∧ n * sz ≤ cur.size
theorem Lo.set {w : World} {B M : Nat} {T : TypeId} {sz : Nat} {A : Option Addr} {n : Nat} (h : Lo w B M T sz A n) (p : Addr) (u : Value) : Lo (w.setCell p u) B M T sz A n := by
  rcases h with h | ⟨g, cur, a, b, c, d, e⟩
  · exact .inl h
  · obtain ⟨cur', h1, h2⟩ := heap_setAny w p u g cur T d
    exact .inr ⟨g, cur', a, b, c, h1, by rw [h2]; exact e⟩
theorem Lo.of {w : World} {B M : Nat} {T : TypeId} {sz : Nat} {A : Option Addr} {n C : Nat} {xs : List Value} (h : w.ownsRow B T sz (.slice A n C) n xs) (hM : w.heap.size ≤ M) : Lo w B M T sz A n := by
  rcases h.2 with ⟨_, h0⟩ | ⟨g, cap, cur, hv, hB, hh, hc, _, hs, _⟩
  · exact .inl h0
  · injection hv with hA hn hC
    exact .inr ⟨g, cur, hA, hB, Nat.lt_of_lt_of_le (heap_lt hh) hM, hh, by rw [hs]; exact Nat.mul_le_mul_right _ hc⟩
theorem Lo.at {w : World} {B M : Nat} {T : TypeId} {sz : Nat} {A : Option Addr} {n : Nat} (h : Lo w B M T sz A n) {i : Nat} (hi : i < n) (hs : 0 < sz) :
    ∃ g cur, A = some ⟨g, 0, none⟩ ∧ B ≤ g ∧ g < M ∧ w.heap[g]? = some (.cells cur T (0, 0)) ∧ ∀ r, r < sz → (∃ v, w.cell? ⟨g, i * sz + r, none⟩ = some v) ∧ w.frozen? ⟨g, i * sz + r, none⟩ = false := by
  rcases h with h | ⟨g, cur, a, b, c, d, e⟩
  · omega
  · refine ⟨g, cur, a, b, c, d, fun r hr => ⟨?_, frozen_of_row w g _ cur T d⟩⟩
    have h1 : i * sz + sz ≤ n * sz := by rw [← Nat.succ_mul]; exact Nat.mul_le_mul_right _ hi
    have : i * sz + r < cur.size := by omega
    exact ⟨cur[i * sz + r], by rw [cell_of_row w g _ cur T _ d, Array.getElem?_eq_getElem this]⟩
/-- n rows of m numbers each, in blocks from B up to M; their slices lie in a block of the call's own. -/
def HdRows (w : World) (B M1 M2 : Nat) (v : Value) (n m : Nat) : Prop :=
  ∃ hs : List Value, w.ownsRow B 45 1 v n hs ∧ ∀ i, i < n → ∃ A C, hs[i]? = some (.slice A m C) ∧ Lo w M1 M2 2 1 A m
theorem HdRows.set {w : World} {B M1 M2 : Nat} {v : Value} {n m : Nat} (h : HdRows w B M1 M2 v n m) {p : Addr} {cur : Array Value} {T : TypeId} (hp : w.heap[p.block]? = some (.cells cur T (0, 0))) (hT : T ≠ 45) (u : Value) : HdRows (w.setCell p u) B M1 M2 v n m := by
  obtain ⟨hs, ho, hr⟩ := h
  refine ⟨hs, ho.kept (grown_set w p u) ?_, fun i hi => ?_⟩
  · rcases ho.2 with ⟨rfl, _⟩ | ⟨g, cap, c2, rfl, _, hh, _⟩
    · exact .inl rfl
    · refine .inr (fun e => ?_)
      have e2 : g = p.block := by simpa [Value.ownBlock] using e
      subst e2
      rw [hp] at hh
      injection hh with hh
      injection hh with _ ht
      exact hT ht
  · obtain ⟨A, C, h1, h2⟩ := hr i hi
    exact ⟨A, C, h1, h2.set p u⟩
theorem HdRows.of {w : World} {B M1 M2 : Nat} {A : Option Addr} {C n m : Nat} {ls : List (List Int)} {hs : List Value} (h : RowsOwn B w (.slice A ls.length C) ls hs) (hn : ls.length = n) (hm : ∀ r ∈ ls, r.length = m)
    (hlo : ∀ (i : Nat) (A : Option Addr) (C : Nat), hs[i]? = some (.slice A m C) → w.ownsRow B 2 1 (.slice A m C) m (i64s (ls.getD i [])) → Lo w M1 M2 2 1 A m) : HdRows w B M1 M2 (.slice A ls.length C) n m := by
  subst hn
  refine ⟨hs, h.own, fun i hi => ?_⟩
  obtain ⟨A', C', h1, h2⟩ := h.rows i ls[i] (List.getElem?_eq_getElem hi)
  have e := hm ls[i] (List.getElem_mem hi)
  rw [e] at h1 h2
  refine ⟨A', C', h1, hlo i A' C' h1 ?_⟩
  rw [List.getD_eq_getElem?_getD, List.getElem?_eq_getElem hi]; exact h2
theorem HdRows.at {w : World} {B M1 M2 : Nat} {A : Option Addr} {C n m : Nat} (h : HdRows w B M1 M2 (.slice A n C) n m) {i : Nat} (hi : i < n) :
    ∃ g a c, A = some ⟨g, 0, none⟩ ∧ w.cell? ⟨g, i, none⟩ = some (.slice a m c) ∧ Lo w M1 M2 2 1 a m := by
  obtain ⟨hs, ho, hr⟩ := h
  obtain ⟨a, c, h1, h2⟩ := hr i hi
  rcases ho.2 with ⟨_, h0⟩ | ⟨g, cap, cur, hv, _, _⟩
  · omega
  · injection hv with hA hn hC
    subst hA
    refine ⟨g, a, c, rfl, ?_, h2⟩
    have hc := ho.cells (g := g) rfl i _ h1
    rwa [add_off, Nat.zero_add] at hc
/-- what is kept while the clone is written: what was there ahead of it; the clone's box in block gy; its slices. -/
structure ClI (W2 : World) (gy M ns nc n7 n8 nn : Nat) (ds : Array Value) (A5 A6 A7 A8 : Option Addr) (K7 K8 : Nat) (w : World) : Prop where
  below : Below W2.heap.size W2 w
  blk : w.heap[gy]? = some (.cells ds 28 (0, 0))
  sats : Lo w W2.heap.size gy 42 2 A5 ns
  custs : Lo w W2.heap.size gy 44 4 A6 nc
  cost : HdRows w W2.heap.size W2.heap.size M (.slice A7 n7 K7) n7 nn
  time : HdRows w W2.heap.size M gy (.slice A8 n8 K8) n8 nn
theorem ClI.set {W2 : World} {gy M ns nc n7 n8 nn : Nat} {ds : Array Value} {A5 A6 A7 A8 : Option Addr} {K7 K8 : Nat} {w : World} (h : ClI W2 gy M ns nc n7 n8 nn ds A5 A6 A7 A8 K7 K8 w) {p : Addr} {cur : Array Value} {T : TypeId} (hp : w.heap[p.block]? = some (.cells cur T (0, 0)))
    (hB : W2.heap.size ≤ p.block) (hg : p.block < gy) (hT : T ≠ 45) (u : Value) : ClI W2 gy M ns nc n7 n8 nn ds A5 A6 A7 A8 K7 K8 (w.setCell p u) :=
  ⟨h.below.setCell hB u, (heap_setCell_other w p gy u (by omega)).trans h.blk, h.sats.set p u, h.custs.set p u, h.cost.set hp hT u, h.time.set hp hT u⟩
theorem ClI.cell {W2 : World} {gy M ns nc n7 n8 nn : Nat} {ds : Array Value} {A5 A6 A7 A8 : Option Addr} {K7 K8 : Nat} {w : World} (h : ClI W2 gy M ns nc n7 n8 nn ds A5 A6 A7 A8 K7 K8 w) (j : Nat) (u : Value) (hu : ds[j]? = some u) : w.cell? ⟨gy, j, none⟩ = some u :=
  (cell_of_row w gy j _ _ _ h.blk).trans hu
theorem ClI.of {W2 w3 W4 : World} {X : InstD} {hy : HdD} {h7 h8 : List Value} {nn : Nat} (hC : ClonedOwn W2.heap.size w3 X hy h7 h8) (hb : Below W2.heap.size W2 w3) (ho : ∀ r ∈ X.cost, r.length = nn) (ht : ∀ r ∈ X.time, r.length = nn) {ds : Array Value}
    (h1 : W4.heap[w3.heap.size]? = some (.cells ds 28 (0, 0))) (h2 : Below w3.heap.size w3 W4) : ∃ M, M ≤ w3.heap.size ∧ ClI W2 w3.heap.size M X.sats.length X.custs.length X.cost.length X.time.length nn ds hy.sa hy.ca hy.oa hy.ta hy.oc hy.tc W4 := by
  obtain ⟨M, hM, hlt, hT⟩ := hC.mid
  have lift : ∀ {B M : Nat} {T : TypeId} {sz : Nat} {A : Option Addr} {n : Nat}, Lo w3 B M T sz A n → Lo W4 B M T sz A n := fun h => by
    rcases h with h | ⟨g, cur, a, b, c, d, e⟩
    · exact .inl h
    · exact .inr ⟨g, cur, a, b, c, (h2.block g (heap_lt d)).trans d, e⟩
  have lh : ∀ {B M1 M2 : Nat} {v : Value} {n m : Nat}, HdRows w3 B M1 M2 v n m → HdRows W4 B M1 M2 v n m := fun ⟨hs, a, b⟩ => ⟨hs, own_below a h2, fun i hi => by
    obtain ⟨A, C, p, q⟩ := b i hi
    exact ⟨A, C, p, lift q⟩⟩
  -- the cost's rows lie below M or are empty
  have hcost : HdRows w3 W2.heap.size W2.heap.size M (.slice hy.oa X.cost.length hy.oc) X.cost.length nn := HdRows.of hC.cost rfl ho fun i A C hi hr => by
    rcases hr.2 with ⟨_, h0⟩ | ⟨g, cap, cur, hv, hB, hh, hc, _, hs, _⟩
    · exact .inl h0
    · injection hv with hA hn hC'
      subst hA
      exact .inr ⟨g, cur, rfl, hB, hlt i _ _ _ hi, hh, by rw [hs, Nat.mul_one, Nat.mul_one]; exact hc⟩
  have htime : HdRows w3 M M w3.heap.size (.slice hy.ta X.time.length hy.tc) X.time.length nn := HdRows.of hT rfl ht fun i A C hi hr => Lo.of hr (Nat.le_refl _)
  have htime2 : HdRows w3 W2.heap.size M w3.heap.size (.slice hy.ta X.time.length hy.tc) X.time.length nn := by
    obtain ⟨hs, a, b⟩ := htime
    exact ⟨hs, own_base a hM, b⟩
  by_cases hMs : M ≤ w3.heap.size
  · exact ⟨M, hMs, hb.trans (h2.mono hb.size), h1, lift (Lo.of hC.sats (Nat.le_refl _)), lift (Lo.of hC.custs (Nat.le_refl _)), lh hcost, lh htime2⟩
  · -- nothing lies beyond w3's blocks: the rows are empty
    have hz : ∀ {B M : Nat} {T : TypeId} {sz : Nat} {A : Option Addr} {n : Nat}, w3.heap.size < B → Lo w3 B M T sz A n → n = 0 := fun hB h => by
      rcases h with h | ⟨g, cur, a, b, c, d, e⟩
      · exact h
      · have := heap_lt d; omega
    refine ⟨w3.heap.size, Nat.le_refl _, hb.trans (h2.mono hb.size), h1, lift (Lo.of hC.sats (Nat.le_refl _)), lift (Lo.of hC.custs (Nat.le_refl _)), lh ?_, lh ?_⟩
    · obtain ⟨hs, a, b⟩ := hcost
      refine ⟨hs, a, fun i hi => ?_⟩
      obtain ⟨A, C, p, q⟩ := b i hi
      refine ⟨A, C, p, ?_⟩
      rcases q with h | ⟨g, cur, a, b, c, d, e⟩
      · exact .inl h
      · exact .inr ⟨g, cur, a, b, heap_lt d, d, e⟩
    · obtain ⟨hs, a, b⟩ := htime2
      refine ⟨hs, a, fun i hi => ?_⟩
      obtain ⟨A, C, p, q⟩ := b i hi
      exact ⟨A, C, p, .inl (hz (by omega) q)⟩
theorem ClI.drew {W2 : World} {gy M ns nc n7 n8 nn : Nat} {ds : Array Value} {A5 A6 A7 A8 : Option Addr} {K7 K8 : Nat} {w : World} (h : ClI W2 gy M ns nc n7 n8 nn ds A5 A6 A7 A8 K7 K8 w) : ClI W2 gy M ns nc n7 n8 nn ds A5 A6 A7 A8 K7 K8 w.drew :=
  ⟨h.below.drew, h.blk, h.sats, h.custs, h.cost, h.time⟩
/-- a new box. -/
theorem box_new (w : World) (cs : Array Value) (W7 : World) (h : w.alloc (.cells cs 28) = W7) :
    W7.heap[w.heap.size]? = some (.cells cs 28 (0, 0)) ∧ Below w.heap.size w W7 ∧ W7.heap.size = w.heap.size + 1 := by
  subst h
  exact ⟨heap_alloc_new w _, (Below.refl _ _).alloc (Nat.le_refl _) _, by simp⟩
end Go.Proofs.Ythiinlkpakinlaa
