/-
  Memory of an instance that Make made while numbers of it are changed: it stays such an instance (layer 13).
-/
import Derived.Test.YtljcpgeggbbmfaaAP
namespace Go.Proofs.Ytljcpgeggbbmfaa
set_option linter.unusedVariables false
set_option linter.unusedSimpArgs false
open Go.RowKit
theorem bk_mats (ls : List (List Int)) (m i k : Nat) (hi : i < ls.length) (hl : ls.length = m) (hr : ∀ r ∈ ls, r.length = m) (hv : ∀ (i : Nat) (r : List Int), ls[i]? = some r → ∀ (k : Nat) (v : Int), r[k]? = some v → 0 ≤ v ∧ v ≤ 1000000000 ∧ (i = k → v = 0)) (v : Int) (h0 : 0 ≤ v) (h1 : v ≤ 1000000000) (hik : i ≠ k) :
    (ls.set i (ls[i].set k v)).length = m ∧ (∀ r ∈ ls.set i (ls[i].set k v), r.length = m) ∧ ∀ (i' : Nat) (r : List Int), (ls.set i (ls[i].set k v))[i']? = some r → ∀ (k' : Nat) (v' : Int), r[k']? = some v' → 0 ≤ v' ∧ v' ≤ 1000000000 ∧ (i' = k' → v' = 0) := by
  refine ⟨by rw [List.length_set]; exact hl, fun r h => ?_, fun i' r hr' k' v' hv' => ?_⟩
  · rcases List.mem_or_eq_of_mem_set h with h | h
    · exact hr r h
    · rw [h, List.length_set]; exact hr _ (List.getElem_mem hi)
  · by_cases e : i = i'
    · subst e
      rw [List.getElem?_set_self hi] at hr'
      injection hr' with hr'
      subst hr'
      by_cases e2 : k = k'
      · subst e2
        have hk : k < ls[i].length := by
          have := (List.getElem?_eq_some_iff.1 hv').1
          rwa [List.length_set] at this
        rw [List.getElem?_set_self hk] at hv'
        injection hv' with hv'
        subst hv'
        exact ⟨h0, h1, fun e => absurd e hik⟩
      · rw [List.getElem?_set_ne e2] at hv'
        exact hv i _ (List.getElem?_eq_getElem hi) k' v' hv'
    · rw [List.getElem?_set_ne e] at hr'
      exact hv i' r hr' k' v' hv'
theorem bk_okTime {X : InstD} (K : ReadOk X) (i k : Nat) (hi : i < X.time.length) (hik : i ≠ k) (v : Int) (h0 : 0 ≤ v) (h1 : v ≤ 1000000000) : ReadOk { X with time := X.time.set i (X.time[i].set k v) } := by
  obtain ⟨a, b, c⟩ := bk_mats X.time (nodesN X) i k hi K.t K.rt K.ti v h0 h1 hik
  exact ⟨K.s1, K.s2, K.c1, K.c2, K.o, a, K.ro, b, K.tm, K.bm, K.fin, K.tr, K.br, K.sat, K.cust, K.co, c⟩
theorem bk_okCost {X : InstD} (K : ReadOk X) (i k : Nat) (hi : i < X.cost.length) (hik : i ≠ k) (v : Int) (h0 : 0 ≤ v) (h1 : v ≤ 1000000000) : ReadOk { X with cost := X.cost.set i (X.cost[i].set k v) } := by
  obtain ⟨a, b, c⟩ := bk_mats X.cost (nodesN X) i k hi K.o K.ro K.co v h0 h1 hik
  exact ⟨K.s1, K.s2, K.c1, K.c2, a, K.t, b, K.rt, K.tm, K.bm, K.fin, K.tr, K.br, K.sat, K.cust, c, K.ti⟩
theorem bk_okRoom {X : InstD} (K : ReadOk X) (t : Nat) (ht : t < X.sats.length) (v : Int) (h0 : 0 ≤ v) (h1 : v ≤ 1000000000) : ReadOk { X with sats := X.sats.set t { X.sats[t] with room := v } } := by
  have hN : nodesN { X with sats := X.sats.set t { X.sats[t] with room := v } } = nodesN X := by
    show 1 + (X.sats.set t _).length + X.custs.length = 1 + X.sats.length + X.custs.length
    rw [List.length_set]
  refine ⟨?_, ?_, K.c1, K.c2, by rw [hN]; exact K.o, by rw [hN]; exact K.t, by rw [hN]; exact K.ro, by rw [hN]; exact K.rt, K.tm, K.bm, K.fin, K.tr, K.br, ?_, K.cust, K.co, K.ti⟩
  · show 1 ≤ (X.sats.set t _).length
    rw [List.length_set]; exact K.s1
  · show (X.sats.set t _).length ≤ 12
    rw [List.length_set]; exact K.s2
  · intro x hx
    rcases List.mem_or_eq_of_mem_set hx with h | h
    · exact K.sat x h
    · obtain ⟨a, b⟩ := K.sat X.sats[t] (List.getElem_mem ht)
      rw [h]
      exact ⟨⟨h0, h1⟩, b⟩
/-- the instance X in its box, in memory of the call's own. -/
structure BK (g B : Nat) (w0 : World) (gx : Nat) (h : HdD) (g7 g8 : List Nat) (X : InstD) (w : World) : Prop where
  ok : ReadOk X
  own : MadeOwn B w X h g7 g8
  box : w.heap[gx]? = some (.cells (instC X h) 29 (0, 0))
  bel : Below g w0 w
  le : g ≤ w.heap.size
  gB : g ≤ B
theorem bk_ne {w : World} {g k : Nat} {c c' : Array Value} {T T' : TypeId} (h : w.heap[g]? = some (.cells c T (0, 0))) (h' : w.heap[k]? = some (.cells c' T' (0, 0))) (hT : T ≠ T') : g ≠ k := fun e => by
  subst e
  rw [h] at h'
  injection h' with h'
  injection h' with _ ht
  exact hT ht
theorem bk_other {w : World} {p a : Addr} {u v : Value} (h : a.block ≠ p.block) (hc : w.cell? a = some v) : (w.setCell p u).cell? a = some v := by
  unfold World.cell? at hc ⊢
  rw [heap_setCell_other w p a.block u (by first | exact h | exact h.symm)]
  exact hc
variable {g B : Nat} {w0 : World} {gx : Nat} {h : HdD} {g7 g8 : List Nat} {X : InstD} {w : World}
theorem BK.below {w' : World} (H : BK g B w0 gx h g7 g8 X w) (hb : Below w.heap.size w w') : BK g B w0 gx h g7 g8 X w' :=
  ⟨H.ok, H.own.below hb, (hb.block gx (heap_lt H.box)).trans H.box, H.bel.trans (hb.mono H.le), Nat.le_trans H.le hb.size, H.gB⟩
theorem BK.is (H : BK g B w0 gx h g7 g8 X w) : InstIs w X h := by
  have n61 : nodesN X ≤ 61 := by have := H.ok.s2; have := H.ok.c2; unfold nodesN; omega
  have := H.ok.s2
  have := H.ok.c2
  exact H.own.is (by omega) (by omega) (by rw [H.ok.o]; omega) (by rw [H.ok.t]; omega)
theorem BK.room (H : BK g B w0 gx h g7 g8 X w) (t : Nat) (ht : t < X.sats.length) (n : Int) (h0 : 0 ≤ n) (h1 : n ≤ 1000000000) :
    ∃ gs, h.sa = some ⟨gs, 0, none⟩ ∧ (∃ v, w.cell? ⟨gs, t * 2, none⟩ = some v) ∧ w.frozen? ⟨gs, t * 2, none⟩ = false ∧ BK g B w0 gx h g7 g8 { X with sats := X.sats.set t { X.sats[t] with room := n } } (w.setCell ⟨gs, t * 2, none⟩ (.int .i64 n)) := by
  obtain ⟨ok, own, box, bel, le, gB⟩ := H
  obtain ⟨sa, sc, ca, cc, oa, oc, ta, tc⟩ := h
  obtain ⟨gs, cap, hv⟩ := own_form own.sats (by omega)
  injection hv with hA hn hC
  dsimp only at hA hn hC
  have HS := own.sats
  dsimp only at HS
  rw [hA] at HS
  have hBs := (own_lt HS (g := gs) rfl).1
  have hlen := HS.1
  have hat : t * 2 < X.sats.length * 2 := by omega
  obtain ⟨hst, hgr⟩ := HS.stored (t * 2) (.int .i64 n)
  have hcur : ∃ cur, w.heap[gs]? = some (.cells cur 62 (0, 0)) := by
    rcases HS.2 with ⟨h', _⟩ | ⟨g', cap', cur, h', _, hg', _⟩
    · simp at h'
    · injection h' with h' _ _
      injection h' with h'
      injection h' with h'
      subst h'
      exact ⟨cur, hg'⟩
  obtain ⟨cur, hcur⟩ := hcur
  have hl : (X.sats.set t { X.sats[t] with room := n }).length = X.sats.length := List.length_set
  refine ⟨gs, hA, ⟨(X.sats.flatMap satV)[t * 2]'(by rw [hlen]; exact hat), ?_⟩, HS.frozenAt _, bk_okRoom ok t ht n h0 h1, ?_, ?_, bel.setCell (by show g ≤ gs; omega) _, by rw [set_size]; exact le, gB⟩
  · rw [HS.cellAt _ hat, List.getElem?_eq_getElem]
  · have e1 : (X.sats.flatMap satV).set (t * 2) (.int .i64 n) = (X.sats.set t { X.sats[t] with room := n }).flatMap satV := flat_set satV 2 (fun _ => rfl) _ 0 (by decide) _ _ t ht rfl
    rw [e1] at hst
    have hN : nodesN { X with sats := X.sats.set t { X.sats[t] with room := n } } = nodesN X := by unfold nodesN; simp
    refine ⟨by show World.ownsRow _ B _ 2 (.slice sa (X.sats.set _ _).length sc) (X.sats.set _ _).length _; rw [hl, hA]; exact hst, ownT_kept own.custs (p := ⟨gs, t * 2, none⟩) hcur (by decide) _, ?_, ?_, own.apart, own.tabs⟩
    · rw [hN]; exact matT_kept own.cost (p := ⟨gs, t * 2, none⟩) hcur (by decide) (by decide) _
    · rw [hN]; exact matT_kept own.time (p := ⟨gs, t * 2, none⟩) hcur (by decide) (by decide) _
  · rw [box_kept box (p := ⟨gs, t * 2, none⟩) hcur (by decide) _]
    unfold instC
    rw [hl]
theorem BK.cost (H : BK g B w0 gx h g7 g8 X w) (i k : Nat) (hi : i < X.cost.length) (hk : k < nodesN X) (hik : i ≠ k) (n : Int) (h0 : 0 ≤ n) (h1 : n ≤ 1000000000) :
    ∃ gh gr, h.oa = some ⟨gh, 0, none⟩ ∧ w.cell? ⟨gh, i, none⟩ = some (.slice (some ⟨gr, 0, none⟩) (nodesN X) (nodesN X)) ∧ (∃ v, w.cell? ⟨gr, k, none⟩ = some v) ∧ w.frozen? ⟨gr, k, none⟩ = false ∧ (∃ cur, w.heap[gh]? = some (.cells cur 53 (0, 0))) ∧ (∃ cur, w.heap[gr]? = some (.cells cur 2 (0, 0))) ∧
      BK g B w0 gx h g7 g8 { X with cost := X.cost.set i (X.cost[i].set k n) } (w.setCell ⟨gr, k, none⟩ (.int .i64 n)) := by
  obtain ⟨ok, own, box, bel, le, gB⟩ := H
  obtain ⟨gh, gr, e1, e2, e3, e4, e5, e6, _, e9⟩ := own.cost.at hi
  obtain ⟨c1, c2⟩ := i64s_cell w gr k _ e5 (by rw [e4]; exact hk)
  have hl : (X.cost.set i (X.cost[i].set k n)).length = X.cost.length := List.length_set
  refine ⟨gh, gr, e1, e2, c1, c2, e9, ⟨_, e5⟩, bk_okCost ok i k hi hik n h0 h1, ?_, ?_, bel.setCell (by show g ≤ gr; omega) _, by rw [set_size]; exact le, gB⟩
  · refine ⟨ownT_kept own.sats (p := ⟨gr, k, none⟩) e5 (by decide) _, ownT_kept own.custs (p := ⟨gr, k, none⟩) e5 (by decide) _, by show MatOwn B _ (.slice h.oa (X.cost.set _ _).length h.oc) (nodesN X) (X.cost.set _ _) g7; rw [hl]; exact mat_store own.cost e3 (List.getElem?_eq_getElem hi) n, mat_apart own.time (p := ⟨gr, k, none⟩) e5 (fun h8 => own.apart gr (List.mem_of_getElem? e3) h8) _, own.apart, ?_⟩
    show ∀ g, (Value.slice h.oa (X.cost.set i (X.cost[i].set k n)).length h.oc).ownBlock = some g → (Value.slice h.ta X.time.length h.tc).ownBlock ≠ some g
    rw [hl]; exact own.tabs
  · rw [box_kept box (p := ⟨gr, k, none⟩) e5 (by decide) _]
    unfold instC
    rw [hl]
theorem BK.time (H : BK g B w0 gx h g7 g8 X w) (i k : Nat) (hi : i < X.time.length) (hk : k < nodesN X) (hik : i ≠ k) (n : Int) (h0 : 0 ≤ n) (h1 : n ≤ 1000000000) :
    ∃ gh gr, h.ta = some ⟨gh, 0, none⟩ ∧ g8[i]? = some gr ∧ w.cell? ⟨gh, i, none⟩ = some (.slice (some ⟨gr, 0, none⟩) (nodesN X) (nodesN X)) ∧ (∃ v, w.cell? ⟨gr, k, none⟩ = some v) ∧ w.frozen? ⟨gr, k, none⟩ = false ∧ (∃ cur, w.heap[gh]? = some (.cells cur 53 (0, 0))) ∧ (∃ cur, w.heap[gr]? = some (.cells cur 2 (0, 0))) ∧
      BK g B w0 gx h g7 g8 { X with time := X.time.set i (X.time[i].set k n) } (w.setCell ⟨gr, k, none⟩ (.int .i64 n)) := by
  obtain ⟨ok, own, box, bel, le, gB⟩ := H
  obtain ⟨gh, gr, e1, e2, e3, e4, e5, e6, _, e9⟩ := own.time.at hi
  obtain ⟨c1, c2⟩ := i64s_cell w gr k _ e5 (by rw [e4]; exact hk)
  have hl : (X.time.set i (X.time[i].set k n)).length = X.time.length := List.length_set
  refine ⟨gh, gr, e1, e3, e2, c1, c2, e9, ⟨_, e5⟩, bk_okTime ok i k hi hik n h0 h1, ?_, ?_, bel.setCell (by show g ≤ gr; omega) _, by rw [set_size]; exact le, gB⟩
  · refine ⟨ownT_kept own.sats (p := ⟨gr, k, none⟩) e5 (by decide) _, ownT_kept own.custs (p := ⟨gr, k, none⟩) e5 (by decide) _, mat_apart own.cost (p := ⟨gr, k, none⟩) e5 (fun h7 => own.apart gr h7 (List.mem_of_getElem? e3)) _, by show MatOwn B _ (.slice h.ta (X.time.set _ _).length h.tc) (nodesN X) (X.time.set _ _) g8; rw [hl]; exact mat_store own.time e3 (List.getElem?_eq_getElem hi) n, own.apart, ?_⟩
    show ∀ g, (Value.slice h.oa X.cost.length h.oc).ownBlock = some g → (Value.slice h.ta (X.time.set i (X.time[i].set k n)).length h.tc).ownBlock ≠ some g
    rw [hl]; exact own.tabs
  · rw [box_kept box (p := ⟨gr, k, none⟩) e5 (by decide) _]
    unfold instC
    rw [hl]
end Go.Proofs.Ytljcpgeggbbmfaa
