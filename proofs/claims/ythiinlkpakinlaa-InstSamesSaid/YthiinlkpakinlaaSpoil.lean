/-
  Stores into what Make has made (layer 11, InstSpoilt).
-/
import Derived.Test.YthiinlkpakinlaaClones
namespace Go.Proofs.Ythiinlkpakinlaa
set_option linter.unusedVariables false
set_option linter.unusedSimpArgs false
open Go.RowKit
theorem flat_set {α β : Type} (f : α → List β) (m : Nat) (hm : ∀ x, (f x).length = m) (x' : α) (j : Nat) (hj : j < m) (u : β) : ∀ (l : List α) (t : Nat) (ht : t < l.length), f x' = (f l[t]).set j u → (l.flatMap f).set (t * m + j) u = (l.set t x').flatMap f
  | [], t, ht, h => by simp at ht
  | x :: l, 0, ht, h => by
    rw [List.set_cons_zero, List.flatMap_cons, List.flatMap_cons, Nat.zero_mul, Nat.zero_add, List.set_append_left _ _ (by rw [hm]; exact hj), h]; rfl
  | x :: l, t + 1, ht, h => by
    rw [List.set_cons_succ, List.flatMap_cons, List.flatMap_cons, List.set_append_right _ _ (by rw [hm, Nat.succ_mul]; omega), hm, show (t + 1) * m + j - m = t * m + j by rw [Nat.succ_mul]; omega]
    rw [flat_set f m hm x' j hj u l t (by simpa using ht) (by simpa using h)]
theorem i64s_set (r : List Int) (k : Nat) (n : Int) : (i64s r).set k (.int .i64 n) = i64s (r.set k n) := by unfold i64s; rw [List.map_set]
/-- a store into a block of another type. -/
theorem ownT_kept {w : World} {B e s n : Nat} {v : Value} {xs : List Value} (h : w.ownsRow B e s v n xs) {p : Addr} {cur : Array Value} {T : TypeId} (hp : w.heap[p.block]? = some (.cells cur T (0, 0))) (hT : T ≠ e) (u : Value) : (w.setCell p u).ownsRow B e s v n xs := by
  refine h.kept (grown_set w p u) ?_
  rcases h.2 with ⟨rfl, _⟩ | ⟨g, cap, c2, rfl, _, hh, _⟩
  · exact .inl rfl
  · refine .inr (fun e => ?_)
    have e2 : g = p.block := by simpa [Value.ownBlock] using e
    subst e2
    rw [hp] at hh
    injection hh with hh
    injection hh with _ ht
    exact hT ht
theorem matT_kept {B : Nat} {w : World} {v : Value} {m : Nat} {ls : List (List Int)} {gs : List Nat} (h : MatOwn B w v m ls gs) {p : Addr} {cur : Array Value} {T : TypeId} (hp : w.heap[p.block]? = some (.cells cur T (0, 0))) (hT : T ≠ 2) (hT2 : T ≠ 45) (u : Value) : MatOwn B (w.setCell p u) v m ls gs :=
  ⟨h.len, h.inc, fun j g r hj hl => by
    obtain ⟨a, b, c⟩ := h.rows j g r hj hl
    refine ⟨a, b, (heap_setCell_other w p g u (fun e => ?_)).trans c⟩
    rw [e, hp] at c
    injection c with c
    injection c with _ ht
    exact hT ht, ownT_kept h.own hp hT2 u⟩
/-- a store into a row that the matrix does not own, but of the rows' type. -/
theorem mat_apart {B : Nat} {w : World} {v : Value} {m : Nat} {ls : List (List Int)} {gs : List Nat} (h : MatOwn B w v m ls gs) {p : Addr} {cur : Array Value} (hp : w.heap[p.block]? = some (.cells cur 2 (0, 0))) (hg : p.block ∉ gs) (u : Value) : MatOwn B (w.setCell p u) v m ls gs :=
  ⟨h.len, h.inc, fun j g r hj hl => by
    obtain ⟨a, b, c⟩ := h.rows j g r hj hl
    exact ⟨a, b, (heap_setCell_other w p g u (fun e => hg (by rw [← e]; exact List.mem_of_getElem? hj))).trans c⟩, ownT_kept h.own hp (by decide) u⟩
/-- a store into one of the matrix's own rows. -/
theorem mat_store {B : Nat} {w : World} {v : Value} {m : Nat} {ls : List (List Int)} {gs : List Nat} (h : MatOwn B w v m ls gs) {i g k : Nat} {r : List Int} (hg : gs[i]? = some g) (hr : ls[i]? = some r) (n : Int) : MatOwn B (w.setCell ⟨g, k, none⟩ (.int .i64 n)) v m (ls.set i (r.set k n)) gs := by
  obtain ⟨a, b, c⟩ := h.rows i g r hg hr
  refine ⟨by rw [List.length_set]; exact h.len, h.inc, fun j g' r' hj hl => ?_, ?_⟩
  · by_cases e : j = i
    · subst e
      rw [hg] at hj
      injection hj with hj
      subst hj
      rw [List.getElem?_set_self (List.getElem?_eq_some_iff.1 hr).1] at hl
      injection hl with hl
      subst hl
      refine ⟨a, by rw [List.length_set]; exact b, ?_⟩
      rw [heap_setCell_same w g k _ _ _ c, ← i64s_set]
      simp
    · rw [List.getElem?_set_ne (fun e' => e e'.symm)] at hl
      obtain ⟨a', b', c'⟩ := h.rows j g' r' hj hl
      refine ⟨a', b', (heap_setCell_other w ⟨g, k, none⟩ g' _ (fun e' => ?_)).trans c'⟩
      have hjl := (List.getElem?_eq_some_iff.1 hj)
      have hil := (List.getElem?_eq_some_iff.1 hg)
      obtain ⟨h1, h2⟩ := hjl
      obtain ⟨h3, h4⟩ := hil
      have e'' : gs[j] = gs[i] := by rw [h2, h4]; exact e'
      have hp := List.pairwise_iff_getElem.1 h.inc
      rcases Nat.lt_or_gt_of_ne e with hlt | hlt
      · have := hp j i h1 h3 hlt; omega
      · have := hp i j h3 h1 hlt; omega
  · rw [List.length_set]
    exact ownT_kept h.own (p := ⟨g, k, none⟩) c (by decide) _
theorem MadeOwn.below {B : Nat} {w w' : World} {X : InstD} {h : HdD} {g7 g8 : List Nat} (H : MadeOwn B w X h g7 g8) (hb : Below w.heap.size w w') : MadeOwn B w' X h g7 g8 :=
  ⟨own_below H.sats hb, own_below H.custs hb, H.cost.below hb, H.time.below hb, H.apart, H.tabs⟩
/-- what stands in the box of an instance that may have been spoilt. -/
structure Spoilt (w : World) (g : Nat) (X : InstD) (h : HdD) : Prop where
  blk : w.heap[g]? = some (.cells (instC X h) 28 (0, 0))
  is : InstIs w X h
  ls : X.sats.length ≤ 1000000
  lc : X.custs.length ≤ 1000000
theorem spoil_0 {w1 w : World} {g : Nat} {X : InstD} {h : HdD} (hg : w1.heap.size = g) (H : InstIs w1 X h) (hb : Below g w1 w) (hB : w.heap[g]? = some (.cells (instC X h) 28 (0, 0))) (ls : X.sats.length ≤ 1000000) (lc : X.custs.length ≤ 1000000) (n : Int) :
    Spoilt (w.setCell ⟨g, 0, none⟩ (.int .i64 n)) g { X with fin := n } h := by
  subst hg
  have hb2 : Below w1.heap.size w1 (w.setCell ⟨w1.heap.size, 0, none⟩ (.int .i64 n)) := hb.setCell (Nat.le_refl _) _
  exact ⟨heap_set w _ 0 _ _ _ hB, ⟨H.sats.below hb2, H.custs.below hb2, H.cost.below hb2, H.time.below hb2, H.ls, H.lc, H.lo, H.lt⟩, ls, lc⟩
theorem spoil_1 {w1 w : World} {g : Nat} {X : InstD} {h : HdD} (hg : w1.heap.size = g) (H : InstIs w1 X h) (hb : Below g w1 w) (hB : w.heap[g]? = some (.cells (instC X h) 28 (0, 0))) (ls : X.sats.length ≤ 1000000) (lc : X.custs.length ≤ 1000000) (n : Int) :
    Spoilt (w.setCell ⟨g, 1, none⟩ (.int .i64 n)) g { X with tm := n } h := by
  subst hg
  have hb2 : Below w1.heap.size w1 (w.setCell ⟨w1.heap.size, 1, none⟩ (.int .i64 n)) := hb.setCell (Nat.le_refl _) _
  exact ⟨heap_set w _ 1 _ _ _ hB, ⟨H.sats.below hb2, H.custs.below hb2, H.cost.below hb2, H.time.below hb2, H.ls, H.lc, H.lo, H.lt⟩, ls, lc⟩
theorem spoil_2 {w1 w : World} {g : Nat} {X : InstD} {h : HdD} (hg : w1.heap.size = g) (H : InstIs w1 X h) (hb : Below g w1 w) (hB : w.heap[g]? = some (.cells (instC X h) 28 (0, 0))) (ls : X.sats.length ≤ 1000000) (lc : X.custs.length ≤ 1000000) (n : Int) :
    Spoilt (w.setCell ⟨g, 2, none⟩ (.int .i64 n)) g { X with tr := n } h := by
  subst hg
  have hb2 : Below w1.heap.size w1 (w.setCell ⟨w1.heap.size, 2, none⟩ (.int .i64 n)) := hb.setCell (Nat.le_refl _) _
  exact ⟨heap_set w _ 2 _ _ _ hB, ⟨H.sats.below hb2, H.custs.below hb2, H.cost.below hb2, H.time.below hb2, H.ls, H.lc, H.lo, H.lt⟩, ls, lc⟩
theorem spoil_3 {w1 w : World} {g : Nat} {X : InstD} {h : HdD} (hg : w1.heap.size = g) (H : InstIs w1 X h) (hb : Below g w1 w) (hB : w.heap[g]? = some (.cells (instC X h) 28 (0, 0))) (ls : X.sats.length ≤ 1000000) (lc : X.custs.length ≤ 1000000) (n : Int) :
    Spoilt (w.setCell ⟨g, 3, none⟩ (.int .i64 n)) g { X with bm := n } h := by
  subst hg
  have hb2 : Below w1.heap.size w1 (w.setCell ⟨w1.heap.size, 3, none⟩ (.int .i64 n)) := hb.setCell (Nat.le_refl _) _
  exact ⟨heap_set w _ 3 _ _ _ hB, ⟨H.sats.below hb2, H.custs.below hb2, H.cost.below hb2, H.time.below hb2, H.ls, H.lc, H.lo, H.lt⟩, ls, lc⟩
theorem spoil_4 {w1 w : World} {g : Nat} {X : InstD} {h : HdD} (hg : w1.heap.size = g) (H : InstIs w1 X h) (hb : Below g w1 w) (hB : w.heap[g]? = some (.cells (instC X h) 28 (0, 0))) (ls : X.sats.length ≤ 1000000) (lc : X.custs.length ≤ 1000000) (n : Int) :
    Spoilt (w.setCell ⟨g, 4, none⟩ (.int .i64 n)) g { X with br := n } h := by
  subst hg
  have hb2 : Below w1.heap.size w1 (w.setCell ⟨w1.heap.size, 4, none⟩ (.int .i64 n)) := hb.setCell (Nat.le_refl _) _
  exact ⟨heap_set w _ 4 _ _ _ hB, ⟨H.sats.below hb2, H.custs.below hb2, H.cost.below hb2, H.time.below hb2, H.ls, H.lc, H.lo, H.lt⟩, ls, lc⟩
theorem spoil_5 {B : Nat} {w : World} {g : Nat} {X : InstD} {h : HdD} {g7 g8 : List Nat} (H : MadeOwn B w X h g7 g8) (hB : w.heap[g]? = some (.cells (instC X h) 28 (0, 0))) (ls : X.sats.length ≤ 1000) (lc : X.custs.length ≤ 1000) (lo : X.cost.length ≤ 3000) (lt : X.time.length ≤ 3000) (n : Int) (t : Nat) (ht : t < X.sats.length) :
    ∃ gs, h.sa = some ⟨gs, 0, none⟩ ∧ (∃ v, w.cell? ⟨gs, t * 2, none⟩ = some v) ∧ w.frozen? ⟨gs, t * 2, none⟩ = false ∧ Spoilt (w.setCell ⟨gs, t * 2, none⟩ (.int .i64 n)) g { X with sats := X.sats.set t { X.sats[t] with room := n } } h := by
  obtain ⟨sa, sc, ca, cc, oa, oc, ta, tc⟩ := h
  obtain ⟨gs, cap, hv⟩ := own_form H.sats (by omega)
  injection hv with hA hn hC
  dsimp only at hA hn hC
  have HS := H.sats
  dsimp only at HS
  rw [hA] at HS
  have hlen := HS.1
  have hat : t * 2 < X.sats.length * 2 := by omega
  obtain ⟨hst, hgr⟩ := HS.stored (t * 2) (.int .i64 n)
  have hcur : ∃ cur, w.heap[gs]? = some (.cells cur 42 (0, 0)) := by
    rcases HS.2 with ⟨h', _⟩ | ⟨g', cap', cur, h', _, hg', _⟩
    · simp at h'
    · injection h' with h' _ _
      injection h' with h'
      injection h' with h'
      subst h'
      exact ⟨cur, hg'⟩
  obtain ⟨cur, hcur⟩ := hcur
  refine ⟨gs, hA, ⟨(X.sats.flatMap satV)[t * 2]'(by rw [hlen]; exact hat), ?_⟩, HS.frozenAt _, ?_, ?_, ?_, ?_⟩
  · rw [HS.cellAt _ hat, List.getElem?_eq_getElem]
  · refine (heap_setCell_other w ⟨gs, t * 2, none⟩ g _ (fun e => ?_)).trans ?_
    · have e' : g = gs := e
      rw [e', hcur] at hB
      injection hB with hB
      injection hB with _ ht
      exact absurd ht (by decide)
    · rw [hB]
      unfold instC
      simp
  · have e1 : (X.sats.flatMap satV).set (t * 2) (.int .i64 n) = (X.sats.set t { X.sats[t] with room := n }).flatMap satV := flat_set satV 2 (fun _ => rfl) _ 0 (by decide) _ _ t ht rfl
    rw [e1] at hst
    have hl : (X.sats.set t { X.sats[t] with room := n }).length = X.sats.length := List.length_set
    have M2 : MadeOwn B (w.setCell ⟨gs, t * 2, none⟩ (.int .i64 n)) { X with sats := X.sats.set t { X.sats[t] with room := n } } ⟨sa, sc, ca, cc, oa, oc, ta, tc⟩ g7 g8 := by
      have hN : nodesN { X with sats := X.sats.set t { X.sats[t] with room := n } } = nodesN X := by unfold nodesN; simp
      refine ⟨by show World.ownsRow _ B _ 2 (.slice sa (X.sats.set _ _).length sc) (X.sats.set _ _).length _; rw [hl, hA]; exact hst, ownT_kept H.custs (p := ⟨gs, t * 2, none⟩) hcur (by decide) _, ?_, ?_, H.apart, H.tabs⟩
      · rw [hN]; exact matT_kept H.cost (p := ⟨gs, t * 2, none⟩) hcur (by decide) (by decide) _
      · rw [hN]; exact matT_kept H.time (p := ⟨gs, t * 2, none⟩) hcur (by decide) (by decide) _
    exact M2.is (by first | exact ls | (show (X.sats.set _ _).length ≤ 1000; rw [List.length_set]; exact ls)) (by first | exact lc | (show (X.custs.set _ _).length ≤ 1000; rw [List.length_set]; exact lc)) lo lt
  · first | (show X.sats.length ≤ 1000000; omega) | (show (X.sats.set _ _).length ≤ 1000000; rw [List.length_set]; omega)
  · first | (show X.custs.length ≤ 1000000; omega) | (show (X.custs.set _ _).length ≤ 1000000; rw [List.length_set]; omega)
theorem spoil_6 {B : Nat} {w : World} {g : Nat} {X : InstD} {h : HdD} {g7 g8 : List Nat} (H : MadeOwn B w X h g7 g8) (hB : w.heap[g]? = some (.cells (instC X h) 28 (0, 0))) (ls : X.sats.length ≤ 1000) (lc : X.custs.length ≤ 1000) (lo : X.cost.length ≤ 3000) (lt : X.time.length ≤ 3000) (n : Int) (t : Nat) (ht : t < X.sats.length) :
    ∃ gs, h.sa = some ⟨gs, 0, none⟩ ∧ (∃ v, w.cell? ⟨gs, t * 2 + 1, none⟩ = some v) ∧ w.frozen? ⟨gs, t * 2 + 1, none⟩ = false ∧ Spoilt (w.setCell ⟨gs, t * 2 + 1, none⟩ (.int .i64 n)) g { X with sats := X.sats.set t { X.sats[t] with hold := n } } h := by
  obtain ⟨sa, sc, ca, cc, oa, oc, ta, tc⟩ := h
  obtain ⟨gs, cap, hv⟩ := own_form H.sats (by omega)
  injection hv with hA hn hC
  dsimp only at hA hn hC
  have HS := H.sats
  dsimp only at HS
  rw [hA] at HS
  have hlen := HS.1
  have hat : t * 2 + 1 < X.sats.length * 2 := by omega
  obtain ⟨hst, hgr⟩ := HS.stored (t * 2 + 1) (.int .i64 n)
  have hcur : ∃ cur, w.heap[gs]? = some (.cells cur 42 (0, 0)) := by
    rcases HS.2 with ⟨h', _⟩ | ⟨g', cap', cur, h', _, hg', _⟩
    · simp at h'
    · injection h' with h' _ _
      injection h' with h'
      injection h' with h'
      subst h'
      exact ⟨cur, hg'⟩
  obtain ⟨cur, hcur⟩ := hcur
  refine ⟨gs, hA, ⟨(X.sats.flatMap satV)[t * 2 + 1]'(by rw [hlen]; exact hat), ?_⟩, HS.frozenAt _, ?_, ?_, ?_, ?_⟩
  · rw [HS.cellAt _ hat, List.getElem?_eq_getElem]
  · refine (heap_setCell_other w ⟨gs, t * 2 + 1, none⟩ g _ (fun e => ?_)).trans ?_
    · have e' : g = gs := e
      rw [e', hcur] at hB
      injection hB with hB
      injection hB with _ ht
      exact absurd ht (by decide)
    · rw [hB]
      unfold instC
      simp
  · have e1 : (X.sats.flatMap satV).set (t * 2 + 1) (.int .i64 n) = (X.sats.set t { X.sats[t] with hold := n }).flatMap satV := flat_set satV 2 (fun _ => rfl) _ 1 (by decide) _ _ t ht rfl
    rw [e1] at hst
    have hl : (X.sats.set t { X.sats[t] with hold := n }).length = X.sats.length := List.length_set
    have M2 : MadeOwn B (w.setCell ⟨gs, t * 2 + 1, none⟩ (.int .i64 n)) { X with sats := X.sats.set t { X.sats[t] with hold := n } } ⟨sa, sc, ca, cc, oa, oc, ta, tc⟩ g7 g8 := by
      have hN : nodesN { X with sats := X.sats.set t { X.sats[t] with hold := n } } = nodesN X := by unfold nodesN; simp
      refine ⟨by show World.ownsRow _ B _ 2 (.slice sa (X.sats.set _ _).length sc) (X.sats.set _ _).length _; rw [hl, hA]; exact hst, ownT_kept H.custs (p := ⟨gs, t * 2 + 1, none⟩) hcur (by decide) _, ?_, ?_, H.apart, H.tabs⟩
      · rw [hN]; exact matT_kept H.cost (p := ⟨gs, t * 2 + 1, none⟩) hcur (by decide) (by decide) _
      · rw [hN]; exact matT_kept H.time (p := ⟨gs, t * 2 + 1, none⟩) hcur (by decide) (by decide) _
    exact M2.is (by first | exact ls | (show (X.sats.set _ _).length ≤ 1000; rw [List.length_set]; exact ls)) (by first | exact lc | (show (X.custs.set _ _).length ≤ 1000; rw [List.length_set]; exact lc)) lo lt
  · first | (show X.sats.length ≤ 1000000; omega) | (show (X.sats.set _ _).length ≤ 1000000; rw [List.length_set]; omega)
  · first | (show X.custs.length ≤ 1000000; omega) | (show (X.custs.set _ _).length ≤ 1000000; rw [List.length_set]; omega)
theorem spoil_7 {B : Nat} {w : World} {g : Nat} {X : InstD} {h : HdD} {g7 g8 : List Nat} (H : MadeOwn B w X h g7 g8) (hB : w.heap[g]? = some (.cells (instC X h) 28 (0, 0))) (ls : X.sats.length ≤ 1000) (lc : X.custs.length ≤ 1000) (lo : X.cost.length ≤ 3000) (lt : X.time.length ≤ 3000) (n : Int) (t : Nat) (ht : t < X.custs.length) :
    ∃ gs, h.ca = some ⟨gs, 0, none⟩ ∧ (∃ v, w.cell? ⟨gs, t * 4, none⟩ = some v) ∧ w.frozen? ⟨gs, t * 4, none⟩ = false ∧ Spoilt (w.setCell ⟨gs, t * 4, none⟩ (.int .i64 n)) g { X with custs := X.custs.set t { X.custs[t] with load := n } } h := by
  obtain ⟨sa, sc, ca, cc, oa, oc, ta, tc⟩ := h
  obtain ⟨gs, cap, hv⟩ := own_form H.custs (by omega)
  injection hv with hA hn hC
  dsimp only at hA hn hC
  have HS := H.custs
  dsimp only at HS
  rw [hA] at HS
  have hlen := HS.1
  have hat : t * 4 < X.custs.length * 4 := by omega
  obtain ⟨hst, hgr⟩ := HS.stored (t * 4) (.int .i64 n)
  have hcur : ∃ cur, w.heap[gs]? = some (.cells cur 44 (0, 0)) := by
    rcases HS.2 with ⟨h', _⟩ | ⟨g', cap', cur, h', _, hg', _⟩
    · simp at h'
    · injection h' with h' _ _
      injection h' with h'
      injection h' with h'
      subst h'
      exact ⟨cur, hg'⟩
  obtain ⟨cur, hcur⟩ := hcur
  refine ⟨gs, hA, ⟨(X.custs.flatMap custV)[t * 4]'(by rw [hlen]; exact hat), ?_⟩, HS.frozenAt _, ?_, ?_, ?_, ?_⟩
  · rw [HS.cellAt _ hat, List.getElem?_eq_getElem]
  · refine (heap_setCell_other w ⟨gs, t * 4, none⟩ g _ (fun e => ?_)).trans ?_
    · have e' : g = gs := e
      rw [e', hcur] at hB
      injection hB with hB
      injection hB with _ ht
      exact absurd ht (by decide)
    · rw [hB]
      unfold instC
      simp
  · have e1 : (X.custs.flatMap custV).set (t * 4) (.int .i64 n) = (X.custs.set t { X.custs[t] with load := n }).flatMap custV := flat_set custV 4 (fun _ => rfl) _ 0 (by decide) _ _ t ht rfl
    rw [e1] at hst
    have hl : (X.custs.set t { X.custs[t] with load := n }).length = X.custs.length := List.length_set
    have M2 : MadeOwn B (w.setCell ⟨gs, t * 4, none⟩ (.int .i64 n)) { X with custs := X.custs.set t { X.custs[t] with load := n } } ⟨sa, sc, ca, cc, oa, oc, ta, tc⟩ g7 g8 := by
      have hN : nodesN { X with custs := X.custs.set t { X.custs[t] with load := n } } = nodesN X := by unfold nodesN; simp
      refine ⟨ownT_kept H.sats (p := ⟨gs, t * 4, none⟩) hcur (by decide) _, by show World.ownsRow _ B _ 4 (.slice ca (X.custs.set _ _).length cc) (X.custs.set _ _).length _; rw [hl, hA]; exact hst, ?_, ?_, H.apart, H.tabs⟩
      · rw [hN]; exact matT_kept H.cost (p := ⟨gs, t * 4, none⟩) hcur (by decide) (by decide) _
      · rw [hN]; exact matT_kept H.time (p := ⟨gs, t * 4, none⟩) hcur (by decide) (by decide) _
    exact M2.is (by first | exact ls | (show (X.sats.set _ _).length ≤ 1000; rw [List.length_set]; exact ls)) (by first | exact lc | (show (X.custs.set _ _).length ≤ 1000; rw [List.length_set]; exact lc)) lo lt
  · first | (show X.sats.length ≤ 1000000; omega) | (show (X.sats.set _ _).length ≤ 1000000; rw [List.length_set]; omega)
  · first | (show X.custs.length ≤ 1000000; omega) | (show (X.custs.set _ _).length ≤ 1000000; rw [List.length_set]; omega)
theorem spoil_8 {B : Nat} {w : World} {g : Nat} {X : InstD} {h : HdD} {g7 g8 : List Nat} (H : MadeOwn B w X h g7 g8) (hB : w.heap[g]? = some (.cells (instC X h) 28 (0, 0))) (ls : X.sats.length ≤ 1000) (lc : X.custs.length ≤ 1000) (lo : X.cost.length ≤ 3000) (lt : X.time.length ≤ 3000) (n : Int) (t : Nat) (ht : t < X.custs.length) :
    ∃ gs, h.ca = some ⟨gs, 0, none⟩ ∧ (∃ v, w.cell? ⟨gs, t * 4 + 1, none⟩ = some v) ∧ w.frozen? ⟨gs, t * 4 + 1, none⟩ = false ∧ Spoilt (w.setCell ⟨gs, t * 4 + 1, none⟩ (.int .i64 n)) g { X with custs := X.custs.set t { X.custs[t] with opn := n } } h := by
  obtain ⟨sa, sc, ca, cc, oa, oc, ta, tc⟩ := h
  obtain ⟨gs, cap, hv⟩ := own_form H.custs (by omega)
  injection hv with hA hn hC
  dsimp only at hA hn hC
  have HS := H.custs
  dsimp only at HS
  rw [hA] at HS
  have hlen := HS.1
  have hat : t * 4 + 1 < X.custs.length * 4 := by omega
  obtain ⟨hst, hgr⟩ := HS.stored (t * 4 + 1) (.int .i64 n)
  have hcur : ∃ cur, w.heap[gs]? = some (.cells cur 44 (0, 0)) := by
    rcases HS.2 with ⟨h', _⟩ | ⟨g', cap', cur, h', _, hg', _⟩
    · simp at h'
    · injection h' with h' _ _
      injection h' with h'
      injection h' with h'
      subst h'
      exact ⟨cur, hg'⟩
  obtain ⟨cur, hcur⟩ := hcur
  refine ⟨gs, hA, ⟨(X.custs.flatMap custV)[t * 4 + 1]'(by rw [hlen]; exact hat), ?_⟩, HS.frozenAt _, ?_, ?_, ?_, ?_⟩
  · rw [HS.cellAt _ hat, List.getElem?_eq_getElem]
  · refine (heap_setCell_other w ⟨gs, t * 4 + 1, none⟩ g _ (fun e => ?_)).trans ?_
    · have e' : g = gs := e
      rw [e', hcur] at hB
      injection hB with hB
      injection hB with _ ht
      exact absurd ht (by decide)
    · rw [hB]
      unfold instC
      simp
  · have e1 : (X.custs.flatMap custV).set (t * 4 + 1) (.int .i64 n) = (X.custs.set t { X.custs[t] with opn := n }).flatMap custV := flat_set custV 4 (fun _ => rfl) _ 1 (by decide) _ _ t ht rfl
    rw [e1] at hst
    have hl : (X.custs.set t { X.custs[t] with opn := n }).length = X.custs.length := List.length_set
    have M2 : MadeOwn B (w.setCell ⟨gs, t * 4 + 1, none⟩ (.int .i64 n)) { X with custs := X.custs.set t { X.custs[t] with opn := n } } ⟨sa, sc, ca, cc, oa, oc, ta, tc⟩ g7 g8 := by
      have hN : nodesN { X with custs := X.custs.set t { X.custs[t] with opn := n } } = nodesN X := by unfold nodesN; simp
      refine ⟨ownT_kept H.sats (p := ⟨gs, t * 4 + 1, none⟩) hcur (by decide) _, by show World.ownsRow _ B _ 4 (.slice ca (X.custs.set _ _).length cc) (X.custs.set _ _).length _; rw [hl, hA]; exact hst, ?_, ?_, H.apart, H.tabs⟩
      · rw [hN]; exact matT_kept H.cost (p := ⟨gs, t * 4 + 1, none⟩) hcur (by decide) (by decide) _
      · rw [hN]; exact matT_kept H.time (p := ⟨gs, t * 4 + 1, none⟩) hcur (by decide) (by decide) _
    exact M2.is (by first | exact ls | (show (X.sats.set _ _).length ≤ 1000; rw [List.length_set]; exact ls)) (by first | exact lc | (show (X.custs.set _ _).length ≤ 1000; rw [List.length_set]; exact lc)) lo lt
  · first | (show X.sats.length ≤ 1000000; omega) | (show (X.sats.set _ _).length ≤ 1000000; rw [List.length_set]; omega)
  · first | (show X.custs.length ≤ 1000000; omega) | (show (X.custs.set _ _).length ≤ 1000000; rw [List.length_set]; omega)
theorem spoil_9 {B : Nat} {w : World} {g : Nat} {X : InstD} {h : HdD} {g7 g8 : List Nat} (H : MadeOwn B w X h g7 g8) (hB : w.heap[g]? = some (.cells (instC X h) 28 (0, 0))) (ls : X.sats.length ≤ 1000) (lc : X.custs.length ≤ 1000) (lo : X.cost.length ≤ 3000) (lt : X.time.length ≤ 3000) (n : Int) (t : Nat) (ht : t < X.custs.length) :
    ∃ gs, h.ca = some ⟨gs, 0, none⟩ ∧ (∃ v, w.cell? ⟨gs, t * 4 + 2, none⟩ = some v) ∧ w.frozen? ⟨gs, t * 4 + 2, none⟩ = false ∧ Spoilt (w.setCell ⟨gs, t * 4 + 2, none⟩ (.int .i64 n)) g { X with custs := X.custs.set t { X.custs[t] with close := n } } h := by
  obtain ⟨sa, sc, ca, cc, oa, oc, ta, tc⟩ := h
  obtain ⟨gs, cap, hv⟩ := own_form H.custs (by omega)
  injection hv with hA hn hC
  dsimp only at hA hn hC
  have HS := H.custs
  dsimp only at HS
  rw [hA] at HS
  have hlen := HS.1
  have hat : t * 4 + 2 < X.custs.length * 4 := by omega
  obtain ⟨hst, hgr⟩ := HS.stored (t * 4 + 2) (.int .i64 n)
  have hcur : ∃ cur, w.heap[gs]? = some (.cells cur 44 (0, 0)) := by
    rcases HS.2 with ⟨h', _⟩ | ⟨g', cap', cur, h', _, hg', _⟩
    · simp at h'
    · injection h' with h' _ _
      injection h' with h'
      injection h' with h'
      subst h'
      exact ⟨cur, hg'⟩
  obtain ⟨cur, hcur⟩ := hcur
  refine ⟨gs, hA, ⟨(X.custs.flatMap custV)[t * 4 + 2]'(by rw [hlen]; exact hat), ?_⟩, HS.frozenAt _, ?_, ?_, ?_, ?_⟩
  · rw [HS.cellAt _ hat, List.getElem?_eq_getElem]
  · refine (heap_setCell_other w ⟨gs, t * 4 + 2, none⟩ g _ (fun e => ?_)).trans ?_
    · have e' : g = gs := e
      rw [e', hcur] at hB
      injection hB with hB
      injection hB with _ ht
      exact absurd ht (by decide)
    · rw [hB]
      unfold instC
      simp
  · have e1 : (X.custs.flatMap custV).set (t * 4 + 2) (.int .i64 n) = (X.custs.set t { X.custs[t] with close := n }).flatMap custV := flat_set custV 4 (fun _ => rfl) _ 2 (by decide) _ _ t ht rfl
    rw [e1] at hst
    have hl : (X.custs.set t { X.custs[t] with close := n }).length = X.custs.length := List.length_set
    have M2 : MadeOwn B (w.setCell ⟨gs, t * 4 + 2, none⟩ (.int .i64 n)) { X with custs := X.custs.set t { X.custs[t] with close := n } } ⟨sa, sc, ca, cc, oa, oc, ta, tc⟩ g7 g8 := by
      have hN : nodesN { X with custs := X.custs.set t { X.custs[t] with close := n } } = nodesN X := by unfold nodesN; simp
      refine ⟨ownT_kept H.sats (p := ⟨gs, t * 4 + 2, none⟩) hcur (by decide) _, by show World.ownsRow _ B _ 4 (.slice ca (X.custs.set _ _).length cc) (X.custs.set _ _).length _; rw [hl, hA]; exact hst, ?_, ?_, H.apart, H.tabs⟩
      · rw [hN]; exact matT_kept H.cost (p := ⟨gs, t * 4 + 2, none⟩) hcur (by decide) (by decide) _
      · rw [hN]; exact matT_kept H.time (p := ⟨gs, t * 4 + 2, none⟩) hcur (by decide) (by decide) _
    exact M2.is (by first | exact ls | (show (X.sats.set _ _).length ≤ 1000; rw [List.length_set]; exact ls)) (by first | exact lc | (show (X.custs.set _ _).length ≤ 1000; rw [List.length_set]; exact lc)) lo lt
  · first | (show X.sats.length ≤ 1000000; omega) | (show (X.sats.set _ _).length ≤ 1000000; rw [List.length_set]; omega)
  · first | (show X.custs.length ≤ 1000000; omega) | (show (X.custs.set _ _).length ≤ 1000000; rw [List.length_set]; omega)
theorem spoil_10 {B : Nat} {w : World} {g : Nat} {X : InstD} {h : HdD} {g7 g8 : List Nat} (H : MadeOwn B w X h g7 g8) (hB : w.heap[g]? = some (.cells (instC X h) 28 (0, 0))) (ls : X.sats.length ≤ 1000) (lc : X.custs.length ≤ 1000) (lo : X.cost.length ≤ 3000) (lt : X.time.length ≤ 3000) (n : Int) (t : Nat) (ht : t < X.custs.length) :
    ∃ gs, h.ca = some ⟨gs, 0, none⟩ ∧ (∃ v, w.cell? ⟨gs, t * 4 + 3, none⟩ = some v) ∧ w.frozen? ⟨gs, t * 4 + 3, none⟩ = false ∧ Spoilt (w.setCell ⟨gs, t * 4 + 3, none⟩ (.int .i64 n)) g { X with custs := X.custs.set t { X.custs[t] with stay := n } } h := by
  obtain ⟨sa, sc, ca, cc, oa, oc, ta, tc⟩ := h
  obtain ⟨gs, cap, hv⟩ := own_form H.custs (by omega)
  injection hv with hA hn hC
  dsimp only at hA hn hC
  have HS := H.custs
  dsimp only at HS
  rw [hA] at HS
  have hlen := HS.1
  have hat : t * 4 + 3 < X.custs.length * 4 := by omega
  obtain ⟨hst, hgr⟩ := HS.stored (t * 4 + 3) (.int .i64 n)
  have hcur : ∃ cur, w.heap[gs]? = some (.cells cur 44 (0, 0)) := by
    rcases HS.2 with ⟨h', _⟩ | ⟨g', cap', cur, h', _, hg', _⟩
    · simp at h'
    · injection h' with h' _ _
      injection h' with h'
      injection h' with h'
      subst h'
      exact ⟨cur, hg'⟩
  obtain ⟨cur, hcur⟩ := hcur
  refine ⟨gs, hA, ⟨(X.custs.flatMap custV)[t * 4 + 3]'(by rw [hlen]; exact hat), ?_⟩, HS.frozenAt _, ?_, ?_, ?_, ?_⟩
  · rw [HS.cellAt _ hat, List.getElem?_eq_getElem]
  · refine (heap_setCell_other w ⟨gs, t * 4 + 3, none⟩ g _ (fun e => ?_)).trans ?_
    · have e' : g = gs := e
      rw [e', hcur] at hB
      injection hB with hB
      injection hB with _ ht
      exact absurd ht (by decide)
    · rw [hB]
      unfold instC
      simp
  · have e1 : (X.custs.flatMap custV).set (t * 4 + 3) (.int .i64 n) = (X.custs.set t { X.custs[t] with stay := n }).flatMap custV := flat_set custV 4 (fun _ => rfl) _ 3 (by decide) _ _ t ht rfl
    rw [e1] at hst
    have hl : (X.custs.set t { X.custs[t] with stay := n }).length = X.custs.length := List.length_set
    have M2 : MadeOwn B (w.setCell ⟨gs, t * 4 + 3, none⟩ (.int .i64 n)) { X with custs := X.custs.set t { X.custs[t] with stay := n } } ⟨sa, sc, ca, cc, oa, oc, ta, tc⟩ g7 g8 := by
      have hN : nodesN { X with custs := X.custs.set t { X.custs[t] with stay := n } } = nodesN X := by unfold nodesN; simp
      refine ⟨ownT_kept H.sats (p := ⟨gs, t * 4 + 3, none⟩) hcur (by decide) _, by show World.ownsRow _ B _ 4 (.slice ca (X.custs.set _ _).length cc) (X.custs.set _ _).length _; rw [hl, hA]; exact hst, ?_, ?_, H.apart, H.tabs⟩
      · rw [hN]; exact matT_kept H.cost (p := ⟨gs, t * 4 + 3, none⟩) hcur (by decide) (by decide) _
      · rw [hN]; exact matT_kept H.time (p := ⟨gs, t * 4 + 3, none⟩) hcur (by decide) (by decide) _
    exact M2.is (by first | exact ls | (show (X.sats.set _ _).length ≤ 1000; rw [List.length_set]; exact ls)) (by first | exact lc | (show (X.custs.set _ _).length ≤ 1000; rw [List.length_set]; exact lc)) lo lt
  · first | (show X.sats.length ≤ 1000000; omega) | (show (X.sats.set _ _).length ≤ 1000000; rw [List.length_set]; omega)
  · first | (show X.custs.length ≤ 1000000; omega) | (show (X.custs.set _ _).length ≤ 1000000; rw [List.length_set]; omega)
end Go.Proofs.Ythiinlkpakinlaa
