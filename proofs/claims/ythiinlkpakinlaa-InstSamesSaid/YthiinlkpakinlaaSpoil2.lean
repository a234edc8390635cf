/-
  Stores into what Make has made, two: rows, appends, a reslice (layer 11, InstSpoilt).
-/
import Derived.Test.YthiinlkpakinlaaSpoil
namespace Go.Proofs.Ythiinlkpakinlaa
set_option linter.unusedVariables false
set_option linter.unusedSimpArgs false
open Go.RowKit
theorem own_grownT {w w' : World} {B e s n : Nat} {v : Value} {xs : List Value} (h : w.ownsRow B e s v n xs) {row : Option Nat} (hg : w.grownBy w' row) (hT : ∀ k, row = some k → ∃ cur T, w.heap[k]? = some (.cells cur T (0, 0)) ∧ T ≠ e) : w'.ownsRow B e s v n xs := by
  refine h.kept hg ?_
  rcases h.2 with ⟨rfl, _⟩ | ⟨g, cap, c2, rfl, _, hh, _⟩
  · exact .inl rfl
  · refine .inr (fun e => ?_)
    obtain ⟨cur, T, h1, h2⟩ := hT g (by rw [← e]; rfl)
    rw [h1] at hh
    injection hh with hh
    injection hh with _ ht
    exact h2 ht
theorem mat_grownT {B : Nat} {w w' : World} {v : Value} {m : Nat} {ls : List (List Int)} {gs : List Nat} (h : MatOwn B w v m ls gs) {row : Option Nat} (hg : w.grownBy w' row) (hT : ∀ k, row = some k → ∃ cur T, w.heap[k]? = some (.cells cur T (0, 0)) ∧ T ≠ 2 ∧ T ≠ 45) : MatOwn B w' v m ls gs :=
  ⟨h.len, h.inc, fun j g r hj hl => by
    obtain ⟨a, b, c⟩ := h.rows j g r hj hl
    refine ⟨a, b, (hg.block g (heap_lt c) (fun e => ?_)).trans c⟩
    obtain ⟨cur, T, h1, h2, _⟩ := hT g e.symm
    rw [h1] at c
    injection c with c
    injection c with _ ht
    exact h2 ht, own_grownT h.own hg (fun k hk => by obtain ⟨cur, T, h1, _, h3⟩ := hT k hk; exact ⟨cur, T, h1, h3⟩)⟩
/-- the i-th row of a matrix that Make has made. -/
theorem MatOwn.at {B : Nat} {w : World} {A : Option Addr} {C m : Nat} {ls : List (List Int)} {gs : List Nat} (h : MatOwn B w (.slice A ls.length C) m ls gs) {i : Nat} (hi : i < ls.length) :
    ∃ gh gr, A = some ⟨gh, 0, none⟩ ∧ w.cell? ⟨gh, i, none⟩ = some (.slice (some ⟨gr, 0, none⟩) m m) ∧ gs[i]? = some gr ∧ ls[i].length = m ∧ w.heap[gr]? = some (.cells (i64s ls[i]).toArray 2 (0, 0)) ∧ B ≤ gr ∧
      w.ownsRow B 45 1 (.slice (some ⟨gh, 0, none⟩) ls.length C) ls.length (gs.map fun g => Value.slice (some ⟨g, 0, none⟩) m m) ∧ (∃ cur, w.heap[gh]? = some (.cells cur 45 (0, 0))) := by
  have hi2 : i < gs.length := by rw [h.len]; exact hi
  obtain ⟨a, b, c⟩ := h.rows i gs[i] ls[i] (List.getElem?_eq_getElem hi2) (List.getElem?_eq_getElem hi)
  have ho := h.own
  rcases h.own.2 with ⟨_, h0⟩ | ⟨gh, cap, cur, hv, _, hh, _⟩
  · omega
  · injection hv with hA hn hC
    subst hA
    refine ⟨gh, gs[i], rfl, ?_, List.getElem?_eq_getElem hi2, b, c, a, ho, cur, hh⟩
    have hc := ho.cells (g := gh) rfl i (.slice (some ⟨gs[i], 0, none⟩) m m) (by simp [hi2])
    rwa [add_off, Nat.zero_add] at hc
theorem box_kept {w : World} {g : Nat} {X : InstD} {h : HdD} (hB : w.heap[g]? = some (.cells (instC X h) 28 (0, 0))) {p : Addr} {cur : Array Value} {T : TypeId} (hp : w.heap[p.block]? = some (.cells cur T (0, 0))) (hT : T ≠ 28) (u : Value) :
    (w.setCell p u).heap[g]? = some (.cells (instC X h) 28 (0, 0)) := by
  refine (heap_setCell_other w p g u (fun e => ?_)).trans hB
  rw [e, hp] at hB
  injection hB with hB
  injection hB with _ ht
  exact hT ht
theorem i64s_cell (w : World) (gr k : Nat) (r : List Int) (h : w.heap[gr]? = some (.cells (i64s r).toArray 2 (0, 0))) (hk : k < r.length) : (∃ v, w.cell? ⟨gr, k, none⟩ = some v) ∧ w.frozen? ⟨gr, k, none⟩ = false :=
  ⟨⟨.int .i64 r[k], by rw [cell_of_row w gr k _ _ _ h]; simp [i64s, hk]⟩, frozen_of_row w gr k _ _ h⟩
theorem spoil_11 {B : Nat} {w : World} {g : Nat} {X : InstD} {h : HdD} {g7 g8 : List Nat} (H : MadeOwn B w X h g7 g8) (hB : w.heap[g]? = some (.cells (instC X h) 28 (0, 0))) (ls : X.sats.length ≤ 1000) (lc : X.custs.length ≤ 1000) (lo : X.cost.length ≤ 3000) (lt : X.time.length ≤ 3000) (n : Int) (i k : Nat) (hi : i < X.cost.length) (hk : k < nodesN X) :
    ∃ gh gr, h.oa = some ⟨gh, 0, none⟩ ∧ w.cell? ⟨gh, i, none⟩ = some (.slice (some ⟨gr, 0, none⟩) (nodesN X) (nodesN X)) ∧ (∃ v, w.cell? ⟨gr, k, none⟩ = some v) ∧ w.frozen? ⟨gr, k, none⟩ = false ∧ B ≤ gr ∧
      Spoilt (w.setCell ⟨gr, k, none⟩ (.int .i64 n)) g { X with cost := X.cost.set i (X.cost[i].set k n) } h := by
  obtain ⟨gh, gr, e1, e2, e3, e4, e5, e6, _, _⟩ := H.cost.at hi
  obtain ⟨c1, c2⟩ := i64s_cell w gr k _ e5 (by rw [e4]; exact hk)
  have hl : (X.cost.set i (X.cost[i].set k n)).length = X.cost.length := List.length_set
  refine ⟨gh, gr, e1, e2, c1, c2, e6, ?_, ?_, by show X.sats.length ≤ 1000000; omega, by show X.custs.length ≤ 1000000; omega⟩
  · rw [box_kept hB (p := ⟨gr, k, none⟩) e5 (by decide) _]
    unfold instC
    rw [hl]
  · have M2 : MadeOwn B (w.setCell ⟨gr, k, none⟩ (.int .i64 n)) { X with cost := X.cost.set i (X.cost[i].set k n) } h g7 g8 := by
      refine ⟨ownT_kept H.sats (p := ⟨gr, k, none⟩) e5 (by decide) _, ownT_kept H.custs (p := ⟨gr, k, none⟩) e5 (by decide) _, by show MatOwn B _ (.slice h.oa (X.cost.set _ _).length h.oc) (nodesN X) (X.cost.set _ _) g7; rw [hl]; exact mat_store H.cost e3 (List.getElem?_eq_getElem hi) n, mat_apart H.time (p := ⟨gr, k, none⟩) e5 (fun h8 => H.apart gr (List.mem_of_getElem? e3) h8) _, H.apart, ?_⟩
      show ∀ g, (Value.slice h.oa (X.cost.set i (X.cost[i].set k n)).length h.oc).ownBlock = some g → (Value.slice h.ta X.time.length h.tc).ownBlock ≠ some g
      rw [hl]; exact H.tabs
    exact M2.is ls lc (by first | exact lo | (show (X.cost.set _ _).length ≤ 3000; rw [List.length_set]; exact lo)) (by first | exact lt | (show (X.time.set _ _).length ≤ 3000; rw [List.length_set]; exact lt))
theorem spoil_12 {B : Nat} {w : World} {g : Nat} {X : InstD} {h : HdD} {g7 g8 : List Nat} (H : MadeOwn B w X h g7 g8) (hB : w.heap[g]? = some (.cells (instC X h) 28 (0, 0))) (ls : X.sats.length ≤ 1000) (lc : X.custs.length ≤ 1000) (lo : X.cost.length ≤ 3000) (lt : X.time.length ≤ 3000) (n : Int) (i k : Nat) (hi : i < X.time.length) (hk : k < nodesN X) :
    ∃ gh gr, h.ta = some ⟨gh, 0, none⟩ ∧ w.cell? ⟨gh, i, none⟩ = some (.slice (some ⟨gr, 0, none⟩) (nodesN X) (nodesN X)) ∧ (∃ v, w.cell? ⟨gr, k, none⟩ = some v) ∧ w.frozen? ⟨gr, k, none⟩ = false ∧ B ≤ gr ∧
      Spoilt (w.setCell ⟨gr, k, none⟩ (.int .i64 n)) g { X with time := X.time.set i (X.time[i].set k n) } h := by
  obtain ⟨gh, gr, e1, e2, e3, e4, e5, e6, _, _⟩ := H.time.at hi
  obtain ⟨c1, c2⟩ := i64s_cell w gr k _ e5 (by rw [e4]; exact hk)
  have hl : (X.time.set i (X.time[i].set k n)).length = X.time.length := List.length_set
  refine ⟨gh, gr, e1, e2, c1, c2, e6, ?_, ?_, by show X.sats.length ≤ 1000000; omega, by show X.custs.length ≤ 1000000; omega⟩
  · rw [box_kept hB (p := ⟨gr, k, none⟩) e5 (by decide) _]
    unfold instC
    rw [hl]
  · have M2 : MadeOwn B (w.setCell ⟨gr, k, none⟩ (.int .i64 n)) { X with time := X.time.set i (X.time[i].set k n) } h g7 g8 := by
      refine ⟨ownT_kept H.sats (p := ⟨gr, k, none⟩) e5 (by decide) _, ownT_kept H.custs (p := ⟨gr, k, none⟩) e5 (by decide) _, mat_apart H.cost (p := ⟨gr, k, none⟩) e5 (fun h7 => H.apart gr h7 (List.mem_of_getElem? e3)) _, by show MatOwn B _ (.slice h.ta (X.time.set _ _).length h.tc) (nodesN X) (X.time.set _ _) g8; rw [hl]; exact mat_store H.time e3 (List.getElem?_eq_getElem hi) n, H.apart, ?_⟩
      show ∀ g, (Value.slice h.oa X.cost.length h.oc).ownBlock = some g → (Value.slice h.ta (X.time.set i (X.time[i].set k n)).length h.tc).ownBlock ≠ some g
      rw [hl]; exact H.tabs
    exact M2.is ls lc (by first | exact lo | (show (X.cost.set _ _).length ≤ 3000; rw [List.length_set]; exact lo)) (by first | exact lt | (show (X.time.set _ _).length ≤ 3000; rw [List.length_set]; exact lt))
theorem spoil_14 {w1 w : World} {g : Nat} {X : InstD} {h : HdD} (hg : w1.heap.size = g) (H : InstIs w1 X h) (hb : Below g w1 w) (hB : w.heap[g]? = some (.cells (instC X h) 28 (0, 0))) (ls : X.sats.length ≤ 1000000) (lc : X.custs.length ≤ 1000000) (i : Nat) (hi : i < X.time.length) :
    Spoilt (w.setCell ⟨g, 8, none⟩ (.slice h.ta i h.tc)) g { X with time := X.time.take i } h := by
  subst hg
  have hb2 : Below w1.heap.size w1 (w.setCell ⟨w1.heap.size, 8, none⟩ (.slice h.ta i h.tc)) := hb.setCell (Nat.le_refl _) _
  have hl : (X.time.take i).length = i := by rw [List.length_take]; omega
  refine ⟨?_, ⟨H.sats.below hb2, H.custs.below hb2, H.cost.below hb2, ?_, H.ls, H.lc, H.lo, ?_⟩, ls, lc⟩
  · rw [heap_set w _ 8 _ _ _ hB]
    unfold instC
    rw [hl]; rfl
  · obtain ⟨hs, h1, h2, h3⟩ := H.time.below hb2
    refine ⟨hs.take i, by rw [List.length_take, List.length_take, h1], fun hne => ?_, fun j r hj => ?_⟩
    · obtain ⟨b, off, e, hc⟩ := h2 (fun e => by rw [e] at hne; simp at hne)
      exact ⟨b, off, e, fun q u hu => hc q u (by rw [List.getElem?_take] at hu; split at hu; exact hu; cases hu)⟩
    · have hj2 : j < i ∧ X.time[j]? = some r := by
        rw [List.getElem?_take] at hj
        split at hj
        · exact ⟨by assumption, hj⟩
        · cases hj
      obtain ⟨a, c, p1, p2, p3⟩ := h3 j r hj2.2
      exact ⟨a, c, by rw [List.getElem?_take, if_pos hj2.1]; exact p1, p2, p3⟩
  · show (X.time.take i).length ≤ 9223372036854775807
    have := H.lt; omega
theorem spoil_15 {B : Nat} {w w2 : World} {g : Nat} {X : InstD} {h : HdD} {g7 g8 : List Nat} (H : MadeOwn B w X h g7 g8) (hB : w.heap[g]? = some (.cells (instC X h) 28 (0, 0))) (ls : X.sats.length ≤ 1000) (ls1 : 0 < X.sats.length) (lc : X.custs.length ≤ 1000) (lo : X.cost.length ≤ 3000) (lt : X.time.length ≤ 3000) (n : Int)
    {A : Option Addr} {C : Nat} (o : Obj) (hown : w2.ownsRow B 42 2 (.slice A (X.sats.length + 1) C) (X.sats.length + 1) (X.sats.flatMap satV ++ [.int .i64 n, .int .i64 0])) (hg : (w.alloc o).grownBy w2 (Value.slice h.sa X.sats.length h.sc).ownBlock) :
    w2.cell? ⟨g, 5, none⟩ = some (.slice h.sa X.sats.length h.sc) ∧ w2.frozen? ⟨g, 5, none⟩ = false ∧ Spoilt (w2.setCell ⟨g, 5, none⟩ (.slice A (X.sats.length + 1) C)) g { X with sats := X.sats ++ [(⟨n, 0⟩ : SatD)] } { h with sa := A, sc := C } := by
  have hcur : ∀ k, (Value.slice h.sa X.sats.length h.sc).ownBlock = some k → ∃ cur, (w.alloc o).heap[k]? = some (.cells cur 42 (0, 0)) := fun k hk => by
    rcases H.sats.2 with ⟨_, h0⟩ | ⟨g', cap, cur, hv, _, hh, _⟩
    · omega
    · rw [hv] at hk
      obtain rfl : g' = k := by simpa [Value.ownBlock] using hk
      exact ⟨cur, (Below.heap_alloc w o _ (heap_lt hh)).trans hh⟩
  have hb0 : Below w.heap.size w (w.alloc o) := (Below.refl _ _).alloc (Nat.le_refl _) o
  have hB1 : (w.alloc o).heap[g]? = some (.cells (instC X h) 28 (0, 0)) := (hb0.block g (heap_lt hB)).trans hB
  have hB2 : w2.heap[g]? = some (.cells (instC X h) 28 (0, 0)) := (hg.block g (heap_lt hB1) (fun e => by
    obtain ⟨cur, hc⟩ := hcur g e.symm
    rw [hc] at hB1
    injection hB1 with hB1
    injection hB1 with _ ht
    exact absurd ht (by decide))).trans hB1
  have k2 := own_grownT (own_below H.custs hb0) hg (fun k hk => by obtain ⟨cur, hc⟩ := hcur k hk; exact ⟨cur, _, hc, by decide⟩)
  have k3 := mat_grownT (H.cost.below hb0) hg (fun k hk => by obtain ⟨cur, hc⟩ := hcur k hk; exact ⟨cur, _, hc, by decide, by decide⟩)
  have k4 := mat_grownT (H.time.below hb0) hg (fun k hk => by obtain ⟨cur, hc⟩ := hcur k hk; exact ⟨cur, _, hc, by decide, by decide⟩)
  have hl : (X.sats ++ [(⟨n, 0⟩ : SatD)]).length = X.sats.length + 1 := by simp
  refine ⟨cell_of_row w2 g 5 _ _ _ hB2, frozen_of_row w2 g 5 _ _ hB2, ?_, ?_, ?_, by show X.custs.length ≤ 1000000; omega⟩
  · rw [heap_set w2 g 5 _ _ _ hB2]
    unfold instC
    rw [hl]; rfl
  · have hN : nodesN X ≤ 3000 := by unfold nodesN; omega
    have i1 : Rd (w2.setCell ⟨g, 5, none⟩ (.slice A (X.sats.length + 1) C)) A ((X.sats ++ [(⟨n, 0⟩ : SatD)]).flatMap satV) := by
      have := own_rd' (ownT_kept hown (p := ⟨g, 5, none⟩) hB2 (by decide) (.slice A (X.sats.length + 1) C))
      rw [List.flatMap_append]
      exact this
    refine ⟨i1, own_rd' (ownT_kept k2 (p := ⟨g, 5, none⟩) hB2 (by decide) _), (matT_kept k3 (p := ⟨g, 5, none⟩) hB2 (by decide) (by decide) _).rows2 (by omega), (matT_kept k4 (p := ⟨g, 5, none⟩) hB2 (by decide) (by decide) _).rows2 (by omega), ?_, ?_, ?_, ?_⟩
    · show (X.sats ++ [(⟨n, 0⟩ : SatD)]).length ≤ _; omega
    · show X.custs.length ≤ _; omega
    · show X.cost.length ≤ _; omega
    · show X.time.length ≤ _; omega
  · show (X.sats ++ [(⟨n, 0⟩ : SatD)]).length ≤ 1000000; omega
theorem row_owns {w : World} {B gr m : Nat} {r : List Int} (h : w.heap[gr]? = some (.cells (i64s r).toArray 2 (0, 0))) (hB : B ≤ gr) (hl : r.length = m) (hm : m ≤ maxLen) : w.ownsRow B 2 1 (.slice (some ⟨gr, 0, none⟩) m m) m (i64s r) := by
  have e : (i64s r).length = m := by simp [i64s, hl]
  exact ⟨by rw [e, Nat.mul_one], .inr ⟨gr, m, _, rfl, hB, h, Nat.le_refl _, hm, by simp [e], by rw [Nat.mul_one, ← e]; simp⟩⟩
theorem if_true_of {c : Prop} [Decidable c] {A B : Prop} (h : c) (ha : A) : if c then A else B := by rw [if_pos h]; exact ha
theorem spoil_13 {B : Nat} {w w2 : World} {g : Nat} {X : InstD} {h : HdD} {g7 g8 : List Nat} (H : MadeOwn B w X h g7 g8) (hB : w.heap[g]? = some (.cells (instC X h) 28 (0, 0))) (ls : X.sats.length ≤ 1000) (lc : X.custs.length ≤ 1000) (lo : X.cost.length ≤ 3000) (lt : X.time.length ≤ 3000) (n : Int)
    (i : Nat) (hi : i < X.cost.length) {gh gr : Nat} (e1 : h.oa = some ⟨gh, 0, none⟩) (e3 : g7[i]? = some gr)
    {A : Option Addr} {C : Nat} (o : Obj) (hown : w2.ownsRow B 2 1 (.slice A (nodesN X + 1) C) (nodesN X + 1) (i64s X.cost[i] ++ [.int .i64 n])) (hg : (w.alloc o).grownBy w2 (some gr)) :
    (∃ v, w2.cell? ⟨gh, i, none⟩ = some v) ∧ w2.frozen? ⟨gh, i, none⟩ = false ∧ B ≤ gh ∧ B ≤ gr ∧ w2.heap[g]? = w.heap[g]? ∧ w2.heap[gh]? = w.heap[gh]? ∧ Spoilt (w2.setCell ⟨gh, i, none⟩ (.slice A (nodesN X + 1) C)) g { X with cost := X.cost.set i (X.cost[i] ++ [n]) } h := by
  obtain ⟨gh', gr', e1', e2, e3', e4, e5, e6, e7, cur7, e8⟩ := H.cost.at hi
  rw [e1] at e1'
  injection e1' with e1'
  injection e1' with e1'
  subst e1'
  rw [e3] at e3'
  injection e3' with e3'
  subst e3'
  have hb0 : Below w.heap.size w (w.alloc o) := (Below.refl _ _).alloc (Nat.le_refl _) o
  have hgr1 : (w.alloc o).heap[gr]? = some (.cells (i64s X.cost[i]).toArray 2 (0, 0)) := (hb0.block gr (heap_lt e5)).trans e5
  have hT : ∀ {e : TypeId}, 2 ≠ e → ∀ k, some gr = some k → ∃ cur T, (w.alloc o).heap[k]? = some (.cells cur T (0, 0)) ∧ T ≠ e := fun he k hk => by
    injection hk with hk
    subst hk
    exact ⟨_, _, hgr1, he⟩
  have hne : ∀ (k : Nat) (cur : Array Value) (T : TypeId), w.heap[k]? = some (.cells cur T (0, 0)) → T ≠ 2 → w2.heap[k]? = some (.cells cur T (0, 0)) := fun k cur T h1 h2 =>
    (hg.block k (Nat.lt_of_lt_of_le (heap_lt h1) (by simp)) (fun e => by
      injection e with e
      subst e
      rw [e5] at h1
      injection h1 with h1
      injection h1 with _ ht
      exact h2 ht.symm)).trans ((hb0.block k (heap_lt h1)).trans h1)
  have hB2 := hne g _ _ hB (by decide)
  have hgh2 := hne gh _ _ e8 (by decide)
  have k1 := own_grownT (own_below H.sats hb0) hg (hT (by decide))
  have k2 := own_grownT (own_below H.custs hb0) hg (hT (by decide))
  have k7 := own_grownT (own_below e7 hb0) hg (hT (by decide))
  have k4 : MatOwn B w2 (.slice h.ta X.time.length h.tc) (nodesN X) X.time g8 := (H.time.below hb0).grown hg (fun g' hg' e => H.apart gr (List.mem_of_getElem? e3) (by injection e with e; rw [e]; exact hg')) (by
    rcases (H.time.below hb0).own.2 with ⟨hv, _⟩ | ⟨g', cap', cur', hv, _, hh', _⟩
    · rw [hv]; exact .inl rfl
    · rw [hv]
      refine .inr (fun e => ?_)
      have e2' : g' = gr := by simpa [Value.ownBlock] using e
      rw [e2', hgr1] at hh'
      injection hh' with hh'
      injection hh' with _ ht
      exact absurd ht (by decide))
  have hil : i < g7.length := (List.getElem?_eq_some_iff.1 e3).1
  obtain ⟨st, _⟩ := k7.stored i (.slice A (nodesN X + 1) C)
  have hl : (X.cost.set i (X.cost[i] ++ [n])).length = X.cost.length := List.length_set
  refine ⟨?_, frozen_of_row w2 gh i _ _ hgh2, (own_lt e7 (g := gh) rfl).1, e6, hB2.trans hB.symm, hgh2.trans e8.symm, ?_, ?_, by show X.sats.length ≤ 1000000; omega, by show X.custs.length ≤ 1000000; omega⟩
  · have hc := k7.cells (g := gh) rfl i (.slice (some ⟨g7[i], 0, none⟩) (nodesN X) (nodesN X)) (by simp [hil])
    rw [add_off, Nat.zero_add] at hc
    exact ⟨_, hc⟩
  · rw [box_kept hB2 (p := ⟨gh, i, none⟩) hgh2 (by decide) _]
    unfold instC
    rw [hl]
  · have hN : nodesN X ≤ 3000 := by unfold nodesN; omega
    refine ⟨own_rd' (ownT_kept k1 (p := ⟨gh, i, none⟩) hgh2 (by decide) _), own_rd' (ownT_kept k2 (p := ⟨gh, i, none⟩) hgh2 (by decide) _), ?_, ?_, ?_, ?_, ?_, ?_⟩
    · show Rows2 _ h.oa (X.cost.set i (X.cost[i] ++ [n]))
      rw [e1]
      refine ⟨(g7.map fun g => Value.slice (some ⟨g, 0, none⟩) (nodesN X) (nodesN X)).set i (.slice A (nodesN X + 1) C), by simp [H.cost.len], own_rd' st, fun j r hj => ?_⟩
      by_cases hji : j = i
      · subst hji
        rw [List.getElem?_set_self hi] at hj
        injection hj with hj
        subst hj
        refine ⟨A, C, ?_, by simp; omega, ?_⟩
        · rw [List.getElem?_set_self (by simpa using hil)]
          simp [e4]
        · have := own_rd' (ownT_kept hown (p := ⟨gh, j, none⟩) hgh2 (by decide) (.slice A (nodesN X + 1) C))
          have e9 : i64s (X.cost[j] ++ [n]) = i64s X.cost[j] ++ [.int .i64 n] := by simp [i64s]
          rw [e9]; exact this
      · rw [List.getElem?_set_ne (fun e => hji e.symm)] at hj
        have hjl : j < g7.length := by rw [H.cost.len]; exact (List.getElem?_eq_some_iff.1 hj).1
        obtain ⟨a', b', c'⟩ := H.cost.rows j g7[j] r (List.getElem?_eq_getElem hjl) hj
        have hgne : g7[j] ≠ gr := by
          have e9 : g7[i] = gr := (List.getElem?_eq_some_iff.1 e3).2
          have hp := List.pairwise_iff_getElem.1 H.cost.inc
          rcases Nat.lt_or_gt_of_ne hji with hlt | hlt
          · have := hp j i hjl hil hlt; omega
          · have := hp i j hil hjl hlt; omega
        have c2 : w2.heap[g7[j]]? = some (.cells (i64s r).toArray 2 (0, 0)) := (hg.block _ (Nat.lt_of_lt_of_le (heap_lt c') (by simp)) (fun e => hgne (by injection e))).trans ((hb0.block _ (heap_lt c')).trans c')
        have c3 : (w2.setCell ⟨gh, i, none⟩ (.slice A (nodesN X + 1) C)).heap[g7[j]]? = some (.cells (i64s r).toArray 2 (0, 0)) := (heap_setCell_other w2 ⟨gh, i, none⟩ _ _ (fun e => by
          have e' : g7[j] = gh := e
          rw [e', hgh2] at c2
          injection c2 with c2
          injection c2 with _ ht
          exact absurd ht (by decide))).trans c2
        refine ⟨some ⟨g7[j], 0, none⟩, nodesN X, ?_, by omega, fun _ => ⟨g7[j], 0, rfl, fun q u hu => ?_⟩⟩
        · rw [List.getElem?_set_ne (fun e => hji e.symm)]
          simp [hjl, b']
        · rw [cell_of_row _ g7[j] (0 + q) _ _ _ c3, Nat.zero_add]
          simpa using hu
    · have k5 : MatOwn B (w2.setCell ⟨gh, i, none⟩ (.slice A (nodesN X + 1) C)) (.slice h.ta X.time.length h.tc) (nodesN X) X.time g8 := k4.grown (grown_set _ _ _) (fun g' hg' e => by
          injection e with e
          obtain ⟨q, hq, rfl⟩ := List.getElem_of_mem hg'
          have hq2 : q < X.time.length := by rw [← k4.len]; exact hq
          have := (k4.rows q _ _ (List.getElem?_eq_getElem hq) (List.getElem?_eq_getElem hq2)).2.2
          rw [← e, hgh2] at this
          injection this with this
          injection this with _ ht
          exact absurd ht (by decide)) (.inr (H.tabs gh (by rw [e1]; rfl)))
      exact k5.rows2 (by omega)
    · show X.sats.length ≤ _; omega
    · show X.custs.length ≤ _; omega
    · show (X.cost.set _ _).length ≤ _; rw [hl]; omega
    · show X.time.length ≤ _; omega
end Go.Proofs.Ythiinlkpakinlaa
