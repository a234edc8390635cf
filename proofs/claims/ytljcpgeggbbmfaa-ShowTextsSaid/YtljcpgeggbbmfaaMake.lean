/-
  The walk of wharfagelaw11.Make.
-/
import Derived.Test.YtljcpgeggbbmfaaSmall
import Derived.Test.YtljcpgeggbbmfaaSqr
import Derived.Test.YtljcpgeggbbmfaaRegN
namespace Go.Proofs.Ytljcpgeggbbmfaa
set_option linter.unusedVariables false
set_option linter.unusedSimpArgs false
open Go.RowKit
theorem info_sat : (Try.prog.info? 62).map (fun i => (i.zero, i.size, i.bytes)) = some (some (.agg #[.int .i64 0, .int .i64 0]), 2, 16) := by kernel_rfl
theorem info_cust : (Try.prog.info? 66).map (fun i => (i.zero, i.size, i.bytes)) = some (some (.agg #[.int .i64 0, .int .i64 0, .int .i64 0, .int .i64 0]), 4, 32) := by kernel_rfl
/-- in the world w block g is the instance y that is being made; what lies below g is as in W. -/
structure YW (W : World) (g : Nat) (y : Array Value) (w : World) : Prop where
  gs : W.heap.size = g
  below : Below W.heap.size W w
  blk : w.heap[g]? = some (.cells y 29 (0, 0))
theorem YW.lt {W w : World} {g : Nat} {y : Array Value} (h : YW W g y w) : g < w.heap.size := heap_lt h.blk
theorem YW.cell {W w : World} {g : Nat} {y : Array Value} (h : YW W g y w) (j : Nat) (u : Value) (hu : y[j]? = some u) : w.cell? ⟨g, j, none⟩ = some u := (cell_of_row w g j y _ _ h.blk).trans hu
theorem YW.frozen {W w : World} {g : Nat} {y : Array Value} (h : YW W g y w) (j : Nat) : w.frozen? ⟨g, j, none⟩ = false := by
  unfold World.frozen?; rw [show ({ block := g, off := j, spot := none } : Addr).block = g from rfl, h.blk]; simp
theorem YW.alloc {W w : World} {g : Nat} {y : Array Value} (h : YW W g y w) (o : Obj) : YW W g y (w.alloc o) :=
  ⟨h.gs, h.below.alloc h.below.size o, (Below.heap_alloc w o g h.lt).trans h.blk⟩
theorem YW.set {W w : World} {g : Nat} {y : Array Value} (h : YW W g y w) (j : Nat) (u : Value) : YW W g (y.setIfInBounds j u) (w.setCell ⟨g, j, none⟩ u) :=
  ⟨h.gs, h.below.setCell (by rw [h.gs]; exact Nat.le_refl _) u, by
    have := h.blk
    simp [World.setCell, Array.getElem?_modify, this]⟩
theorem YW.below' {W w w' : World} {g : Nat} {y : Array Value} (h : YW W g y w) (hb : Below w.heap.size w w') : YW W g y w' :=
  ⟨h.gs, keep_below h.below hb, (hb.block g h.lt).trans h.blk⟩
theorem YW.grown {W w w' : World} {g : Nat} {y : Array Value} (h : YW W g y w) {row : Option Nat} (hg : w.grownBy w' row) (hr : ∀ k, row = some k → g < k) : YW W g y w' :=
  ⟨h.gs, h.below.grown hg h.below.size (fun k hk => by rw [h.gs]; exact Nat.le_of_lt (hr k hk)), (hg.block g h.lt (fun e => by have := hr g e.symm; omega)).trans h.blk⟩
theorem YW.new (W : World) (g : Nat) (hg : W.heap.size = g) (y : Array Value) : YW W g y (W.alloc (.cells y 29)) :=
  ⟨hg, (Below.refl _ _).alloc (Nat.le_refl _) _, by subst hg; exact heap_alloc_new W _⟩
theorem cells_new (w : World) (cs : Array Value) (t : TypeId) (q : Nat) (u : Value) (h : cs[q]? = some u) : (w.alloc (.cells cs t)).cell? ((⟨w.heap.size, 0, none⟩ : Addr).add q) = some u := by
  have e : (⟨w.heap.size, 0, none⟩ : Addr).add q = ⟨w.heap.size, q, none⟩ := by unfold Addr.add; by_cases hz : q = 0 <;> simp [hz]
  rw [e, World.cell?_alloc_new]; exact h
theorem grown_set (w : World) (p : Addr) (u : Value) : w.grownBy (w.setCell p u) (some p.block) :=
  ⟨rfl, rfl, rfl, by simp [World.setCell], fun k _ hne => Below.heap_setCell w p u k (fun e => hne (by rw [e]))⟩
theorem satI_cells (wd : Int) (s : SatU) : [satI wd s].flatMap satV = [Value.int .i64 (4 + wd * ((s.room : Int) % 40)), .int .i64 ((s.hold : Int) % 12)] := rfl
theorem own_fresh (w : World) (g : Nat) (hg : g = w.heap.size) (cs : Array Value) (t : TypeId) (B size n : Nat) (hB : B ≤ w.heap.size) (hs : cs.size = n * size) (hn : n ≤ maxLen) : (w.alloc (.cells cs t)).ownsRow B t size (.slice (some ⟨g, 0, none⟩) n n) n cs.toList := by
  subst hg
  exact ⟨hs, .inr ⟨w.heap.size, n, cs, rfl, hB, heap_alloc_new w _, Nat.le_refl _, hn, hs, by rw [← hs]; exact List.take_of_length_le (Nat.le_refl _)⟩⟩
theorem own_types {w : World} {B1 B2 e1 e2 s1 s2 n1 n2 : Nat} {v1 v2 : Value} {xs1 xs2 : List Value} (h1 : w.ownsRow B1 e1 s1 v1 n1 xs1) (h2 : w.ownsRow B2 e2 s2 v2 n2 xs2) (hne : e1 ≠ e2) : v1.ownBlock = none ∨ v1.ownBlock ≠ v2.ownBlock := by
  rcases h1.2 with ⟨rfl, _⟩ | ⟨g1, c1, cur1, rfl, _, hh1, _⟩
  · exact .inl rfl
  · refine .inr (fun e => ?_)
    rcases h2.2 with ⟨rfl, _⟩ | ⟨g2, c2, cur2, rfl, _, hh2, _⟩
    · simp [Value.ownBlock] at e
    · obtain rfl : g1 = g2 := by simpa [Value.ownBlock] using e
      rw [hh1] at hh2
      injection hh2 with hh2
      injection hh2 with _ ht
      exact hne ht
theorem set_size (w : World) (p : Addr) (u : Value) : (w.setCell p u).heap.size = w.heap.size := by simp [World.setCell]
theorem custI_tight (wd : Int) (c : WhoU) : [custI wd true c].flatMap custV = [Value.int .i64 (1 + (c.load : Int) % 6 + (c.load : Int) / 32), .int .i64 ((c.opn : Int) % 50), .int .i64 ((c.opn : Int) % 50 + wd * (c.wide : Int)), .int .i64 ((c.stay : Int) % 8)] := rfl
theorem custI_wide (wd : Int) (c : WhoU) : [custI wd false c].flatMap custV = [Value.int .i64 (1 + (c.load : Int) % 6), .int .i64 ((c.opn : Int) % 50), .int .i64 ((c.opn : Int) % 50 + wd * (c.wide : Int)), .int .i64 ((c.stay : Int) % 8)] := by
  have e : 1 + (c.load : Int) % 6 + 0 = 1 + (c.load : Int) % 6 := Int.add_zero _
  show [Value.int .i64 (1 + (c.load : Int) % 6 + 0), _, _, _] = _
  rw [e]; rfl
set_option maxHeartbeats 400000 in
theorem nodes11_any (v0 v1 v2 v3 v4 v7 v8 : Value) (A1 A2 : Option Addr) (ns C1 nc C2 : Nat) (w : World) (h1 : ns ≤ 1000000) (h2 : nc ≤ 1000000) :
    Calls Try.prog 26 #[.agg #[v0, v1, v2, v3, v4, .slice A1 ns C1, .slice A2 nc C2, v7, v8]] w fun e w' => e = .returned (.int .i64 ((1 + ns + nc : Nat) : Int)) ∧ Below w.heap.size w w' := by
  go_enter Try.func26, Try.ntmps26
  go_wp2
  go_ret
  exact ⟨ret_int (by omega), (Below.refl _ _).alloc (Nat.le_refl _) _⟩
theorem heap_set (w : World) (g j : Nat) (cs : Array Value) (t : TypeId) (v : Value) (h : w.heap[g]? = some (.cells cs t (0, 0))) : (w.setCell ⟨g, j, none⟩ v).heap[g]? = some (.cells (cs.setIfInBounds j v) t (0, 0)) := by
  simp [World.setCell, Array.getElem?_modify, h]
theorem grown_trans1 {w w' w'' : World} {g : Nat} (h1 : w.grownBy w' (some g)) (h2 : w'.grownBy w'' (some g)) : w.grownBy w'' (some g) :=
  ⟨h2.os.trans h1.os, h2.tape.trans h1.tape, h2.output.trans h1.output, Nat.le_trans h1.size h2.size, fun k hk hne => (h2.block k (Nat.lt_of_lt_of_le hk h1.size) hne).trans (h1.block k hk hne)⟩
theorem nine_set (w : World) (g : Nat) (t : TypeId) (c0 c1 c2 c3 c4 c5 c6 c7 c8 v0 v1 v2 v3 v4 v5 v6 v7 v8 : Value) (h : w.heap[g]? = some (.cells #[c0, c1, c2, c3, c4, c5, c6, c7, c8] t (0, 0))) :
    (((((((((w.setCell ⟨g, 0, none⟩ v0).setCell ⟨g, 1, none⟩ v1).setCell ⟨g, 2, none⟩ v2).setCell ⟨g, 3, none⟩ v3).setCell ⟨g, 4, none⟩ v4).setCell ⟨g, 5, none⟩ v5).setCell ⟨g, 6, none⟩ v6).setCell ⟨g, 7, none⟩ v7).setCell ⟨g, 8, none⟩ v8).heap[g]? = some (.cells #[v0, v1, v2, v3, v4, v5, v6, v7, v8] t (0, 0)) ∧
    w.grownBy (((((((((w.setCell ⟨g, 0, none⟩ v0).setCell ⟨g, 1, none⟩ v1).setCell ⟨g, 2, none⟩ v2).setCell ⟨g, 3, none⟩ v3).setCell ⟨g, 4, none⟩ v4).setCell ⟨g, 5, none⟩ v5).setCell ⟨g, 6, none⟩ v6).setCell ⟨g, 7, none⟩ v7).setCell ⟨g, 8, none⟩ v8) (some g) := by
  have a0 := heap_set w g 0 _ t v0 h
  have b0 := grown_set w ⟨g, 0, none⟩ v0
  generalize w.setCell ⟨g, 0, none⟩ v0 = w0 at *
  have a1 := heap_set w0 g 1 _ t v1 a0
  have b1 := grown_trans1 b0 (grown_set w0 ⟨g, 1, none⟩ v1)
  generalize w0.setCell ⟨g, 1, none⟩ v1 = w1 at *
  have a2 := heap_set w1 g 2 _ t v2 a1
  have b2 := grown_trans1 b1 (grown_set w1 ⟨g, 2, none⟩ v2)
  generalize w1.setCell ⟨g, 2, none⟩ v2 = w2 at *
  have a3 := heap_set w2 g 3 _ t v3 a2
  have b3 := grown_trans1 b2 (grown_set w2 ⟨g, 3, none⟩ v3)
  generalize w2.setCell ⟨g, 3, none⟩ v3 = w3 at *
  have a4 := heap_set w3 g 4 _ t v4 a3
  have b4 := grown_trans1 b3 (grown_set w3 ⟨g, 4, none⟩ v4)
  generalize w3.setCell ⟨g, 4, none⟩ v4 = w4 at *
  have a5 := heap_set w4 g 5 _ t v5 a4
  have b5 := grown_trans1 b4 (grown_set w4 ⟨g, 5, none⟩ v5)
  generalize w4.setCell ⟨g, 5, none⟩ v5 = w5 at *
  have a6 := heap_set w5 g 6 _ t v6 a5
  have b6 := grown_trans1 b5 (grown_set w5 ⟨g, 6, none⟩ v6)
  generalize w5.setCell ⟨g, 6, none⟩ v6 = w6 at *
  have a7 := heap_set w6 g 7 _ t v7 a6
  have b7 := grown_trans1 b6 (grown_set w6 ⟨g, 7, none⟩ v7)
  generalize w6.setCell ⟨g, 7, none⟩ v7 = w7 at *
  have a8 := heap_set w7 g 8 _ t v8 a7
  have b8 := grown_trans1 b7 (grown_set w7 ⟨g, 8, none⟩ v8)
  generalize w7.setCell ⟨g, 8, none⟩ v8 = w8 at *
  exact ⟨by simpa using a8, b8⟩
theorem nodes11_nn (v0 v1 v2 v3 v4 v7 v8 : Value) (A1 A2 : Option Addr) (ns C1 nc C2 nn : Nat) (w : World) (h1 : ns ≤ 1000000) (h2 : nc ≤ 1000000) (h : Hid (1 + ns + nc = nn)) :
    Calls Try.prog 26 #[.agg #[v0, v1, v2, v3, v4, .slice A1 ns C1, .slice A2 nc C2, v7, v8]] w fun e w' => e = .returned (.int .i64 (nn : Int)) ∧ Below w.heap.size w w' := by
  have h' := h.out
  subst h'
  exact nodes11_any v0 v1 v2 v3 v4 v7 v8 A1 A2 ns C1 nc C2 w h1 h2
theorem own_base {w : World} {B B' e s n : Nat} {v : Value} {xs : List Value} (h : w.ownsRow B e s v n xs) (hB : B' ≤ B) : w.ownsRow B' e s v n xs := by
  refine ⟨h.1, ?_⟩
  rcases h.2 with h0 | ⟨g, c, cur, a, b, r⟩
  · exact .inl h0
  · exact .inr ⟨g, c, cur, a, Nat.le_trans hB b, r⟩
theorem MatOwn.base {B B' : Nat} {w : World} {v : Value} {m : Nat} {ls : List (List Int)} {gs : List Nat} (h : MatOwn B w v m ls gs) (hB : B' ≤ B) : MatOwn B' w v m ls gs :=
  ⟨h.len, h.inc, fun j g r hj hl => ⟨Nat.le_trans hB (h.rows j g r hj hl).1, (h.rows j g r hj hl).2⟩, own_base h.own hB⟩
theorem MatOwn.le {B : Nat} {w : World} {v : Value} {m : Nat} {ls : List (List Int)} {gs : List Nat} (h : MatOwn B w v m ls gs) : ∀ g ∈ gs, B ≤ g := by
  intro g hg
  obtain ⟨j, hj, rfl⟩ := List.getElem_of_mem hg
  have h2 : j < ls.length := by rw [← h.len]; exact hj
  exact (h.rows j _ _ (List.getElem?_eq_getElem hj) (List.getElem?_eq_getElem h2)).1
/-- a store below what the matrix owns. -/
theorem MatOwn.setLow {B : Nat} {w : World} {v : Value} {m : Nat} {ls : List (List Int)} {gs : List Nat} (h : MatOwn B w v m ls gs) (p : Addr) (u : Value) (hp : p.block < B) : MatOwn B (w.setCell p u) v m ls gs :=
  h.grown (grown_set w p u) (fun g hg e => by injection e with e; have := h.le g hg; omega) (by
    cases e : v.ownBlock with
    | none => exact .inl rfl
    | some g => exact .inr (fun e2 => by injection e2 with e2; have := (own_lt h.own e).1; omega))
/-- what Make has made: in blocks from B on. -/
structure MadeOwn (B : Nat) (w : World) (X : InstD) (h : HdD) (g7 g8 : List Nat) : Prop where
  sats : w.ownsRow B 62 2 (.slice h.sa X.sats.length h.sc) X.sats.length (X.sats.flatMap satV)
  custs : w.ownsRow B 66 4 (.slice h.ca X.custs.length h.cc) X.custs.length (X.custs.flatMap custV)
  cost : MatOwn B w (.slice h.oa X.cost.length h.oc) (nodesN X) X.cost g7
  time : MatOwn B w (.slice h.ta X.time.length h.tc) (nodesN X) X.time g8
  apart : ∀ g ∈ g7, g ∉ g8
  tabs : ∀ g, (Value.slice h.oa X.cost.length h.oc).ownBlock = some g → (Value.slice h.ta X.time.length h.tc).ownBlock ≠ some g
def MakeEnd (S : SmallD) (w : World) (e : Ending) (w' : World) : Prop :=
  ∃ (h : HdD) (g7 g8 : List Nat), e = .returned (.agg (instC (makeI S) h)) ∧ MadeOwn w.heap.size w' (makeI S) h g7 g8 ∧ Below w.heap.size w w'
theorem makeI_nodes (S : SmallD) : nodesN (makeI S) = nodesI S := rfl
theorem makeI_cost (S : SmallD) : (makeI S).cost.length = nodesI S := matM_length _ _
theorem makeI_time (S : SmallD) : (makeI S).time.length = nodesI S := matM_length _ _
theorem made_end (S : SmallD) (w w' : World) (F1 F2 F3 F4 F5 : Int) (hF1 : 40 + (S.fin : Int) * wideI S = F1) (hF2 : 1 + (S.tm : Int) % 4 = F2) (hF3 : 5 + wideI S * ((S.tr : Int) % 40) = F3) (hF4 : 1 + (S.bm : Int) % 6 = F4) (hF5 : 3 + wideI S * ((S.br : Int) % 20) = F5)
    (A1 A2 A7 A8 : Option Addr) (C1 C2 C7 C8 ns nc nn : Nat) (g7 g8 : List Nat) (hns : (satsI S).length = ns) (hnc : (custsI S).length = nc) (hnn : 1 + ns + nc = nn) (B : Nat) (hB : w.heap.size ≤ B)
    (h1 : w'.ownsRow B 62 2 (.slice A1 ns C1) ns ((satsI S).flatMap satV)) (h2 : w'.ownsRow B 66 4 (.slice A2 nc C2) nc ((custsI S).flatMap custV))
    (D1 D2 : Nat) (hD1 : w.heap.size ≤ D1) (hD : D1 ≤ D2) (h7 : MatOwn D1 w' (.slice A7 nn C7) nn (matM S.cost nn) g7) (h8 : MatOwn D2 w' (.slice A8 nn C8) nn (matM S.time nn) g8) (hg : ∀ g ∈ g7, g < D2) (ht : ∀ g, (Value.slice A7 nn C7).ownBlock = some g → g < D2) (hb : Below w.heap.size w w') :
    MakeEnd S w (.returned (.agg #[.int .i64 F1, .int .i64 F2, .int .i64 F3, .int .i64 F4, .int .i64 F5, .slice A1 ns C1, .slice A2 nc C2, .slice A7 nn C7, .slice A8 nn C8])) w' := by
  have hI : nodesI S = nn := by unfold nodesI; rw [hns, hnc, hnn]
  have hc := makeI_cost S
  have hm := makeI_time S
  rw [hI] at hc hm
  refine ⟨⟨A1, C1, A2, C2, A7, C7, A8, C8⟩, g7, g8, ?_, ⟨?_, ?_, ?_, ?_, fun g hg7 hg8 => ?_, fun g e1 e2 => ?_⟩, hb⟩
  · have e2 : ((S.tm % 4 : Nat) : Int) = (S.tm : Int) % 4 := by omega
    have e3 : ((S.tr % 40 : Nat) : Int) = (S.tr : Int) % 40 := by omega
    have e4 : ((S.bm % 6 : Nat) : Int) = (S.bm : Int) % 6 := by omega
    have e5 : ((S.br % 20 : Nat) : Int) = (S.br : Int) % 20 := by omega
    unfold instC
    rw [hc, hm]
    show _ = Ending.returned (Value.agg #[.int .i64 (40 + (S.fin : Int) * wideI S), .int .i64 (1 + ((S.tm % 4 : Nat) : Int)), .int .i64 (5 + wideI S * ((S.tr % 40 : Nat) : Int)), .int .i64 (1 + ((S.bm % 6 : Nat) : Int)), .int .i64 (3 + wideI S * ((S.br % 20 : Nat) : Int)), .slice A1 (satsI S).length C1, .slice A2 (custsI S).length C2, .slice A7 nn C7, .slice A8 nn C8])
    rw [e2, e3, e4, e5, hF1, hF2, hF3, hF4, hF5, hns, hnc]
  · show w'.ownsRow _ _ _ (.slice A1 (satsI S).length C1) (satsI S).length _
    rw [hns]; exact own_base h1 hB
  · show w'.ownsRow _ _ _ (.slice A2 (custsI S).length C2) (custsI S).length _
    rw [hnc]; exact own_base h2 hB
  · rw [makeI_nodes, hc, hI]
    show MatOwn _ _ _ _ (matM S.cost (nodesI S)) _
    rw [hI]; exact h7.base hD1
  · rw [makeI_nodes, hm, hI]
    show MatOwn _ _ _ _ (matM S.time (nodesI S)) _
    rw [hI]; exact h8.base (Nat.le_trans hD1 hD)
  · have := hg g hg7; have := h8.le g hg8; omega
  · simp only [hc] at e1
    simp only [hm] at e2
    have := ht g e1; have := (own_lt h8.own e2).1; omega
/-- what is kept while the two matrices are made: the instance in block g, whatever its two last cells hold, its satellites and its customers. -/
structure MkS (W : World) (g B : Nat) (F1 F2 F3 F4 F5 : Int) (A1 : Option Addr) (ns C1 : Nat) (A2 : Option Addr) (nc C2 : Nat) (xs ys : List Value) (c7 c8 : Value) (w : World) : Prop where
  y : YW W g #[.int .i64 F1, .int .i64 F2, .int .i64 F3, .int .i64 F4, .int .i64 F5, .slice A1 ns C1, .slice A2 nc C2, c7, c8] w
  sats : w.ownsRow B 62 2 (.slice A1 ns C1) ns xs
  custs : w.ownsRow B 66 4 (.slice A2 nc C2) nc ys
theorem MkS.below {W : World} {g B : Nat} {F1 F2 F3 F4 F5 : Int} {A1 : Option Addr} {ns C1 : Nat} {A2 : Option Addr} {nc C2 : Nat} {xs ys : List Value} {c7 c8 : Value} {w w' : World} (h : MkS W g B F1 F2 F3 F4 F5 A1 ns C1 A2 nc C2 xs ys c7 c8 w) (hb : Below w.heap.size w w') : MkS W g B F1 F2 F3 F4 F5 A1 ns C1 A2 nc C2 xs ys c7 c8 w' := by
  obtain ⟨hy, hs, hc⟩ := h
  exact ⟨hy.below' hb, hs.kept (grown_of_below hb) (by cases e : (Value.slice A1 ns C1).ownBlock <;> simp), hc.kept (grown_of_below hb) (by cases e : (Value.slice A2 nc C2).ownBlock <;> simp)⟩
theorem MkS.drew {W : World} {g B : Nat} {F1 F2 F3 F4 F5 : Int} {A1 : Option Addr} {ns C1 : Nat} {A2 : Option Addr} {nc C2 : Nat} {xs ys : List Value} {c7 c8 : Value} {w : World} (h : MkS W g B F1 F2 F3 F4 F5 A1 ns C1 A2 nc C2 xs ys c7 c8 w) : MkS W g B F1 F2 F3 F4 F5 A1 ns C1 A2 nc C2 xs ys c7 c8 w.drew := ⟨⟨h.y.gs, h.y.below.drew, h.y.blk⟩, h.sats, h.custs⟩
theorem MkS.set7 {W : World} {g B : Nat} {F1 F2 F3 F4 F5 : Int} {A1 : Option Addr} {ns C1 : Nat} {A2 : Option Addr} {nc C2 : Nat} {xs ys : List Value} {c7 c8 : Value} {w : World} (h : MkS W g B F1 F2 F3 F4 F5 A1 ns C1 A2 nc C2 xs ys c7 c8 w) (hB : g < B) (u : Value) : MkS W g B F1 F2 F3 F4 F5 A1 ns C1 A2 nc C2 xs ys u c8 (w.setCell ⟨g, 7, none⟩ u) := by
  obtain ⟨hy, hs, hc⟩ := h
  exact ⟨hy.set 7 u, hs.kept (grown_set _ _ _) (.inr (fun e => absurd (own_lt hs e).1 (Nat.not_le.2 hB))), hc.kept (grown_set _ _ _) (.inr (fun e => absurd (own_lt hc e).1 (Nat.not_le.2 hB)))⟩
theorem MkS.set8 {W : World} {g B : Nat} {F1 F2 F3 F4 F5 : Int} {A1 : Option Addr} {ns C1 : Nat} {A2 : Option Addr} {nc C2 : Nat} {xs ys : List Value} {c7 c8 : Value} {w : World} (h : MkS W g B F1 F2 F3 F4 F5 A1 ns C1 A2 nc C2 xs ys c7 c8 w) (hB : g < B) (u : Value) : MkS W g B F1 F2 F3 F4 F5 A1 ns C1 A2 nc C2 xs ys c7 u (w.setCell ⟨g, 8, none⟩ u) := by
  obtain ⟨hy, hs, hc⟩ := h
  exact ⟨hy.set 8 u, hs.kept (grown_set _ _ _) (.inr (fun e => absurd (own_lt hs e).1 (Nat.not_le.2 hB))), hc.kept (grown_set _ _ _) (.inr (fun e => absurd (own_lt hc e).1 (Nat.not_le.2 hB)))⟩
theorem MkS.cells {W : World} {g B : Nat} {F1 F2 F3 F4 F5 : Int} {A1 : Option Addr} {ns C1 : Nat} {A2 : Option Addr} {nc C2 : Nat} {xs ys : List Value} {c7 c8 : Value} {w : World} (h : MkS W g B F1 F2 F3 F4 F5 A1 ns C1 A2 nc C2 xs ys c7 c8 w) :
    w.cell? ⟨g, 0, none⟩ = some (.int .i64 F1) ∧ w.cell? ⟨g, 1, none⟩ = some (.int .i64 F2) ∧ w.cell? ⟨g, 2, none⟩ = some (.int .i64 F3) ∧ w.cell? ⟨g, 3, none⟩ = some (.int .i64 F4) ∧ w.cell? ⟨g, 4, none⟩ = some (.int .i64 F5) ∧
    w.cell? ⟨g, 5, none⟩ = some (.slice A1 ns C1) ∧ w.cell? ⟨g, 6, none⟩ = some (.slice A2 nc C2) ∧ w.cell? ⟨g, 7, none⟩ = some c7 ∧ w.cell? ⟨g, 8, none⟩ = some c8 ∧
    w.frozen? ⟨g, 7, none⟩ = false ∧ w.frozen? ⟨g, 8, none⟩ = false := by
  obtain ⟨hy, _, _⟩ := h
  exact ⟨hy.cell 0 _ rfl, hy.cell 1 _ rfl, hy.cell 2 _ rfl, hy.cell 3 _ rfl, hy.cell 4 _ rfl, hy.cell 5 _ rfl, hy.cell 6 _ rfl, hy.cell 7 _ rfl, hy.cell 8 _ rfl, hy.frozen 7, hy.frozen 8⟩
abbrev smallD (S : SmallD) (h : SmallH) (ti lo : Bool) : Array Value :=
  #[.int .u8 S.fin, .int .u8 S.tm, .int .u8 S.tr, .int .u8 S.bm, .int .u8 S.br, .slice h.sa S.sats.length h.sc, .slice h.ca S.custs.length h.cc, .slice h.oa S.cost.length h.oc, .slice h.ta S.time.length h.tc, .bool ti, .bool lo]
/-- the satellites out of the first k numbers. -/
def satsTo (S : SmallD) (k : Nat) : List SatD := ((S.sats.take k).take 3).map (satI (wideI S))
def custsTo (S : SmallD) (k : Nat) : List CustD := ((S.custs.take k).take 6).map (custI (wideI S) S.tight)
theorem satsTo_len (S : SmallD) {k : Nat} (h : k ≤ S.sats.length) : (satsTo S k).length = min k 3 := by unfold satsTo; simp; omega
theorem custsTo_len (S : SmallD) {k : Nat} (h : k ≤ S.custs.length) : (custsTo S k).length = min k 6 := by unfold custsTo; simp; omega
theorem satsTo_more (S : SmallD) {k : Nat} (h : k < S.sats.length) (h3 : k < 3) : satsTo S (k + 1) = satsTo S k ++ [satI (wideI S) S.sats[k]] := by
  unfold satsTo
  rw [List.take_take, List.take_take, Nat.min_eq_right (by omega), Nat.min_eq_right (by omega), List.take_succ_eq_append_getElem h, List.map_append]; rfl
theorem satsTo_same (S : SmallD) {k : Nat} (h3 : 3 ≤ k) : satsTo S (k + 1) = satsTo S k := by
  unfold satsTo
  rw [List.take_take, List.take_take, Nat.min_eq_left (by omega), Nat.min_eq_left h3]
theorem custsTo_more (S : SmallD) {k : Nat} (h : k < S.custs.length) (h3 : k < 6) : custsTo S (k + 1) = custsTo S k ++ [custI (wideI S) S.tight S.custs[k]] := by
  unfold custsTo
  rw [List.take_take, List.take_take, Nat.min_eq_right (by omega), Nat.min_eq_right (by omega), List.take_succ_eq_append_getElem h, List.map_append]; rfl
theorem custsTo_same (S : SmallD) {k : Nat} (h3 : 6 ≤ k) : custsTo S (k + 1) = custsTo S k := by
  unfold custsTo
  rw [List.take_take, List.take_take, Nat.min_eq_left (by omega), Nat.min_eq_left h3]
set_option maxHeartbeats 8000000 in
set_option maxRecDepth 100000 in
theorem make_core (S : SmallD) (h : SmallH) (w : World) (H : SmallIs w S h) (ti lo : Bool) (hti : Hid (S.tight = ti)) (hlo : Hid (S.loose = lo)) :
    Calls Try.prog 20 #[.agg (smallD S h ti lo)] w (MakeEnd S w) := by
  obtain ⟨sa, sc, ca, cc, oa, oc, ta, tc⟩ := h
  obtain ⟨H1, H2, H3, H4, l1, l2, l3, l4, b1, b2, b3, b4, b5, bs, bc, bo, bt⟩ := H
  replace bs := Lib.hid bs
  replace bc := Lib.hid bc
  replace bo := Lib.hid bo
  replace bt := Lib.hid bt
  obtain ⟨is, his, hsz0, hsz1, hsz2⟩ := info_parts info_sat
  obtain ⟨ic, hic, hcz0, hcz1, hcz2⟩ := info_parts info_cust
  unfold smallD
  go_enter Try.func20, Try.ntmps20
  go_upto_region 2 with fail
  generalize hW : (w.alloc (.cells #[.int .u8 S.fin, .int .u8 S.tm, .int .u8 S.tr, .int .u8 S.bm, .int .u8 S.br, .slice sa S.sats.length sc, .slice ca S.custs.length cc, .slice oa S.cost.length oc, .slice ta S.time.length tc, .bool ti, .bool lo] 40)).alloc
    (.cells #[.int .i64 0, .int .i64 0, .int .i64 0, .int .i64 0, .int .i64 0, .slice none 0 0, .slice none 0 0, .slice none 0 0, .slice none 0 0] 29) = W
  have hb0 : Below w.heap.size w W := by rw [← hW]; exact ((Below.refl _ _).alloc (Nat.le_refl _) _).alloc (by simp) _
  have hWs : W.heap.size = w.heap.size + 1 + 1 := by rw [← hW]; simp
  have xc : ∀ j u, #[Value.int .u8 S.fin, .int .u8 S.tm, .int .u8 S.tr, .int .u8 S.bm, .int .u8 S.br, .slice sa S.sats.length sc, .slice ca S.custs.length cc, .slice oa S.cost.length oc, .slice ta S.time.length tc, .bool ti, .bool lo][j]? = some u → W.cell? ⟨w.heap.size, j, none⟩ = some u := by
    intro j u hu
    rw [← hW]
    exact keep_cell ((Below.refl _ _).alloc (Nat.le_refl _) _) (by rw [World.cell?_alloc_new]; exact hu)
  have rblk : W.heap[w.heap.size + 1]? = some (.cells #[.int .i64 0, .int .i64 0, .int .i64 0, .int .i64 0, .int .i64 0, .slice none 0 0, .slice none 0 0, .slice none 0 0, .slice none 0 0] 29 (0, 0)) := by
    rw [← hW]
    have e := heap_alloc_new (w.alloc (.cells #[.int .u8 S.fin, .int .u8 S.tm, .int .u8 S.tr, .int .u8 S.bm, .int .u8 S.br, .slice sa S.sats.length sc, .slice ca S.custs.length cc, .slice oa S.cost.length oc, .slice ta S.time.length tc, .bool ti, .bool lo] 40)) (.cells #[.int .i64 0, .int .i64 0, .int .i64 0, .int .i64 0, .int .i64 0, .slice none 0 0, .slice none 0 0, .slice none 0 0, .slice none 0 0] 29)
    rw [World.size_alloc] at e
    exact e
  clear hW
  replace H1 := Lib.hid (H1.below hb0)
  replace H2 := Lib.hid (H2.below hb0)
  replace H3 := Lib.hid (H3.below hb0)
  replace H4 := Lib.hid (H4.below hb0)
  have x0 := xc 0 _ rfl
  have x1 := xc 1 _ rfl
  have x2 := xc 2 _ rfl
  have x3 := xc 3 _ rfl
  have x4 := xc 4 _ rfl
  have x5 := xc 5 _ rfl
  have x10 := xc 10 _ rfl
  replace xc := Lib.hid xc
  replace rblk := Lib.hid rblk
  replace hb0 := Lib.hid hb0
  replace hWs := Lib.hid hWs
  have hwd : Hid (wideI S = if S.loose then 9 else 1) := Lib.hid rfl
  have hwb : 1 ≤ wideI S ∧ wideI S ≤ 9 := by unfold wideI; split <;> omega
  obtain ⟨hw1, hw9⟩ := hwb
  go_upto_if 12 with fail
  go_cut [3] (fun s3 wx => s3 = .int .i64 (wideI S) ∧ wx = W)
  case first =>
    cases lo
    · go_wp2
      go_meet
      exact ⟨by rw [hwd.out, hlo.out]; rfl, rfl⟩
    · go_wp2
      go_meet
      exact ⟨by rw [hwd.out, hlo.out]; rfl, rfl⟩
  case rest =>
    obtain ⟨rfl, rfl⟩ := hcut
    obtain ⟨W, hWW⟩ : ∃ W : World, W = wc := ⟨_, rfl⟩
    subst hWW
    generalize hwx : wideI S = wd at *
    replace hwx := Lib.hid hwx
    have m1 : (S.fin : Int) * wd ≤ 255 * 9 := Int.mul_le_mul (by omega) hw9 (by omega) (by omega)
    have m2 : 0 ≤ (S.fin : Int) * wd := Int.mul_nonneg (by omega) (by omega)
    have m3 : wd * ((S.tr : Int) % 40) ≤ 9 * 39 := Int.mul_le_mul hw9 (by omega) (by omega) (by omega)
    have m4 : 0 ≤ wd * ((S.tr : Int) % 40) := Int.mul_nonneg (by omega) (by omega)
    have m5 : wd * ((S.br : Int) % 20) ≤ 9 * 19 := Int.mul_le_mul hw9 (by omega) (by omega) (by omega)
    have m6 : 0 ≤ wd * ((S.br : Int) % 20) := Int.mul_nonneg (by omega) (by omega)
    have q := hWs.out
    go_wp2
    clear q
    have HF : Hid (40 + (S.fin : Int) * wd = 40 + (S.fin : Int) * wd) := Lib.hid rfl
    have HY0 := YW.new W (w.heap.size + 1 + 1) hWs.out #[.int .i64 (40 + (S.fin : Int) * wd), .int .i64 (1 + (S.tm : Int) % 4), .int .i64 (5 + wd * ((S.tr : Int) % 40)), .int .i64 (1 + (S.bm : Int) % 6), .int .i64 (3 + wd * ((S.br : Int) % 20)), .slice none 0 0, .slice none 0 0, .slice none 0 0, .slice none 0 0]
    generalize hF1 : (40 + (S.fin : Int) * wd) = F1 at *
    generalize hF2 : (1 + (S.tm : Int) % 4) = F2 at *
    generalize hF3 : (5 + wd * ((S.tr : Int) % 40)) = F3 at *
    generalize hF4 : (1 + (S.bm : Int) % 6) = F4 at *
    generalize hF5 : (3 + wd * ((S.br : Int) % 20)) = F5 at *
    replace hF1 := Lib.hid hF1
    replace hF2 := Lib.hid hF2
    replace hF3 := Lib.hid hF3
    replace hF4 := Lib.hid hF4
    replace hF5 := Lib.hid hF5
    replace HY0 := Lib.hid HY0
    clear x0 x1 x2 x3 x4 x5 x10 m1 m2 m3 m4 m5 m6 HF
    go_loopw [49] (fun i wr => ∃ (k : Nat) (A : Option Addr) (C m : Nat), k ≤ S.sats.length ∧ i = .int .i64 k ∧ m ≤ 3 ∧ Hid ((satsTo S k).length = m) ∧ YW W (w.heap.size + 1 + 1) #[.int .i64 F1, .int .i64 F2, .int .i64 F3, .int .i64 F4, .int .i64 F5, .slice A m C, .slice none 0 0, .slice none 0 0, .slice none 0 0] wr ∧
        wr.ownsRow (w.heap.size + 1 + 1 + 1) 62 2 (.slice A m C) m ((satsTo S k).flatMap satV)) (fun i _ => S.sats.length - (intOf i).toNat)
    case atStart => exact ⟨0, none, 0, 0, by omega, rfl, by omega, Lib.hid (by simp [satsTo]), HY0.out, by simp [satsTo], .inl ⟨rfl, rfl⟩⟩
    case round =>
      obtain ⟨k, A, C, m, hk, rfl, hm, HLm, hY, hown⟩ := hrel
      by_cases hlt : k < S.sats.length
      · obtain ⟨b, off, rfl, hc1, hc2⟩ := (H1.out.below hY.below).satU hlt
        have hsb := bs.out S.sats[k] (List.getElem_mem hlt)
        obtain ⟨hs1, hs2⟩ := hsb
        have HMk := Lib.hid (show m = min k 3 by rw [← HLm.out, satsTo_len S hk])
        have HMore := fun h3 => satsTo_more S hlt h3
        replace HMore := Lib.hid HMore
        have HSame := fun h3 => satsTo_same S (k := k) h3
        replace HSame := Lib.hid HSame
        have hgl := hY.lt
        have c5 := hY.cell 5 _ rfl
        have f5 := hY.frozen 5
        replace hY := Lib.hid hY
        replace hown := Lib.hid hown
        generalize S.sats[k] = s at *
        have n1 : wd * ((s.room : Int) % 40) ≤ 9 * 39 := Int.mul_le_mul hw9 (by omega) (by omega) (by omega)
        have n2 : 0 ≤ wd * ((s.room : Int) % 40) := Int.mul_nonneg (by omega) (by omega)
        by_cases h3 : m < 3
        · have HOWN := Lib.hid ((hown.out.alloc (.cells #[.int .u8 (s.room : Nat), .int .u8 (s.hold : Nat)] 90)).alloc (.cells #[.int .i64 (4 + wd * ((s.room : Int) % 40)), .int .i64 ((s.hold : Int) % 12)] 62))
          have HYA := Lib.hid ((hY.out.alloc (.cells #[.int .u8 (s.room : Nat), .int .u8 (s.hold : Nat)] 90)).alloc (.cells #[.int .i64 (4 + wd * ((s.room : Int) % 40)), .int .i64 ((s.hold : Int) % 12)] 62))
          have HNEW : Hid (∀ (q : Nat) (u : Value), [Value.int .i64 (4 + wd * ((s.room : Int) % 40)), .int .i64 ((s.hold : Int) % 12)][q]? = some u → ((wr.alloc (.cells #[.int .u8 (s.room : Nat), .int .u8 (s.hold : Nat)] 90)).alloc (.cells #[.int .i64 (4 + wd * ((s.room : Int) % 40)), .int .i64 ((s.hold : Int) % 12)] 62)).cell? ((⟨wr.heap.size + 1, 0, none⟩ : Addr).add q) = some u) := Lib.hid (fun q u hu => by
            have e : wr.heap.size + 1 = (wr.alloc (.cells #[.int .u8 (s.room : Nat), .int .u8 (s.hold : Nat)] 90)).heap.size := by simp
            rw [e]; exact cells_new _ _ _ q u (by simpa using hu))
          go_wp2_with (first | (at_builtin; refine wpList_append_own _ rfl _ _ 25 rfl (w.heap.size + 1 + 1 + 1) 62 is (.agg #[.int .i64 0, .int .i64 0]) 2 16 Try.underlying25 his hsz0 hsz1 hsz2 rfl (by decide) _ _ _ rfl HOWN.out ⟨wr.heap.size + 1, 0, none⟩ 1 1 [.int .i64 (4 + wd * ((s.room : Int) % 40)), .int .i64 ((s.hold : Int) % 12)] rfl rfl HNEW.out (fun x hx => by simp at hx; rcases hx with rfl | rfl <;> rfl) (by unfold maxLen; omega) (by omega) (by simp; omega) ?_; intro v' w1 hown1 hgrow _; obtain ⟨g', cap', hv'⟩ := own_form hown1 (by omega); subst hv'; have hY1 := HYA.out.grown hgrow (fun k hk => (own_lt HOWN.out hk).1); have c5 := hY1.cell 5 _ rfl; have f5 := hY1.frozen 5; replace hY1 := Lib.hid hY1; replace hgrow := Lib.hid hgrow; replace hown1 := Lib.hid hown1))
          go_roundw
          case rel =>
            have hk3 : k < 3 := by have := HMk.out; omega
            refine ⟨k + 1, _, _, m + 1, by omega, by go_num, by omega, Lib.hid ?_, hY1.out.set 5 _, ?_⟩
            · rw [HMore.out hk3, List.length_append, HLm.out]; rfl
            · rw [HMore.out hk3, List.flatMap_append, hwx.out, satI_cells]
              refine hown1.out.kept (grown_set _ _ _) (.inr (fun e => ?_))
              exact absurd (own_lt hown1.out e).1 (Nat.not_le.2 (Nat.lt_succ_self _))
          case measure => simp [intOf]; omega
        · go_wp2
          go_roundw
          case rel => exact ⟨k + 1, _, _, m, by omega, by go_num, by omega, Lib.hid (by rw [HSame.out (by have := HMk.out; omega)]; exact HLm.out), hY.out.alloc _, by rw [HSame.out (by have := HMk.out; omega)]; exact hown.out.alloc _⟩
          case measure => simp [intOf]; omega
      · obtain rfl : k = S.sats.length := by omega
        have c5 := hY.cell 5 _ rfl
        have f5 := hY.frozen 5
        have HMk := Lib.hid (show m = min S.sats.length 3 by rw [← HLm.out, satsTo_len S hk])
        have hgl := hY.lt
        replace hY := Lib.hid hY
        replace hown := Lib.hid hown
        go_upto_if 78 with fail
        go_cut [3] (fun s3 wx => s3 = .int .i64 wd ∧ ∃ (A : Option Addr) (C n : Nat), 1 ≤ n ∧ n ≤ 3 ∧ Hid ((satsI S).length = n) ∧ YW W (w.heap.size + 1 + 1) #[.int .i64 F1, .int .i64 F2, .int .i64 F3, .int .i64 F4, .int .i64 F5, .slice A n C, .slice none 0 0, .slice none 0 0, .slice none 0 0] wx ∧
          wx.ownsRow (w.heap.size + 1 + 1 + 1) 62 2 (.slice A n C) n ((satsI S).flatMap satV))
        case first =>
          by_cases h0 : S.sats.length = 0
          · have hm0 : m = 0 := by have := HMk.out; omega
            have HI := Lib.hid (show satsI S = [⟨60, 2⟩] by unfold satsI; rw [if_pos h0])
            subst hm0
            have HY2 := Lib.hid (fun u => (hY.out.set 5 u).alloc (.cells #[.int .i64 60, .int .i64 2] 62))
            clear h0
            go_wp2
            go_meet
            refine ⟨rfl, _, _, 1, by omega, by omega, Lib.hid (by rw [HI.out]; rfl), HY2.out _, ?_⟩
            rw [HI.out]
            exact own_fresh _ _ (set_size _ _ _).symm #[.int .i64 60, .int .i64 2] _ (w.heap.size + 1 + 1 + 1) 2 1 (by rw [set_size]; omega) rfl (by decide)
          · have hm0 : 1 ≤ m := by have := HMk.out; omega
            have hmne : ((m : Int) == 0) = false := by rw [beq_eq_false_iff_ne]; omega
            have HI := Lib.hid (show satsI S = satsTo S S.sats.length by unfold satsI satsTo; rw [if_neg h0, List.take_length])
            clear h0
            go_wp2
            go_meet
            exact ⟨rfl, A, C, m, hm0, hm, Lib.hid (by rw [HI.out]; exact HLm.out), hY.out, by rw [HI.out]; exact hown.out⟩
        case rest =>
          obtain ⟨rfl, A1, C1, ns, hn1, hn3, HNs, hY1, hown1⟩ := hcut
          clear c5 f5 hgl hY hown HLm HMk hm
          have x6 := keep_cell hY1.below (xc.out 6 _ rfl)
          replace hY1 := Lib.hid hY1
          replace hown1 := Lib.hid hown1
          go_wp2
          clear x6
          go_loopw [85] (fun i wr => ∃ (k : Nat) (A : Option Addr) (C m : Nat), k ≤ S.custs.length ∧ i = .int .i64 k ∧ m ≤ 6 ∧ Hid ((custsTo S k).length = m) ∧ YW W (w.heap.size + 1 + 1) #[.int .i64 F1, .int .i64 F2, .int .i64 F3, .int .i64 F4, .int .i64 F5, .slice A1 ns C1, .slice A m C, .slice none 0 0, .slice none 0 0] wr ∧
              wr.ownsRow (w.heap.size + 1 + 1 + 1) 66 4 (.slice A m C) m ((custsTo S k).flatMap custV) ∧ wr.ownsRow (w.heap.size + 1 + 1 + 1) 62 2 (.slice A1 ns C1) ns ((satsI S).flatMap satV)) (fun i _ => S.custs.length - (intOf i).toNat)
          case atStart => exact ⟨0, none, 0, 0, by omega, rfl, by omega, Lib.hid (by simp [custsTo]), hY1.out, ⟨by simp [custsTo], .inl ⟨rfl, rfl⟩⟩, hown1.out⟩
          case round =>
            obtain ⟨k, A, C, m, hk, rfl, hm, HLm, hY, hown, howns⟩ := hrel
            by_cases hlt : k < S.custs.length
            · obtain ⟨b, off, rfl, hc1, hc2, hc3, hc4⟩ := (H2.out.below hY.below).whoU hlt
              have hcb := bc.out S.custs[k] (List.getElem_mem hlt)
              obtain ⟨hs1, hs2, hs3, hs4⟩ := hcb
              have HMk := Lib.hid (show m = min k 6 by rw [← HLm.out, custsTo_len S hk])
              have HMore := fun h3 => custsTo_more S hlt h3
              replace HMore := Lib.hid HMore
              have HSame := fun h3 => custsTo_same S (k := k) h3
              replace HSame := Lib.hid HSame
              have hgl := hY.lt
              have c6 := hY.cell 6 _ rfl
              have f6 := hY.frozen 6
              have x9 : wr.cell? ⟨w.heap.size, 9, none⟩ = some (.bool ti) := keep_cell hY.below (xc.out 9 _ rfl)
              have hgx : w.heap.size < wr.heap.size := by omega
              replace hY := Lib.hid hY
              replace hown := Lib.hid hown
              replace howns := Lib.hid howns
              generalize S.custs[k] = c at *
              have n1 : wd * (c.wide : Int) ≤ 9 * 255 := Int.mul_le_mul hw9 (by omega) (by omega) (by omega)
              have n2 : 0 ≤ wd * (c.wide : Int) := Int.mul_nonneg (by omega) (by omega)
              by_cases h3 : m < 6
              · cases ti
                · have HOWN := Lib.hid ((hown.out.alloc (.cells #[.int .u8 (c.load : Nat), .int .u8 (c.opn : Nat), .int .u8 (c.wide : Nat), .int .u8 (c.stay : Nat)] 92)).alloc (.cells #[.int .i64 (1 + (c.load : Int) % 6), .int .i64 ((c.opn : Int) % 50), .int .i64 ((c.opn : Int) % 50 + wd * (c.wide : Int)), .int .i64 ((c.stay : Int) % 8)] 66))
                  have HOWS := Lib.hid ((howns.out.alloc (.cells #[.int .u8 (c.load : Nat), .int .u8 (c.opn : Nat), .int .u8 (c.wide : Nat), .int .u8 (c.stay : Nat)] 92)).alloc (.cells #[.int .i64 (1 + (c.load : Int) % 6), .int .i64 ((c.opn : Int) % 50), .int .i64 ((c.opn : Int) % 50 + wd * (c.wide : Int)), .int .i64 ((c.stay : Int) % 8)] 66))
                  have HYA := Lib.hid ((hY.out.alloc (.cells #[.int .u8 (c.load : Nat), .int .u8 (c.opn : Nat), .int .u8 (c.wide : Nat), .int .u8 (c.stay : Nat)] 92)).alloc (.cells #[.int .i64 (1 + (c.load : Int) % 6), .int .i64 ((c.opn : Int) % 50), .int .i64 ((c.opn : Int) % 50 + wd * (c.wide : Int)), .int .i64 ((c.stay : Int) % 8)] 66))
                  have HNEW : Hid (∀ (q : Nat) (u : Value), [Value.int .i64 (1 + (c.load : Int) % 6), .int .i64 ((c.opn : Int) % 50), .int .i64 ((c.opn : Int) % 50 + wd * (c.wide : Int)), .int .i64 ((c.stay : Int) % 8)][q]? = some u → ((wr.alloc (.cells #[.int .u8 (c.load : Nat), .int .u8 (c.opn : Nat), .int .u8 (c.wide : Nat), .int .u8 (c.stay : Nat)] 92)).alloc (.cells #[.int .i64 (1 + (c.load : Int) % 6), .int .i64 ((c.opn : Int) % 50), .int .i64 ((c.opn : Int) % 50 + wd * (c.wide : Int)), .int .i64 ((c.stay : Int) % 8)] 66)).cell? ((⟨wr.heap.size + 1, 0, none⟩ : Addr).add q) = some u) := Lib.hid (fun q u hu => by
                    have e : wr.heap.size + 1 = (wr.alloc (.cells #[.int .u8 (c.load : Nat), .int .u8 (c.opn : Nat), .int .u8 (c.wide : Nat), .int .u8 (c.stay : Nat)] 92)).heap.size := by simp
                    rw [e]; exact cells_new _ _ _ q u (by simpa using hu))
                  go_wp2_with (first | (at_builtin; refine wpList_append_own _ rfl _ _ 26 rfl (w.heap.size + 1 + 1 + 1) 66 ic (.agg #[.int .i64 0, .int .i64 0, .int .i64 0, .int .i64 0]) 4 32 Try.underlying26 hic hcz0 hcz1 hcz2 rfl (by decide) _ _ _ rfl HOWN.out ⟨wr.heap.size + 1, 0, none⟩ 1 1 [Value.int .i64 (1 + (c.load : Int) % 6), .int .i64 ((c.opn : Int) % 50), .int .i64 ((c.opn : Int) % 50 + wd * (c.wide : Int)), .int .i64 ((c.stay : Int) % 8)] rfl rfl HNEW.out (fun x hx => by simp at hx; rcases hx with rfl | rfl | rfl | rfl <;> rfl) (by unfold maxLen; omega) (by omega) (by simp; omega) ?_; intro v' w1 hown1 hgrow _; obtain ⟨g', cap', hv'⟩ := own_form hown1 (by omega); subst hv'; have hY1 := HYA.out.grown hgrow (fun k hk => (own_lt HOWN.out hk).1); have hows1 := HOWS.out.kept hgrow (own_types HOWS.out HOWN.out (by decide)); have c6 := hY1.cell 6 _ rfl; have f6 := hY1.frozen 6; replace hY1 := Lib.hid hY1; replace hgrow := Lib.hid hgrow; replace hown1 := Lib.hid hown1; replace hows1 := Lib.hid hows1))
                  go_roundw
                  case rel =>
                    have hk3 : k < 6 := by have := HMk.out; omega
                    refine ⟨k + 1, _, _, m + 1, by omega, by go_num, by omega, Lib.hid ?_, hY1.out.set 6 _, ?_, ?_⟩
                    · rw [HMore.out hk3, List.length_append, HLm.out]; rfl
                    · rw [HMore.out hk3, List.flatMap_append, hwx.out, hti.out, custI_wide]
                      exact hown1.out.kept (grown_set _ _ _) (.inr (fun e => absurd (own_lt hown1.out e).1 (Nat.not_le.2 (Nat.lt_succ_self _))))
                    · exact hows1.out.kept (grown_set _ _ _) (.inr (fun e => absurd (own_lt hows1.out e).1 (Nat.not_le.2 (Nat.lt_succ_self _))))
                  case measure => simp [intOf]; omega
                · have HOWN := Lib.hid ((hown.out.alloc (.cells #[.int .u8 (c.load : Nat), .int .u8 (c.opn : Nat), .int .u8 (c.wide : Nat), .int .u8 (c.stay : Nat)] 92)).alloc (.cells #[.int .i64 (1 + (c.load : Int) % 6 + (c.load : Int) / 32), .int .i64 ((c.opn : Int) % 50), .int .i64 ((c.opn : Int) % 50 + wd * (c.wide : Int)), .int .i64 ((c.stay : Int) % 8)] 66))
                  have HOWS := Lib.hid ((howns.out.alloc (.cells #[.int .u8 (c.load : Nat), .int .u8 (c.opn : Nat), .int .u8 (c.wide : Nat), .int .u8 (c.stay : Nat)] 92)).alloc (.cells #[.int .i64 (1 + (c.load : Int) % 6 + (c.load : Int) / 32), .int .i64 ((c.opn : Int) % 50), .int .i64 ((c.opn : Int) % 50 + wd * (c.wide : Int)), .int .i64 ((c.stay : Int) % 8)] 66))
                  have HYA := Lib.hid ((hY.out.alloc (.cells #[.int .u8 (c.load : Nat), .int .u8 (c.opn : Nat), .int .u8 (c.wide : Nat), .int .u8 (c.stay : Nat)] 92)).alloc (.cells #[.int .i64 (1 + (c.load : Int) % 6 + (c.load : Int) / 32), .int .i64 ((c.opn : Int) % 50), .int .i64 ((c.opn : Int) % 50 + wd * (c.wide : Int)), .int .i64 ((c.stay : Int) % 8)] 66))
                  have HNEW : Hid (∀ (q : Nat) (u : Value), [Value.int .i64 (1 + (c.load : Int) % 6 + (c.load : Int) / 32), .int .i64 ((c.opn : Int) % 50), .int .i64 ((c.opn : Int) % 50 + wd * (c.wide : Int)), .int .i64 ((c.stay : Int) % 8)][q]? = some u → ((wr.alloc (.cells #[.int .u8 (c.load : Nat), .int .u8 (c.opn : Nat), .int .u8 (c.wide : Nat), .int .u8 (c.stay : Nat)] 92)).alloc (.cells #[.int .i64 (1 + (c.load : Int) % 6 + (c.load : Int) / 32), .int .i64 ((c.opn : Int) % 50), .int .i64 ((c.opn : Int) % 50 + wd * (c.wide : Int)), .int .i64 ((c.stay : Int) % 8)] 66)).cell? ((⟨wr.heap.size + 1, 0, none⟩ : Addr).add q) = some u) := Lib.hid (fun q u hu => by
                    have e : wr.heap.size + 1 = (wr.alloc (.cells #[.int .u8 (c.load : Nat), .int .u8 (c.opn : Nat), .int .u8 (c.wide : Nat), .int .u8 (c.stay : Nat)] 92)).heap.size := by simp
                    rw [e]; exact cells_new _ _ _ q u (by simpa using hu))
                  go_wp2_with (first | (at_builtin; refine wpList_append_own _ rfl _ _ 26 rfl (w.heap.size + 1 + 1 + 1) 66 ic (.agg #[.int .i64 0, .int .i64 0, .int .i64 0, .int .i64 0]) 4 32 Try.underlying26 hic hcz0 hcz1 hcz2 rfl (by decide) _ _ _ rfl HOWN.out ⟨wr.heap.size + 1, 0, none⟩ 1 1 [Value.int .i64 (1 + (c.load : Int) % 6 + (c.load : Int) / 32), .int .i64 ((c.opn : Int) % 50), .int .i64 ((c.opn : Int) % 50 + wd * (c.wide : Int)), .int .i64 ((c.stay : Int) % 8)] rfl rfl HNEW.out (fun x hx => by simp at hx; rcases hx with rfl | rfl | rfl | rfl <;> rfl) (by unfold maxLen; omega) (by omega) (by simp; omega) ?_; intro v' w1 hown1 hgrow _; obtain ⟨g', cap', hv'⟩ := own_form hown1 (by omega); subst hv'; have hY1 := HYA.out.grown hgrow (fun k hk => (own_lt HOWN.out hk).1); have hows1 := HOWS.out.kept hgrow (own_types HOWS.out HOWN.out (by decide)); have c6 := hY1.cell 6 _ rfl; have f6 := hY1.frozen 6; replace hY1 := Lib.hid hY1; replace hgrow := Lib.hid hgrow; replace hown1 := Lib.hid hown1; replace hows1 := Lib.hid hows1))
                  go_roundw
                  case rel =>
                    have hk3 : k < 6 := by have := HMk.out; omega
                    refine ⟨k + 1, _, _, m + 1, by omega, by go_num, by omega, Lib.hid ?_, hY1.out.set 6 _, ?_, ?_⟩
                    · rw [HMore.out hk3, List.length_append, HLm.out]; rfl
                    · rw [HMore.out hk3, List.flatMap_append, hwx.out, hti.out, custI_tight]
                      exact hown1.out.kept (grown_set _ _ _) (.inr (fun e => absurd (own_lt hown1.out e).1 (Nat.not_le.2 (Nat.lt_succ_self _))))
                    · exact hows1.out.kept (grown_set _ _ _) (.inr (fun e => absurd (own_lt hows1.out e).1 (Nat.not_le.2 (Nat.lt_succ_self _))))
                  case measure => simp [intOf]; omega
              · go_wp2
                go_roundw
                case rel => exact ⟨k + 1, _, _, m, by omega, by go_num, by omega, Lib.hid (by rw [HSame.out (by have := HMk.out; omega)]; exact HLm.out), hY.out.alloc _, by rw [HSame.out (by have := HMk.out; omega)]; exact hown.out.alloc _, howns.out.alloc _⟩
                case measure => simp [intOf]; omega
            · obtain rfl : k = S.custs.length := by omega
              have c6 := hY.cell 6 _ rfl
              have HMk := Lib.hid (show m = min S.custs.length 6 by rw [← HLm.out, custsTo_len S hk])
              have hgl := hY.lt
              replace hY := Lib.hid hY
              replace hown := Lib.hid hown
              replace howns := Lib.hid howns
              go_upto_if 133 with fail
              go_cut [3] (fun s3 wx => s3 = .int .i64 wd ∧ ∃ (A : Option Addr) (C n : Nat), 1 ≤ n ∧ n ≤ 6 ∧ Hid ((custsI S).length = n) ∧ YW W (w.heap.size + 1 + 1) #[.int .i64 F1, .int .i64 F2, .int .i64 F3, .int .i64 F4, .int .i64 F5, .slice A1 ns C1, .slice A n C, .slice none 0 0, .slice none 0 0] wx ∧
                wx.ownsRow (w.heap.size + 1 + 1 + 1) 66 4 (.slice A n C) n ((custsI S).flatMap custV) ∧ wx.ownsRow (w.heap.size + 1 + 1 + 1) 62 2 (.slice A1 ns C1) ns ((satsI S).flatMap satV))
              case first =>
                by_cases h0 : S.custs.length = 0
                · have hm0 : m = 0 := by have := HMk.out; omega
                  have HI := Lib.hid (show custsI S = [⟨2, 5, 90, 1⟩] by unfold custsI; rw [if_pos h0])
                  subst hm0
                  have HY2 := Lib.hid (fun u => (hY.out.set 6 u).alloc (.cells #[.int .i64 2, .int .i64 5, .int .i64 90, .int .i64 1] 66))
                  have f6 := hY.out.frozen 6
                  clear h0
                  go_wp2
                  go_meet
                  refine ⟨rfl, _, _, 1, by omega, by omega, Lib.hid (by rw [HI.out]; rfl), HY2.out _, ?_, ?_⟩
                  · rw [HI.out]
                    exact own_fresh _ _ (set_size _ _ _).symm #[.int .i64 2, .int .i64 5, .int .i64 90, .int .i64 1] _ (w.heap.size + 1 + 1 + 1) 4 1 (by rw [set_size]; omega) rfl (by decide)
                  · exact (howns.out.kept (grown_set _ _ _) (.inr (fun e => absurd (own_lt howns.out e).1 (Nat.not_le.2 (Nat.lt_succ_self _))))).alloc _
                · have hm0 : 1 ≤ m := by have := HMk.out; omega
                  have hmne : ((m : Int) == 0) = false := by rw [beq_eq_false_iff_ne]; omega
                  have HI := Lib.hid (show custsI S = custsTo S S.custs.length by unfold custsI custsTo; rw [if_neg h0, List.take_length])
                  clear h0
                  go_wp2
                  go_meet
                  exact ⟨rfl, A, C, m, hm0, hm, Lib.hid (by rw [HI.out]; exact HLm.out), hY.out, by rw [HI.out]; exact hown.out, howns.out⟩
              case rest =>
                obtain ⟨rfl, A2, C2, nc, hc1, hc6, HNc, hY2, hown2, hows2⟩ := hcut
                have HM0 : MkS W (w.heap.size + 1 + 1) (w.heap.size + 1 + 1 + 1) F1 F2 F3 F4 F5 A1 ns C1 A2 nc C2 ((satsI S).flatMap satV) ((custsI S).flatMap custV) (.slice none 0 0) (.slice none 0 0) wc := ⟨hY2, hows2, hown2⟩
                replace HM0 := Lib.hid HM0
                clear hY2 hown2 hows2 hgl hY hown howns HLm HMk hm c6
                have KS : ∀ (c7 c8 : Value) (w' : World), MkS W (w.heap.size + 1 + 1) (w.heap.size + 1 + 1 + 1) F1 F2 F3 F4 F5 A1 ns C1 A2 nc C2 ((satsI S).flatMap satV) ((custsI S).flatMap custV) c7 c8 w' → w'.cell? ⟨w.heap.size + 1 + 1, 0, none⟩ = some (.int .i64 F1) ∧ w'.cell? ⟨w.heap.size + 1 + 1, 1, none⟩ = some (.int .i64 F2) ∧ w'.cell? ⟨w.heap.size + 1 + 1, 2, none⟩ = some (.int .i64 F3) ∧ w'.cell? ⟨w.heap.size + 1 + 1, 3, none⟩ = some (.int .i64 F4) ∧ w'.cell? ⟨w.heap.size + 1 + 1, 4, none⟩ = some (.int .i64 F5) ∧ w'.cell? ⟨w.heap.size + 1 + 1, 5, none⟩ = some (.slice A1 ns C1) ∧ w'.cell? ⟨w.heap.size + 1 + 1, 6, none⟩ = some (.slice A2 nc C2) ∧ w'.cell? ⟨w.heap.size + 1 + 1, 7, none⟩ = some c7 ∧ w'.cell? ⟨w.heap.size + 1 + 1, 8, none⟩ = some c8 ∧ w'.frozen? ⟨w.heap.size + 1 + 1, 7, none⟩ = false ∧ w'.frozen? ⟨w.heap.size + 1 + 1, 8, none⟩ = false ∧ w'.cell? ⟨w.heap.size, 7, none⟩ = some (.slice oa S.cost.length oc) ∧ w'.cell? ⟨w.heap.size, 8, none⟩ = some (.slice ta S.time.length tc) := fun c7 c8 w' h => by
                  obtain ⟨a0, a1, a2, a3, a4, a5, a6, a7, a8, a9, a10⟩ := h.cells
                  exact ⟨a0, a1, a2, a3, a4, a5, a6, a7, a8, a9, a10, keep_cell h.y.below (xc.out 7 _ rfl), keep_cell h.y.below (xc.out 8 _ rfl)⟩
                have KD : ∀ (c7 c8 : Value) (w' : World), MkS W (w.heap.size + 1 + 1) (w.heap.size + 1 + 1 + 1) F1 F2 F3 F4 F5 A1 ns C1 A2 nc C2 ((satsI S).flatMap satV) ((custsI S).flatMap custV) c7 c8 w' → Below W.heap.size W w' := fun c7 c8 w' h => h.y.below
                replace KS := Lib.hid KS
                replace KD := Lib.hid KD
                have hgB : w.heap.size + 1 + 1 < w.heap.size + 1 + 1 + 1 := Nat.lt_succ_self _
                replace hgB := Lib.hid hgB
                obtain ⟨nn, hnn'⟩ : ∃ nn : Nat, 1 + ns + nc = nn := ⟨_, rfl⟩
                have hn1' : 1 ≤ nn := by omega
                have hn1000 : nn ≤ 1000 := by omega
                have hnn := Lib.hid hnn'
                clear hnn'
                go_upto_region 25 with fail
                have HMd := Lib.hid HM0.out.drew
                refine wp_region_N (fun j => decide (j < 11)) (fun w' => (w'.cell? ⟨w.heap.size + 1 + 1, 0, none⟩ = some (.int .i64 F1) ∧ w'.cell? ⟨w.heap.size + 1 + 1, 1, none⟩ = some (.int .i64 F2) ∧ w'.cell? ⟨w.heap.size + 1 + 1, 2, none⟩ = some (.int .i64 F3) ∧ w'.cell? ⟨w.heap.size + 1 + 1, 3, none⟩ = some (.int .i64 F4) ∧ w'.cell? ⟨w.heap.size + 1 + 1, 4, none⟩ = some (.int .i64 F5) ∧ w'.cell? ⟨w.heap.size + 1 + 1, 5, none⟩ = some (.slice A1 ns C1) ∧ w'.cell? ⟨w.heap.size + 1 + 1, 6, none⟩ = some (.slice A2 nc C2) ∧ w'.cell? ⟨w.heap.size + 1 + 1, 7, none⟩ = some (.slice none 0 0) ∧ w'.cell? ⟨w.heap.size + 1 + 1, 8, none⟩ = some (.slice none 0 0) ∧ w'.frozen? ⟨w.heap.size + 1 + 1, 7, none⟩ = false ∧ w'.frozen? ⟨w.heap.size + 1 + 1, 8, none⟩ = false ∧ w'.cell? ⟨w.heap.size, 7, none⟩ = some (.slice oa S.cost.length oc) ∧ w'.cell? ⟨w.heap.size, 8, none⟩ = some (.slice ta S.time.length tc)) ∧ MkS W (w.heap.size + 1 + 1) (w.heap.size + 1 + 1 + 1) F1 F2 F3 F4 F5 A1 ns C1 A2 nc C2 ((satsI S).flatMap satV) ((custsI S).flatMap custV) (.slice none 0 0) (.slice none 0 0) w') (by kernel_rfl) ⟨KS.out _ _ _ HMd.out, HMd.out⟩ (fun hShut hHeld => ?_)
                refine wpAnyN_take_0 (v := ?v1n) ?_ ?_ ?_ ?_ ?_ ?hy1n ?_ ?_ ?_
                case hy1n =>
                  refine Or.inl ⟨by rfl, ?_⟩
                  intro w hSw
                  try dsimp only at hSw
                  go_simp
                  try with_reducible rfl
                · kernel_rfl
                · kernel_rfl
                · kernel_rfl
                · kernel_rfl
                · exact fun _ _ _ h => h
                · exact hHeld
                · exact hShut
                clear hShut
                intro hShut
                try simp only [Act.put, List.setIfInBounds_toArray, List.set_cons_zero, List.set_cons_succ]
                refine wpAnyN_take_1 (v := ?v2n) ?_ ?_ ?_ ?_ ?_ ?hy2n ?_ ?_ ?_
                case hy2n =>
                  refine Or.inl ⟨by rfl, ?_⟩
                  intro w hSw
                  try dsimp only at hSw
                  go_simp
                  try with_reducible rfl
                · kernel_rfl
                · kernel_rfl
                · kernel_rfl
                · kernel_rfl
                · exact fun _ _ _ h => h
                · exact hHeld
                · exact hShut
                clear hShut
                intro hShut
                try simp only [Act.put, List.setIfInBounds_toArray, List.set_cons_zero, List.set_cons_succ]
                refine wpAnyN_take_2 (v := ?v3n) ?_ ?_ ?_ ?_ ?_ ?hy3n ?_ ?_ ?_
                case hy3n =>
                  refine Or.inl ⟨by rfl, ?_⟩
                  intro w hSw
                  try dsimp only at hSw
                  go_simp
                  try with_reducible rfl
                · kernel_rfl
                · kernel_rfl
                · kernel_rfl
                · kernel_rfl
                · exact fun _ _ _ h => h
                · exact hHeld
                · exact hShut
                clear hShut
                intro hShut
                try simp only [Act.put, List.setIfInBounds_toArray, List.set_cons_zero, List.set_cons_succ]
                refine wpAnyN_take_5 (v := ?v4n) ?_ ?_ ?_ ?_ ?_ ?hy4n ?_ ?_ ?_
                case hy4n =>
                  refine Or.inl ⟨by rfl, ?_⟩
                  intro w hSw
                  try dsimp only at hSw
                  go_simp
                  try with_reducible rfl
                · kernel_rfl
                · kernel_rfl
                · kernel_rfl
                · kernel_rfl
                · exact fun _ _ _ h => h
                · exact hHeld
                · exact hShut
                clear hShut
                intro hShut
                try simp only [Act.put, List.setIfInBounds_toArray, List.set_cons_zero, List.set_cons_succ]
                refine wpAnyN_take_6 (v := ?v5n) ?_ ?_ ?_ ?_ ?_ ?hy5n ?_ ?_ ?_
                case hy5n =>
                  refine Or.inl ⟨by rfl, ?_⟩
                  intro w hSw
                  try dsimp only at hSw
                  go_simp
                  try with_reducible rfl
                · kernel_rfl
                · kernel_rfl
                · kernel_rfl
                · kernel_rfl
                · exact fun _ _ _ h => h
                · exact hHeld
                · exact hShut
                clear hShut
                intro hShut
                try simp only [Act.put, List.setIfInBounds_toArray, List.set_cons_zero, List.set_cons_succ]
                refine wpAnyN_take_7 (v := ?v6n) ?_ ?_ ?_ ?_ ?_ ?hy6n ?_ ?_ ?_
                case hy6n =>
                  refine Or.inl ⟨by rfl, ?_⟩
                  intro w hSw
                  try dsimp only at hSw
                  go_simp
                  try with_reducible rfl
                · kernel_rfl
                · kernel_rfl
                · kernel_rfl
                · kernel_rfl
                · exact fun _ _ _ h => h
                · exact hHeld
                · exact hShut
                clear hShut
                intro hShut
                try simp only [Act.put, List.setIfInBounds_toArray, List.set_cons_zero, List.set_cons_succ]
                refine wpAnyN_one_3 (by kernel_rfl) (by exact hShut) (fun K hK => ?_)
                go_simp
                refine (nodes11_nn _ _ _ _ _ _ _ _ _ _ _ _ _ nn _ (by omega) (by omega) hnn).mono ?_
                rintro e w1 ⟨rfl, hb1⟩
                go_wp2_with fail
                have HM1 := Lib.hid (HMd.out.below hb1)
                refine hK.out _ _ (fun _ => ⟨KS.out _ _ _ HM1.out, HM1.out⟩) (fun hH hS2 => ?_)
                clear hK K hHeld hShut
                have hShut := hS2
                clear hS2
                have hHeld := hH rfl
                clear hH
                try simp only [Act.put, List.setIfInBounds_toArray, List.set_cons_zero, List.set_cons_succ]
                refine wpAnyN_one_4 (by kernel_rfl) (by exact hShut) (fun K hK => ?_)
                go_simp
                refine (sqr_any _ _ S.cost nn _ hn1' hn1000 l3 bo.out (H3.out.below HM1.out.y.below)).mono ?_
                rintro e w2 ⟨A7, C7, g7, rfl, hM7, hb2⟩
                go_wp2_with fail
                have HM2 := Lib.hid (HM1.out.below hb2)
                have hl7 := Lib.hid hM7.lt
                replace hM7 := Lib.hid hM7
                refine hK.out _ _ (fun _ => ⟨KS.out _ _ _ HM2.out, HM2.out⟩) (fun hH hS2 => ?_)
                clear hK K hHeld hShut
                have hShut := hS2
                clear hS2
                have hHeld := hH rfl
                clear hH
                try simp only [Act.put, List.setIfInBounds_toArray, List.set_cons_zero, List.set_cons_succ]
                refine wpAnyN_take_10 (v := ?v7n) ?_ ?_ ?_ ?_ ?_ ?hy7n ?_ ?_ ?_
                case hy7n =>
                  refine Or.inl ⟨by rfl, ?_⟩
                  intro w hSw
                  try dsimp only at hSw
                  go_simp
                  try with_reducible rfl
                · kernel_rfl
                · kernel_rfl
                · kernel_rfl
                · kernel_rfl
                · exact fun _ _ _ h => h
                · exact hHeld
                · exact hShut
                clear hShut
                intro hShut
                try simp only [Act.put, List.setIfInBounds_toArray, List.set_cons_zero, List.set_cons_succ]
                refine wpAnyN_one_8 (by kernel_rfl) (by exact hShut) (fun K hK => ?_)
                go_simp
                refine (nodes11_nn _ _ _ _ _ _ _ _ _ _ _ _ _ nn _ (by omega) (by omega) hnn).mono ?_
                rintro e w3 ⟨rfl, hb3⟩
                go_wp2_with fail
                have HM3 := Lib.hid (HM2.out.below hb3)
                refine hK.out _ _ (fun _ => ⟨KS.out _ _ _ HM3.out, HM3.out⟩) (fun hH hS2 => ?_)
                clear hK K hHeld hShut
                have hShut := hS2
                clear hS2
                have hHeld := hH rfl
                clear hH
                try simp only [Act.put, List.setIfInBounds_toArray, List.set_cons_zero, List.set_cons_succ]
                refine wpAnyN_one_9 (by kernel_rfl) (by exact hShut) (fun K hK => ?_)
                go_simp
                refine (sqr_any _ _ S.time nn _ hn1' hn1000 l4 bt.out (H4.out.below HM3.out.y.below)).mono ?_
                rintro e w4 ⟨A8, C8, g8, rfl, hM8, hb4⟩
                go_wp2_with fail
                have HM4 := Lib.hid (HM3.out.below hb4)
                replace hM8 := Lib.hid hM8
                refine hK.out _ _ (fun _ => ⟨KS.out _ _ _ HM4.out, HM4.out⟩) (fun hH hS2 => ?_)
                clear hK K hHeld hShut
                have hShut := hS2
                clear hS2
                have hHeld := hH rfl
                clear hH
                try simp only [Act.put, List.setIfInBounds_toArray, List.set_cons_zero, List.set_cons_succ]
                have hw3 := Lib.hid (Nat.le_trans (Nat.le_of_lt HM4.out.y.lt) (Nat.le_refl w4.heap.size))
                have f7 := HM4.out.y.frozen 7
                have c7 := HM4.out.y.cell 7 _ rfl
                clear hHeld
                refine wpAnyN_one_11 (by kernel_rfl) (by exact hShut) (fun K hK => ?_)
                go_simp
                refine hK.out _ _ (fun h => absurd h (by decide)) (fun _ hS2 => ?_)
                clear hK K hShut
                have hShut := hS2
                clear hS2
                try simp only [Act.put, List.setIfInBounds_toArray, List.set_cons_zero, List.set_cons_succ]
                have HM5 := Lib.hid (HM4.out.set7 hgB.out (.slice A7 nn C7))
                clear f7 c7
                refine wpAnyN_one_12 (by kernel_rfl) (by exact hShut) (fun K hK => ?_)
                go_simp
                refine hK.out _ _ (fun h => absurd h (by decide)) (fun _ hS2 => ?_)
                clear hK K hShut
                have hShut := hS2
                clear hS2
                try simp only [Act.put, List.setIfInBounds_toArray, List.set_cons_zero, List.set_cons_succ]
                have f8 := HM5.out.y.frozen 8
                have c8 := HM5.out.y.cell 8 _ rfl
                refine wpAnyN_one_13 (by kernel_rfl) (by exact hShut) (fun K hK => ?_)
                go_simp
                refine hK.out _ _ (fun h => absurd h (by decide)) (fun _ hS2 => ?_)
                clear hK K hShut
                have hShut := hS2
                clear hS2
                try simp only [Act.put, List.setIfInBounds_toArray, List.set_cons_zero, List.set_cons_succ]
                have HM6 := Lib.hid (HM5.out.set8 hgB.out (.slice A8 nn C8))
                refine wpAnyN_done (by kernel_rfl) ?_ _
                clear hShut
                have l1' := HM1.out.y.lt
                have l3' := HM3.out.y.lt
                have hN7 := Lib.hid ((((hM7.out.below hb3).below hb4).setLow ⟨w.heap.size + 1 + 1, 7, none⟩ (.slice A7 nn C7) l1').setLow ⟨w.heap.size + 1 + 1, 8, none⟩ (.slice A8 nn C8) l1')
                have hN8 := Lib.hid ((hM8.out.setLow ⟨w.heap.size + 1 + 1, 7, none⟩ (.slice A7 nn C7) l3').setLow ⟨w.heap.size + 1 + 1, 8, none⟩ (.slice A8 nn C8) l3')
                have s23 := hb3.size
                have s12 := hb2.size
                have hO7 := Lib.hid (fun g e => (own_lt hM7.out.own (g := g) e).2)
                generalize ((w4.setCell ⟨w.heap.size + 1 + 1, 7, none⟩ (.slice A7 nn C7)).setCell ⟨w.heap.size + 1 + 1, 8, none⟩ (.slice A8 nn C8)) = W6 at *
                have HR := rblk.out
                have HR6 : W6.heap[w.heap.size + 1]? = some (.cells #[.int .i64 0, .int .i64 0, .int .i64 0, .int .i64 0, .int .i64 0, .slice none 0 0, .slice none 0 0, .slice none 0 0, .slice none 0 0] 29 (0, 0)) := (HM6.out.y.below.block (w.heap.size + 1) (by rw [hWs.out]; omega)).trans HR
                obtain ⟨a0, a1, a2, a3, a4, a5, a6, a7, a8, _, _⟩ := HM6.out.cells
                have r0 : W6.cell? ⟨w.heap.size + 1, 0, none⟩ = some (.int .i64 0) := cell_of_row W6 (w.heap.size + 1) 0 _ _ _ HR6
                have r1 : W6.cell? ⟨w.heap.size + 1, 1, none⟩ = some (.int .i64 0) := cell_of_row W6 (w.heap.size + 1) 1 _ _ _ HR6
                have r2 : W6.cell? ⟨w.heap.size + 1, 2, none⟩ = some (.int .i64 0) := cell_of_row W6 (w.heap.size + 1) 2 _ _ _ HR6
                have r3 : W6.cell? ⟨w.heap.size + 1, 3, none⟩ = some (.int .i64 0) := cell_of_row W6 (w.heap.size + 1) 3 _ _ _ HR6
                have r4 : W6.cell? ⟨w.heap.size + 1, 4, none⟩ = some (.int .i64 0) := cell_of_row W6 (w.heap.size + 1) 4 _ _ _ HR6
                have r5 : W6.cell? ⟨w.heap.size + 1, 5, none⟩ = some (.slice none 0 0) := cell_of_row W6 (w.heap.size + 1) 5 _ _ _ HR6
                have r6 : W6.cell? ⟨w.heap.size + 1, 6, none⟩ = some (.slice none 0 0) := cell_of_row W6 (w.heap.size + 1) 6 _ _ _ HR6
                have r7 : W6.cell? ⟨w.heap.size + 1, 7, none⟩ = some (.slice none 0 0) := cell_of_row W6 (w.heap.size + 1) 7 _ _ _ HR6
                have r8 : W6.cell? ⟨w.heap.size + 1, 8, none⟩ = some (.slice none 0 0) := cell_of_row W6 (w.heap.size + 1) 8 _ _ _ HR6
                have q : ∀ j, W6.frozen? ⟨w.heap.size + 1, j, none⟩ = false := fun j => by
                  unfold World.frozen?; rw [show ({ block := w.heap.size + 1, off := j, spot := none } : Addr).block = w.heap.size + 1 from rfl, HR6]; simp
                replace HR6 := Lib.hid HR6
                clear HR
                go_wp2
                obtain ⟨HB7, hgr⟩ := nine_set W6 (w.heap.size + 1) _ _ _ _ _ _ _ _ _ _ (.int .i64 F1) (.int .i64 F2) (.int .i64 F3) (.int .i64 F4) (.int .i64 F5) (.slice A1 ns C1) (.slice A2 nc C2) (.slice A7 nn C7) (.slice A8 nn C8) HR6.out
                generalize (((((((((W6.setCell ⟨w.heap.size + 1, 0, none⟩ (.int .i64 F1)).setCell ⟨w.heap.size + 1, 1, none⟩ (.int .i64 F2)).setCell ⟨w.heap.size + 1, 2, none⟩ (.int .i64 F3)).setCell ⟨w.heap.size + 1, 3, none⟩ (.int .i64 F4)).setCell ⟨w.heap.size + 1, 4, none⟩ (.int .i64 F5)).setCell ⟨w.heap.size + 1, 5, none⟩ (.slice A1 ns C1)).setCell ⟨w.heap.size + 1, 6, none⟩ (.slice A2 nc C2)).setCell ⟨w.heap.size + 1, 7, none⟩ (.slice A7 nn C7)).setCell ⟨w.heap.size + 1, 8, none⟩ (.slice A8 nn C8)) = W7 at *
                have z : ∀ j u, #[Value.int .i64 F1, .int .i64 F2, .int .i64 F3, .int .i64 F4, .int .i64 F5, .slice A1 ns C1, .slice A2 nc C2, .slice A7 nn C7, .slice A8 nn C8][j]? = some u → W7.cell? ⟨w.heap.size + 1, j, none⟩ = some u := fun j u hu => (cell_of_row W7 (w.heap.size + 1) j _ _ _ HB7).trans hu
                have z0 := z 0 _ rfl
                have z1 := z 1 _ rfl
                have z2 := z 2 _ rfl
                have z3 := z 3 _ rfl
                have z4 := z 4 _ rfl
                have z5 := z 5 _ rfl
                have z6 := z 6 _ rfl
                have z7 := z 7 _ rfl
                have z8 := z 8 _ rfl
                clear z
                have hsz := hWs.out
                have hend : MakeEnd S w (.returned (.agg #[.int .i64 F1, .int .i64 F2, .int .i64 F3, .int .i64 F4, .int .i64 F5, .slice A1 ns C1, .slice A2 nc C2, .slice A7 nn C7, .slice A8 nn C8])) W7 := by
                  refine made_end S w W7 F1 F2 F3 F4 F5 (by rw [hwx.out]; exact hF1.out) hF2.out (by rw [hwx.out]; exact hF3.out) hF4.out (by rw [hwx.out]; exact hF5.out) A1 A2 A7 A8 C1 C2 C7 C8 ns nc nn g7 g8 HNs.out HNc.out hnn.out (w.heap.size + 1 + 1 + 1) (by omega) ?_ ?_ w1.heap.size w3.heap.size (by omega) (by omega) ?_ ?_ ?_ ?_ ?_
                  · exact HM6.out.sats.kept hgr (.inr (fun e => by have := (own_lt HM6.out.sats e).1; omega))
                  · exact HM6.out.custs.kept hgr (.inr (fun e => by have := (own_lt HM6.out.custs e).1; omega))
                  · exact hN7.out.grown hgr (fun g hg e => by injection e with e; have := hN7.out.le g hg; omega) (.inr (fun e => by have := (own_lt hN7.out.own e).1; omega))
                  · exact hN8.out.grown hgr (fun g hg e => by injection e with e; have := hN8.out.le g hg; omega) (.inr (fun e => by have := (own_lt hN8.out.own e).1; omega))
                  · exact fun g hg => by have := hl7.out g hg; omega
                  · exact fun g e => by have := hO7.out g e; omega
                  · exact (hb0.out.trans (HM6.out.y.below.mono (by omega))).grown hgr (Nat.le_trans (by omega) (Nat.le_of_lt HM6.out.y.lt)) (fun k hk => by injection hk with hk; omega)
                exact bodyPost_ret (by simp [results, Try.results20, go_sem, z0, z1, z2, z3, z4, z5, z6, z7, z8]) rfl hend
theorem make_any (S : SmallD) (h : SmallH) (w : World) (H : SmallIs w S h) : Calls Try.prog 20 #[.agg (smallC S h)] w (MakeEnd S w) :=
  make_core S h w H S.tight S.loose (Lib.hid rfl) (Lib.hid rfl)
end Go.Proofs.Ytljcpgeggbbmfaa
