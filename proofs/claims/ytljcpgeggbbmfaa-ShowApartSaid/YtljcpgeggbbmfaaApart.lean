/-
  The walk of ShowApart (layer 13).
-/
import Derived.Test.YtljcpgeggbbmfaaAP
import Derived.Deep.DeepCutAuto
import Derived.Deep.CutBlock
import Derived.IntWalk
namespace Go.Proofs.Ytljcpgeggbbmfaa
set_option linter.unusedVariables false
set_option linter.unusedSimpArgs false
open Go.RowKit
/-! Instances that may be read, a little changed. -/
theorem ok_fin {X : InstD} (K : ReadOk X) (v : Int) (h0 : 0 ≤ v) (h1 : v ≤ 1000000000) : ReadOk { X with fin := v } :=
  ⟨K.s1, K.s2, K.c1, K.c2, K.o, K.t, K.ro, K.rt, K.tm, K.bm, ⟨h0, h1⟩, K.tr, K.br, K.sat, K.cust, K.co, K.ti⟩
theorem ok_swap {X : InstD} (K : ReadOk X) : ReadOk { X with tr := X.br, br := X.tr } :=
  ⟨K.s1, K.s2, K.c1, K.c2, K.o, K.t, K.ro, K.rt, K.tm, K.bm, K.fin, K.br, K.tr, K.sat, K.cust, K.co, K.ti⟩
theorem ok_stay {X : InstD} (K : ReadOk X) (t : Nat) (ht : t < X.custs.length) (v : Int) (h0 : 0 ≤ v) (h1 : v ≤ 1000000000) : ReadOk { X with custs := X.custs.set t { X.custs[t] with stay := v } } := by
  have hN : nodesN { X with custs := X.custs.set t { X.custs[t] with stay := v } } = nodesN X := by
    show 1 + X.sats.length + (X.custs.set t _).length = 1 + X.sats.length + X.custs.length
    rw [List.length_set]
  refine ⟨K.s1, K.s2, ?_, ?_, by rw [hN]; exact K.o, by rw [hN]; exact K.t, by rw [hN]; exact K.ro, by rw [hN]; exact K.rt, K.tm, K.bm, K.fin, K.tr, K.br, K.sat, ?_, K.co, K.ti⟩
  · show 1 ≤ (X.custs.set t _).length
    rw [List.length_set]; exact K.c1
  · show (X.custs.set t _).length ≤ 48
    rw [List.length_set]; exact K.c2
  · intro x hx
    rcases List.mem_or_eq_of_mem_set hx with h | h
    · exact K.cust x h
    · obtain ⟨a, b, c, d⟩ := K.cust X.custs[t] (List.getElem_mem ht)
      rw [h]
      exact ⟨a, b, c, h0, h1⟩
theorem ok_mats {X : InstD} (ls : List (List Int)) (m i k : Nat) (hi : i < ls.length) (hl : ls.length = m) (hr : ∀ r ∈ ls, r.length = m) (hv : ∀ (i : Nat) (r : List Int), ls[i]? = some r → ∀ (k : Nat) (v : Int), r[k]? = some v → 0 ≤ v ∧ v ≤ 1000000000 ∧ (i = k → v = 0)) (v : Int) (h0 : 0 ≤ v) (h1 : v ≤ 1000000000) (hik : i ≠ k) :
    (ls.set i (ls[i].set k v)).length = m ∧ (∀ r ∈ ls.set i (ls[i].set k v), r.length = m) ∧ ∀ (i' : Nat) (r : List Int), (ls.set i (ls[i].set k v))[i']? = some r → ∀ (k' : Nat) (v' : Int), r[k']? = some v' → 0 ≤ v' ∧ v' ≤ 1000000000 ∧ (i' = k' → v' = 0) := by
  refine ⟨by rw [List.length_set]; exact hl, fun r h => ?_, fun i' r hr' k' v' hv' => ?_⟩
  · rcases List.mem_or_eq_of_mem_set h with h | h
    · exact hr r h
    · rw [h, List.length_set]; exact hr _ (List.getElem_mem hi)
  · by_cases e : i = i'
    · subst e
      rw [List.getElem?_set_self hi] at hr'
      injection hr' with hr'
      subst hr'
      by_cases e2 : k = k'
      · subst e2
        have hk : k < ls[i].length := by
          have := (List.getElem?_eq_some_iff.1 hv').1
          rwa [List.length_set] at this
        rw [List.getElem?_set_self hk] at hv'
        injection hv' with hv'
        subst hv'
        exact ⟨h0, h1, fun e => absurd e hik⟩
      · rw [List.getElem?_set_ne e2] at hv'
        exact hv i _ (List.getElem?_eq_getElem hi) k' v' hv'
    · rw [List.getElem?_set_ne e] at hr'
      exact hv i' r hr' k' v' hv'
theorem ok_time {X : InstD} (K : ReadOk X) (i k : Nat) (hi : i < X.time.length) (hik : i ≠ k) (v : Int) (h0 : 0 ≤ v) (h1 : v ≤ 1000000000) : ReadOk { X with time := X.time.set i (X.time[i].set k v) } := by
  obtain ⟨a, b, c⟩ := ok_mats (X := X) X.time (nodesN X) i k hi K.t K.rt K.ti v h0 h1 hik
  exact ⟨K.s1, K.s2, K.c1, K.c2, K.o, a, K.ro, b, K.tm, K.bm, K.fin, K.tr, K.br, K.sat, K.cust, K.co, c⟩
theorem ok_cost {X : InstD} (K : ReadOk X) (i k : Nat) (hi : i < X.cost.length) (hik : i ≠ k) (v : Int) (h0 : 0 ≤ v) (h1 : v ≤ 1000000000) : ReadOk { X with cost := X.cost.set i (X.cost[i].set k v) } := by
  obtain ⟨a, b, c⟩ := ok_mats (X := X) X.cost (nodesN X) i k hi K.o K.ro K.co v h0 h1 hik
  exact ⟨K.s1, K.s2, K.c1, K.c2, a, K.t, b, K.rt, K.tm, K.bm, K.fin, K.tr, K.br, K.sat, K.cust, c, K.ti⟩
/-- numbers that Make makes are small. -/
theorem make_little {w : World} {S : SmallD} {h : SmallH} (H : SmallIs w S h) : (0 ≤ (makeI S).fin ∧ (makeI S).fin ≤ 3000) ∧ (∀ c ∈ (makeI S).custs, 0 ≤ c.stay ∧ c.stay ≤ 8) ∧ (∀ r ∈ (makeI S).time, ∀ v ∈ r, 0 ≤ v ∧ v ≤ 29) ∧ 3 ≤ nodesN (makeI S) ∧ nodesN (makeI S) ≤ 10 := by
  have b1 := H.b1
  have w3 := wide_mul S S.fin (by omega)
  refine ⟨?_, fun c hc => (custsI_may S H.bc c hc).2.2.2, fun r hr v hv => ?_, ?_⟩
  · show (0 : Int) ≤ 40 + (S.fin : Int) * wideI S ∧ 40 + (S.fin : Int) * wideI S ≤ 3000
    rw [Int.mul_comm]; omega
  · obtain ⟨i, _, rfl⟩ := List.mem_map.1 (show r ∈ matM S.time (nodesI S) from hr)
    obtain ⟨k, _, rfl⟩ := List.mem_map.1 (show v ∈ (List.range (nodesI S)).map (cellM S.time (nodesI S) i) from hv)
    obtain ⟨a, b, _⟩ := cellM_ok S.time (nodesI S) i k
    exact ⟨a, b⟩
  · have a := satsI_len S
    have b := custsI_len S
    show 3 ≤ 1 + (satsI S).length + (custsI S).length ∧ 1 + (satsI S).length + (custsI S).length ≤ 10
    omega
/-! Memory. -/
theorem ap_type {w : World} {B e s n : Nat} {v : Value} {xs : List Value} (h : w.ownsRow B e s v n xs) {g : Nat} (hg : v.ownBlock = some g) : ∃ cur, w.heap[g]? = some (.cells cur e (0, 0)) := by
  rcases h.2 with ⟨rfl, _⟩ | ⟨g', cap, cur, rfl, _, hh, _⟩
  · simp [Value.ownBlock] at hg
  · obtain rfl : g' = g := by simpa [Value.ownBlock] using hg
    exact ⟨cur, hh⟩
theorem ap_ne {w : World} {g k : Nat} {c c' : Array Value} {T T' : TypeId} (h : w.heap[g]? = some (.cells c T (0, 0))) (h' : w.heap[k]? = some (.cells c' T' (0, 0))) (hT : T ≠ T') : g ≠ k := fun e => by
  subst e
  rw [h] at h'
  injection h' with h'
  injection h' with _ ht
  exact hT ht
theorem ty_of {w : World} {g : Nat} {c cur : Array Value} {T T' : TypeId} (h : w.heap[g]? = some (.cells c T (0, 0))) (hk : w.heap[g]? = some (.cells cur T' (0, 0))) : T' = T := by rw [h] at hk; injection hk with hk; injection hk with _ ht; exact ht.symm
theorem ap_range {w : World} {g : Nat} {X : InstD} {h : HdD} {T : TypeId} (hB : w.heap[g]? = some (.cells (instC X h) T (0, 0))) : w.rangeAt g 0 [.int .i64 X.fin, .int .i64 X.tm, .int .i64 X.tr, .int .i64 X.bm, .int .i64 X.br, .slice h.sa X.sats.length h.sc, .slice h.ca X.custs.length h.cc, .slice h.oa X.cost.length h.oc, .slice h.ta X.time.length h.tc] :=
  range_cells (fun j v hv => by rw [cell_of_row w g j _ _ _ hB, ← hv]; unfold instC; simp)
/-- where the switch has come to: the second instance may be read. -/
def ApEnd (w3 : World) (ga gb : Nat) (X : InstD) (ha : HdD) (wx : World) : Prop :=
  ∃ (Y : InstD) (hb : HdD), ReadOk Y ∧ wx.heap[ga]? = some (.cells (instC X ha) 29 (0, 0)) ∧ InstIs wx X ha ∧ wx.heap[gb]? = some (.cells (instC Y hb) 29 (0, 0)) ∧ InstIs wx Y hb ∧ Below w3.heap.size w3 wx
theorem ApEnd.drewn {w3 w : World} {ga gb : Nat} {X : InstD} {ha : HdD} (H : ApEnd w3 ga gb X ha w) : ApEnd w3 ga gb X ha w.drew := by
  obtain ⟨Y, hb, h1, h2, h3, h4, h5, h6⟩ := H
  exact ⟨Y, hb, h1, h2, ⟨h3.sats, h3.custs, h3.cost, h3.time, h3.ls, h3.lc, h3.lo, h3.lt⟩, h4, ⟨h5.sats, h5.custs, h5.cost, h5.time, h5.ls, h5.lc, h5.lo, h5.lt⟩, h6.drew⟩
/-- the first instance's side is kept by a store that is not its own. -/
theorem AB.far {S : SmallD} {w3 U : World} {ha hb : HdD} {ga gb Ba : Nat} {a7 a8 b7 b8 : List Nat} {w : World} (H : AB w3 U (makeI S) ha hb ga gb Ba a7 a8 b7 b8 w) {w' : World} {k : Nat} (hg : w.grownBy w' (some k)) (hk : (k = gb ∨ U.heap.size ≤ k) ∧ k ≠ ga) :
    w'.heap[ga]? = some (.cells (instC (makeI S) ha) 29 (0, 0)) ∧ InstIs w' (makeI S) ha ∧ Below w3.heap.size w3 w' := by
  have ag : Agree U w' := H.ag.grown hg (fun cur T hc => by
    rcases hk.1 with rfl | h
    · exact H.xg cur T hc
    · exact absurd (heap_lt hc) (by omega))
  refine ⟨(hg.block ga (heap_lt H.xa) (fun e => hk.2 (Option.some.inj e).symm)).trans H.xa, (H.ma.agree ag).make, H.bel.trans ⟨hg.os, hg.tape, hg.output, hg.size, fun j hj => hg.block j (Nat.lt_of_lt_of_le hj H.bel.size) (fun e => ?_)⟩⟩
  have h1 := H.nb
  have h2 := H.us
  have e2 := (Option.some.inj e).symm
  rcases hk.1 with h | h <;> omega
theorem AB.ap_fin {S : SmallD} {w3 U : World} {ha hb : HdD} {ga gb Ba : Nat} {a7 a8 b7 b8 : List Nat} {w : World} (H : AB w3 U (makeI S) ha hb ga gb Ba a7 a8 b7 b8 w) (v : Int) (K : ReadOk { makeI S with fin := v }) : ApEnd w3 ga gb (makeI S) ha (w.setCell ⟨gb, 0, none⟩ (.int .i64 v)) := by
  obtain ⟨l1, l2, l3, l4⟩ := make_len S
  obtain ⟨h1, h2, h3⟩ := H.far (grown_set w ⟨gb, 0, none⟩ (.int .i64 v)) ⟨.inl rfl, fun e => H.ne e.symm⟩
  have M := H.mb.box H.xb (grown_set w ⟨gb, 0, none⟩ (.int .i64 v))
  refine ⟨_, hb, K, h1, h2, ?_, ?_, h3⟩
  · rw [heap_set w _ 0 _ _ _ H.xb]; unfold instC; rfl
  · exact MadeOwn.is (X := { makeI S with fin := v }) ⟨M.sats, M.custs, M.cost, M.time, M.apart, M.tabs⟩ (by show (makeI S).sats.length ≤ 1000; omega) (by show (makeI S).custs.length ≤ 1000; omega) (by show (makeI S).cost.length ≤ 3000; omega) (by show (makeI S).time.length ≤ 3000; omega)
theorem AB.ap_swap {S : SmallD} {w3 U : World} {ha hb : HdD} {ga gb Ba : Nat} {a7 a8 b7 b8 : List Nat} {w : World} (H : AB w3 U (makeI S) ha hb ga gb Ba a7 a8 b7 b8 w) (K : ReadOk (makeI S)) : ApEnd w3 ga gb (makeI S) ha ((w.setCell ⟨gb, 2, none⟩ (.int .i64 (makeI S).br)).setCell ⟨gb, 4, none⟩ (.int .i64 (makeI S).tr)) := by
  obtain ⟨l1, l2, l3, l4⟩ := make_len S
  have g1 := grown_set w ⟨gb, 2, none⟩ (.int .i64 (makeI S).br)
  have x1 := heap_set w gb 2 _ _ (.int .i64 (makeI S).br) H.xb
  have g2 := grown_set (w.setCell ⟨gb, 2, none⟩ (.int .i64 (makeI S).br)) ⟨gb, 4, none⟩ (.int .i64 (makeI S).tr)
  have x2 := heap_set _ gb 4 _ _ (.int .i64 (makeI S).tr) x1
  obtain ⟨h1, h2, h3⟩ := H.far (grown_trans1 g1 g2) ⟨.inl rfl, fun e => H.ne e.symm⟩
  have M := (H.mb.box H.xb g1).box x1 g2
  refine ⟨_, hb, ok_swap K, h1, h2, ?_, ?_, h3⟩
  · rw [x2]; unfold instC; rfl
  · exact MadeOwn.is (X := { makeI S with tr := (makeI S).br, br := (makeI S).tr }) ⟨M.sats, M.custs, M.cost, M.time, M.apart, M.tabs⟩ (by show (makeI S).sats.length ≤ 1000; omega) (by show (makeI S).custs.length ≤ 1000; omega) (by show (makeI S).cost.length ≤ 3000; omega) (by show (makeI S).time.length ≤ 3000; omega)
theorem AB.ap_stay {S : SmallD} {w3 U : World} {ha hb : HdD} {ga gb Ba : Nat} {a7 a8 b7 b8 : List Nat} {w : World} (H : AB w3 U (makeI S) ha hb ga gb Ba a7 a8 b7 b8 w) (K : ReadOk (makeI S)) (v : Int) (h0 : 0 ≤ v) (h9 : v ≤ 1000000000) (t : Nat) (ht : t < (makeI S).custs.length) :
    ∃ gs, hb.ca = some ⟨gs, 0, none⟩ ∧ w.cell? ⟨gs, t * 4 + 3, none⟩ = some (.int .i64 (makeI S).custs[t].stay) ∧ w.frozen? ⟨gs, t * 4 + 3, none⟩ = false ∧ ApEnd w3 ga gb (makeI S) ha (w.setCell ⟨gs, t * 4 + 3, none⟩ (.int .i64 v)) := by
  obtain ⟨l1, l2, l3, l4⟩ := make_len S
  obtain ⟨gs, e1, _, e3, e4⟩ := spoil_10 H.mb H.xb (by omega) (by omega) (by omega) (by omega) v t ht
  obtain ⟨b, off, f1, _, _, _, f5⟩ := (H.mb.make.custs).cust ht
  have hbo : b = gs ∧ off = 0 := by
    rw [e1] at f1
    injection f1 with f1
    injection f1 with f1 f2
    exact ⟨f1.symm, f2.symm⟩
  obtain ⟨rfl, rfl⟩ := hbo
  rw [Nat.zero_add] at f5
  have hO : (Value.slice hb.ca (makeI S).custs.length hb.cc).ownBlock = some b := by rw [e1]; rfl
  obtain ⟨cur, hc⟩ := ap_type H.mb.custs hO
  obtain ⟨h1, h2, h3⟩ := H.far (grown_set w ⟨b, t * 4 + 3, none⟩ (.int .i64 v)) ⟨.inr (own_lt H.mb.custs hO).1, ap_ne hc H.xa (by decide)⟩
  exact ⟨b, e1, f5, e3, _, hb, ok_stay K t ht v h0 h9, h1, h2, e4.blk, e4.is, h3⟩
theorem AB.ap_time {S : SmallD} {w3 U : World} {ha hb : HdD} {ga gb Ba : Nat} {a7 a8 b7 b8 : List Nat} {w : World} (H : AB w3 U (makeI S) ha hb ga gb Ba a7 a8 b7 b8 w) (K : ReadOk (makeI S)) (v : Int) (h0 : 0 ≤ v) (h9 : v ≤ 1000000000) (hi : 0 < (makeI S).time.length) (hk : 1 < nodesN (makeI S)) (hr : 1 < (makeI S).time[0].length) :
    ∃ gh gr, hb.ta = some ⟨gh, 0, none⟩ ∧ w.cell? ⟨gh, 0, none⟩ = some (.slice (some ⟨gr, 0, none⟩) (nodesN (makeI S)) (nodesN (makeI S))) ∧ w.cell? ⟨gr, 1, none⟩ = some (.int .i64 (makeI S).time[0][1]) ∧ w.frozen? ⟨gr, 1, none⟩ = false ∧ ApEnd w3 ga gb (makeI S) ha (w.setCell ⟨gr, 1, none⟩ (.int .i64 v)) := by
  obtain ⟨l1, l2, l3, l4⟩ := make_len S
  obtain ⟨gh, gr, e1, e2, _, e4, e5, e6⟩ := spoil_12 H.mb H.xb (by omega) (by omega) (by omega) (by omega) v 0 1 hi hk
  obtain ⟨b, off, a, c, f1, f2, _, f4⟩ := (H.mb.make.time).row hi
  have hbo : b = gh ∧ off = 0 := by
    rw [e1] at f1
    injection f1 with f1
    injection f1 with f1 f2
    exact ⟨f1.symm, f2.symm⟩
  obtain ⟨rfl, rfl⟩ := hbo
  rw [Nat.zero_add, e2] at f2
  injection f2 with f2
  injection f2 with f2 _ _
  obtain ⟨b2, off2, g1, g2⟩ := f4.num hr
  rw [← f2] at g1
  injection g1 with g1
  injection g1 with g1 g3
  subst g1
  subst g3
  obtain ⟨_, gr3, q1, q2, _, _, q5, _⟩ := H.mb.time.at hi
  have eg : gr3 = gr := by
    rw [e1] at q1
    injection q1 with q1
    injection q1 with q1
    subst q1
    rw [e2] at q2
    injection q2 with q2
    injection q2 with q2 _ _
    injection q2 with q2
    injection q2 with q2
    exact q2.symm
  subst eg
  obtain ⟨h1, h2, h3⟩ := H.far (grown_set w ⟨gr3, 1, none⟩ (.int .i64 v)) ⟨.inr e5, ap_ne q5 H.xa (by decide)⟩
  exact ⟨b, gr3, e1, e2, by simpa using g2, e4, _, hb, ok_time K 0 1 hi (by omega) v h0 h9, h1, h2, e6.blk, e6.is, h3⟩
set_option maxHeartbeats 40000000 in
set_option maxRecDepth 100000 in
theorem walk_ShowApart (w : World) (S : SmallD) (h : SmallH) (H : SmallIs w S h) (what at_ n : Nat) (hw1 : what < 256) (hw2 : at_ < 256) (hw3 : n < 256) :
    Calls Try.prog 12 #[.agg (smallC S h), .int .u8 (what : Int), .int .u8 (at_ : Int), .int .u8 (n : Int)] w fun e w' => e = .returned (.bool true) ∧ Below w.heap.size w w' := by
  have hLit := Lib.hid (make_little H)
  have K := Lib.hid (make_ok H)
  have HT := Lib.hid (make_text H)
  obtain ⟨sa, sc, ca, cc, oa, oc, ta, tc⟩ := h
  have BW := (Below.refl w.heap.size w).alloc (Nat.le_refl _) (.cells #[Value.int .u8 S.fin, .int .u8 S.tm, .int .u8 S.tr, .int .u8 S.bm, .int .u8 S.br, .slice sa S.sats.length sc, .slice ca S.custs.length cc, .slice oa S.cost.length oc, .slice ta S.time.length tc, .bool S.tight, .bool S.loose] 40)
  replace H := Lib.hid (H.below BW)
  have DD : ∀ j u, #[Value.int .u8 S.fin, .int .u8 S.tm, .int .u8 S.tr, .int .u8 S.bm, .int .u8 S.br, .slice sa S.sats.length sc, .slice ca S.custs.length cc, .slice oa S.cost.length oc, .slice ta S.time.length tc, .bool S.tight, .bool S.loose][j]? = some u → (w.alloc (.cells #[Value.int .u8 S.fin, .int .u8 S.tm, .int .u8 S.tr, .int .u8 S.bm, .int .u8 S.br, .slice sa S.sats.length sc, .slice ca S.custs.length cc, .slice oa S.cost.length oc, .slice ta S.time.length tc, .bool S.tight, .bool S.loose] 40)).cell? ⟨w.heap.size, j, none⟩ = some u := fun j u hu => by rw [World.cell?_alloc_new]; exact hu
  have gA : w.heap.size < (w.alloc (.cells #[Value.int .u8 S.fin, .int .u8 S.tm, .int .u8 S.tr, .int .u8 S.bm, .int .u8 S.br, .slice sa S.sats.length sc, .slice ca S.custs.length cc, .slice oa S.cost.length oc, .slice ta S.time.length tc, .bool S.tight, .bool S.loose] 40)).heap.size := by simp
  replace DD := Lib.hid DD
  replace BW := Lib.hid BW
  go_enter Try.func12, Try.ntmps12
  go_wp2_with fail
  refine (awake13_any _).mono ?_
  rintro e W ⟨rfl, hA⟩
  generalize (w.alloc (.cells #[Value.int .u8 S.fin, .int .u8 S.tm, .int .u8 S.tr, .int .u8 S.bm, .int .u8 S.br, .slice sa S.sats.length sc, .slice ca S.custs.length cc, .slice oa S.cost.length oc, .slice ta S.time.length tc, .bool S.tight, .bool S.loose] 40)) = WA at *
  generalize hg : w.heap.size = g at *
  replace hg := Lib.hid hg
  replace H := Lib.hid (H.out.below hA)
  have d0 : W.cell? ⟨g, 0, none⟩ = some (Value.int .u8 S.fin) := keep_cell hA (DD.out 0 _ rfl)
  have d1 : W.cell? ⟨g, 1, none⟩ = some (.int .u8 S.tm) := keep_cell hA (DD.out 1 _ rfl)
  have d2 : W.cell? ⟨g, 2, none⟩ = some (.int .u8 S.tr) := keep_cell hA (DD.out 2 _ rfl)
  have d3 : W.cell? ⟨g, 3, none⟩ = some (.int .u8 S.bm) := keep_cell hA (DD.out 3 _ rfl)
  have d4 : W.cell? ⟨g, 4, none⟩ = some (.int .u8 S.br) := keep_cell hA (DD.out 4 _ rfl)
  have d5 : W.cell? ⟨g, 5, none⟩ = some (.slice sa S.sats.length sc) := keep_cell hA (DD.out 5 _ rfl)
  have d6 : W.cell? ⟨g, 6, none⟩ = some (.slice ca S.custs.length cc) := keep_cell hA (DD.out 6 _ rfl)
  have d7 : W.cell? ⟨g, 7, none⟩ = some (.slice oa S.cost.length oc) := keep_cell hA (DD.out 7 _ rfl)
  have d8 : W.cell? ⟨g, 8, none⟩ = some (.slice ta S.time.length tc) := keep_cell hA (DD.out 8 _ rfl)
  have d9 : W.cell? ⟨g, 9, none⟩ = some (.bool S.tight) := keep_cell hA (DD.out 9 _ rfl)
  have d10 : W.cell? ⟨g, 10, none⟩ = some (.bool S.loose) := keep_cell hA (DD.out 10 _ rfl)
  have g1 : g < W.heap.size := Nat.lt_of_lt_of_le gA hA.size
  have hW := Lib.hid (BW.out.trans (hA.mono (by have := hg.out; have := gA; omega)))
  clear BW hA gA DD
  obtain ⟨w3, rfl⟩ : ∃ w3 : World, w3 = W := ⟨_, rfl⟩
  have KD : ∀ w' : World, Below w3.heap.size w3 w' → w'.cell? ⟨g, 0, none⟩ = some (Value.int .u8 S.fin) ∧ w'.cell? ⟨g, 1, none⟩ = some (.int .u8 S.tm) ∧ w'.cell? ⟨g, 2, none⟩ = some (.int .u8 S.tr) ∧ w'.cell? ⟨g, 3, none⟩ = some (.int .u8 S.bm) ∧ w'.cell? ⟨g, 4, none⟩ = some (.int .u8 S.br) ∧ w'.cell? ⟨g, 5, none⟩ = some (.slice sa S.sats.length sc) ∧ w'.cell? ⟨g, 6, none⟩ = some (.slice ca S.custs.length cc) ∧ w'.cell? ⟨g, 7, none⟩ = some (.slice oa S.cost.length oc) ∧ w'.cell? ⟨g, 8, none⟩ = some (.slice ta S.time.length tc) ∧ w'.cell? ⟨g, 9, none⟩ = some (.bool S.tight) ∧ w'.cell? ⟨g, 10, none⟩ = some (.bool S.loose) := fun w' hb => ⟨keep_cell hb d0, keep_cell hb d1, keep_cell hb d2, keep_cell hb d3, keep_cell hb d4, keep_cell hb d5, keep_cell hb d6, keep_cell hb d7, keep_cell hb d8, keep_cell hb d9, keep_cell hb d10⟩
  replace KD := Lib.hid KD
  go_upto_region 3 with fail
  refine wp_region_into (fun a0 a' w' => ∃ (U : World) (ha hb : HdD) (ga gb Ba : Nat) (a7 a8 b7 b8 : List Nat), AB w3 U (makeI S) ha hb ga gb Ba a7 a8 b7 b8 w' ∧ a' = ((((((a0.put (some 13) (.agg #[Value.int .u8 S.fin, .int .u8 S.tm, .int .u8 S.tr, .int .u8 S.bm, .int .u8 S.br, .slice sa S.sats.length sc, .slice ca S.custs.length cc, .slice oa S.cost.length oc, .slice ta S.time.length tc, .bool S.tight, .bool S.loose])).put (some 14) (.agg (instC (makeI S) ha))).put (some 15) (.agg #[Value.int .u8 S.fin, .int .u8 S.tm, .int .u8 S.tr, .int .u8 S.bm, .int .u8 S.br, .slice sa S.sats.length sc, .slice ca S.custs.length cc, .slice oa S.cost.length oc, .slice ta S.time.length tc, .bool S.tight, .bool S.loose])).put (some 16) (.agg (instC (makeI S) hb))).put (some 9) (.pointer (some ⟨ga, 0, none⟩))).put (some 10) (.pointer (some ⟨gb, 0, none⟩)))) ?_ ?_
  · rintro a' w' ⟨U, ha, hb, ga, gb, Ba, a7, a8, b7, b8, HAB, rfl⟩
    simp only [Act.put, List.setIfInBounds_toArray, List.set_cons_zero, List.set_cons_succ]
    have hq : (what : Int) % 4 = 0 ∨ (what : Int) % 4 = 1 ∨ (what : Int) % 4 = 2 ∨ (what : Int) % 4 = 3 := by omega
    have hml := Lib.hid (make_len S)
    have hc1 := Lib.hid (show 0 < (makeI S).custs.length from (custsI_len S).1)
    replace HAB := Lib.hid HAB
    go_upto_block 0 with fail
    go_cut [10, 18] (fun s10 s18 wx => s10 = .pointer (some ⟨gb, 0, none⟩) ∧ ApEnd w3 ga gb (makeI S) ha wx)
    case first =>
      clear KD H d0 d1 d2 d3 d4 d5 d6 d7 d8 d9 d10
      rcases hq with hq | hq | hq | hq
      · have cj : w'.cell? ⟨gb, 0, none⟩ = some (.int .i64 (makeI S).fin) := cell_of_row w' gb 0 _ _ _ HAB.out.xb
        have fj := frozen_of_row w' gb 0 _ _ HAB.out.xb
        have hF := hLit.out.1
        have HZ := Lib.hid (HAB.out.ap_fin ((makeI S).fin + (n : Int)) (ok_fin K.out _ (by omega) (by omega)))
        go_wp2_with fail
        go_meet
        exact ⟨rfl, HZ.out⟩
      · obtain ⟨hsa, hsc, hca, hcc, hoa, hoc, hta, htc⟩ := hb
        have hcl : at_ % (makeI S).custs.length < (makeI S).custs.length := Nat.mod_lt _ hc1.out
        have hy := hLit.out.2.1 _ (List.getElem_mem hcl)
        obtain ⟨gs, hgs, hv, hf, HZ⟩ := HAB.out.ap_stay K.out ((makeI S).custs[at_ % (makeI S).custs.length].stay + (n : Int)) (by omega) (by omega) _ hcl
        dsimp only at hgs
        subst hgs
        have hb6 : w'.cell? ⟨gb, 6, none⟩ = some (.slice (some ⟨gs, 0, none⟩) (makeI S).custs.length hcc) := cell_of_row w' gb 6 _ _ _ HAB.out.xb
        replace HZ := Lib.hid HZ
        go_upto_region 8 with fail
        have p1 : IntKind.i64.wrap (at_ : Int) = (at_ : Int) := IntWalk.i64_in _ (by omega)
        have p2 : IntKind.i64.wrap (n : Int) = (n : Int) := IntWalk.i64_in _ (by omega)
        have p5 : (at_ : Int).tmod ((makeI S).custs.length : Int) = ((at_ % (makeI S).custs.length : Nat) : Int) := (Int.ofNat_tmod at_ _).symm
        have p7 : ¬ (makeI S).custs = [] := fun e => by have := hc1.out; rw [e] at this; simp at this
        have k0 : (0 : Int) ≤ ((at_ % (makeI S).custs.length : Nat) : Int) := by omega
        have k1 : ((at_ % (makeI S).custs.length : Nat) : Int) < ((makeI S).custs.length : Int) := by omega
        generalize hgy : (makeI S).custs[at_ % (makeI S).custs.length].stay = y at *
        have p6 : IntKind.i64.wrap (y + (n : Int)) = y + (n : Int) := IntWalk.i64_in _ (by omega)
        clear hgy
        generalize at_ % (makeI S).custs.length = t at *
        refine wp_region_N (fun j => decide (j < 16)) (fun wz => wz.cell? ⟨gb, 6, none⟩ = some (.slice (some ⟨gs, 0, none⟩) (makeI S).custs.length hcc) ∧ wz.cell? ⟨gs, t * 4 + 3, none⟩ = some (.int .i64 y)) (by kernel_rfl) ⟨hb6, hv⟩ (fun hShut hHeld => ?_)
        refine wpAnyN_take_0 (v := ?v1n) ?_ ?_ ?_ ?_ ?_ ?hy1n ?_ ?_ ?_
        case hy1n =>
          refine Or.inl ⟨by rfl, ?_⟩
          intro w hSw
          try dsimp only at hSw
          go_simp
          try with_reducible rfl
        · kernel_rfl
        · kernel_rfl
        · kernel_rfl
        · kernel_rfl
        · exact fun _ _ _ h => h
        · exact hHeld
        · exact hShut
        clear hShut
        intro hShut
        try simp only [Act.put, List.setIfInBounds_toArray, List.set_cons_zero, List.set_cons_succ]
        refine wpAnyN_take_1 (v := ?v2n) ?_ ?_ ?_ ?_ ?_ ?hy2n ?_ ?_ ?_
        case hy2n =>
          refine Or.inl ⟨by rfl, ?_⟩
          intro w hSw
          try dsimp only at hSw
          go_simp
          try with_reducible rfl
        · kernel_rfl
        · kernel_rfl
        · kernel_rfl
        · kernel_rfl
        · exact fun _ _ _ h => h
        · exact hHeld
        · exact hShut
        clear hShut
        intro hShut
        try simp only [Act.put, List.setIfInBounds_toArray, List.set_cons_zero, List.set_cons_succ]
        refine wpAnyN_take_2 (v := ?v3n) ?_ ?_ ?_ ?_ ?_ ?hy3n ?_ ?_ ?_
        case hy3n =>
          refine Or.inl ⟨by rfl, ?_⟩
          intro w hSw
          try dsimp only at hSw
          go_simp
          try with_reducible rfl
        · kernel_rfl
        · kernel_rfl
        · kernel_rfl
        · kernel_rfl
        · exact fun _ _ _ h => h
        · exact hHeld
        · exact hShut
        clear hShut
        intro hShut
        try simp only [Act.put, List.setIfInBounds_toArray, List.set_cons_zero, List.set_cons_succ]
        refine wpAnyN_take_3 (v := ?v4n) ?_ ?_ ?_ ?_ ?_ ?hy4n ?_ ?_ ?_
        case hy4n =>
          refine Or.inl ⟨by rfl, ?_⟩
          intro w hSw
          try dsimp only at hSw
          go_simp
          try with_reducible rfl
        · kernel_rfl
        · kernel_rfl
        · kernel_rfl
        · kernel_rfl
        · exact fun _ _ _ h => h
        · exact hHeld
        · exact hShut
        clear hShut
        intro hShut
        try simp only [Act.put, List.setIfInBounds_toArray, List.set_cons_zero, List.set_cons_succ]
        refine wpAnyN_take_4 (v := ?v5n) ?_ ?_ ?_ ?_ ?_ ?hy5n ?_ ?_ ?_
        case hy5n =>
          refine Or.inl ⟨by rfl, ?_⟩
          intro w hSw
          try dsimp only at hSw
          go_simp
          try with_reducible rfl
        · kernel_rfl
        · kernel_rfl
        · kernel_rfl
        · kernel_rfl
        · exact fun _ _ _ h => h
        · exact hHeld
        · exact hShut
        clear hShut
        intro hShut
        try simp only [Act.put, List.setIfInBounds_toArray, List.set_cons_zero, List.set_cons_succ]
        refine wpAnyN_take_5 (v := ?v6n) ?_ ?_ ?_ ?_ ?_ ?hy6n ?_ ?_ ?_
        case hy6n =>
          refine Or.inl ⟨by rfl, ?_⟩
          intro w hSw
          try dsimp only at hSw
          go_simp
          try with_reducible rfl
        · kernel_rfl
        · kernel_rfl
        · kernel_rfl
        · kernel_rfl
        · exact fun _ _ _ h => h
        · exact hHeld
        · exact hShut
        clear hShut
        intro hShut
        try simp only [Act.put, List.setIfInBounds_toArray, List.set_cons_zero, List.set_cons_succ]
        refine wpAnyN_take_6 (v := ?v7n) ?_ ?_ ?_ ?_ ?_ ?hy7n ?_ ?_ ?_
        case hy7n =>
          refine Or.inl ⟨by rfl, ?_⟩
          intro w hSw
          try dsimp only at hSw
          go_simp
          try with_reducible rfl
        · kernel_rfl
        · kernel_rfl
        · kernel_rfl
        · kernel_rfl
        · exact fun _ _ _ h => h
        · exact hHeld
        · exact hShut
        clear hShut
        intro hShut
        try simp only [Act.put, List.setIfInBounds_toArray, List.set_cons_zero, List.set_cons_succ]
        refine wpAnyN_take_7 (v := ?v8n) ?_ ?_ ?_ ?_ ?_ ?hy8n ?_ ?_ ?_
        case hy8n =>
          refine Or.inl ⟨by rfl, ?_⟩
          intro w hSw
          try dsimp only at hSw
          go_simp
          try with_reducible rfl
        · kernel_rfl
        · kernel_rfl
        · kernel_rfl
        · kernel_rfl
        · exact fun _ _ _ h => h
        · exact hHeld
        · exact hShut
        clear hShut
        intro hShut
        try simp only [Act.put, List.setIfInBounds_toArray, List.set_cons_zero, List.set_cons_succ]
        refine wpAnyN_take_8 (v := ?v9n) ?_ ?_ ?_ ?_ ?_ ?hy9n ?_ ?_ ?_
        case hy9n =>
          refine Or.inl ⟨by rfl, ?_⟩
          intro w hSw
          try dsimp only at hSw
          go_simp
          try with_reducible rfl
        · kernel_rfl
        · kernel_rfl
        · kernel_rfl
        · kernel_rfl
        · exact fun _ _ _ h => h
        · exact hHeld
        · exact hShut
        clear hShut
        intro hShut
        try simp only [Act.put, List.setIfInBounds_toArray, List.set_cons_zero, List.set_cons_succ]
        refine wpAnyN_take_9 (v := ?v10n) ?_ ?_ ?_ ?_ ?_ ?hy10n ?_ ?_ ?_
        case hy10n =>
          refine Or.inl ⟨by rfl, ?_⟩
          intro w hSw
          try dsimp only at hSw
          go_simp
          try with_reducible rfl
        · kernel_rfl
        · kernel_rfl
        · kernel_rfl
        · kernel_rfl
        · exact fun _ _ _ h => h
        · exact hHeld
        · exact hShut
        clear hShut
        intro hShut
        try simp only [Act.put, List.setIfInBounds_toArray, List.set_cons_zero, List.set_cons_succ]
        refine wpAnyN_take_10 (v := ?v11n) ?_ ?_ ?_ ?_ ?_ ?hy11n ?_ ?_ ?_
        case hy11n =>
          refine Or.inl ⟨by rfl, ?_⟩
          intro w hSw
          try dsimp only at hSw
          go_simp
          try with_reducible rfl
        · kernel_rfl
        · kernel_rfl
        · kernel_rfl
        · kernel_rfl
        · exact fun _ _ _ h => h
        · exact hHeld
        · exact hShut
        clear hShut
        intro hShut
        try simp only [Act.put, List.setIfInBounds_toArray, List.set_cons_zero, List.set_cons_succ]
        refine wpAnyN_take_11 (v := ?v12n) ?_ ?_ ?_ ?_ ?_ ?hy12n ?_ ?_ ?_
        case hy12n =>
          refine Or.inl ⟨by rfl, ?_⟩
          intro w hSw
          try dsimp only at hSw
          go_simp
          try with_reducible rfl
        · kernel_rfl
        · kernel_rfl
        · kernel_rfl
        · kernel_rfl
        · exact fun _ _ _ h => h
        · exact hHeld
        · exact hShut
        clear hShut
        intro hShut
        try simp only [Act.put, List.setIfInBounds_toArray, List.set_cons_zero, List.set_cons_succ]
        refine wpAnyN_take_12 (v := ?v13n) ?_ ?_ ?_ ?_ ?_ ?hy13n ?_ ?_ ?_
        case hy13n =>
          refine Or.inl ⟨by rfl, ?_⟩
          intro w hSw
          try dsimp only at hSw
          go_simp
          try with_reducible rfl
        · kernel_rfl
        · kernel_rfl
        · kernel_rfl
        · kernel_rfl
        · exact fun _ _ _ h => h
        · exact hHeld
        · exact hShut
        clear hShut
        intro hShut
        try simp only [Act.put, List.setIfInBounds_toArray, List.set_cons_zero, List.set_cons_succ]
        refine wpAnyN_take_13 (v := ?v14n) ?_ ?_ ?_ ?_ ?_ ?hy14n ?_ ?_ ?_
        case hy14n =>
          refine Or.inl ⟨by rfl, ?_⟩
          intro w hSw
          try dsimp only at hSw
          go_simp
          try with_reducible rfl
        · kernel_rfl
        · kernel_rfl
        · kernel_rfl
        · kernel_rfl
        · exact fun _ _ _ h => h
        · exact hHeld
        · exact hShut
        clear hShut
        intro hShut
        try simp only [Act.put, List.setIfInBounds_toArray, List.set_cons_zero, List.set_cons_succ]
        refine wpAnyN_take_14 (v := ?v15n) ?_ ?_ ?_ ?_ ?_ ?hy15n ?_ ?_ ?_
        case hy15n =>
          refine Or.inl ⟨by rfl, ?_⟩
          intro w hSw
          try dsimp only at hSw
          go_simp
          try with_reducible rfl
        · kernel_rfl
        · kernel_rfl
        · kernel_rfl
        · kernel_rfl
        · exact fun _ _ _ h => h
        · exact hHeld
        · exact hShut
        clear hShut
        intro hShut
        try simp only [Act.put, List.setIfInBounds_toArray, List.set_cons_zero, List.set_cons_succ]
        refine wpAnyN_take_15 (v := ?v16n) ?_ ?_ ?_ ?_ ?_ ?hy16n ?_ ?_ ?_
        case hy16n =>
          refine Or.inl ⟨by rfl, ?_⟩
          intro w hSw
          try dsimp only at hSw
          go_simp
          try with_reducible rfl
        · kernel_rfl
        · kernel_rfl
        · kernel_rfl
        · kernel_rfl
        · exact fun _ _ _ h => h
        · exact hHeld
        · exact hShut
        clear hShut
        intro hShut
        try simp only [Act.put, List.setIfInBounds_toArray, List.set_cons_zero, List.set_cons_succ]
        refine wpAnyN_one_16 (by kernel_rfl) (by exact hShut) (fun K hK => ?_)
        go_simp
        refine hK.out _ _ (fun h => absurd h (by decide)) (fun _ hS2 => ?_)
        clear hK K hShut
        have hShut := hS2
        clear hS2
        try simp only [Act.put, List.setIfInBounds_toArray, List.set_cons_zero, List.set_cons_succ]
        refine wpAnyN_done (by kernel_rfl) ?_ _
        go_wp2_with fail
        go_meet
        exact ⟨rfl, HZ.out.drewn⟩
      · obtain ⟨hsa, hsc, hca, hcc, hoa, hoc, hta, htc⟩ := hb
        have hL := hLit.out
        have htl : (makeI S).time.length = nodesN (makeI S) := K.out.t
        have hi : 0 < (makeI S).time.length := by omega
        have hr1 : (makeI S).time[0].length = nodesN (makeI S) := K.out.rt _ (List.getElem_mem hi)
        have hr : 1 < (makeI S).time[0].length := by omega
        have hy := hL.2.2.1 _ (List.getElem_mem hi) _ (List.getElem_mem hr)
        obtain ⟨gh, gr, hgh, hv0, hv1, hf, HZ⟩ := HAB.out.ap_time K.out ((makeI S).time[0][1] + (n : Int)) (by omega) (by omega) hi (by omega) hr
        dsimp only at hgh
        subst hgh
        have hb8 : w'.cell? ⟨gb, 8, none⟩ = some (.slice (some ⟨gh, 0, none⟩) (makeI S).time.length htc) := cell_of_row w' gb 8 _ _ _ HAB.out.xb
        replace HZ := Lib.hid HZ
        have hn3 := hL.2.2.2
        have k1 : (0 : Int) < ((makeI S).time.length : Int) := by omega
        have k2 : (1 : Int) < (nodesN (makeI S) : Int) := by omega
        generalize (makeI S).time[0][1] = y at *
        clear hL hr hr1
        go_wp2_with fail
        go_meet
        exact ⟨rfl, HZ.out⟩
      · have c2 : w'.cell? ⟨gb, 2, none⟩ = some (.int .i64 (makeI S).tr) := cell_of_row w' gb 2 _ _ _ HAB.out.xb
        have c4 : w'.cell? ⟨gb, 4, none⟩ = some (.int .i64 (makeI S).br) := cell_of_row w' gb 4 _ _ _ HAB.out.xb
        have f2 := frozen_of_row w' gb 2 _ _ HAB.out.xb
        have f4 := frozen_of_row w' gb 4 _ _ HAB.out.xb
        have x1 := heap_set w' gb 2 _ _ (.int .i64 (makeI S).br) HAB.out.xb
        have c42 : (w'.setCell ⟨gb, 2, none⟩ (.int .i64 (makeI S).br)).cell? ⟨gb, 4, none⟩ = some (.int .i64 (makeI S).br) := cell_of_row _ gb 4 _ _ _ x1
        have f42 := frozen_of_row _ gb 4 _ _ x1
        have HZ := Lib.hid (HAB.out.ap_swap K.out)
        clear x1
        go_wp2_with fail
        go_meet
        exact ⟨rfl, HZ.out⟩
    case rest =>
      obtain ⟨rfl, hcut⟩ := hcut
      clear hq hml HAB hc1
      go_upto_region 13 with fail
      obtain ⟨Y2, hY, KY, XA, IA, XB, IB, BW⟩ := hcut
      have RA : ∀ wz : World, Below wc.heap.size wc wz → wz.rangeAt ga 0 [.int .i64 (makeI S).fin, .int .i64 (makeI S).tm, .int .i64 (makeI S).tr, .int .i64 (makeI S).bm, .int .i64 (makeI S).br, .slice ha.sa (makeI S).sats.length ha.sc, .slice ha.ca (makeI S).custs.length ha.cc, .slice ha.oa (makeI S).cost.length ha.oc, .slice ha.ta (makeI S).time.length ha.tc] := fun wz hz => ap_range ((hz.block ga (heap_lt XA)).trans XA)
      have RB : ∀ wz : World, Below wc.heap.size wc wz → wz.rangeAt gb 0 [.int .i64 Y2.fin, .int .i64 Y2.tm, .int .i64 Y2.tr, .int .i64 Y2.bm, .int .i64 Y2.br, .slice hY.sa Y2.sats.length hY.sc, .slice hY.ca Y2.custs.length hY.cc, .slice hY.oa Y2.cost.length hY.oc, .slice hY.ta Y2.time.length hY.tc] := fun wz hz => ap_range ((hz.block gb (heap_lt XB)).trans XB)
      replace RA := Lib.hid RA
      replace RB := Lib.hid RB
      have JA := Lib.hid IA
      have JB := Lib.hid IB
      have hWW := Lib.hid ((On.mk hW.out (Nat.le_of_lt g1)).go BW)
      have HW := Lib.hid (Below.refl wc.heap.size wc).drew
      clear XA IA XB IB BW KD H d0 d1 d2 d3 d4 d5 d6 d7 d8 d9 d10
      have hSA := Lib.hid (fun w (J : InstIs w (makeI S) ha) => show_any (makeI S) ha K.out w J)
      have hSB := Lib.hid (fun w (J : InstIs w Y2 hY) => show_any Y2 hY KY w J)
      have hSS := Lib.hid (fun w (J1 : InstIs w (makeI S) ha) (J2 : InstIs w Y2 hY) => samel_any (makeI S) Y2 ha hY w J1 J2)
      have hcase : (showTx (makeI S) = showTx Y2 ∧ sameB (makeI S) Y2 = true) ∨ (¬ showTx (makeI S) = showTx Y2 ∧ sameB (makeI S) Y2 = false) := by
        by_cases e : makeI S = Y2
        · exact .inl ⟨by rw [e], (sameB_iff _ _).2 e⟩
        · exact .inr ⟨fun h => e (show_inj K.out KY h), by rw [Bool.eq_false_iff]; exact fun h => e ((sameB_iff _ _).1 h)⟩
      generalize showTx (makeI S) = TA at *
      generalize showTx Y2 = TB at *
      generalize sameB (makeI S) Y2 = bb at *
      rcases hcase with ⟨rfl, rfl⟩ | ⟨hne, rfl⟩
      · refine wp_region_N (fun j => decide (j < 10)) (fun wz => Below wc.heap.size wc wz) (by kernel_rfl) HW.out (fun hShut hHeld => ?_)
        refine wpAnyN_take_0 (v := .agg (List.toArray [.int .i64 (makeI S).fin, .int .i64 (makeI S).tm, .int .i64 (makeI S).tr, .int .i64 (makeI S).bm, .int .i64 (makeI S).br, .slice ha.sa (makeI S).sats.length ha.sc, .slice ha.ca (makeI S).custs.length ha.cc, .slice ha.oa (makeI S).cost.length ha.oc, .slice ha.ta (makeI S).time.length ha.tc])) (by kernel_rfl) (by kernel_rfl) (by kernel_rfl) (by kernel_rfl) (fun _ _ _ h => h) (yieldsIf_load_mid (by rfl) 29 _ rfl ga 0 rfl _ _ (fun wz hz => RA.out wz hz) Try.underlying29 rfl (by kernel_rfl)) hHeld hShut (fun hS2 => ?_)
        clear hShut
        have hShut := hS2
        clear hS2
        try simp only [Act.put, List.setIfInBounds_toArray, List.set_cons_zero, List.set_cons_succ]
        refine wpAnyN_take_2 (v := .agg (List.toArray [.int .i64 Y2.fin, .int .i64 Y2.tm, .int .i64 Y2.tr, .int .i64 Y2.bm, .int .i64 Y2.br, .slice hY.sa Y2.sats.length hY.sc, .slice hY.ca Y2.custs.length hY.cc, .slice hY.oa Y2.cost.length hY.oc, .slice hY.ta Y2.time.length hY.tc])) (by kernel_rfl) (by kernel_rfl) (by kernel_rfl) (by kernel_rfl) (fun _ _ _ h => h) (yieldsIf_load_mid (by rfl) 29 _ rfl gb 0 rfl _ _ (fun wz hz => RB.out wz hz) Try.underlying29 rfl (by kernel_rfl)) hHeld hShut (fun hS2 => ?_)
        clear hShut
        have hShut := hS2
        clear hS2
        try simp only [Act.put, List.setIfInBounds_toArray, List.set_cons_zero, List.set_cons_succ]
        refine wpAnyN_take_5 (v := .agg (List.toArray [.int .i64 (makeI S).fin, .int .i64 (makeI S).tm, .int .i64 (makeI S).tr, .int .i64 (makeI S).bm, .int .i64 (makeI S).br, .slice ha.sa (makeI S).sats.length ha.sc, .slice ha.ca (makeI S).custs.length ha.cc, .slice ha.oa (makeI S).cost.length ha.oc, .slice ha.ta (makeI S).time.length ha.tc])) (by kernel_rfl) (by kernel_rfl) (by kernel_rfl) (by kernel_rfl) (fun _ _ _ h => h) (yieldsIf_load_mid (by rfl) 29 _ rfl ga 0 rfl _ _ (fun wz hz => RA.out wz hz) Try.underlying29 rfl (by kernel_rfl)) hHeld hShut (fun hS2 => ?_)
        clear hShut
        have hShut := hS2
        clear hS2
        try simp only [Act.put, List.setIfInBounds_toArray, List.set_cons_zero, List.set_cons_succ]
        refine wpAnyN_take_6 (v := .agg (List.toArray [.int .i64 Y2.fin, .int .i64 Y2.tm, .int .i64 Y2.tr, .int .i64 Y2.bm, .int .i64 Y2.br, .slice hY.sa Y2.sats.length hY.sc, .slice hY.ca Y2.custs.length hY.cc, .slice hY.oa Y2.cost.length hY.oc, .slice hY.ta Y2.time.length hY.tc])) (by kernel_rfl) (by kernel_rfl) (by kernel_rfl) (by kernel_rfl) (fun _ _ _ h => h) (yieldsIf_load_mid (by rfl) 29 _ rfl gb 0 rfl _ _ (fun wz hz => RB.out wz hz) Try.underlying29 rfl (by kernel_rfl)) hHeld hShut (fun hS2 => ?_)
        clear hShut
        have hShut := hS2
        clear hS2
        try simp only [Act.put, List.setIfInBounds_toArray, List.set_cons_zero, List.set_cons_succ]
        refine wpAnyN_one_1 (by kernel_rfl) (by exact hShut) (fun K hK => ?_)
        go_simp
        refine (hSA.out _ (JA.out.below HW.out)).mono ?_
        rintro e wz1 ⟨rfl, hbz⟩
        go_wp2_with fail
        replace HW := Lib.hid (HW.out.trans (hbz.mono HW.out.size))
        clear hbz
        refine hK.out _ _ (fun _ => (by exact HW.out)) (fun hH hS2 => ?_)
        clear hK K hHeld hShut
        have hShut := hS2
        clear hS2
        have hHeld := hH rfl
        clear hH
        try simp only [Act.put, List.setIfInBounds_toArray, List.set_cons_zero, List.set_cons_succ]
        refine wpAnyN_one_3 (by kernel_rfl) (by exact hShut) (fun K hK => ?_)
        go_simp
        refine (hSB.out _ (JB.out.below HW.out)).mono ?_
        rintro e wz3 ⟨rfl, hbz⟩
        go_wp2_with fail
        replace HW := Lib.hid (HW.out.trans (hbz.mono HW.out.size))
        clear hbz
        refine hK.out _ _ (fun _ => (by exact HW.out)) (fun hH hS2 => ?_)
        clear hK K hHeld hShut
        have hShut := hS2
        clear hS2
        have hHeld := hH rfl
        clear hH
        try simp only [Act.put, List.setIfInBounds_toArray, List.set_cons_zero, List.set_cons_succ]
        refine wpAnyN_take_4 (v := ?v17n) ?_ ?_ ?_ ?_ ?_ ?hy17n ?_ ?_ ?_
        case hy17n =>
          refine Or.inl ⟨by rfl, ?_⟩
          intro w hSw
          try dsimp only at hSw
          go_simp
          try with_reducible rfl
        · kernel_rfl
        · kernel_rfl
        · kernel_rfl
        · kernel_rfl
        · exact fun _ _ _ h => h
        · exact hHeld
        · exact hShut
        clear hShut
        intro hShut
        try simp only [Act.put, List.setIfInBounds_toArray, List.set_cons_zero, List.set_cons_succ]
        refine wpAnyN_one_7 (by kernel_rfl) (by exact hShut) (fun K hK => ?_)
        go_simp
        refine (hSS.out _ (JA.out.below HW.out) (JB.out.below HW.out)).mono ?_
        rintro e wz7 ⟨rfl, hbz⟩
        go_wp2_with fail
        replace HW := Lib.hid (HW.out.trans (hbz.mono HW.out.size))
        clear hbz
        refine hK.out _ _ (fun _ => (by exact HW.out)) (fun hH hS2 => ?_)
        clear hK K hHeld hShut
        have hShut := hS2
        clear hS2
        have hHeld := hH rfl
        clear hH
        try simp only [Act.put, List.setIfInBounds_toArray, List.set_cons_zero, List.set_cons_succ]
        refine wpAnyN_take_8 (v := ?v18n) ?_ ?_ ?_ ?_ ?_ ?hy18n ?_ ?_ ?_
        case hy18n =>
          refine Or.inl ⟨by rfl, ?_⟩
          intro w hSw
          try dsimp only at hSw
          go_simp
          try with_reducible rfl
        · kernel_rfl
        · kernel_rfl
        · kernel_rfl
        · kernel_rfl
        · exact fun _ _ _ h => h
        · exact hHeld
        · exact hShut
        clear hShut
        intro hShut
        try simp only [Act.put, List.setIfInBounds_toArray, List.set_cons_zero, List.set_cons_succ]
        refine wpAnyN_take_9 (v := ?v19n) ?_ ?_ ?_ ?_ ?_ ?hy19n ?_ ?_ ?_
        case hy19n =>
          refine Or.inl ⟨by rfl, ?_⟩
          intro w hSw
          try dsimp only at hSw
          go_simp
          try with_reducible rfl
        · kernel_rfl
        · kernel_rfl
        · kernel_rfl
        · kernel_rfl
        · exact fun _ _ _ h => h
        · exact hHeld
        · exact hShut
        clear hShut
        intro hShut
        try simp only [Act.put, List.setIfInBounds_toArray, List.set_cons_zero, List.set_cons_succ]
        refine wpAnyN_done (by kernel_rfl) ?_ _
        go_wp2_with fail
        go_ret
        exact ⟨rfl, by first | exact (hWW.out.go HW.out).b | (rw [hg.out]; exact (hWW.out.go HW.out).b)⟩
      · have hne3 : (TA.toList == TB.toList) = false := by
          rw [beq_eq_false_iff_ne, ByteArray.toList_eq, ByteArray.toList_eq]
          exact fun h => hne (L_eq h)
        refine wp_region_N (fun j => decide (j < 10)) (fun wz => Below wc.heap.size wc wz) (by kernel_rfl) HW.out (fun hShut hHeld => ?_)
        refine wpAnyN_take_0 (v := .agg (List.toArray [.int .i64 (makeI S).fin, .int .i64 (makeI S).tm, .int .i64 (makeI S).tr, .int .i64 (makeI S).bm, .int .i64 (makeI S).br, .slice ha.sa (makeI S).sats.length ha.sc, .slice ha.ca (makeI S).custs.length ha.cc, .slice ha.oa (makeI S).cost.length ha.oc, .slice ha.ta (makeI S).time.length ha.tc])) (by kernel_rfl) (by kernel_rfl) (by kernel_rfl) (by kernel_rfl) (fun _ _ _ h => h) (yieldsIf_load_mid (by rfl) 29 _ rfl ga 0 rfl _ _ (fun wz hz => RA.out wz hz) Try.underlying29 rfl (by kernel_rfl)) hHeld hShut (fun hS2 => ?_)
        clear hShut
        have hShut := hS2
        clear hS2
        try simp only [Act.put, List.setIfInBounds_toArray, List.set_cons_zero, List.set_cons_succ]
        refine wpAnyN_take_2 (v := .agg (List.toArray [.int .i64 Y2.fin, .int .i64 Y2.tm, .int .i64 Y2.tr, .int .i64 Y2.bm, .int .i64 Y2.br, .slice hY.sa Y2.sats.length hY.sc, .slice hY.ca Y2.custs.length hY.cc, .slice hY.oa Y2.cost.length hY.oc, .slice hY.ta Y2.time.length hY.tc])) (by kernel_rfl) (by kernel_rfl) (by kernel_rfl) (by kernel_rfl) (fun _ _ _ h => h) (yieldsIf_load_mid (by rfl) 29 _ rfl gb 0 rfl _ _ (fun wz hz => RB.out wz hz) Try.underlying29 rfl (by kernel_rfl)) hHeld hShut (fun hS2 => ?_)
        clear hShut
        have hShut := hS2
        clear hS2
        try simp only [Act.put, List.setIfInBounds_toArray, List.set_cons_zero, List.set_cons_succ]
        refine wpAnyN_take_5 (v := .agg (List.toArray [.int .i64 (makeI S).fin, .int .i64 (makeI S).tm, .int .i64 (makeI S).tr, .int .i64 (makeI S).bm, .int .i64 (makeI S).br, .slice ha.sa (makeI S).sats.length ha.sc, .slice ha.ca (makeI S).custs.length ha.cc, .slice ha.oa (makeI S).cost.length ha.oc, .slice ha.ta (makeI S).time.length ha.tc])) (by kernel_rfl) (by kernel_rfl) (by kernel_rfl) (by kernel_rfl) (fun _ _ _ h => h) (yieldsIf_load_mid (by rfl) 29 _ rfl ga 0 rfl _ _ (fun wz hz => RA.out wz hz) Try.underlying29 rfl (by kernel_rfl)) hHeld hShut (fun hS2 => ?_)
        clear hShut
        have hShut := hS2
        clear hS2
        try simp only [Act.put, List.setIfInBounds_toArray, List.set_cons_zero, List.set_cons_succ]
        refine wpAnyN_take_6 (v := .agg (List.toArray [.int .i64 Y2.fin, .int .i64 Y2.tm, .int .i64 Y2.tr, .int .i64 Y2.bm, .int .i64 Y2.br, .slice hY.sa Y2.sats.length hY.sc, .slice hY.ca Y2.custs.length hY.cc, .slice hY.oa Y2.cost.length hY.oc, .slice hY.ta Y2.time.length hY.tc])) (by kernel_rfl) (by kernel_rfl) (by kernel_rfl) (by kernel_rfl) (fun _ _ _ h => h) (yieldsIf_load_mid (by rfl) 29 _ rfl gb 0 rfl _ _ (fun wz hz => RB.out wz hz) Try.underlying29 rfl (by kernel_rfl)) hHeld hShut (fun hS2 => ?_)
        clear hShut
        have hShut := hS2
        clear hS2
        try simp only [Act.put, List.setIfInBounds_toArray, List.set_cons_zero, List.set_cons_succ]
        refine wpAnyN_one_1 (by kernel_rfl) (by exact hShut) (fun K hK => ?_)
        go_simp
        refine (hSA.out _ (JA.out.below HW.out)).mono ?_
        rintro e wz1 ⟨rfl, hbz⟩
        go_wp2_with fail
        replace HW := Lib.hid (HW.out.trans (hbz.mono HW.out.size))
        clear hbz
        refine hK.out _ _ (fun _ => (by exact HW.out)) (fun hH hS2 => ?_)
        clear hK K hHeld hShut
        have hShut := hS2
        clear hS2
        have hHeld := hH rfl
        clear hH
        try simp only [Act.put, List.setIfInBounds_toArray, List.set_cons_zero, List.set_cons_succ]
        refine wpAnyN_one_3 (by kernel_rfl) (by exact hShut) (fun K hK => ?_)
        go_simp
        refine (hSB.out _ (JB.out.below HW.out)).mono ?_
        rintro e wz3 ⟨rfl, hbz⟩
        go_wp2_with fail
        replace HW := Lib.hid (HW.out.trans (hbz.mono HW.out.size))
        clear hbz
        refine hK.out _ _ (fun _ => (by exact HW.out)) (fun hH hS2 => ?_)
        clear hK K hHeld hShut
        have hShut := hS2
        clear hS2
        have hHeld := hH rfl
        clear hH
        try simp only [Act.put, List.setIfInBounds_toArray, List.set_cons_zero, List.set_cons_succ]
        refine wpAnyN_take_4 (v := ?v20n) ?_ ?_ ?_ ?_ ?_ ?hy20n ?_ ?_ ?_
        case hy20n =>
          refine Or.inl ⟨by rfl, ?_⟩
          intro w hSw
          try dsimp only at hSw
          go_simp
          try with_reducible rfl
        · kernel_rfl
        · kernel_rfl
        · kernel_rfl
        · kernel_rfl
        · exact fun _ _ _ h => h
        · exact hHeld
        · exact hShut
        clear hShut
        intro hShut
        try simp only [Act.put, List.setIfInBounds_toArray, List.set_cons_zero, List.set_cons_succ]
        refine wpAnyN_one_7 (by kernel_rfl) (by exact hShut) (fun K hK => ?_)
        go_simp
        refine (hSS.out _ (JA.out.below HW.out) (JB.out.below HW.out)).mono ?_
        rintro e wz7 ⟨rfl, hbz⟩
        go_wp2_with fail
        replace HW := Lib.hid (HW.out.trans (hbz.mono HW.out.size))
        clear hbz
        refine hK.out _ _ (fun _ => (by exact HW.out)) (fun hH hS2 => ?_)
        clear hK K hHeld hShut
        have hShut := hS2
        clear hS2
        have hHeld := hH rfl
        clear hH
        try simp only [Act.put, List.setIfInBounds_toArray, List.set_cons_zero, List.set_cons_succ]
        refine wpAnyN_take_8 (v := ?v21n) ?_ ?_ ?_ ?_ ?_ ?hy21n ?_ ?_ ?_
        case hy21n =>
          refine Or.inl ⟨by rfl, ?_⟩
          intro w hSw
          try dsimp only at hSw
          go_simp
          try with_reducible rfl
        · kernel_rfl
        · kernel_rfl
        · kernel_rfl
        · kernel_rfl
        · exact fun _ _ _ h => h
        · exact hHeld
        · exact hShut
        clear hShut
        intro hShut
        try simp only [Act.put, List.setIfInBounds_toArray, List.set_cons_zero, List.set_cons_succ]
        refine wpAnyN_take_9 (v := ?v22n) ?_ ?_ ?_ ?_ ?_ ?hy22n ?_ ?_ ?_
        case hy22n =>
          refine Or.inl ⟨by rfl, ?_⟩
          intro w hSw
          try dsimp only at hSw
          go_simp
          try with_reducible rfl
        · kernel_rfl
        · kernel_rfl
        · kernel_rfl
        · kernel_rfl
        · exact fun _ _ _ h => h
        · exact hHeld
        · exact hShut
        clear hShut
        intro hShut
        try simp only [Act.put, List.setIfInBounds_toArray, List.set_cons_zero, List.set_cons_succ]
        refine wpAnyN_done (by kernel_rfl) ?_ _
        go_wp2_with fail
        go_ret
        exact ⟨rfl, by first | exact (hWW.out.go HW.out).b | (rw [hg.out]; exact (hWW.out.go HW.out).b)⟩
  · refine wp_region_N (fun j => decide (j < 6)) (fun wz => (wz.cell? ⟨g, 0, none⟩ = some (Value.int .u8 S.fin) ∧ wz.cell? ⟨g, 1, none⟩ = some (.int .u8 S.tm) ∧ wz.cell? ⟨g, 2, none⟩ = some (.int .u8 S.tr) ∧ wz.cell? ⟨g, 3, none⟩ = some (.int .u8 S.bm) ∧ wz.cell? ⟨g, 4, none⟩ = some (.int .u8 S.br) ∧ wz.cell? ⟨g, 5, none⟩ = some (.slice sa S.sats.length sc) ∧ wz.cell? ⟨g, 6, none⟩ = some (.slice ca S.custs.length cc) ∧ wz.cell? ⟨g, 7, none⟩ = some (.slice oa S.cost.length oc) ∧ wz.cell? ⟨g, 8, none⟩ = some (.slice ta S.time.length tc) ∧ wz.cell? ⟨g, 9, none⟩ = some (.bool S.tight) ∧ wz.cell? ⟨g, 10, none⟩ = some (.bool S.loose)) ∧ Below w3.heap.size w3 wz) (by kernel_rfl) (by exact ⟨KD.out _ (Below.refl _ _).drew, (Below.refl _ _).drew⟩) (fun hShut hHeld => ?_)
    have HB := Lib.hid ((Below.refl w3.heap.size w3).drew)
    generalize w3.drew = V0 at *
    refine wpAnyN_take_0 (v := ?v23n) ?_ ?_ ?_ ?_ ?_ ?hy23n ?_ ?_ ?_
    case hy23n =>
      refine Or.inl ⟨by rfl, ?_⟩
      intro w hSw
      try dsimp only at hSw
      go_simp
      try with_reducible rfl
    · kernel_rfl
    · kernel_rfl
    · kernel_rfl
    · kernel_rfl
    · exact fun _ _ _ h => h
    · exact hHeld
    · exact hShut
    clear hShut
    intro hShut
    try simp only [Act.put, List.setIfInBounds_toArray, List.set_cons_zero, List.set_cons_succ]
    refine wpAnyN_take_2 (v := ?v24n) ?_ ?_ ?_ ?_ ?_ ?hy24n ?_ ?_ ?_
    case hy24n =>
      refine Or.inl ⟨by rfl, ?_⟩
      intro w hSw
      try dsimp only at hSw
      go_simp
      try with_reducible rfl
    · kernel_rfl
    · kernel_rfl
    · kernel_rfl
    · kernel_rfl
    · exact fun _ _ _ h => h
    · exact hHeld
    · exact hShut
    clear hShut
    intro hShut
    try simp only [Act.put, List.setIfInBounds_toArray, List.set_cons_zero, List.set_cons_succ]
    refine wpAnyN_of_1_4_5 (by kernel_rfl) (by exact hShut) (fun K hK => ?_) (fun K hK => ?_) (fun K hK => ?_)
    · go_simp
      refine (make_any S ⟨sa, sc, ca, cc, oa, oc, ta, tc⟩ _ (H.out.below HB.out)).mono ?_
      rintro e V1 ⟨ha, a7, a8, rfl, HM, hb⟩
      go_wp2_with fail
      replace HB := Lib.hid (HB.out.trans (hb.mono HB.out.size))
      have HMA := Lib.hid HM
      clear HM hb
      refine hK.out _ _ (fun _ => (by exact ⟨KD.out _ HB.out, HB.out⟩)) (fun hH hS2 => ?_)
      clear hK K hHeld hShut
      have hShut := hS2
      clear hS2
      have hHeld := hH rfl
      clear hH
      try simp only [Act.put, List.setIfInBounds_toArray, List.set_cons_zero, List.set_cons_succ]
      refine wpAnyN_of_3_4_5 (by kernel_rfl) (by exact hShut) (fun K hK => ?_) (fun K hK => ?_) (fun K hK => ?_)
      · go_simp
        refine (make_any S ⟨sa, sc, ca, cc, oa, oc, ta, tc⟩ _ (H.out.below HB.out)).mono ?_
        rintro e V2 ⟨hb', b7, b8, rfl, HM, hb⟩
        go_wp2_with fail
        have HU := Lib.hid HB.out.size
        replace HB := Lib.hid (HB.out.trans (hb.mono HB.out.size))
        have HMB := Lib.hid HM
        have HAg := Lib.hid ((Agree.refl V1).below hb)
        have HV := Lib.hid hb.size
        clear HM hb
        refine hK.out _ _ (fun _ => (by exact ⟨KD.out _ HB.out, HB.out⟩)) (fun hH hS2 => ?_)
        clear hK K hHeld hShut
        have hShut := hS2
        clear hS2
        have hHeld := hH rfl
        clear hH
        try simp only [Act.put, List.setIfInBounds_toArray, List.set_cons_zero, List.set_cons_succ]
        refine wpAnyN_of_4_5 (by kernel_rfl) (by exact hShut) (fun K hK => ?_) (fun K hK => ?_)
        · go_simp
          go_wp2_with fail
          have hb : Below V2.heap.size V2 (V2.alloc (.cells #[.int .i64 0, .int .i64 0, .int .i64 0, .int .i64 0, .int .i64 0, .slice none 0 0, .slice none 0 0, .slice none 0 0, .slice none 0 0] 29)) := (Below.refl _ _).alloc (Nat.le_refl _) _
          have hn := heap_alloc_new V2 (.cells #[.int .i64 0, .int .i64 0, .int .i64 0, .int .i64 0, .int .i64 0, .slice none 0 0, .slice none 0 0, .slice none 0 0, .slice none 0 0] 29)
          have NA := Lib.hid HB.out.size
          have XUA := Lib.hid (fun (cur : Array Value) (T : TypeId) (hk : V1.heap[V2.heap.size]? = some (.cells cur T (0, 0))) => (absurd (heap_lt hk) (by have := HV.out; omega) : T = 29))
          replace HAg := Lib.hid (HAg.out.below hb)
          replace HMB := Lib.hid (HMB.out.below hb)
          replace HV := Lib.hid (Nat.le_trans HV.out hb.size)
          replace HB := Lib.hid (HB.out.trans (hb.mono HB.out.size))
          have XA := Lib.hid hn
          clear hn hb
          generalize V2.alloc (.cells #[.int .i64 0, .int .i64 0, .int .i64 0, .int .i64 0, .int .i64 0, .slice none 0 0, .slice none 0 0, .slice none 0 0, .slice none 0 0] 29) = V3 at *
          refine hK.out _ _ (fun _ => (by exact ⟨KD.out _ HB.out, HB.out⟩)) (fun hH hS2 => ?_)
          clear hK K hHeld hShut
          have hShut := hS2
          clear hS2
          have hHeld := hH rfl
          clear hH
          try simp only [Act.put, List.setIfInBounds_toArray, List.set_cons_zero, List.set_cons_succ]
          refine wpAnyN_one_5 (by kernel_rfl) (by exact hShut) (fun K hK => ?_)
          go_simp
          go_wp2_with fail
          have hb : Below V3.heap.size V3 (V3.alloc (.cells #[.int .i64 0, .int .i64 0, .int .i64 0, .int .i64 0, .int .i64 0, .slice none 0 0, .slice none 0 0, .slice none 0 0, .slice none 0 0] 29)) := (Below.refl _ _).alloc (Nat.le_refl _) _
          have hn := heap_alloc_new V3 (.cells #[.int .i64 0, .int .i64 0, .int .i64 0, .int .i64 0, .int .i64 0, .slice none 0 0, .slice none 0 0, .slice none 0 0, .slice none 0 0] 29)
          have NB := Lib.hid HB.out.size
          have XUB := Lib.hid (fun (cur : Array Value) (T : TypeId) (hk : V1.heap[V3.heap.size]? = some (.cells cur T (0, 0))) => (absurd (heap_lt hk) (by have := HV.out; omega) : T = 29))
          have NE : V2.heap.size ≠ V3.heap.size := by have := heap_lt XA.out; omega
          replace NE := Lib.hid NE
          replace HAg := Lib.hid (HAg.out.below hb)
          replace HMB := Lib.hid (HMB.out.below hb)
          replace HV := Lib.hid (Nat.le_trans HV.out hb.size)
          replace XA := Lib.hid ((hb.block _ (heap_lt XA.out)).trans XA.out)
          replace HB := Lib.hid (HB.out.trans (hb.mono HB.out.size))
          have XB := Lib.hid hn
          clear hn hb
          generalize V3.alloc (.cells #[.int .i64 0, .int .i64 0, .int .i64 0, .int .i64 0, .int .i64 0, .slice none 0 0, .slice none 0 0, .slice none 0 0, .slice none 0 0] 29) = V4 at *
          refine hK.out _ _ (fun _ => (by exact ⟨KD.out _ HB.out, HB.out⟩)) (fun hH hS2 => ?_)
          clear hK K hHeld hShut
          have hShut := hS2
          clear hS2
          have hHeld := hH rfl
          clear hH
          try simp only [Act.put, List.setIfInBounds_toArray, List.set_cons_zero, List.set_cons_succ]
          have HF := Lib.hid (AB0.fill ⟨HMA.out, HAg.out, HU.out, HV.out, HMB.out, XA.out, XB.out, NA.out, NB.out, NE.out, XUA.out, XUB.out, HB.out⟩)
          clear hHeld
          refine wpAnyN_one_6 (by kernel_rfl) (by exact hShut) (fun K hK => ?_)
          refine if_true_of (by rfl) ?_
          refine wp_fill 29 (.tmp 9) (.tmp 14) rfl (V2.heap.size) (makeI S) ha (by first | rfl | simp [Act.eval, Act.put]) (by first | rfl | simp [Act.eval, Act.put]) (by exact XA.out) (size9 _ _) ?_
          refine hK.out _ _ (fun h => absurd h (by decide)) (fun _ hS2 => ?_)
          clear hK K hShut
          have hShut := hS2
          clear hS2
          try simp only [Act.put, List.setIfInBounds_toArray, List.set_cons_zero, List.set_cons_succ]
          refine wpAnyN_one_7 (by kernel_rfl) (by exact hShut) (fun K hK => ?_)
          refine if_true_of (by rfl) ?_
          refine wp_fill 29 (.tmp 10) (.tmp 16) rfl (V3.heap.size) (makeI S) hb' (by first | rfl | simp [Act.eval, Act.put]) (by first | rfl | simp [Act.eval, Act.put]) (by exact HF.out.1) (size9 _ _) ?_
          refine hK.out _ _ (fun h => absurd h (by decide)) (fun _ hS2 => ?_)
          clear hK K hShut
          have hShut := hS2
          clear hS2
          try simp only [Act.put, List.setIfInBounds_toArray, List.set_cons_zero, List.set_cons_succ]
          refine wpAnyN_done (by kernel_rfl) ?_ _
          exact ⟨V1, ha, hb', V2.heap.size, V3.heap.size, _, a7, a8, b7, b8, HF.out.2, by first | rfl | simp [Act.put]⟩
        · go_simp
          go_wp2_with fail
          have hb : Below V2.heap.size V2 (V2.alloc (.cells #[.int .i64 0, .int .i64 0, .int .i64 0, .int .i64 0, .int .i64 0, .slice none 0 0, .slice none 0 0, .slice none 0 0, .slice none 0 0] 29)) := (Below.refl _ _).alloc (Nat.le_refl _) _
          have hn := heap_alloc_new V2 (.cells #[.int .i64 0, .int .i64 0, .int .i64 0, .int .i64 0, .int .i64 0, .slice none 0 0, .slice none 0 0, .slice none 0 0, .slice none 0 0] 29)
          have NB := Lib.hid HB.out.size
          have XUB := Lib.hid (fun (cur : Array Value) (T : TypeId) (hk : V1.heap[V2.heap.size]? = some (.cells cur T (0, 0))) => (absurd (heap_lt hk) (by have := HV.out; omega) : T = 29))
          replace HAg := Lib.hid (HAg.out.below hb)
          replace HMB := Lib.hid (HMB.out.below hb)
          replace HV := Lib.hid (Nat.le_trans HV.out hb.size)
          replace HB := Lib.hid (HB.out.trans (hb.mono HB.out.size))
          have XB := Lib.hid hn
          clear hn hb
          generalize V2.alloc (.cells #[.int .i64 0, .int .i64 0, .int .i64 0, .int .i64 0, .int .i64 0, .slice none 0 0, .slice none 0 0, .slice none 0 0, .slice none 0 0] 29) = V3 at *
          refine hK.out _ _ (fun _ => (by exact ⟨KD.out _ HB.out, HB.out⟩)) (fun hH hS2 => ?_)
          clear hK K hHeld hShut
          have hShut := hS2
          clear hS2
          have hHeld := hH rfl
          clear hH
          try simp only [Act.put, List.setIfInBounds_toArray, List.set_cons_zero, List.set_cons_succ]
          refine wpAnyN_one_4 (by kernel_rfl) (by exact hShut) (fun K hK => ?_)
          go_simp
          go_wp2_with fail
          have hb : Below V3.heap.size V3 (V3.alloc (.cells #[.int .i64 0, .int .i64 0, .int .i64 0, .int .i64 0, .int .i64 0, .slice none 0 0, .slice none 0 0, .slice none 0 0, .slice none 0 0] 29)) := (Below.refl _ _).alloc (Nat.le_refl _) _
          have hn := heap_alloc_new V3 (.cells #[.int .i64 0, .int .i64 0, .int .i64 0, .int .i64 0, .int .i64 0, .slice none 0 0, .slice none 0 0, .slice none 0 0, .slice none 0 0] 29)
          have NA := Lib.hid HB.out.size
          have XUA := Lib.hid (fun (cur : Array Value) (T : TypeId) (hk : V1.heap[V3.heap.size]? = some (.cells cur T (0, 0))) => (absurd (heap_lt hk) (by have := HV.out; omega) : T = 29))
          have NE : V3.heap.size ≠ V2.heap.size := by have := heap_lt XB.out; omega
          replace NE := Lib.hid NE
          replace HAg := Lib.hid (HAg.out.below hb)
          replace HMB := Lib.hid (HMB.out.below hb)
          replace HV := Lib.hid (Nat.le_trans HV.out hb.size)
          replace XB := Lib.hid ((hb.block _ (heap_lt XB.out)).trans XB.out)
          replace HB := Lib.hid (HB.out.trans (hb.mono HB.out.size))
          have XA := Lib.hid hn
          clear hn hb
          generalize V3.alloc (.cells #[.int .i64 0, .int .i64 0, .int .i64 0, .int .i64 0, .int .i64 0, .slice none 0 0, .slice none 0 0, .slice none 0 0, .slice none 0 0] 29) = V4 at *
          refine hK.out _ _ (fun _ => (by exact ⟨KD.out _ HB.out, HB.out⟩)) (fun hH hS2 => ?_)
          clear hK K hHeld hShut
          have hShut := hS2
          clear hS2
          have hHeld := hH rfl
          clear hH
          try simp only [Act.put, List.setIfInBounds_toArray, List.set_cons_zero, List.set_cons_succ]
          have HF := Lib.hid (AB0.fill ⟨HMA.out, HAg.out, HU.out, HV.out, HMB.out, XA.out, XB.out, NA.out, NB.out, NE.out, XUA.out, XUB.out, HB.out⟩)
          clear hHeld
          refine wpAnyN_one_6 (by kernel_rfl) (by exact hShut) (fun K hK => ?_)
          refine if_true_of (by rfl) ?_
          refine wp_fill 29 (.tmp 9) (.tmp 14) rfl (V3.heap.size) (makeI S) ha (by first | rfl | simp [Act.eval, Act.put]) (by first | rfl | simp [Act.eval, Act.put]) (by exact XA.out) (size9 _ _) ?_
          refine hK.out _ _ (fun h => absurd h (by decide)) (fun _ hS2 => ?_)
          clear hK K hShut
          have hShut := hS2
          clear hS2
          try simp only [Act.put, List.setIfInBounds_toArray, List.set_cons_zero, List.set_cons_succ]
          refine wpAnyN_one_7 (by kernel_rfl) (by exact hShut) (fun K hK => ?_)
          refine if_true_of (by rfl) ?_
          refine wp_fill 29 (.tmp 10) (.tmp 16) rfl (V2.heap.size) (makeI S) hb' (by first | rfl | simp [Act.eval, Act.put]) (by first | rfl | simp [Act.eval, Act.put]) (by exact HF.out.1) (size9 _ _) ?_
          refine hK.out _ _ (fun h => absurd h (by decide)) (fun _ hS2 => ?_)
          clear hK K hShut
          have hShut := hS2
          clear hS2
          try simp only [Act.put, List.setIfInBounds_toArray, List.set_cons_zero, List.set_cons_succ]
          refine wpAnyN_done (by kernel_rfl) ?_ _
          exact ⟨V1, ha, hb', V3.heap.size, V2.heap.size, _, a7, a8, b7, b8, HF.out.2, by first | rfl | simp [Act.put]⟩
      · go_simp
        go_wp2_with fail
        have hb : Below V1.heap.size V1 (V1.alloc (.cells #[.int .i64 0, .int .i64 0, .int .i64 0, .int .i64 0, .int .i64 0, .slice none 0 0, .slice none 0 0, .slice none 0 0, .slice none 0 0] 29)) := (Below.refl _ _).alloc (Nat.le_refl _) _
        have hn := heap_alloc_new V1 (.cells #[.int .i64 0, .int .i64 0, .int .i64 0, .int .i64 0, .int .i64 0, .slice none 0 0, .slice none 0 0, .slice none 0 0, .slice none 0 0] 29)
        have NA := Lib.hid HB.out.size
        replace HMA := Lib.hid (HMA.out.below hb)
        replace HB := Lib.hid (HB.out.trans (hb.mono HB.out.size))
        have XA := Lib.hid hn
        clear hn hb
        generalize V1.alloc (.cells #[.int .i64 0, .int .i64 0, .int .i64 0, .int .i64 0, .int .i64 0, .slice none 0 0, .slice none 0 0, .slice none 0 0, .slice none 0 0] 29) = V2 at *
        refine hK.out _ _ (fun _ => (by exact ⟨KD.out _ HB.out, HB.out⟩)) (fun hH hS2 => ?_)
        clear hK K hHeld hShut
        have hShut := hS2
        clear hS2
        have hHeld := hH rfl
        clear hH
        try simp only [Act.put, List.setIfInBounds_toArray, List.set_cons_zero, List.set_cons_succ]
        refine wpAnyN_of_3_5 (by kernel_rfl) (by exact hShut) (fun K hK => ?_) (fun K hK => ?_)
        · go_simp
          refine (make_any S ⟨sa, sc, ca, cc, oa, oc, ta, tc⟩ _ (H.out.below HB.out)).mono ?_
          rintro e V3 ⟨hb', b7, b8, rfl, HM, hb⟩
          go_wp2_with fail
          have HU := Lib.hid HB.out.size
          have XUA := Lib.hid (fun (cur : Array Value) (T : TypeId) (hk : V2.heap[V1.heap.size]? = some (.cells cur T (0, 0))) => ty_of XA.out hk)
          replace XA := Lib.hid ((hb.block _ (heap_lt XA.out)).trans XA.out)
          replace HB := Lib.hid (HB.out.trans (hb.mono HB.out.size))
          have HMB := Lib.hid HM
          have HAg := Lib.hid ((Agree.refl V2).below hb)
          have HV := Lib.hid hb.size
          clear HM hb
          refine hK.out _ _ (fun _ => (by exact ⟨KD.out _ HB.out, HB.out⟩)) (fun hH hS2 => ?_)
          clear hK K hHeld hShut
          have hShut := hS2
          clear hS2
          have hHeld := hH rfl
          clear hH
          try simp only [Act.put, List.setIfInBounds_toArray, List.set_cons_zero, List.set_cons_succ]
          refine wpAnyN_one_5 (by kernel_rfl) (by exact hShut) (fun K hK => ?_)
          go_simp
          go_wp2_with fail
          have hb : Below V3.heap.size V3 (V3.alloc (.cells #[.int .i64 0, .int .i64 0, .int .i64 0, .int .i64 0, .int .i64 0, .slice none 0 0, .slice none 0 0, .slice none 0 0, .slice none 0 0] 29)) := (Below.refl _ _).alloc (Nat.le_refl _) _
          have hn := heap_alloc_new V3 (.cells #[.int .i64 0, .int .i64 0, .int .i64 0, .int .i64 0, .int .i64 0, .slice none 0 0, .slice none 0 0, .slice none 0 0, .slice none 0 0] 29)
          have NB := Lib.hid HB.out.size
          have XUB := Lib.hid (fun (cur : Array Value) (T : TypeId) (hk : V2.heap[V3.heap.size]? = some (.cells cur T (0, 0))) => (absurd (heap_lt hk) (by have := HV.out; omega) : T = 29))
          have NE : V1.heap.size ≠ V3.heap.size := by have := heap_lt XA.out; omega
          replace NE := Lib.hid NE
          replace HAg := Lib.hid (HAg.out.below hb)
          replace HMB := Lib.hid (HMB.out.below hb)
          replace HV := Lib.hid (Nat.le_trans HV.out hb.size)
          replace XA := Lib.hid ((hb.block _ (heap_lt XA.out)).trans XA.out)
          replace HB := Lib.hid (HB.out.trans (hb.mono HB.out.size))
          have XB := Lib.hid hn
          clear hn hb
          generalize V3.alloc (.cells #[.int .i64 0, .int .i64 0, .int .i64 0, .int .i64 0, .int .i64 0, .slice none 0 0, .slice none 0 0, .slice none 0 0, .slice none 0 0] 29) = V4 at *
          refine hK.out _ _ (fun _ => (by exact ⟨KD.out _ HB.out, HB.out⟩)) (fun hH hS2 => ?_)
          clear hK K hHeld hShut
          have hShut := hS2
          clear hS2
          have hHeld := hH rfl
          clear hH
          try simp only [Act.put, List.setIfInBounds_toArray, List.set_cons_zero, List.set_cons_succ]
          have HF := Lib.hid (AB0.fill ⟨HMA.out, HAg.out, HU.out, HV.out, HMB.out, XA.out, XB.out, NA.out, NB.out, NE.out, XUA.out, XUB.out, HB.out⟩)
          clear hHeld
          refine wpAnyN_one_6 (by kernel_rfl) (by exact hShut) (fun K hK => ?_)
          refine if_true_of (by rfl) ?_
          refine wp_fill 29 (.tmp 9) (.tmp 14) rfl (V1.heap.size) (makeI S) ha (by first | rfl | simp [Act.eval, Act.put]) (by first | rfl | simp [Act.eval, Act.put]) (by exact XA.out) (size9 _ _) ?_
          refine hK.out _ _ (fun h => absurd h (by decide)) (fun _ hS2 => ?_)
          clear hK K hShut
          have hShut := hS2
          clear hS2
          try simp only [Act.put, List.setIfInBounds_toArray, List.set_cons_zero, List.set_cons_succ]
          refine wpAnyN_one_7 (by kernel_rfl) (by exact hShut) (fun K hK => ?_)
          refine if_true_of (by rfl) ?_
          refine wp_fill 29 (.tmp 10) (.tmp 16) rfl (V3.heap.size) (makeI S) hb' (by first | rfl | simp [Act.eval, Act.put]) (by first | rfl | simp [Act.eval, Act.put]) (by exact HF.out.1) (size9 _ _) ?_
          refine hK.out _ _ (fun h => absurd h (by decide)) (fun _ hS2 => ?_)
          clear hK K hShut
          have hShut := hS2
          clear hS2
          try simp only [Act.put, List.setIfInBounds_toArray, List.set_cons_zero, List.set_cons_succ]
          refine wpAnyN_done (by kernel_rfl) ?_ _
          exact ⟨V2, ha, hb', V1.heap.size, V3.heap.size, _, a7, a8, b7, b8, HF.out.2, by first | rfl | simp [Act.put]⟩
        · go_simp
          go_wp2_with fail
          have hb : Below V2.heap.size V2 (V2.alloc (.cells #[.int .i64 0, .int .i64 0, .int .i64 0, .int .i64 0, .int .i64 0, .slice none 0 0, .slice none 0 0, .slice none 0 0, .slice none 0 0] 29)) := (Below.refl _ _).alloc (Nat.le_refl _) _
          have hn := heap_alloc_new V2 (.cells #[.int .i64 0, .int .i64 0, .int .i64 0, .int .i64 0, .int .i64 0, .slice none 0 0, .slice none 0 0, .slice none 0 0, .slice none 0 0] 29)
          have NB := Lib.hid HB.out.size
          have NE : V1.heap.size ≠ V2.heap.size := by have := heap_lt XA.out; omega
          replace NE := Lib.hid NE
          replace HMA := Lib.hid (HMA.out.below hb)
          replace XA := Lib.hid ((hb.block _ (heap_lt XA.out)).trans XA.out)
          replace HB := Lib.hid (HB.out.trans (hb.mono HB.out.size))
          have XB := Lib.hid hn
          clear hn hb
          generalize V2.alloc (.cells #[.int .i64 0, .int .i64 0, .int .i64 0, .int .i64 0, .int .i64 0, .slice none 0 0, .slice none 0 0, .slice none 0 0, .slice none 0 0] 29) = V3 at *
          refine hK.out _ _ (fun _ => (by exact ⟨KD.out _ HB.out, HB.out⟩)) (fun hH hS2 => ?_)
          clear hK K hHeld hShut
          have hShut := hS2
          clear hS2
          have hHeld := hH rfl
          clear hH
          try simp only [Act.put, List.setIfInBounds_toArray, List.set_cons_zero, List.set_cons_succ]
          refine wpAnyN_one_3 (by kernel_rfl) (by exact hShut) (fun K hK => ?_)
          go_simp
          refine (make_any S ⟨sa, sc, ca, cc, oa, oc, ta, tc⟩ _ (H.out.below HB.out)).mono ?_
          rintro e V4 ⟨hb', b7, b8, rfl, HM, hb⟩
          go_wp2_with fail
          have HU := Lib.hid HB.out.size
          have XUA := Lib.hid (fun (cur : Array Value) (T : TypeId) (hk : V3.heap[V1.heap.size]? = some (.cells cur T (0, 0))) => ty_of XA.out hk)
          have XUB := Lib.hid (fun (cur : Array Value) (T : TypeId) (hk : V3.heap[V2.heap.size]? = some (.cells cur T (0, 0))) => ty_of XB.out hk)
          replace XA := Lib.hid ((hb.block _ (heap_lt XA.out)).trans XA.out)
          replace XB := Lib.hid ((hb.block _ (heap_lt XB.out)).trans XB.out)
          replace HB := Lib.hid (HB.out.trans (hb.mono HB.out.size))
          have HMB := Lib.hid HM
          have HAg := Lib.hid ((Agree.refl V3).below hb)
          have HV := Lib.hid hb.size
          clear HM hb
          refine hK.out _ _ (fun _ => (by exact ⟨KD.out _ HB.out, HB.out⟩)) (fun hH hS2 => ?_)
          clear hK K hHeld hShut
          have hShut := hS2
          clear hS2
          have hHeld := hH rfl
          clear hH
          try simp only [Act.put, List.setIfInBounds_toArray, List.set_cons_zero, List.set_cons_succ]
          have HF := Lib.hid (AB0.fill ⟨HMA.out, HAg.out, HU.out, HV.out, HMB.out, XA.out, XB.out, NA.out, NB.out, NE.out, XUA.out, XUB.out, HB.out⟩)
          clear hHeld
          refine wpAnyN_one_6 (by kernel_rfl) (by exact hShut) (fun K hK => ?_)
          refine if_true_of (by rfl) ?_
          refine wp_fill 29 (.tmp 9) (.tmp 14) rfl (V1.heap.size) (makeI S) ha (by first | rfl | simp [Act.eval, Act.put]) (by first | rfl | simp [Act.eval, Act.put]) (by exact XA.out) (size9 _ _) ?_
          refine hK.out _ _ (fun h => absurd h (by decide)) (fun _ hS2 => ?_)
          clear hK K hShut
          have hShut := hS2
          clear hS2
          try simp only [Act.put, List.setIfInBounds_toArray, List.set_cons_zero, List.set_cons_succ]
          refine wpAnyN_one_7 (by kernel_rfl) (by exact hShut) (fun K hK => ?_)
          refine if_true_of (by rfl) ?_
          refine wp_fill 29 (.tmp 10) (.tmp 16) rfl (V2.heap.size) (makeI S) hb' (by first | rfl | simp [Act.eval, Act.put]) (by first | rfl | simp [Act.eval, Act.put]) (by exact HF.out.1) (size9 _ _) ?_
          refine hK.out _ _ (fun h => absurd h (by decide)) (fun _ hS2 => ?_)
          clear hK K hShut
          have hShut := hS2
          clear hS2
          try simp only [Act.put, List.setIfInBounds_toArray, List.set_cons_zero, List.set_cons_succ]
          refine wpAnyN_done (by kernel_rfl) ?_ _
          exact ⟨V3, ha, hb', V1.heap.size, V2.heap.size, _, a7, a8, b7, b8, HF.out.2, by first | rfl | simp [Act.put]⟩
      · go_simp
        go_wp2_with fail
        have hb : Below V1.heap.size V1 (V1.alloc (.cells #[.int .i64 0, .int .i64 0, .int .i64 0, .int .i64 0, .int .i64 0, .slice none 0 0, .slice none 0 0, .slice none 0 0, .slice none 0 0] 29)) := (Below.refl _ _).alloc (Nat.le_refl _) _
        have hn := heap_alloc_new V1 (.cells #[.int .i64 0, .int .i64 0, .int .i64 0, .int .i64 0, .int .i64 0, .slice none 0 0, .slice none 0 0, .slice none 0 0, .slice none 0 0] 29)
        have NB := Lib.hid HB.out.size
        replace HMA := Lib.hid (HMA.out.below hb)
        replace HB := Lib.hid (HB.out.trans (hb.mono HB.out.size))
        have XB := Lib.hid hn
        clear hn hb
        generalize V1.alloc (.cells #[.int .i64 0, .int .i64 0, .int .i64 0, .int .i64 0, .int .i64 0, .slice none 0 0, .slice none 0 0, .slice none 0 0, .slice none 0 0] 29) = V2 at *
        refine hK.out _ _ (fun _ => (by exact ⟨KD.out _ HB.out, HB.out⟩)) (fun hH hS2 => ?_)
        clear hK K hHeld hShut
        have hShut := hS2
        clear hS2
        have hHeld := hH rfl
        clear hH
        try simp only [Act.put, List.setIfInBounds_toArray, List.set_cons_zero, List.set_cons_succ]
        refine wpAnyN_of_3_4 (by kernel_rfl) (by exact hShut) (fun K hK => ?_) (fun K hK => ?_)
        · go_simp
          refine (make_any S ⟨sa, sc, ca, cc, oa, oc, ta, tc⟩ _ (H.out.below HB.out)).mono ?_
          rintro e V3 ⟨hb', b7, b8, rfl, HM, hb⟩
          go_wp2_with fail
          have HU := Lib.hid HB.out.size
          have XUB := Lib.hid (fun (cur : Array Value) (T : TypeId) (hk : V2.heap[V1.heap.size]? = some (.cells cur T (0, 0))) => ty_of XB.out hk)
          replace XB := Lib.hid ((hb.block _ (heap_lt XB.out)).trans XB.out)
          replace HB := Lib.hid (HB.out.trans (hb.mono HB.out.size))
          have HMB := Lib.hid HM
          have HAg := Lib.hid ((Agree.refl V2).below hb)
          have HV := Lib.hid hb.size
          clear HM hb
          refine hK.out _ _ (fun _ => (by exact ⟨KD.out _ HB.out, HB.out⟩)) (fun hH hS2 => ?_)
          clear hK K hHeld hShut
          have hShut := hS2
          clear hS2
          have hHeld := hH rfl
          clear hH
          try simp only [Act.put, List.setIfInBounds_toArray, List.set_cons_zero, List.set_cons_succ]
          refine wpAnyN_one_4 (by kernel_rfl) (by exact hShut) (fun K hK => ?_)
          go_simp
          go_wp2_with fail
          have hb : Below V3.heap.size V3 (V3.alloc (.cells #[.int .i64 0, .int .i64 0, .int .i64 0, .int .i64 0, .int .i64 0, .slice none 0 0, .slice none 0 0, .slice none 0 0, .slice none 0 0] 29)) := (Below.refl _ _).alloc (Nat.le_refl _) _
          have hn := heap_alloc_new V3 (.cells #[.int .i64 0, .int .i64 0, .int .i64 0, .int .i64 0, .int .i64 0, .slice none 0 0, .slice none 0 0, .slice none 0 0, .slice none 0 0] 29)
          have NA := Lib.hid HB.out.size
          have XUA := Lib.hid (fun (cur : Array Value) (T : TypeId) (hk : V2.heap[V3.heap.size]? = some (.cells cur T (0, 0))) => (absurd (heap_lt hk) (by have := HV.out; omega) : T = 29))
          have NE : V3.heap.size ≠ V1.heap.size := by have := heap_lt XB.out; omega
          replace NE := Lib.hid NE
          replace HAg := Lib.hid (HAg.out.below hb)
          replace HMB := Lib.hid (HMB.out.below hb)
          replace HV := Lib.hid (Nat.le_trans HV.out hb.size)
          replace XB := Lib.hid ((hb.block _ (heap_lt XB.out)).trans XB.out)
          replace HB := Lib.hid (HB.out.trans (hb.mono HB.out.size))
          have XA := Lib.hid hn
          clear hn hb
          generalize V3.alloc (.cells #[.int .i64 0, .int .i64 0, .int .i64 0, .int .i64 0, .int .i64 0, .slice none 0 0, .slice none 0 0, .slice none 0 0, .slice none 0 0] 29) = V4 at *
          refine hK.out _ _ (fun _ => (by exact ⟨KD.out _ HB.out, HB.out⟩)) (fun hH hS2 => ?_)
          clear hK K hHeld hShut
          have hShut := hS2
          clear hS2
          have hHeld := hH rfl
          clear hH
          try simp only [Act.put, List.setIfInBounds_toArray, List.set_cons_zero, List.set_cons_succ]
          have HF := Lib.hid (AB0.fill ⟨HMA.out, HAg.out, HU.out, HV.out, HMB.out, XA.out, XB.out, NA.out, NB.out, NE.out, XUA.out, XUB.out, HB.out⟩)
          clear hHeld
          refine wpAnyN_one_6 (by kernel_rfl) (by exact hShut) (fun K hK => ?_)
          refine if_true_of (by rfl) ?_
          refine wp_fill 29 (.tmp 9) (.tmp 14) rfl (V3.heap.size) (makeI S) ha (by first | rfl | simp [Act.eval, Act.put]) (by first | rfl | simp [Act.eval, Act.put]) (by exact XA.out) (size9 _ _) ?_
          refine hK.out _ _ (fun h => absurd h (by decide)) (fun _ hS2 => ?_)
          clear hK K hShut
          have hShut := hS2
          clear hS2
          try simp only [Act.put, List.setIfInBounds_toArray, List.set_cons_zero, List.set_cons_succ]
          refine wpAnyN_one_7 (by kernel_rfl) (by exact hShut) (fun K hK => ?_)
          refine if_true_of (by rfl) ?_
          refine wp_fill 29 (.tmp 10) (.tmp 16) rfl (V1.heap.size) (makeI S) hb' (by first | rfl | simp [Act.eval, Act.put]) (by first | rfl | simp [Act.eval, Act.put]) (by exact HF.out.1) (size9 _ _) ?_
          refine hK.out _ _ (fun h => absurd h (by decide)) (fun _ hS2 => ?_)
          clear hK K hShut
          have hShut := hS2
          clear hS2
          try simp only [Act.put, List.setIfInBounds_toArray, List.set_cons_zero, List.set_cons_succ]
          refine wpAnyN_done (by kernel_rfl) ?_ _
          exact ⟨V2, ha, hb', V3.heap.size, V1.heap.size, _, a7, a8, b7, b8, HF.out.2, by first | rfl | simp [Act.put]⟩
        · go_simp
          go_wp2_with fail
          have hb : Below V2.heap.size V2 (V2.alloc (.cells #[.int .i64 0, .int .i64 0, .int .i64 0, .int .i64 0, .int .i64 0, .slice none 0 0, .slice none 0 0, .slice none 0 0, .slice none 0 0] 29)) := (Below.refl _ _).alloc (Nat.le_refl _) _
          have hn := heap_alloc_new V2 (.cells #[.int .i64 0, .int .i64 0, .int .i64 0, .int .i64 0, .int .i64 0, .slice none 0 0, .slice none 0 0, .slice none 0 0, .slice none 0 0] 29)
          have NA := Lib.hid HB.out.size
          have NE : V2.heap.size ≠ V1.heap.size := by have := heap_lt XB.out; omega
          replace NE := Lib.hid NE
          replace HMA := Lib.hid (HMA.out.below hb)
          replace XB := Lib.hid ((hb.block _ (heap_lt XB.out)).trans XB.out)
          replace HB := Lib.hid (HB.out.trans (hb.mono HB.out.size))
          have XA := Lib.hid hn
          clear hn hb
          generalize V2.alloc (.cells #[.int .i64 0, .int .i64 0, .int .i64 0, .int .i64 0, .int .i64 0, .slice none 0 0, .slice none 0 0, .slice none 0 0, .slice none 0 0] 29) = V3 at *
          refine hK.out _ _ (fun _ => (by exact ⟨KD.out _ HB.out, HB.out⟩)) (fun hH hS2 => ?_)
          clear hK K hHeld hShut
          have hShut := hS2
          clear hS2
          have hHeld := hH rfl
          clear hH
          try simp only [Act.put, List.setIfInBounds_toArray, List.set_cons_zero, List.set_cons_succ]
          refine wpAnyN_one_3 (by kernel_rfl) (by exact hShut) (fun K hK => ?_)
          go_simp
          refine (make_any S ⟨sa, sc, ca, cc, oa, oc, ta, tc⟩ _ (H.out.below HB.out)).mono ?_
          rintro e V4 ⟨hb', b7, b8, rfl, HM, hb⟩
          go_wp2_with fail
          have HU := Lib.hid HB.out.size
          have XUA := Lib.hid (fun (cur : Array Value) (T : TypeId) (hk : V3.heap[V2.heap.size]? = some (.cells cur T (0, 0))) => ty_of XA.out hk)
          have XUB := Lib.hid (fun (cur : Array Value) (T : TypeId) (hk : V3.heap[V1.heap.size]? = some (.cells cur T (0, 0))) => ty_of XB.out hk)
          replace XA := Lib.hid ((hb.block _ (heap_lt XA.out)).trans XA.out)
          replace XB := Lib.hid ((hb.block _ (heap_lt XB.out)).trans XB.out)
          replace HB := Lib.hid (HB.out.trans (hb.mono HB.out.size))
          have HMB := Lib.hid HM
          have HAg := Lib.hid ((Agree.refl V3).below hb)
          have HV := Lib.hid hb.size
          clear HM hb
          refine hK.out _ _ (fun _ => (by exact ⟨KD.out _ HB.out, HB.out⟩)) (fun hH hS2 => ?_)
          clear hK K hHeld hShut
          have hShut := hS2
          clear hS2
          have hHeld := hH rfl
          clear hH
          try simp only [Act.put, List.setIfInBounds_toArray, List.set_cons_zero, List.set_cons_succ]
          have HF := Lib.hid (AB0.fill ⟨HMA.out, HAg.out, HU.out, HV.out, HMB.out, XA.out, XB.out, NA.out, NB.out, NE.out, XUA.out, XUB.out, HB.out⟩)
          clear hHeld
          refine wpAnyN_one_6 (by kernel_rfl) (by exact hShut) (fun K hK => ?_)
          refine if_true_of (by rfl) ?_
          refine wp_fill 29 (.tmp 9) (.tmp 14) rfl (V2.heap.size) (makeI S) ha (by first | rfl | simp [Act.eval, Act.put]) (by first | rfl | simp [Act.eval, Act.put]) (by exact XA.out) (size9 _ _) ?_
          refine hK.out _ _ (fun h => absurd h (by decide)) (fun _ hS2 => ?_)
          clear hK K hShut
          have hShut := hS2
          clear hS2
          try simp only [Act.put, List.setIfInBounds_toArray, List.set_cons_zero, List.set_cons_succ]
          refine wpAnyN_one_7 (by kernel_rfl) (by exact hShut) (fun K hK => ?_)
          refine if_true_of (by rfl) ?_
          refine wp_fill 29 (.tmp 10) (.tmp 16) rfl (V1.heap.size) (makeI S) hb' (by first | rfl | simp [Act.eval, Act.put]) (by first | rfl | simp [Act.eval, Act.put]) (by exact HF.out.1) (size9 _ _) ?_
          refine hK.out _ _ (fun h => absurd h (by decide)) (fun _ hS2 => ?_)
          clear hK K hShut
          have hShut := hS2
          clear hS2
          try simp only [Act.put, List.setIfInBounds_toArray, List.set_cons_zero, List.set_cons_succ]
          refine wpAnyN_done (by kernel_rfl) ?_ _
          exact ⟨V3, ha, hb', V2.heap.size, V1.heap.size, _, a7, a8, b7, b8, HF.out.2, by first | rfl | simp [Act.put]⟩
    · go_simp
      go_wp2_with fail
      have hb : Below V0.heap.size V0 (V0.alloc (.cells #[.int .i64 0, .int .i64 0, .int .i64 0, .int .i64 0, .int .i64 0, .slice none 0 0, .slice none 0 0, .slice none 0 0, .slice none 0 0] 29)) := (Below.refl _ _).alloc (Nat.le_refl _) _
      have hn := heap_alloc_new V0 (.cells #[.int .i64 0, .int .i64 0, .int .i64 0, .int .i64 0, .int .i64 0, .slice none 0 0, .slice none 0 0, .slice none 0 0, .slice none 0 0] 29)
      have NA := Lib.hid HB.out.size
      replace HB := Lib.hid (HB.out.trans (hb.mono HB.out.size))
      have XA := Lib.hid hn
      clear hn hb
      generalize V0.alloc (.cells #[.int .i64 0, .int .i64 0, .int .i64 0, .int .i64 0, .int .i64 0, .slice none 0 0, .slice none 0 0, .slice none 0 0, .slice none 0 0] 29) = V1 at *
      refine hK.out _ _ (fun _ => (by exact ⟨KD.out _ HB.out, HB.out⟩)) (fun hH hS2 => ?_)
      clear hK K hHeld hShut
      have hShut := hS2
      clear hS2
      have hHeld := hH rfl
      clear hH
      try simp only [Act.put, List.setIfInBounds_toArray, List.set_cons_zero, List.set_cons_succ]
      refine wpAnyN_of_1_5 (by kernel_rfl) (by exact hShut) (fun K hK => ?_) (fun K hK => ?_)
      · go_simp
        refine (make_any S ⟨sa, sc, ca, cc, oa, oc, ta, tc⟩ _ (H.out.below HB.out)).mono ?_
        rintro e V2 ⟨ha, a7, a8, rfl, HM, hb⟩
        go_wp2_with fail
        replace XA := Lib.hid ((hb.block _ (heap_lt XA.out)).trans XA.out)
        replace HB := Lib.hid (HB.out.trans (hb.mono HB.out.size))
        have HMA := Lib.hid HM
        clear HM hb
        refine hK.out _ _ (fun _ => (by exact ⟨KD.out _ HB.out, HB.out⟩)) (fun hH hS2 => ?_)
        clear hK K hHeld hShut
        have hShut := hS2
        clear hS2
        have hHeld := hH rfl
        clear hH
        try simp only [Act.put, List.setIfInBounds_toArray, List.set_cons_zero, List.set_cons_succ]
        refine wpAnyN_of_3_5 (by kernel_rfl) (by exact hShut) (fun K hK => ?_) (fun K hK => ?_)
        · go_simp
          refine (make_any S ⟨sa, sc, ca, cc, oa, oc, ta, tc⟩ _ (H.out.below HB.out)).mono ?_
          rintro e V3 ⟨hb', b7, b8, rfl, HM, hb⟩
          go_wp2_with fail
          have HU := Lib.hid HB.out.size
          have XUA := Lib.hid (fun (cur : Array Value) (T : TypeId) (hk : V2.heap[V0.heap.size]? = some (.cells cur T (0, 0))) => ty_of XA.out hk)
          replace XA := Lib.hid ((hb.block _ (heap_lt XA.out)).trans XA.out)
          replace HB := Lib.hid (HB.out.trans (hb.mono HB.out.size))
          have HMB := Lib.hid HM
          have HAg := Lib.hid ((Agree.refl V2).below hb)
          have HV := Lib.hid hb.size
          clear HM hb
          refine hK.out _ _ (fun _ => (by exact ⟨KD.out _ HB.out, HB.out⟩)) (fun hH hS2 => ?_)
          clear hK K hHeld hShut
          have hShut := hS2
          clear hS2
          have hHeld := hH rfl
          clear hH
          try simp only [Act.put, List.setIfInBounds_toArray, List.set_cons_zero, List.set_cons_succ]
          refine wpAnyN_one_5 (by kernel_rfl) (by exact hShut) (fun K hK => ?_)
          go_simp
          go_wp2_with fail
          have hb : Below V3.heap.size V3 (V3.alloc (.cells #[.int .i64 0, .int .i64 0, .int .i64 0, .int .i64 0, .int .i64 0, .slice none 0 0, .slice none 0 0, .slice none 0 0, .slice none 0 0] 29)) := (Below.refl _ _).alloc (Nat.le_refl _) _
          have hn := heap_alloc_new V3 (.cells #[.int .i64 0, .int .i64 0, .int .i64 0, .int .i64 0, .int .i64 0, .slice none 0 0, .slice none 0 0, .slice none 0 0, .slice none 0 0] 29)
          have NB := Lib.hid HB.out.size
          have XUB := Lib.hid (fun (cur : Array Value) (T : TypeId) (hk : V2.heap[V3.heap.size]? = some (.cells cur T (0, 0))) => (absurd (heap_lt hk) (by have := HV.out; omega) : T = 29))
          have NE : V0.heap.size ≠ V3.heap.size := by have := heap_lt XA.out; omega
          replace NE := Lib.hid NE
          replace HAg := Lib.hid (HAg.out.below hb)
          replace HMB := Lib.hid (HMB.out.below hb)
          replace HV := Lib.hid (Nat.le_trans HV.out hb.size)
          replace XA := Lib.hid ((hb.block _ (heap_lt XA.out)).trans XA.out)
          replace HB := Lib.hid (HB.out.trans (hb.mono HB.out.size))
          have XB := Lib.hid hn
          clear hn hb
          generalize V3.alloc (.cells #[.int .i64 0, .int .i64 0, .int .i64 0, .int .i64 0, .int .i64 0, .slice none 0 0, .slice none 0 0, .slice none 0 0, .slice none 0 0] 29) = V4 at *
          refine hK.out _ _ (fun _ => (by exact ⟨KD.out _ HB.out, HB.out⟩)) (fun hH hS2 => ?_)
          clear hK K hHeld hShut
          have hShut := hS2
          clear hS2
          have hHeld := hH rfl
          clear hH
          try simp only [Act.put, List.setIfInBounds_toArray, List.set_cons_zero, List.set_cons_succ]
          have HF := Lib.hid (AB0.fill ⟨HMA.out, HAg.out, HU.out, HV.out, HMB.out, XA.out, XB.out, NA.out, NB.out, NE.out, XUA.out, XUB.out, HB.out⟩)
          clear hHeld
          refine wpAnyN_one_6 (by kernel_rfl) (by exact hShut) (fun K hK => ?_)
          refine if_true_of (by rfl) ?_
          refine wp_fill 29 (.tmp 9) (.tmp 14) rfl (V0.heap.size) (makeI S) ha (by first | rfl | simp [Act.eval, Act.put]) (by first | rfl | simp [Act.eval, Act.put]) (by exact XA.out) (size9 _ _) ?_
          refine hK.out _ _ (fun h => absurd h (by decide)) (fun _ hS2 => ?_)
          clear hK K hShut
          have hShut := hS2
          clear hS2
          try simp only [Act.put, List.setIfInBounds_toArray, List.set_cons_zero, List.set_cons_succ]
          refine wpAnyN_one_7 (by kernel_rfl) (by exact hShut) (fun K hK => ?_)
          refine if_true_of (by rfl) ?_
          refine wp_fill 29 (.tmp 10) (.tmp 16) rfl (V3.heap.size) (makeI S) hb' (by first | rfl | simp [Act.eval, Act.put]) (by first | rfl | simp [Act.eval, Act.put]) (by exact HF.out.1) (size9 _ _) ?_
          refine hK.out _ _ (fun h => absurd h (by decide)) (fun _ hS2 => ?_)
          clear hK K hShut
          have hShut := hS2
          clear hS2
          try simp only [Act.put, List.setIfInBounds_toArray, List.set_cons_zero, List.set_cons_succ]
          refine wpAnyN_done (by kernel_rfl) ?_ _
          exact ⟨V2, ha, hb', V0.heap.size, V3.heap.size, _, a7, a8, b7, b8, HF.out.2, by first | rfl | simp [Act.put]⟩
        · go_simp
          go_wp2_with fail
          have hb : Below V2.heap.size V2 (V2.alloc (.cells #[.int .i64 0, .int .i64 0, .int .i64 0, .int .i64 0, .int .i64 0, .slice none 0 0, .slice none 0 0, .slice none 0 0, .slice none 0 0] 29)) := (Below.refl _ _).alloc (Nat.le_refl _) _
          have hn := heap_alloc_new V2 (.cells #[.int .i64 0, .int .i64 0, .int .i64 0, .int .i64 0, .int .i64 0, .slice none 0 0, .slice none 0 0, .slice none 0 0, .slice none 0 0] 29)
          have NB := Lib.hid HB.out.size
          have NE : V0.heap.size ≠ V2.heap.size := by have := heap_lt XA.out; omega
          replace NE := Lib.hid NE
          replace HMA := Lib.hid (HMA.out.below hb)
          replace XA := Lib.hid ((hb.block _ (heap_lt XA.out)).trans XA.out)
          replace HB := Lib.hid (HB.out.trans (hb.mono HB.out.size))
          have XB := Lib.hid hn
          clear hn hb
          generalize V2.alloc (.cells #[.int .i64 0, .int .i64 0, .int .i64 0, .int .i64 0, .int .i64 0, .slice none 0 0, .slice none 0 0, .slice none 0 0, .slice none 0 0] 29) = V3 at *
          refine hK.out _ _ (fun _ => (by exact ⟨KD.out _ HB.out, HB.out⟩)) (fun hH hS2 => ?_)
          clear hK K hHeld hShut
          have hShut := hS2
          clear hS2
          have hHeld := hH rfl
          clear hH
          try simp only [Act.put, List.setIfInBounds_toArray, List.set_cons_zero, List.set_cons_succ]
          refine wpAnyN_one_3 (by kernel_rfl) (by exact hShut) (fun K hK => ?_)
          go_simp
          refine (make_any S ⟨sa, sc, ca, cc, oa, oc, ta, tc⟩ _ (H.out.below HB.out)).mono ?_
          rintro e V4 ⟨hb', b7, b8, rfl, HM, hb⟩
          go_wp2_with fail
          have HU := Lib.hid HB.out.size
          have XUA := Lib.hid (fun (cur : Array Value) (T : TypeId) (hk : V3.heap[V0.heap.size]? = some (.cells cur T (0, 0))) => ty_of XA.out hk)
          have XUB := Lib.hid (fun (cur : Array Value) (T : TypeId) (hk : V3.heap[V2.heap.size]? = some (.cells cur T (0, 0))) => ty_of XB.out hk)
          replace XA := Lib.hid ((hb.block _ (heap_lt XA.out)).trans XA.out)
          replace XB := Lib.hid ((hb.block _ (heap_lt XB.out)).trans XB.out)
          replace HB := Lib.hid (HB.out.trans (hb.mono HB.out.size))
          have HMB := Lib.hid HM
          have HAg := Lib.hid ((Agree.refl V3).below hb)
          have HV := Lib.hid hb.size
          clear HM hb
          refine hK.out _ _ (fun _ => (by exact ⟨KD.out _ HB.out, HB.out⟩)) (fun hH hS2 => ?_)
          clear hK K hHeld hShut
          have hShut := hS2
          clear hS2
          have hHeld := hH rfl
          clear hH
          try simp only [Act.put, List.setIfInBounds_toArray, List.set_cons_zero, List.set_cons_succ]
          have HF := Lib.hid (AB0.fill ⟨HMA.out, HAg.out, HU.out, HV.out, HMB.out, XA.out, XB.out, NA.out, NB.out, NE.out, XUA.out, XUB.out, HB.out⟩)
          clear hHeld
          refine wpAnyN_one_6 (by kernel_rfl) (by exact hShut) (fun K hK => ?_)
          refine if_true_of (by rfl) ?_
          refine wp_fill 29 (.tmp 9) (.tmp 14) rfl (V0.heap.size) (makeI S) ha (by first | rfl | simp [Act.eval, Act.put]) (by first | rfl | simp [Act.eval, Act.put]) (by exact XA.out) (size9 _ _) ?_
          refine hK.out _ _ (fun h => absurd h (by decide)) (fun _ hS2 => ?_)
          clear hK K hShut
          have hShut := hS2
          clear hS2
          try simp only [Act.put, List.setIfInBounds_toArray, List.set_cons_zero, List.set_cons_succ]
          refine wpAnyN_one_7 (by kernel_rfl) (by exact hShut) (fun K hK => ?_)
          refine if_true_of (by rfl) ?_
          refine wp_fill 29 (.tmp 10) (.tmp 16) rfl (V2.heap.size) (makeI S) hb' (by first | rfl | simp [Act.eval, Act.put]) (by first | rfl | simp [Act.eval, Act.put]) (by exact HF.out.1) (size9 _ _) ?_
          refine hK.out _ _ (fun h => absurd h (by decide)) (fun _ hS2 => ?_)
          clear hK K hShut
          have hShut := hS2
          clear hS2
          try simp only [Act.put, List.setIfInBounds_toArray, List.set_cons_zero, List.set_cons_succ]
          refine wpAnyN_done (by kernel_rfl) ?_ _
          exact ⟨V3, ha, hb', V0.heap.size, V2.heap.size, _, a7, a8, b7, b8, HF.out.2, by first | rfl | simp [Act.put]⟩
      · go_simp
        go_wp2_with fail
        have hb : Below V1.heap.size V1 (V1.alloc (.cells #[.int .i64 0, .int .i64 0, .int .i64 0, .int .i64 0, .int .i64 0, .slice none 0 0, .slice none 0 0, .slice none 0 0, .slice none 0 0] 29)) := (Below.refl _ _).alloc (Nat.le_refl _) _
        have hn := heap_alloc_new V1 (.cells #[.int .i64 0, .int .i64 0, .int .i64 0, .int .i64 0, .int .i64 0, .slice none 0 0, .slice none 0 0, .slice none 0 0, .slice none 0 0] 29)
        have NB := Lib.hid HB.out.size
        have NE : V0.heap.size ≠ V1.heap.size := by have := heap_lt XA.out; omega
        replace NE := Lib.hid NE
        replace XA := Lib.hid ((hb.block _ (heap_lt XA.out)).trans XA.out)
        replace HB := Lib.hid (HB.out.trans (hb.mono HB.out.size))
        have XB := Lib.hid hn
        clear hn hb
        generalize V1.alloc (.cells #[.int .i64 0, .int .i64 0, .int .i64 0, .int .i64 0, .int .i64 0, .slice none 0 0, .slice none 0 0, .slice none 0 0, .slice none 0 0] 29) = V2 at *
        refine hK.out _ _ (fun _ => (by exact ⟨KD.out _ HB.out, HB.out⟩)) (fun hH hS2 => ?_)
        clear hK K hHeld hShut
        have hShut := hS2
        clear hS2
        have hHeld := hH rfl
        clear hH
        try simp only [Act.put, List.setIfInBounds_toArray, List.set_cons_zero, List.set_cons_succ]
        refine wpAnyN_one_1 (by kernel_rfl) (by exact hShut) (fun K hK => ?_)
        go_simp
        refine (make_any S ⟨sa, sc, ca, cc, oa, oc, ta, tc⟩ _ (H.out.below HB.out)).mono ?_
        rintro e V3 ⟨ha, a7, a8, rfl, HM, hb⟩
        go_wp2_with fail
        replace XA := Lib.hid ((hb.block _ (heap_lt XA.out)).trans XA.out)
        replace XB := Lib.hid ((hb.block _ (heap_lt XB.out)).trans XB.out)
        replace HB := Lib.hid (HB.out.trans (hb.mono HB.out.size))
        have HMA := Lib.hid HM
        clear HM hb
        refine hK.out _ _ (fun _ => (by exact ⟨KD.out _ HB.out, HB.out⟩)) (fun hH hS2 => ?_)
        clear hK K hHeld hShut
        have hShut := hS2
        clear hS2
        have hHeld := hH rfl
        clear hH
        try simp only [Act.put, List.setIfInBounds_toArray, List.set_cons_zero, List.set_cons_succ]
        refine wpAnyN_one_3 (by kernel_rfl) (by exact hShut) (fun K hK => ?_)
        go_simp
        refine (make_any S ⟨sa, sc, ca, cc, oa, oc, ta, tc⟩ _ (H.out.below HB.out)).mono ?_
        rintro e V4 ⟨hb', b7, b8, rfl, HM, hb⟩
        go_wp2_with fail
        have HU := Lib.hid HB.out.size
        have XUA := Lib.hid (fun (cur : Array Value) (T : TypeId) (hk : V3.heap[V0.heap.size]? = some (.cells cur T (0, 0))) => ty_of XA.out hk)
        have XUB := Lib.hid (fun (cur : Array Value) (T : TypeId) (hk : V3.heap[V1.heap.size]? = some (.cells cur T (0, 0))) => ty_of XB.out hk)
        replace XA := Lib.hid ((hb.block _ (heap_lt XA.out)).trans XA.out)
        replace XB := Lib.hid ((hb.block _ (heap_lt XB.out)).trans XB.out)
        replace HB := Lib.hid (HB.out.trans (hb.mono HB.out.size))
        have HMB := Lib.hid HM
        have HAg := Lib.hid ((Agree.refl V3).below hb)
        have HV := Lib.hid hb.size
        clear HM hb
        refine hK.out _ _ (fun _ => (by exact ⟨KD.out _ HB.out, HB.out⟩)) (fun hH hS2 => ?_)
        clear hK K hHeld hShut
        have hShut := hS2
        clear hS2
        have hHeld := hH rfl
        clear hH
        try simp only [Act.put, List.setIfInBounds_toArray, List.set_cons_zero, List.set_cons_succ]
        have HF := Lib.hid (AB0.fill ⟨HMA.out, HAg.out, HU.out, HV.out, HMB.out, XA.out, XB.out, NA.out, NB.out, NE.out, XUA.out, XUB.out, HB.out⟩)
        clear hHeld
        refine wpAnyN_one_6 (by kernel_rfl) (by exact hShut) (fun K hK => ?_)
        refine if_true_of (by rfl) ?_
        refine wp_fill 29 (.tmp 9) (.tmp 14) rfl (V0.heap.size) (makeI S) ha (by first | rfl | simp [Act.eval, Act.put]) (by first | rfl | simp [Act.eval, Act.put]) (by exact XA.out) (size9 _ _) ?_
        refine hK.out _ _ (fun h => absurd h (by decide)) (fun _ hS2 => ?_)
        clear hK K hShut
        have hShut := hS2
        clear hS2
        try simp only [Act.put, List.setIfInBounds_toArray, List.set_cons_zero, List.set_cons_succ]
        refine wpAnyN_one_7 (by kernel_rfl) (by exact hShut) (fun K hK => ?_)
        refine if_true_of (by rfl) ?_
        refine wp_fill 29 (.tmp 10) (.tmp 16) rfl (V1.heap.size) (makeI S) hb' (by first | rfl | simp [Act.eval, Act.put]) (by first | rfl | simp [Act.eval, Act.put]) (by exact HF.out.1) (size9 _ _) ?_
        refine hK.out _ _ (fun h => absurd h (by decide)) (fun _ hS2 => ?_)
        clear hK K hShut
        have hShut := hS2
        clear hS2
        try simp only [Act.put, List.setIfInBounds_toArray, List.set_cons_zero, List.set_cons_succ]
        refine wpAnyN_done (by kernel_rfl) ?_ _
        exact ⟨V3, ha, hb', V0.heap.size, V1.heap.size, _, a7, a8, b7, b8, HF.out.2, by first | rfl | simp [Act.put]⟩
    · go_simp
      go_wp2_with fail
      have hb : Below V0.heap.size V0 (V0.alloc (.cells #[.int .i64 0, .int .i64 0, .int .i64 0, .int .i64 0, .int .i64 0, .slice none 0 0, .slice none 0 0, .slice none 0 0, .slice none 0 0] 29)) := (Below.refl _ _).alloc (Nat.le_refl _) _
      have hn := heap_alloc_new V0 (.cells #[.int .i64 0, .int .i64 0, .int .i64 0, .int .i64 0, .int .i64 0, .slice none 0 0, .slice none 0 0, .slice none 0 0, .slice none 0 0] 29)
      have NB := Lib.hid HB.out.size
      replace HB := Lib.hid (HB.out.trans (hb.mono HB.out.size))
      have XB := Lib.hid hn
      clear hn hb
      generalize V0.alloc (.cells #[.int .i64 0, .int .i64 0, .int .i64 0, .int .i64 0, .int .i64 0, .slice none 0 0, .slice none 0 0, .slice none 0 0, .slice none 0 0] 29) = V1 at *
      refine hK.out _ _ (fun _ => (by exact ⟨KD.out _ HB.out, HB.out⟩)) (fun hH hS2 => ?_)
      clear hK K hHeld hShut
      have hShut := hS2
      clear hS2
      have hHeld := hH rfl
      clear hH
      try simp only [Act.put, List.setIfInBounds_toArray, List.set_cons_zero, List.set_cons_succ]
      refine wpAnyN_of_1_4 (by kernel_rfl) (by exact hShut) (fun K hK => ?_) (fun K hK => ?_)
      · go_simp
        refine (make_any S ⟨sa, sc, ca, cc, oa, oc, ta, tc⟩ _ (H.out.below HB.out)).mono ?_
        rintro e V2 ⟨ha, a7, a8, rfl, HM, hb⟩
        go_wp2_with fail
        replace XB := Lib.hid ((hb.block _ (heap_lt XB.out)).trans XB.out)
        replace HB := Lib.hid (HB.out.trans (hb.mono HB.out.size))
        have HMA := Lib.hid HM
        clear HM hb
        refine hK.out _ _ (fun _ => (by exact ⟨KD.out _ HB.out, HB.out⟩)) (fun hH hS2 => ?_)
        clear hK K hHeld hShut
        have hShut := hS2
        clear hS2
        have hHeld := hH rfl
        clear hH
        try simp only [Act.put, List.setIfInBounds_toArray, List.set_cons_zero, List.set_cons_succ]
        refine wpAnyN_of_3_4 (by kernel_rfl) (by exact hShut) (fun K hK => ?_) (fun K hK => ?_)
        · go_simp
          refine (make_any S ⟨sa, sc, ca, cc, oa, oc, ta, tc⟩ _ (H.out.below HB.out)).mono ?_
          rintro e V3 ⟨hb', b7, b8, rfl, HM, hb⟩
          go_wp2_with fail
          have HU := Lib.hid HB.out.size
          have XUB := Lib.hid (fun (cur : Array Value) (T : TypeId) (hk : V2.heap[V0.heap.size]? = some (.cells cur T (0, 0))) => ty_of XB.out hk)
          replace XB := Lib.hid ((hb.block _ (heap_lt XB.out)).trans XB.out)
          replace HB := Lib.hid (HB.out.trans (hb.mono HB.out.size))
          have HMB := Lib.hid HM
          have HAg := Lib.hid ((Agree.refl V2).below hb)
          have HV := Lib.hid hb.size
          clear HM hb
          refine hK.out _ _ (fun _ => (by exact ⟨KD.out _ HB.out, HB.out⟩)) (fun hH hS2 => ?_)
          clear hK K hHeld hShut
          have hShut := hS2
          clear hS2
          have hHeld := hH rfl
          clear hH
          try simp only [Act.put, List.setIfInBounds_toArray, List.set_cons_zero, List.set_cons_succ]
          refine wpAnyN_one_4 (by kernel_rfl) (by exact hShut) (fun K hK => ?_)
          go_simp
          go_wp2_with fail
          have hb : Below V3.heap.size V3 (V3.alloc (.cells #[.int .i64 0, .int .i64 0, .int .i64 0, .int .i64 0, .int .i64 0, .slice none 0 0, .slice none 0 0, .slice none 0 0, .slice none 0 0] 29)) := (Below.refl _ _).alloc (Nat.le_refl _) _
          have hn := heap_alloc_new V3 (.cells #[.int .i64 0, .int .i64 0, .int .i64 0, .int .i64 0, .int .i64 0, .slice none 0 0, .slice none 0 0, .slice none 0 0, .slice none 0 0] 29)
          have NA := Lib.hid HB.out.size
          have XUA := Lib.hid (fun (cur : Array Value) (T : TypeId) (hk : V2.heap[V3.heap.size]? = some (.cells cur T (0, 0))) => (absurd (heap_lt hk) (by have := HV.out; omega) : T = 29))
          have NE : V3.heap.size ≠ V0.heap.size := by have := heap_lt XB.out; omega
          replace NE := Lib.hid NE
          replace HAg := Lib.hid (HAg.out.below hb)
          replace HMB := Lib.hid (HMB.out.below hb)
          replace HV := Lib.hid (Nat.le_trans HV.out hb.size)
          replace XB := Lib.hid ((hb.block _ (heap_lt XB.out)).trans XB.out)
          replace HB := Lib.hid (HB.out.trans (hb.mono HB.out.size))
          have XA := Lib.hid hn
          clear hn hb
          generalize V3.alloc (.cells #[.int .i64 0, .int .i64 0, .int .i64 0, .int .i64 0, .int .i64 0, .slice none 0 0, .slice none 0 0, .slice none 0 0, .slice none 0 0] 29) = V4 at *
          refine hK.out _ _ (fun _ => (by exact ⟨KD.out _ HB.out, HB.out⟩)) (fun hH hS2 => ?_)
          clear hK K hHeld hShut
          have hShut := hS2
          clear hS2
          have hHeld := hH rfl
          clear hH
          try simp only [Act.put, List.setIfInBounds_toArray, List.set_cons_zero, List.set_cons_succ]
          have HF := Lib.hid (AB0.fill ⟨HMA.out, HAg.out, HU.out, HV.out, HMB.out, XA.out, XB.out, NA.out, NB.out, NE.out, XUA.out, XUB.out, HB.out⟩)
          clear hHeld
          refine wpAnyN_one_6 (by kernel_rfl) (by exact hShut) (fun K hK => ?_)
          refine if_true_of (by rfl) ?_
          refine wp_fill 29 (.tmp 9) (.tmp 14) rfl (V3.heap.size) (makeI S) ha (by first | rfl | simp [Act.eval, Act.put]) (by first | rfl | simp [Act.eval, Act.put]) (by exact XA.out) (size9 _ _) ?_
          refine hK.out _ _ (fun h => absurd h (by decide)) (fun _ hS2 => ?_)
          clear hK K hShut
          have hShut := hS2
          clear hS2
          try simp only [Act.put, List.setIfInBounds_toArray, List.set_cons_zero, List.set_cons_succ]
          refine wpAnyN_one_7 (by kernel_rfl) (by exact hShut) (fun K hK => ?_)
          refine if_true_of (by rfl) ?_
          refine wp_fill 29 (.tmp 10) (.tmp 16) rfl (V0.heap.size) (makeI S) hb' (by first | rfl | simp [Act.eval, Act.put]) (by first | rfl | simp [Act.eval, Act.put]) (by exact HF.out.1) (size9 _ _) ?_
          refine hK.out _ _ (fun h => absurd h (by decide)) (fun _ hS2 => ?_)
          clear hK K hShut
          have hShut := hS2
          clear hS2
          try simp only [Act.put, List.setIfInBounds_toArray, List.set_cons_zero, List.set_cons_succ]
          refine wpAnyN_done (by kernel_rfl) ?_ _
          exact ⟨V2, ha, hb', V3.heap.size, V0.heap.size, _, a7, a8, b7, b8, HF.out.2, by first | rfl | simp [Act.put]⟩
        · go_simp
          go_wp2_with fail
          have hb : Below V2.heap.size V2 (V2.alloc (.cells #[.int .i64 0, .int .i64 0, .int .i64 0, .int .i64 0, .int .i64 0, .slice none 0 0, .slice none 0 0, .slice none 0 0, .slice none 0 0] 29)) := (Below.refl _ _).alloc (Nat.le_refl _) _
          have hn := heap_alloc_new V2 (.cells #[.int .i64 0, .int .i64 0, .int .i64 0, .int .i64 0, .int .i64 0, .slice none 0 0, .slice none 0 0, .slice none 0 0, .slice none 0 0] 29)
          have NA := Lib.hid HB.out.size
          have NE : V2.heap.size ≠ V0.heap.size := by have := heap_lt XB.out; omega
          replace NE := Lib.hid NE
          replace HMA := Lib.hid (HMA.out.below hb)
          replace XB := Lib.hid ((hb.block _ (heap_lt XB.out)).trans XB.out)
          replace HB := Lib.hid (HB.out.trans (hb.mono HB.out.size))
          have XA := Lib.hid hn
          clear hn hb
          generalize V2.alloc (.cells #[.int .i64 0, .int .i64 0, .int .i64 0, .int .i64 0, .int .i64 0, .slice none 0 0, .slice none 0 0, .slice none 0 0, .slice none 0 0] 29) = V3 at *
          refine hK.out _ _ (fun _ => (by exact ⟨KD.out _ HB.out, HB.out⟩)) (fun hH hS2 => ?_)
          clear hK K hHeld hShut
          have hShut := hS2
          clear hS2
          have hHeld := hH rfl
          clear hH
          try simp only [Act.put, List.setIfInBounds_toArray, List.set_cons_zero, List.set_cons_succ]
          refine wpAnyN_one_3 (by kernel_rfl) (by exact hShut) (fun K hK => ?_)
          go_simp
          refine (make_any S ⟨sa, sc, ca, cc, oa, oc, ta, tc⟩ _ (H.out.below HB.out)).mono ?_
          rintro e V4 ⟨hb', b7, b8, rfl, HM, hb⟩
          go_wp2_with fail
          have HU := Lib.hid HB.out.size
          have XUA := Lib.hid (fun (cur : Array Value) (T : TypeId) (hk : V3.heap[V2.heap.size]? = some (.cells cur T (0, 0))) => ty_of XA.out hk)
          have XUB := Lib.hid (fun (cur : Array Value) (T : TypeId) (hk : V3.heap[V0.heap.size]? = some (.cells cur T (0, 0))) => ty_of XB.out hk)
          replace XA := Lib.hid ((hb.block _ (heap_lt XA.out)).trans XA.out)
          replace XB := Lib.hid ((hb.block _ (heap_lt XB.out)).trans XB.out)
          replace HB := Lib.hid (HB.out.trans (hb.mono HB.out.size))
          have HMB := Lib.hid HM
          have HAg := Lib.hid ((Agree.refl V3).below hb)
          have HV := Lib.hid hb.size
          clear HM hb
          refine hK.out _ _ (fun _ => (by exact ⟨KD.out _ HB.out, HB.out⟩)) (fun hH hS2 => ?_)
          clear hK K hHeld hShut
          have hShut := hS2
          clear hS2
          have hHeld := hH rfl
          clear hH
          try simp only [Act.put, List.setIfInBounds_toArray, List.set_cons_zero, List.set_cons_succ]
          have HF := Lib.hid (AB0.fill ⟨HMA.out, HAg.out, HU.out, HV.out, HMB.out, XA.out, XB.out, NA.out, NB.out, NE.out, XUA.out, XUB.out, HB.out⟩)
          clear hHeld
          refine wpAnyN_one_6 (by kernel_rfl) (by exact hShut) (fun K hK => ?_)
          refine if_true_of (by rfl) ?_
          refine wp_fill 29 (.tmp 9) (.tmp 14) rfl (V2.heap.size) (makeI S) ha (by first | rfl | simp [Act.eval, Act.put]) (by first | rfl | simp [Act.eval, Act.put]) (by exact XA.out) (size9 _ _) ?_
          refine hK.out _ _ (fun h => absurd h (by decide)) (fun _ hS2 => ?_)
          clear hK K hShut
          have hShut := hS2
          clear hS2
          try simp only [Act.put, List.setIfInBounds_toArray, List.set_cons_zero, List.set_cons_succ]
          refine wpAnyN_one_7 (by kernel_rfl) (by exact hShut) (fun K hK => ?_)
          refine if_true_of (by rfl) ?_
          refine wp_fill 29 (.tmp 10) (.tmp 16) rfl (V0.heap.size) (makeI S) hb' (by first | rfl | simp [Act.eval, Act.put]) (by first | rfl | simp [Act.eval, Act.put]) (by exact HF.out.1) (size9 _ _) ?_
          refine hK.out _ _ (fun h => absurd h (by decide)) (fun _ hS2 => ?_)
          clear hK K hShut
          have hShut := hS2
          clear hS2
          try simp only [Act.put, List.setIfInBounds_toArray, List.set_cons_zero, List.set_cons_succ]
          refine wpAnyN_done (by kernel_rfl) ?_ _
          exact ⟨V3, ha, hb', V2.heap.size, V0.heap.size, _, a7, a8, b7, b8, HF.out.2, by first | rfl | simp [Act.put]⟩
      · go_simp
        go_wp2_with fail
        have hb : Below V1.heap.size V1 (V1.alloc (.cells #[.int .i64 0, .int .i64 0, .int .i64 0, .int .i64 0, .int .i64 0, .slice none 0 0, .slice none 0 0, .slice none 0 0, .slice none 0 0] 29)) := (Below.refl _ _).alloc (Nat.le_refl _) _
        have hn := heap_alloc_new V1 (.cells #[.int .i64 0, .int .i64 0, .int .i64 0, .int .i64 0, .int .i64 0, .slice none 0 0, .slice none 0 0, .slice none 0 0, .slice none 0 0] 29)
        have NA := Lib.hid HB.out.size
        have NE : V1.heap.size ≠ V0.heap.size := by have := heap_lt XB.out; omega
        replace NE := Lib.hid NE
        replace XB := Lib.hid ((hb.block _ (heap_lt XB.out)).trans XB.out)
        replace HB := Lib.hid (HB.out.trans (hb.mono HB.out.size))
        have XA := Lib.hid hn
        clear hn hb
        generalize V1.alloc (.cells #[.int .i64 0, .int .i64 0, .int .i64 0, .int .i64 0, .int .i64 0, .slice none 0 0, .slice none 0 0, .slice none 0 0, .slice none 0 0] 29) = V2 at *
        refine hK.out _ _ (fun _ => (by exact ⟨KD.out _ HB.out, HB.out⟩)) (fun hH hS2 => ?_)
        clear hK K hHeld hShut
        have hShut := hS2
        clear hS2
        have hHeld := hH rfl
        clear hH
        try simp only [Act.put, List.setIfInBounds_toArray, List.set_cons_zero, List.set_cons_succ]
        refine wpAnyN_one_1 (by kernel_rfl) (by exact hShut) (fun K hK => ?_)
        go_simp
        refine (make_any S ⟨sa, sc, ca, cc, oa, oc, ta, tc⟩ _ (H.out.below HB.out)).mono ?_
        rintro e V3 ⟨ha, a7, a8, rfl, HM, hb⟩
        go_wp2_with fail
        replace XA := Lib.hid ((hb.block _ (heap_lt XA.out)).trans XA.out)
        replace XB := Lib.hid ((hb.block _ (heap_lt XB.out)).trans XB.out)
        replace HB := Lib.hid (HB.out.trans (hb.mono HB.out.size))
        have HMA := Lib.hid HM
        clear HM hb
        refine hK.out _ _ (fun _ => (by exact ⟨KD.out _ HB.out, HB.out⟩)) (fun hH hS2 => ?_)
        clear hK K hHeld hShut
        have hShut := hS2
        clear hS2
        have hHeld := hH rfl
        clear hH
        try simp only [Act.put, List.setIfInBounds_toArray, List.set_cons_zero, List.set_cons_succ]
        refine wpAnyN_one_3 (by kernel_rfl) (by exact hShut) (fun K hK => ?_)
        go_simp
        refine (make_any S ⟨sa, sc, ca, cc, oa, oc, ta, tc⟩ _ (H.out.below HB.out)).mono ?_
        rintro e V4 ⟨hb', b7, b8, rfl, HM, hb⟩
        go_wp2_with fail
        have HU := Lib.hid HB.out.size
        have XUA := Lib.hid (fun (cur : Array Value) (T : TypeId) (hk : V3.heap[V1.heap.size]? = some (.cells cur T (0, 0))) => ty_of XA.out hk)
        have XUB := Lib.hid (fun (cur : Array Value) (T : TypeId) (hk : V3.heap[V0.heap.size]? = some (.cells cur T (0, 0))) => ty_of XB.out hk)
        replace XA := Lib.hid ((hb.block _ (heap_lt XA.out)).trans XA.out)
        replace XB := Lib.hid ((hb.block _ (heap_lt XB.out)).trans XB.out)
        replace HB := Lib.hid (HB.out.trans (hb.mono HB.out.size))
        have HMB := Lib.hid HM
        have HAg := Lib.hid ((Agree.refl V3).below hb)
        have HV := Lib.hid hb.size
        clear HM hb
        refine hK.out _ _ (fun _ => (by exact ⟨KD.out _ HB.out, HB.out⟩)) (fun hH hS2 => ?_)
        clear hK K hHeld hShut
        have hShut := hS2
        clear hS2
        have hHeld := hH rfl
        clear hH
        try simp only [Act.put, List.setIfInBounds_toArray, List.set_cons_zero, List.set_cons_succ]
        have HF := Lib.hid (AB0.fill ⟨HMA.out, HAg.out, HU.out, HV.out, HMB.out, XA.out, XB.out, NA.out, NB.out, NE.out, XUA.out, XUB.out, HB.out⟩)
        clear hHeld
        refine wpAnyN_one_6 (by kernel_rfl) (by exact hShut) (fun K hK => ?_)
        refine if_true_of (by rfl) ?_
        refine wp_fill 29 (.tmp 9) (.tmp 14) rfl (V1.heap.size) (makeI S) ha (by first | rfl | simp [Act.eval, Act.put]) (by first | rfl | simp [Act.eval, Act.put]) (by exact XA.out) (size9 _ _) ?_
        refine hK.out _ _ (fun h => absurd h (by decide)) (fun _ hS2 => ?_)
        clear hK K hShut
        have hShut := hS2
        clear hS2
        try simp only [Act.put, List.setIfInBounds_toArray, List.set_cons_zero, List.set_cons_succ]
        refine wpAnyN_one_7 (by kernel_rfl) (by exact hShut) (fun K hK => ?_)
        refine if_true_of (by rfl) ?_
        refine wp_fill 29 (.tmp 10) (.tmp 16) rfl (V0.heap.size) (makeI S) hb' (by first | rfl | simp [Act.eval, Act.put]) (by first | rfl | simp [Act.eval, Act.put]) (by exact HF.out.1) (size9 _ _) ?_
        refine hK.out _ _ (fun h => absurd h (by decide)) (fun _ hS2 => ?_)
        clear hK K hShut
        have hShut := hS2
        clear hS2
        try simp only [Act.put, List.setIfInBounds_toArray, List.set_cons_zero, List.set_cons_succ]
        refine wpAnyN_done (by kernel_rfl) ?_ _
        exact ⟨V3, ha, hb', V1.heap.size, V0.heap.size, _, a7, a8, b7, b8, HF.out.2, by first | rfl | simp [Act.put]⟩
theorem law_ShowApart (w : World) (v : Value) (hv : ∃ (S : SmallD) (h : SmallH), v = .agg (smallC S h) ∧ SmallIs w S h) (a : Int) (ha : (Lit.int .u8 a).wf = true) (b : Int) (hb : (Lit.int .u8 b).wf = true) (n : Int) (hn : (Lit.int .u8 n).wf = true) :
    Calls Try.prog 12 #[v, .int .u8 a, .int .u8 b, .int .u8 n] w fun e w' => e = .returned (.bool true) ∧ Below w.heap.size w w' := by
  obtain ⟨S, h, rfl, H⟩ := hv
  obtain ⟨a', rfl, ha'⟩ := u8_nat ha
  obtain ⟨b', rfl, hb'⟩ := u8_nat hb
  obtain ⟨n', rfl, hn'⟩ := u8_nat hn
  exact walk_ShowApart w S h H a' b' n' ha' hb' hn'
end Go.Proofs.Ytljcpgeggbbmfaa
