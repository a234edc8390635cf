/-
  Two instances that Make has made, one of them turned: where the switch of InstSames comes to; a box as a row of cells (layer 11, InstSames).
-/
import Derived.Test.YthiinlkpakinlaaSames1
import Derived.Test.YthiinlkpakinlaaReg3
namespace Go.Proofs.Ythiinlkpakinlaa
set_option linter.unusedVariables false
set_option linter.unusedSimpArgs false
open Go.RowKit
theorem Agree.grownAny {U w w' : World} {r : Option Nat} (h : Agree U w) (hg : w.grownBy w' r) (hb : ∀ g, r = some g → ∀ cur T, U.heap[g]? = some (.cells cur T (0, 0)) → T = 28) : Agree U w' := fun k cur T hk hT => by
  have := (h k cur T hk hT).trans hk
  exact (hg.block k (heap_lt this) (fun e => hT (hb k (by first | exact e | exact e.symm) cur T hk))).trans (h k cur T hk hT)
theorem grown_drew {w w2 : World} {r : Option Nat} (h : w.grownBy w2 r) : w.grownBy w2.drew r := ⟨h.os, h.tape, h.output, h.size, h.block⟩
theorem grown_none (w : World) : w.grownBy w none := ⟨rfl, rfl, rfl, Nat.le_refl _, fun _ _ _ => rfl⟩
/-- where the switch has come to. -/
def SwEnd (w3 : World) (ga gb : Nat) (X : InstD) (ha : HdD) (wx : World) : Prop :=
  ∃ (Y : InstD) (hb : HdD), wx.heap[ga]? = some (.cells (instC X ha) 28 (0, 0)) ∧ InstIs wx X ha ∧ Spoilt wx gb Y hb ∧ Below w3.heap.size w3 wx
/-- the first instance's side. -/
structure ASide (w3 U : World) (X : InstD) (ha : HdD) (ga gb Ba : Nat) (a7 a8 : List Nat) (w : World) : Prop where
  ma : MadeOwn Ba U X ha a7 a8
  ag : Agree U w
  us : w3.heap.size ≤ U.heap.size
  xa : w.heap[ga]? = some (.cells (instC X ha) 28 (0, 0))
  nb : w3.heap.size ≤ gb
  ne : ga ≠ gb
  xg : ∀ cur T, U.heap[gb]? = some (.cells cur T (0, 0)) → T = 28
  bel : Below w3.heap.size w3 w
theorem AB.aside {w3 U : World} {X : InstD} {ha hb : HdD} {ga gb Ba : Nat} {a7 a8 b7 b8 : List Nat} {w : World} (H : AB w3 U X ha hb ga gb Ba a7 a8 b7 b8 w) : ASide w3 U X ha ga gb Ba a7 a8 w :=
  ⟨H.ma, H.ag, H.us, H.xa, H.nb, H.ne, H.xg, H.bel⟩
theorem ASide.grown {w3 U : World} {X : InstD} {ha : HdD} {ga gb Ba : Nat} {a7 a8 : List Nat} {w : World} (H : ASide w3 U X ha ga gb Ba a7 a8 w) {w' : World} {r : Option Nat} (hg : w.grownBy w' r) (hr : ∀ g, r = some g → (g = gb ∨ U.heap.size ≤ g) ∧ g ≠ ga) : ASide w3 U X ha ga gb Ba a7 a8 w' := by
  refine ⟨H.ma, H.ag.grownAny hg (fun g e cur T hc => ?_), H.us, (hg.block ga (heap_lt H.xa) (fun e => ?_)).trans H.xa, H.nb, H.ne, H.xg, H.bel.trans ⟨hg.os, hg.tape, hg.output, hg.size, fun k hk => hg.block k (Nat.lt_of_lt_of_le hk H.bel.size) (fun e => ?_)⟩⟩
  · rcases (hr g e).1 with rfl | h
    · exact H.xg cur T hc
    · exact absurd (heap_lt hc) (by omega)
  · exact (hr ga (by first | exact e | exact e.symm)).2 rfl
  · have h1 := H.nb
    have h2 := H.us
    rcases (hr k (by first | exact e | exact e.symm)).1 with rfl | h <;> omega
theorem ASide.fin {S : SmallD} {w3 U : World} {ha : HdD} {ga gb Ba : Nat} {a7 a8 : List Nat} {w : World} (H : ASide w3 U (makeI S) ha ga gb Ba a7 a8 w) {Y : InstD} {hY : HdD} (HS : Spoilt w gb Y hY) : SwEnd w3 ga gb (makeI S) ha w :=
  ⟨Y, hY, H.xa, (H.ma.agree H.ag).make, HS, H.bel⟩
theorem AB.below {w3 U : World} {X : InstD} {ha hb : HdD} {ga gb Ba : Nat} {a7 a8 b7 b8 : List Nat} {w w' : World} (H : AB w3 U X ha hb ga gb Ba a7 a8 b7 b8 w) (hw : Below w.heap.size w w') : AB w3 U X ha hb ga gb Ba a7 a8 b7 b8 w' :=
  ⟨H.ma, H.ag.below hw, H.us, Nat.le_trans H.uw hw.size, H.mb.below hw, (hw.block ga (heap_lt H.xa)).trans H.xa, (hw.block gb (heap_lt H.xb)).trans H.xb, H.na, H.nb, H.ne, H.xg, H.bel.trans (hw.mono H.bel.size)⟩
theorem own_type {w : World} {B e s n : Nat} {v : Value} {xs : List Value} (h : w.ownsRow B e s v n xs) {g : Nat} (hg : v.ownBlock = some g) : ∃ cur, w.heap[g]? = some (.cells cur e (0, 0)) := by
  rcases h.2 with ⟨rfl, _⟩ | ⟨g', cap, cur, rfl, _, hh, _⟩
  · simp [Value.ownBlock] at hg
  · obtain rfl : g' = g := by simpa [Value.ownBlock] using hg
    exact ⟨cur, hh⟩
theorem type_ne {w : World} {g k : Nat} {c c' : Array Value} {T T' : TypeId} (h : w.heap[g]? = some (.cells c T (0, 0))) (h' : w.heap[k]? = some (.cells c' T' (0, 0))) (hT : T ≠ T') : g ≠ k := fun e => by
  subst e
  rw [h] at h'
  injection h' with h'
  injection h' with _ ht
  exact hT ht
theorem box_fin {B : Nat} {w : World} {g : Nat} {X : InstD} {h : HdD} {g7 g8 : List Nat} (H : MadeOwn B w X h g7 g8) (hB : w.heap[g]? = some (.cells (instC X h) 28 (0, 0))) (ls : X.sats.length ≤ 1000) (lc : X.custs.length ≤ 1000) (lo : X.cost.length ≤ 3000) (lt : X.time.length ≤ 3000) (n : Int) :
    Spoilt (w.setCell ⟨g, 0, none⟩ (.int .i64 n)) g { X with fin := n } h := by
  have M : MadeOwn B (w.setCell ⟨g, 0, none⟩ (.int .i64 n)) { X with fin := n } h g7 g8 :=
    ⟨ownT_kept H.sats (p := ⟨g, 0, none⟩) hB (by decide) _, ownT_kept H.custs (p := ⟨g, 0, none⟩) hB (by decide) _, matT_kept H.cost (p := ⟨g, 0, none⟩) hB (by decide) (by decide) _, matT_kept H.time (p := ⟨g, 0, none⟩) hB (by decide) (by decide) _, H.apart, H.tabs⟩
  refine ⟨?_, M.is ls lc lo lt, by show X.sats.length ≤ 1000000; omega, by show X.custs.length ≤ 1000000; omega⟩
  rw [heap_set w _ 0 _ _ _ hB]
  unfold instC
  rfl
/-- the ways of the switch. -/
theorem AB.way_fin {S : SmallD} {w3 U : World} {ha hb : HdD} {ga gb Ba : Nat} {a7 a8 b7 b8 : List Nat} {w : World} (H : AB w3 U (makeI S) ha hb ga gb Ba a7 a8 b7 b8 w) (n : Int) : SwEnd w3 ga gb (makeI S) ha (w.setCell ⟨gb, 0, none⟩ (.int .i64 n)) := by
  obtain ⟨l1, l2, l3, l4⟩ := make_len S
  exact (H.aside.grown (grown_set w ⟨gb, 0, none⟩ (.int .i64 n)) (fun g e => by have e2 : gb = g := Option.some.inj e; exact ⟨.inl e2.symm, fun e3 => H.ne (by rw [e2, e3])⟩)).fin (box_fin H.mb H.xb (by omega) (by omega) (by omega) (by omega) n)
theorem AB.way_not {S : SmallD} {w3 U : World} {ha hb : HdD} {ga gb Ba : Nat} {a7 a8 b7 b8 : List Nat} {w : World} (H : AB w3 U (makeI S) ha hb ga gb Ba a7 a8 b7 b8 w) : SwEnd w3 ga gb (makeI S) ha w := by
  obtain ⟨l1, l2, l3, l4⟩ := make_len S
  exact H.aside.fin ⟨H.xb, H.mb.make, by omega, by omega⟩
theorem AB.way_cust {S : SmallD} {w3 U : World} {ha hb : HdD} {ga gb Ba : Nat} {a7 a8 b7 b8 : List Nat} {w : World} (H : AB w3 U (makeI S) ha hb ga gb Ba a7 a8 b7 b8 w) (n : Int) (t : Nat) (ht : t < (makeI S).custs.length) :
    ∃ gs, hb.ca = some ⟨gs, 0, none⟩ ∧ (∃ v, w.cell? ⟨gs, t * 4 + 3, none⟩ = some v) ∧ w.frozen? ⟨gs, t * 4 + 3, none⟩ = false ∧ SwEnd w3 ga gb (makeI S) ha (w.setCell ⟨gs, t * 4 + 3, none⟩ (.int .i64 n)) := by
  obtain ⟨l1, l2, l3, l4⟩ := make_len S
  obtain ⟨gs, e1, e2, e3, e4⟩ := spoil_10 H.mb H.xb (by omega) (by omega) (by omega) (by omega) n t ht
  refine ⟨gs, e1, e2, e3, (H.aside.grown (grown_set w ⟨gs, t * 4 + 3, none⟩ (.int .i64 n)) (fun g e => ?_)).fin e4⟩
  have e' : gs = g := Option.some.inj e
  subst e'
  have hO : (Value.slice hb.ca (makeI S).custs.length hb.cc).ownBlock = some gs := by rw [e1]; rfl
  obtain ⟨cur, hc⟩ := own_type H.mb.custs hO
  exact ⟨.inr (own_lt H.mb.custs hO).1, type_ne hc H.xa (by decide)⟩
theorem AB.way_time {S : SmallD} {w3 U : World} {ha hb : HdD} {ga gb Ba : Nat} {a7 a8 b7 b8 : List Nat} {w : World} (H : AB w3 U (makeI S) ha hb ga gb Ba a7 a8 b7 b8 w) (n : Int) (k : Nat) (hk : k < nodesN (makeI S)) :
    ∃ gh gr, hb.ta = some ⟨gh, 0, none⟩ ∧ ∀ wz, Below w.heap.size w wz → wz.cell? ⟨gh, 0, none⟩ = some (.slice (some ⟨gr, 0, none⟩) (nodesN (makeI S)) (nodesN (makeI S))) ∧ (∃ v, wz.cell? ⟨gr, k, none⟩ = some v) ∧ wz.frozen? ⟨gr, k, none⟩ = false ∧ SwEnd w3 ga gb (makeI S) ha (wz.setCell ⟨gr, k, none⟩ (.int .i64 n)) := by
  obtain ⟨l1, l2, l3, l4⟩ := make_len S
  have hl : 0 < (makeI S).time.length := by have h2 := (make_rows S).2.1; unfold nodesN at h2; omega
  obtain ⟨gh, gr, e1, e2, _, _, _, _⟩ := spoil_12 H.mb H.xb (by omega) (by omega) (by omega) (by omega) n 0 k hl hk
  refine ⟨gh, gr, e1, fun wz hz => ?_⟩
  have H2 := H.below hz
  obtain ⟨gh2, gr2, f1, f2, f3, f4, f5, f6⟩ := spoil_12 H2.mb H2.xb (by omega) (by omega) (by omega) (by omega) n 0 k hl hk
  have eg : gh2 = gh := by rw [e1] at f1; injection f1 with f1; injection f1 with f1; exact f1.symm
  subst eg
  have er : gr2 = gr := by
    have := keep_cell hz e2
    rw [f2] at this
    injection this with this
    injection this with this _ _
    injection this with this
    injection this with this
  subst er
  refine ⟨f2, f3, f4, (H2.aside.grown (grown_set wz ⟨gr2, k, none⟩ (.int .i64 n)) (fun g e => ?_)).fin f6⟩
  have e' : gr2 = g := Option.some.inj e
  subst e'
  obtain ⟨_, gr3, g1, g2, _, _, g5, _⟩ := H2.mb.time.at hl
  have eg : gr3 = gr2 := by
    rw [f1] at g1
    injection g1 with g1
    injection g1 with g1
    subst g1
    rw [f2] at g2
    injection g2 with g2
    injection g2 with g2 _ _
    injection g2 with g2
    injection g2 with g2
    exact g2.symm
  subst eg
  exact ⟨.inr f5, type_ne g5 H2.xa (by decide)⟩
theorem AB.way_sat {S : SmallD} {w3 U : World} {ha hb : HdD} {ga gb Ba : Nat} {a7 a8 b7 b8 : List Nat} {w : World} (H : AB w3 U (makeI S) ha hb ga gb Ba a7 a8 b7 b8 w) (n : Int) {w2 : World} {A : Option Addr} {C : Nat} (o : Obj)
    (hown : w2.ownsRow U.heap.size 42 2 (.slice A ((makeI S).sats.length + 1) C) ((makeI S).sats.length + 1) ((makeI S).sats.flatMap satV ++ [.int .i64 n, .int .i64 0])) (hg : (w.alloc o).grownBy w2 (Value.slice hb.sa (makeI S).sats.length hb.sc).ownBlock) :
    w2.cell? ⟨gb, 5, none⟩ = some (.slice hb.sa (makeI S).sats.length hb.sc) ∧ w2.frozen? ⟨gb, 5, none⟩ = false ∧ SwEnd w3 ga gb (makeI S) ha (w2.setCell ⟨gb, 5, none⟩ (.slice A ((makeI S).sats.length + 1) C)) := by
  obtain ⟨l1, l2, l3, l4⟩ := make_len S
  obtain ⟨c5, f5, HZ⟩ := spoil_15 H.mb H.xb (by omega) (satsI_len S).1 (by omega) (by omega) (by omega) n o hown hg
  refine ⟨c5, f5, (((H.below ((Below.refl _ _).alloc (Nat.le_refl _) o)).aside.grown hg (fun g e => ?_)).grown (grown_set w2 ⟨gb, 5, none⟩ (.slice A ((makeI S).sats.length + 1) C)) (fun g e => by have e2 : gb = g := Option.some.inj e; exact ⟨.inl e2.symm, fun e3 => H.ne (by rw [e2, e3])⟩)).fin HZ⟩
  obtain ⟨cur, hc⟩ := own_type H.mb.sats e
  exact ⟨.inr (own_lt H.mb.sats e).1, type_ne hc H.xa (by decide)⟩
theorem grown_undrew2 {w w2 : World} {r : Option Nat} (h : w.drew.grownBy w2 r) : w.grownBy w2 r := ⟨h.os, h.tape, h.output, h.size, h.block⟩
theorem nodes_nn2 (X : InstD) (h : HdD) (nn tn : Nat) (hn : Hid (nodesN X = nn)) (ht : Hid (X.time.length = tn)) (w : World) (h1 : X.sats.length ≤ 1000000) (h2 : X.custs.length ≤ 1000000) :
    Calls Try.prog 13 #[.agg #[.int .i64 X.fin, .int .i64 X.tm, .int .i64 X.tr, .int .i64 X.bm, .int .i64 X.br, .slice h.sa X.sats.length h.sc, .slice h.ca X.custs.length h.cc, .slice h.oa X.cost.length h.oc, .slice h.ta tn h.tc]] w fun e w' => e = .returned (.int .i64 (nn : Int)) ∧ Below w.heap.size w w' := by
  obtain rfl := ht.out
  exact (nodes_below X h w h1 h2).mono fun e w' ⟨he, hb⟩ => ⟨by rw [he, hn.out], hb⟩
theorem SwEnd.drewn {w3 w : World} {ga gb : Nat} {X : InstD} {ha : HdD} (H : SwEnd w3 ga gb X ha w) : SwEnd w3 ga gb X ha w.drew := by
  obtain ⟨Y, hb, h1, h2, h3, h4⟩ := H
  exact ⟨Y, hb, h1, ⟨h2.sats, h2.custs, h2.cost, h2.time, h2.ls, h2.lc, h2.lo, h2.lt⟩, ⟨h3.blk, ⟨h3.is.sats, h3.is.custs, h3.is.cost, h3.is.time, h3.is.ls, h3.is.lc, h3.is.lo, h3.is.lt⟩, h3.ls, h3.lc⟩, h4.drew⟩
theorem Spoilt.drewn {w : World} {g : Nat} {X : InstD} {h : HdD} (H : Spoilt w g X h) : Spoilt w.drew g X h := ⟨H.blk, ⟨H.is.sats, H.is.custs, H.is.cost, H.is.time, H.is.ls, H.is.lc, H.is.lo, H.is.lt⟩, H.ls, H.lc⟩
theorem range_row {w : World} {g : Nat} {X : InstD} {h : HdD} {T : TypeId} (hB : w.heap[g]? = some (.cells (instC X h) T (0, 0))) : w.rangeAt g 0 [.int .i64 X.fin, .int .i64 X.tm, .int .i64 X.tr, .int .i64 X.bm, .int .i64 X.br, .slice h.sa X.sats.length h.sc, .slice h.ca X.custs.length h.cc, .slice h.oa X.cost.length h.oc, .slice h.ta X.time.length h.tc] :=
  range_cells (fun j v hv => by rw [cell_of_row w g j _ _ _ hB, ← hv]; unfold instC; simp)
theorem range9 {w : World} {g : Nat} {v0 v1 v2 v3 v4 v5 v6 v7 v8 : Value} (h : w.cell? ⟨g, 0, none⟩ = some v0 ∧ w.cell? ⟨g, 1, none⟩ = some v1 ∧ w.cell? ⟨g, 2, none⟩ = some v2 ∧ w.cell? ⟨g, 3, none⟩ = some v3 ∧ w.cell? ⟨g, 4, none⟩ = some v4 ∧ w.cell? ⟨g, 5, none⟩ = some v5 ∧ w.cell? ⟨g, 6, none⟩ = some v6 ∧ w.cell? ⟨g, 7, none⟩ = some v7 ∧ w.cell? ⟨g, 8, none⟩ = some v8) :
    w.rangeAt g 0 [v0, v1, v2, v3, v4, v5, v6, v7, v8] := by
  obtain ⟨h0, h1, h2, h3, h4, h5, h6, h7, h8⟩ := h
  refine range_cells (fun j v hv => ?_)
  match j, hv with
  | 0, hv => rw [h0]; exact hv
  | 1, hv => rw [h1]; exact hv
  | 2, hv => rw [h2]; exact hv
  | 3, hv => rw [h3]; exact hv
  | 4, hv => rw [h4]; exact hv
  | 5, hv => rw [h5]; exact hv
  | 6, hv => rw [h6]; exact hv
  | 7, hv => rw [h7]; exact hv
  | 8, hv => rw [h8]; exact hv
  | j + 9, hv => simp at hv
theorem ClonedOwn.is {B : Nat} {w : World} {X : InstD} {h : HdD} {h7 h8 : List Value} (H : ClonedOwn B w X h h7 h8) (L : LightP X) : InstIs w X h :=
  ⟨own_rd' H.sats, own_rd' H.custs, H.cost.rows2 rfl (fun r hr => by have := L.costs r hr; omega), H.time.rows2 rfl (fun r hr => by have := L.times r hr; omega), by have := L.sats; omega, by have := L.custs; omega, by have := L.cost; omega, by have := L.time; omega⟩
theorem clone_light (X : InstD) (h : HdD) (w : World) (H : InstIs w X h) (L : LightP X) :
    Calls Try.prog 17 #[.agg (instC X h)] w fun e w' => ∃ h' : HdD, e = .returned (.agg (instC X h')) ∧ InstIs w' X h' ∧ Below w.heap.size w w' :=
  (clone_any X h w H (by have := L.sats; omega) (by have := L.custs; omega) (by have := L.cost; omega) (by have := L.time; omega) (fun r hr => by have := L.costs r hr; omega) (fun r hr => by have := L.times r hr; omega)).mono fun e w' ⟨h', h7, h8, he, hC, hb⟩ => ⟨h', he, hC.is L, hb⟩
end Go.Proofs.Ythiinlkpakinlaa
