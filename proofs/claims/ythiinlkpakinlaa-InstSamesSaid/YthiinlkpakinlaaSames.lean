/-
  The walk of InstSames (layer 11).
-/
import Derived.Test.YthiinlkpakinlaaSpoil2
import Derived.Test.YthiinlkpakinlaaSame8
import Derived.Test.YthiinlkpakinlaaSames2
import Derived.Deep.MidRow
import Derived.Deep.DeepCutAuto
import Derived.Deep.CutBlock
namespace Go.Proofs.Ythiinlkpakinlaa
set_option linter.unusedVariables false
set_option linter.unusedSimpArgs false
open Go.RowKit
theorem three_boxes (w : World) (cs ds es : Array Value) (t1 t2 t3 : TypeId) : Below w.heap.size w (((w.alloc (.cells cs t1)).alloc (.cells ds t2)).alloc (.cells es t3)) ∧ (∀ j u, cs[j]? = some u → (((w.alloc (.cells cs t1)).alloc (.cells ds t2)).alloc (.cells es t3)).cell? ⟨w.heap.size, j, none⟩ = some u) ∧
    (∀ j u, ds[j]? = some u → (((w.alloc (.cells cs t1)).alloc (.cells ds t2)).alloc (.cells es t3)).cell? ⟨w.heap.size + 1, j, none⟩ = some u) ∧ (∀ j u, es[j]? = some u → (((w.alloc (.cells cs t1)).alloc (.cells ds t2)).alloc (.cells es t3)).cell? ⟨w.heap.size + 2, j, none⟩ = some u) ∧
    (((w.alloc (.cells cs t1)).alloc (.cells ds t2)).alloc (.cells es t3)).heap.size = w.heap.size + 3 := by
  refine ⟨(((Below.refl _ _).alloc (Nat.le_refl _) _).alloc (by simp) _).alloc (by simp; omega) _, fun j u hu => ?_, fun j u hu => ?_, fun j u hu => ?_, by simp⟩
  · exact keep_cell ((Below.refl _ _).alloc (Nat.le_refl _) _) (keep_cell ((Below.refl _ _).alloc (Nat.le_refl _) _) (by rw [World.cell?_alloc_new]; exact hu))
  · exact keep_cell ((Below.refl _ _).alloc (Nat.le_refl _) _) (by rw [show w.heap.size + 1 = (w.alloc (.cells cs t1)).heap.size by simp, World.cell?_alloc_new]; exact hu)
  · rw [show w.heap.size + 2 = ((w.alloc (.cells cs t1)).alloc (.cells ds t2)).heap.size by simp, World.cell?_alloc_new]; exact hu
theorem ty_of {w : World} {g : Nat} {c cur : Array Value} {T T' : TypeId} (h : w.heap[g]? = some (.cells c T (0, 0))) (hk : w.heap[g]? = some (.cells cur T' (0, 0))) : T' = T := by rw [h] at hk; injection hk with hk; injection hk with _ ht; exact ht.symm
set_option maxHeartbeats 40000000 in
set_option maxRecDepth 100000 in
theorem walk_InstSames (w : World) (X Y : InstD) (hx hy : HdD) (IX : InstIs w X hx) (IY : InstIs w Y hy) (S : SmallD) (h : SmallH) (H : SmallIs w S h) (what at_ : Nat) (hw1 : what < 256) (hw2 : at_ < 256) (n : Int) :
    Calls Try.prog 7 #[.agg (instC X hx), .agg (instC Y hy), .agg (smallC S h), .int .u8 what, .int .u8 at_, .int .i64 n] w fun e w' => e = .returned (.bool true) ∧ Below w.heap.size w w' := by
  obtain ⟨sa, sc, ca, cc, oa, oc, ta, tc⟩ := h
  obtain ⟨x5, x6, x7, x8, xo, xp, xt, xu⟩ := hx
  obtain ⟨y5, y6, y7, y8, yo, yp, yt, yu⟩ := hy
  obtain ⟨hB, c1, c2, c3, hsz⟩ := three_boxes w #[Value.int .i64 X.fin, .int .i64 X.tm, .int .i64 X.tr, .int .i64 X.bm, .int .i64 X.br, .slice x5 X.sats.length x6, .slice x7 X.custs.length x8, .slice xo X.cost.length xp, .slice xt X.time.length xu] #[Value.int .i64 Y.fin, .int .i64 Y.tm, .int .i64 Y.tr, .int .i64 Y.bm, .int .i64 Y.br, .slice y5 Y.sats.length y6, .slice y7 Y.custs.length y8, .slice yo Y.cost.length yp, .slice yt Y.time.length yu] #[Value.int .u8 S.fin, .int .u8 S.tm, .int .u8 S.tr, .int .u8 S.bm, .int .u8 S.br, .slice sa S.sats.length sc, .slice ca S.custs.length cc, .slice oa S.cost.length oc, .slice ta S.time.length tc, .bool S.tight, .bool S.loose] 28 28 38
  have hSm := Lib.hid (⟨H.b1, H.bs, H.bc⟩ : S.fin < 256 ∧ (∀ s ∈ S.sats, s.room < 256 ∧ s.hold < 256) ∧ ∀ c ∈ S.custs, c.load < 256 ∧ c.opn < 256 ∧ c.wide < 256 ∧ c.stay < 256)
  replace H := Lib.hid (H.below hB)
  replace IX := Lib.hid (IX.below hB)
  replace IY := Lib.hid (IY.below hB)
  replace c1 := Lib.hid c1
  replace c2 := Lib.hid c2
  replace c3 := Lib.hid c3
  replace hB := Lib.hid hB
  replace hsz := Lib.hid hsz
  go_enter Try.func7, Try.ntmps7
  go_wp2_with fail
  refine (awake_any _).mono ?_
  rintro e W ⟨rfl, hA⟩
  generalize (((w.alloc (.cells #[Value.int .i64 X.fin, .int .i64 X.tm, .int .i64 X.tr, .int .i64 X.bm, .int .i64 X.br, .slice x5 X.sats.length x6, .slice x7 X.custs.length x8, .slice xo X.cost.length xp, .slice xt X.time.length xu] 28)).alloc (.cells #[Value.int .i64 Y.fin, .int .i64 Y.tm, .int .i64 Y.tr, .int .i64 Y.bm, .int .i64 Y.br, .slice y5 Y.sats.length y6, .slice y7 Y.custs.length y8, .slice yo Y.cost.length yp, .slice yt Y.time.length yu] 28)).alloc (.cells #[Value.int .u8 S.fin, .int .u8 S.tm, .int .u8 S.tr, .int .u8 S.bm, .int .u8 S.br, .slice sa S.sats.length sc, .slice ca S.custs.length cc, .slice oa S.cost.length oc, .slice ta S.time.length tc, .bool S.tight, .bool S.loose] 38)) = WA at *
  generalize hg : w.heap.size = g at *
  replace hg := Lib.hid hg
  replace H := Lib.hid (H.out.below hA)
  replace IX := Lib.hid (IX.out.below hA)
  replace IY := Lib.hid (IY.out.below hA)
  have p0 : W.cell? ⟨g, 0, none⟩ = some (.int .i64 X.fin) := keep_cell hA (c1.out 0 _ rfl)
  have p1 : W.cell? ⟨g, 1, none⟩ = some (.int .i64 X.tm) := keep_cell hA (c1.out 1 _ rfl)
  have p2 : W.cell? ⟨g, 2, none⟩ = some (.int .i64 X.tr) := keep_cell hA (c1.out 2 _ rfl)
  have p3 : W.cell? ⟨g, 3, none⟩ = some (.int .i64 X.bm) := keep_cell hA (c1.out 3 _ rfl)
  have p4 : W.cell? ⟨g, 4, none⟩ = some (.int .i64 X.br) := keep_cell hA (c1.out 4 _ rfl)
  have p5 : W.cell? ⟨g, 5, none⟩ = some (.slice x5 X.sats.length x6) := keep_cell hA (c1.out 5 _ rfl)
  have p6 : W.cell? ⟨g, 6, none⟩ = some (.slice x7 X.custs.length x8) := keep_cell hA (c1.out 6 _ rfl)
  have p7 : W.cell? ⟨g, 7, none⟩ = some (.slice xo X.cost.length xp) := keep_cell hA (c1.out 7 _ rfl)
  have p8 : W.cell? ⟨g, 8, none⟩ = some (.slice xt X.time.length xu) := keep_cell hA (c1.out 8 _ rfl)
  have q0 : W.cell? ⟨g + 1, 0, none⟩ = some (.int .i64 Y.fin) := keep_cell hA (c2.out 0 _ rfl)
  have q1 : W.cell? ⟨g + 1, 1, none⟩ = some (.int .i64 Y.tm) := keep_cell hA (c2.out 1 _ rfl)
  have q2 : W.cell? ⟨g + 1, 2, none⟩ = some (.int .i64 Y.tr) := keep_cell hA (c2.out 2 _ rfl)
  have q3 : W.cell? ⟨g + 1, 3, none⟩ = some (.int .i64 Y.bm) := keep_cell hA (c2.out 3 _ rfl)
  have q4 : W.cell? ⟨g + 1, 4, none⟩ = some (.int .i64 Y.br) := keep_cell hA (c2.out 4 _ rfl)
  have q5 : W.cell? ⟨g + 1, 5, none⟩ = some (.slice y5 Y.sats.length y6) := keep_cell hA (c2.out 5 _ rfl)
  have q6 : W.cell? ⟨g + 1, 6, none⟩ = some (.slice y7 Y.custs.length y8) := keep_cell hA (c2.out 6 _ rfl)
  have q7 : W.cell? ⟨g + 1, 7, none⟩ = some (.slice yo Y.cost.length yp) := keep_cell hA (c2.out 7 _ rfl)
  have q8 : W.cell? ⟨g + 1, 8, none⟩ = some (.slice yt Y.time.length yu) := keep_cell hA (c2.out 8 _ rfl)
  have d0 : W.cell? ⟨g + 2, 0, none⟩ = some (.int .u8 S.fin) := keep_cell hA (c3.out 0 _ rfl)
  have d1 : W.cell? ⟨g + 2, 1, none⟩ = some (.int .u8 S.tm) := keep_cell hA (c3.out 1 _ rfl)
  have d2 : W.cell? ⟨g + 2, 2, none⟩ = some (.int .u8 S.tr) := keep_cell hA (c3.out 2 _ rfl)
  have d3 : W.cell? ⟨g + 2, 3, none⟩ = some (.int .u8 S.bm) := keep_cell hA (c3.out 3 _ rfl)
  have d4 : W.cell? ⟨g + 2, 4, none⟩ = some (.int .u8 S.br) := keep_cell hA (c3.out 4 _ rfl)
  have d5 : W.cell? ⟨g + 2, 5, none⟩ = some (.slice sa S.sats.length sc) := keep_cell hA (c3.out 5 _ rfl)
  have d6 : W.cell? ⟨g + 2, 6, none⟩ = some (.slice ca S.custs.length cc) := keep_cell hA (c3.out 6 _ rfl)
  have d7 : W.cell? ⟨g + 2, 7, none⟩ = some (.slice oa S.cost.length oc) := keep_cell hA (c3.out 7 _ rfl)
  have d8 : W.cell? ⟨g + 2, 8, none⟩ = some (.slice ta S.time.length tc) := keep_cell hA (c3.out 8 _ rfl)
  have d9 : W.cell? ⟨g + 2, 9, none⟩ = some (.bool S.tight) := keep_cell hA (c3.out 9 _ rfl)
  have d10 : W.cell? ⟨g + 2, 10, none⟩ = some (.bool S.loose) := keep_cell hA (c3.out 10 _ rfl)
  have g1 : g + 3 ≤ W.heap.size := by have := hsz.out; have := hA.size; omega
  have hW := Lib.hid (hB.out.trans (hA.mono (by have := hsz.out; omega)))
  clear hB hA hsz c1 c2 c3
  go_upto_region 3 with fail
  cases hl : lightB X
  · replace hl := Lib.hid hl
    go_wp2_with fail
    refine (light_no _ X ⟨x5, x6, x7, x8, xo, xp, xt, xu⟩ IX.out hl.out).mono ?_
    rintro e w2 ⟨rfl, hb2⟩
    go_wp2_with fail
    go_ret
    exact ⟨rfl, by rw [hg.out]; exact hW.out.trans (hb2.mono (by have := hg.out; omega))⟩
  · have hL := (lightB_iff X).1 hl
    replace hl := Lib.hid hl
    go_wp2_with fail
    refine (light_yes _ X ⟨x5, x6, x7, x8, xo, xp, xt, xu⟩ IX.out hl.out).mono ?_
    rintro e w2 ⟨rfl, hb2⟩
    replace p0 := keep_cell hb2 p0
    replace q0 := keep_cell hb2 q0
    replace p1 := keep_cell hb2 p1
    replace q1 := keep_cell hb2 q1
    replace p2 := keep_cell hb2 p2
    replace q2 := keep_cell hb2 q2
    replace p3 := keep_cell hb2 p3
    replace q3 := keep_cell hb2 q3
    replace p4 := keep_cell hb2 p4
    replace q4 := keep_cell hb2 q4
    replace p5 := keep_cell hb2 p5
    replace q5 := keep_cell hb2 q5
    replace p6 := keep_cell hb2 p6
    replace q6 := keep_cell hb2 q6
    replace p7 := keep_cell hb2 p7
    replace q7 := keep_cell hb2 q7
    replace p8 := keep_cell hb2 p8
    replace q8 := keep_cell hb2 q8
    replace d0 := keep_cell hb2 d0
    replace d1 := keep_cell hb2 d1
    replace d2 := keep_cell hb2 d2
    replace d3 := keep_cell hb2 d3
    replace d4 := keep_cell hb2 d4
    replace d5 := keep_cell hb2 d5
    replace d6 := keep_cell hb2 d6
    replace d7 := keep_cell hb2 d7
    replace d8 := keep_cell hb2 d8
    replace d9 := keep_cell hb2 d9
    replace d10 := keep_cell hb2 d10
    replace H := Lib.hid (H.out.below hb2)
    replace IX := Lib.hid (IX.out.below hb2)
    replace IY := Lib.hid (IY.out.below hb2)
    replace hW := Lib.hid (hW.out.trans (hb2.mono (by have := hg.out; omega)))
    replace g1 : g + 3 ≤ w2.heap.size := Nat.le_trans g1 hb2.size
    clear hb2
    cases hm : lightB Y
    · replace hm := Lib.hid hm
      go_wp2_with fail
      refine (light_no _ Y ⟨y5, y6, y7, y8, yo, yp, yt, yu⟩ IY.out hm.out).mono ?_
      rintro e w3 ⟨rfl, hb2⟩
      go_wp2_with fail
      go_ret
      exact ⟨rfl, by rw [hg.out]; exact hW.out.trans (hb2.mono (by have := hg.out; omega))⟩
    · have hM := (lightB_iff Y).1 hm
      replace hm := Lib.hid hm
      go_wp2_with fail
      refine (light_yes _ Y ⟨y5, y6, y7, y8, yo, yp, yt, yu⟩ IY.out hm.out).mono ?_
      rintro e w3 ⟨rfl, hb2⟩
      replace p0 := keep_cell hb2 p0
      replace q0 := keep_cell hb2 q0
      replace p1 := keep_cell hb2 p1
      replace q1 := keep_cell hb2 q1
      replace p2 := keep_cell hb2 p2
      replace q2 := keep_cell hb2 q2
      replace p3 := keep_cell hb2 p3
      replace q3 := keep_cell hb2 q3
      replace p4 := keep_cell hb2 p4
      replace q4 := keep_cell hb2 q4
      replace p5 := keep_cell hb2 p5
      replace q5 := keep_cell hb2 q5
      replace p6 := keep_cell hb2 p6
      replace q6 := keep_cell hb2 q6
      replace p7 := keep_cell hb2 p7
      replace q7 := keep_cell hb2 q7
      replace p8 := keep_cell hb2 p8
      replace q8 := keep_cell hb2 q8
      replace d0 := keep_cell hb2 d0
      replace d1 := keep_cell hb2 d1
      replace d2 := keep_cell hb2 d2
      replace d3 := keep_cell hb2 d3
      replace d4 := keep_cell hb2 d4
      replace d5 := keep_cell hb2 d5
      replace d6 := keep_cell hb2 d6
      replace d7 := keep_cell hb2 d7
      replace d8 := keep_cell hb2 d8
      replace d9 := keep_cell hb2 d9
      replace d10 := keep_cell hb2 d10
      replace H := Lib.hid (H.out.below hb2)
      replace IX := Lib.hid (IX.out.below hb2)
      replace IY := Lib.hid (IY.out.below hb2)
      replace hW := Lib.hid (hW.out.trans (hb2.mono (by have := hg.out; omega)))
      replace g1 : g + 3 ≤ w3.heap.size := Nat.le_trans g1 hb2.size
      clear hb2
      have KX : ∀ w' : World, Below w3.heap.size w3 w' → (w'.cell? ⟨g, 0, none⟩ = some (.int .i64 X.fin) ∧ w'.cell? ⟨g, 1, none⟩ = some (.int .i64 X.tm) ∧ w'.cell? ⟨g, 2, none⟩ = some (.int .i64 X.tr) ∧ w'.cell? ⟨g, 3, none⟩ = some (.int .i64 X.bm) ∧ w'.cell? ⟨g, 4, none⟩ = some (.int .i64 X.br) ∧ w'.cell? ⟨g, 5, none⟩ = some (.slice x5 X.sats.length x6) ∧ w'.cell? ⟨g, 6, none⟩ = some (.slice x7 X.custs.length x8) ∧ w'.cell? ⟨g, 7, none⟩ = some (.slice xo X.cost.length xp) ∧ w'.cell? ⟨g, 8, none⟩ = some (.slice xt X.time.length xu)) ∧ (w'.cell? ⟨g + 1, 0, none⟩ = some (.int .i64 Y.fin) ∧ w'.cell? ⟨g + 1, 1, none⟩ = some (.int .i64 Y.tm) ∧ w'.cell? ⟨g + 1, 2, none⟩ = some (.int .i64 Y.tr) ∧ w'.cell? ⟨g + 1, 3, none⟩ = some (.int .i64 Y.bm) ∧ w'.cell? ⟨g + 1, 4, none⟩ = some (.int .i64 Y.br) ∧ w'.cell? ⟨g + 1, 5, none⟩ = some (.slice y5 Y.sats.length y6) ∧ w'.cell? ⟨g + 1, 6, none⟩ = some (.slice y7 Y.custs.length y8) ∧ w'.cell? ⟨g + 1, 7, none⟩ = some (.slice yo Y.cost.length yp) ∧ w'.cell? ⟨g + 1, 8, none⟩ = some (.slice yt Y.time.length yu)) := fun w' hb => ⟨⟨keep_cell hb p0, keep_cell hb p1, keep_cell hb p2, keep_cell hb p3, keep_cell hb p4, keep_cell hb p5, keep_cell hb p6, keep_cell hb p7, keep_cell hb p8⟩, ⟨keep_cell hb q0, keep_cell hb q1, keep_cell hb q2, keep_cell hb q3, keep_cell hb q4, keep_cell hb q5, keep_cell hb q6, keep_cell hb q7, keep_cell hb q8⟩⟩
      replace KX := Lib.hid KX
      have KD : ∀ w' : World, Below w3.heap.size w3 w' → w'.cell? ⟨g + 2, 0, none⟩ = some (.int .u8 S.fin) ∧ w'.cell? ⟨g + 2, 1, none⟩ = some (.int .u8 S.tm) ∧ w'.cell? ⟨g + 2, 2, none⟩ = some (.int .u8 S.tr) ∧ w'.cell? ⟨g + 2, 3, none⟩ = some (.int .u8 S.bm) ∧ w'.cell? ⟨g + 2, 4, none⟩ = some (.int .u8 S.br) ∧ w'.cell? ⟨g + 2, 5, none⟩ = some (.slice sa S.sats.length sc) ∧ w'.cell? ⟨g + 2, 6, none⟩ = some (.slice ca S.custs.length cc) ∧ w'.cell? ⟨g + 2, 7, none⟩ = some (.slice oa S.cost.length oc) ∧ w'.cell? ⟨g + 2, 8, none⟩ = some (.slice ta S.time.length tc) ∧ w'.cell? ⟨g + 2, 9, none⟩ = some (.bool S.tight) ∧ w'.cell? ⟨g + 2, 10, none⟩ = some (.bool S.loose) := fun w' hb => ⟨keep_cell hb d0, keep_cell hb d1, keep_cell hb d2, keep_cell hb d3, keep_cell hb d4, keep_cell hb d5, keep_cell hb d6, keep_cell hb d7, keep_cell hb d8, keep_cell hb d9, keep_cell hb d10⟩
      replace KD := Lib.hid KD
      have hLL := Lib.hid (⟨hL, hM⟩ : _ ∧ _)
      clear hL hM p0 p1 p2 p3 p4 p5 p6 p7 p8 q0 q1 q2 q3 q4 q5 q6 q7 q8
      go_upto_region 5 with fail
      refine wp_region_into (fun a0 a' w' => ∃ (U : World) (ha hb : HdD) (ga gb Ba : Nat) (a7 a8 b7 b8 : List Nat), AB w3 U (makeI S) ha hb ga gb Ba a7 a8 b7 b8 w' ∧ a' = ((((((a0.put (some 25) (.agg #[Value.int .u8 S.fin, .int .u8 S.tm, .int .u8 S.tr, .int .u8 S.bm, .int .u8 S.br, .slice sa S.sats.length sc, .slice ca S.custs.length cc, .slice oa S.cost.length oc, .slice ta S.time.length tc, .bool S.tight, .bool S.loose])).put (some 26) (.agg (instC (makeI S) ha))).put (some 27) (.agg #[Value.int .u8 S.fin, .int .u8 S.tm, .int .u8 S.tr, .int .u8 S.bm, .int .u8 S.br, .slice sa S.sats.length sc, .slice ca S.custs.length cc, .slice oa S.cost.length oc, .slice ta S.time.length tc, .bool S.tight, .bool S.loose])).put (some 28) (.agg (instC (makeI S) hb))).put (some 13) (.pointer (some ⟨ga, 0, none⟩))).put (some 14) (.pointer (some ⟨gb, 0, none⟩)))) ?_ ?_
      · rintro a' w' ⟨U, ha, hb, ga, gb, Ba, a7, a8, b7, b8, HAB, rfl⟩
        simp only [Act.put, List.setIfInBounds_toArray, List.set_cons_zero, List.set_cons_succ]
        have hq : (what : Int) % 5 = 0 ∨ (what : Int) % 5 = 1 ∨ (what : Int) % 5 = 2 ∨ (what : Int) % 5 = 3 ∨ (what : Int) % 5 = 4 := by omega
        have hml := Lib.hid (make_len S)
        have hmr := Lib.hid (make_rows S)
        have hc1 := Lib.hid (show 0 < (makeI S).custs.length from (custsI_len S).1)
        replace HAB := Lib.hid HAB
        go_upto_block 0 with fail
        go_cut [14, 30] (fun s14 s30 wx => s14 = .pointer (some ⟨gb, 0, none⟩) ∧ SwEnd w3 ga gb (makeI S) ha wx)
        case first =>
          clear KX KD H IX IY d0 d1 d2 d3 d4 d5 d6 d7 d8 d9 d10
          rcases hq with hq | hq | hq | hq | hq
          · have cj := cell_of_row w' gb 0 _ _ _ HAB.out.xb
            have fj := frozen_of_row w' gb 0 _ _ HAB.out.xb
            have HZ := Lib.hid (HAB.out.way_fin n)
            go_wp2_with fail
            go_meet
            exact ⟨rfl, HZ.out⟩
          · obtain ⟨hsa, hsc, hca, hcc, hoa, hoc, hta, htc⟩ := hb
            have hcl : at_ % (makeI S).custs.length < (makeI S).custs.length := Nat.mod_lt _ hc1.out
            obtain ⟨gs, hgs, ⟨v, hv⟩, hf, HZ⟩ := HAB.out.way_cust n _ hcl
            dsimp only at hgs
            subst hgs
            have hb6 : w'.cell? ⟨gb, 6, none⟩ = some (.slice (some ⟨gs, 0, none⟩) (makeI S).custs.length hcc) := cell_of_row w' gb 6 _ _ _ HAB.out.xb
            replace HZ := Lib.hid HZ
            go_upto_region 10 with fail
            have p1 : IntKind.i64.wrap (at_ : Int) = (at_ : Int) := IntWalk.i64_in _ (by omega)
            have p5 : (at_ : Int).tmod ((makeI S).custs.length : Int) = ((at_ % (makeI S).custs.length : Nat) : Int) := (Int.ofNat_tmod at_ _).symm
            have p7 : ¬ (makeI S).custs = [] := fun e => by have := hc1.out; rw [e] at this; simp at this
            have k0 : (0 : Int) ≤ ((at_ % (makeI S).custs.length : Nat) : Int) := by omega
            have k1 : ((at_ % (makeI S).custs.length : Nat) : Int) < ((makeI S).custs.length : Int) := by omega
            generalize at_ % (makeI S).custs.length = t at *
            refine wp_region_N (fun j => decide (j < 11)) (fun wz => wz.cell? ⟨gb, 6, none⟩ = some (.slice (some ⟨gs, 0, none⟩) (makeI S).custs.length hcc)) (by kernel_rfl) hb6 (fun hShut hHeld => ?_)
            refine wpAnyN_take_0 (v := ?v1n) ?_ ?_ ?_ ?_ ?_ ?hy1n ?_ ?_ ?_
            case hy1n =>
              refine Or.inl ⟨by rfl, ?_⟩
              intro w hSw
              try dsimp only at hSw
              go_simp
              try with_reducible rfl
            · kernel_rfl
            · kernel_rfl
            · kernel_rfl
            · kernel_rfl
            · exact fun _ _ _ h => h
            · exact hHeld
            · exact hShut
            clear hShut
            intro hShut
            try simp only [Act.put, List.setIfInBounds_toArray, List.set_cons_zero, List.set_cons_succ]
            refine wpAnyN_take_1 (v := ?v2n) ?_ ?_ ?_ ?_ ?_ ?hy2n ?_ ?_ ?_
            case hy2n =>
              refine Or.inl ⟨by rfl, ?_⟩
              intro w hSw
              try dsimp only at hSw
              go_simp
              try with_reducible rfl
            · kernel_rfl
            · kernel_rfl
            · kernel_rfl
            · kernel_rfl
            · exact fun _ _ _ h => h
            · exact hHeld
            · exact hShut
            clear hShut
            intro hShut
            try simp only [Act.put, List.setIfInBounds_toArray, List.set_cons_zero, List.set_cons_succ]
            refine wpAnyN_take_2 (v := ?v3n) ?_ ?_ ?_ ?_ ?_ ?hy3n ?_ ?_ ?_
            case hy3n =>
              refine Or.inl ⟨by rfl, ?_⟩
              intro w hSw
              try dsimp only at hSw
              go_simp
              try with_reducible rfl
            · kernel_rfl
            · kernel_rfl
            · kernel_rfl
            · kernel_rfl
            · exact fun _ _ _ h => h
            · exact hHeld
            · exact hShut
            clear hShut
            intro hShut
            try simp only [Act.put, List.setIfInBounds_toArray, List.set_cons_zero, List.set_cons_succ]
            refine wpAnyN_take_3 (v := ?v4n) ?_ ?_ ?_ ?_ ?_ ?hy4n ?_ ?_ ?_
            case hy4n =>
              refine Or.inl ⟨by rfl, ?_⟩
              intro w hSw
              try dsimp only at hSw
              go_simp
              try with_reducible rfl
            · kernel_rfl
            · kernel_rfl
            · kernel_rfl
            · kernel_rfl
            · exact fun _ _ _ h => h
            · exact hHeld
            · exact hShut
            clear hShut
            intro hShut
            try simp only [Act.put, List.setIfInBounds_toArray, List.set_cons_zero, List.set_cons_succ]
            refine wpAnyN_take_4 (v := ?v5n) ?_ ?_ ?_ ?_ ?_ ?hy5n ?_ ?_ ?_
            case hy5n =>
              refine Or.inl ⟨by rfl, ?_⟩
              intro w hSw
              try dsimp only at hSw
              go_simp
              try with_reducible rfl
            · kernel_rfl
            · kernel_rfl
            · kernel_rfl
            · kernel_rfl
            · exact fun _ _ _ h => h
            · exact hHeld
            · exact hShut
            clear hShut
            intro hShut
            try simp only [Act.put, List.setIfInBounds_toArray, List.set_cons_zero, List.set_cons_succ]
            refine wpAnyN_take_5 (v := ?v6n) ?_ ?_ ?_ ?_ ?_ ?hy6n ?_ ?_ ?_
            case hy6n =>
              refine Or.inl ⟨by rfl, ?_⟩
              intro w hSw
              try dsimp only at hSw
              go_simp
              try with_reducible rfl
            · kernel_rfl
            · kernel_rfl
            · kernel_rfl
            · kernel_rfl
            · exact fun _ _ _ h => h
            · exact hHeld
            · exact hShut
            clear hShut
            intro hShut
            try simp only [Act.put, List.setIfInBounds_toArray, List.set_cons_zero, List.set_cons_succ]
            refine wpAnyN_take_6 (v := ?v7n) ?_ ?_ ?_ ?_ ?_ ?hy7n ?_ ?_ ?_
            case hy7n =>
              refine Or.inl ⟨by rfl, ?_⟩
              intro w hSw
              try dsimp only at hSw
              go_simp
              try with_reducible rfl
            · kernel_rfl
            · kernel_rfl
            · kernel_rfl
            · kernel_rfl
            · exact fun _ _ _ h => h
            · exact hHeld
            · exact hShut
            clear hShut
            intro hShut
            try simp only [Act.put, List.setIfInBounds_toArray, List.set_cons_zero, List.set_cons_succ]
            refine wpAnyN_take_7 (v := ?v8n) ?_ ?_ ?_ ?_ ?_ ?hy8n ?_ ?_ ?_
            case hy8n =>
              refine Or.inl ⟨by rfl, ?_⟩
              intro w hSw
              try dsimp only at hSw
              go_simp
              try with_reducible rfl
            · kernel_rfl
            · kernel_rfl
            · kernel_rfl
            · kernel_rfl
            · exact fun _ _ _ h => h
            · exact hHeld
            · exact hShut
            clear hShut
            intro hShut
            try simp only [Act.put, List.setIfInBounds_toArray, List.set_cons_zero, List.set_cons_succ]
            refine wpAnyN_take_8 (v := ?v9n) ?_ ?_ ?_ ?_ ?_ ?hy9n ?_ ?_ ?_
            case hy9n =>
              refine Or.inl ⟨by rfl, ?_⟩
              intro w hSw
              try dsimp only at hSw
              go_simp
              try with_reducible rfl
            · kernel_rfl
            · kernel_rfl
            · kernel_rfl
            · kernel_rfl
            · exact fun _ _ _ h => h
            · exact hHeld
            · exact hShut
            clear hShut
            intro hShut
            try simp only [Act.put, List.setIfInBounds_toArray, List.set_cons_zero, List.set_cons_succ]
            refine wpAnyN_take_9 (v := ?v10n) ?_ ?_ ?_ ?_ ?_ ?hy10n ?_ ?_ ?_
            case hy10n =>
              refine Or.inl ⟨by rfl, ?_⟩
              intro w hSw
              try dsimp only at hSw
              go_simp
              try with_reducible rfl
            · kernel_rfl
            · kernel_rfl
            · kernel_rfl
            · kernel_rfl
            · exact fun _ _ _ h => h
            · exact hHeld
            · exact hShut
            clear hShut
            intro hShut
            try simp only [Act.put, List.setIfInBounds_toArray, List.set_cons_zero, List.set_cons_succ]
            refine wpAnyN_take_10 (v := ?v11n) ?_ ?_ ?_ ?_ ?_ ?hy11n ?_ ?_ ?_
            case hy11n =>
              refine Or.inl ⟨by rfl, ?_⟩
              intro w hSw
              try dsimp only at hSw
              go_simp
              try with_reducible rfl
            · kernel_rfl
            · kernel_rfl
            · kernel_rfl
            · kernel_rfl
            · exact fun _ _ _ h => h
            · exact hHeld
            · exact hShut
            clear hShut
            intro hShut
            try simp only [Act.put, List.setIfInBounds_toArray, List.set_cons_zero, List.set_cons_succ]
            refine wpAnyN_one_11 (by kernel_rfl) (by exact hShut) (fun K hK => ?_)
            go_simp
            refine hK.out _ _ (fun h => absurd h (by decide)) (fun _ hS2 => ?_)
            clear hK K hShut
            have hShut := hS2
            clear hS2
            try simp only [Act.put, List.setIfInBounds_toArray, List.set_cons_zero, List.set_cons_succ]
            refine wpAnyN_done (by kernel_rfl) ?_ _
            go_wp2_with fail
            go_meet
            exact ⟨rfl, HZ.out.drewn⟩
          · obtain ⟨hsa, hsc, hca, hcc, hoa, hoc, hta, htc⟩ := hb
            obtain ⟨nn, hnn⟩ : ∃ nn : Nat, nodesN (makeI S) = nn := ⟨_, rfl⟩
            have hnb : nn ≤ 10 ∧ 1 ≤ nn := by have := hmr.out.2.2.2.2; unfold nodesN at hnn this; omega
            have hkn : at_ % nn < nn := Nat.mod_lt _ (by omega)
            obtain ⟨gh, gr, hgh, hrow⟩ := HAB.out.way_time n (at_ % nn) (by rw [hnn]; exact hkn)
            dsimp only at hgh
            subst hgh
            rw [hnn] at hrow
            have htl : (makeI S).time.length = nn := hmr.out.2.1.trans hnn
            have hXB := HAB.out.xb
            unfold instC at hXB
            dsimp only at hXB
            generalize htn : (makeI S).time.length = tn at *
            have hKS : ∀ wz : World, Below w'.heap.size w' wz → wz.cell? ⟨gb, 8, none⟩ = some (.slice (some ⟨gh, 0, none⟩) tn htc) ∧ wz.cell? ⟨gh, 0, none⟩ = some (.slice (some ⟨gr, 0, none⟩) nn nn) ∧ Below w'.heap.size w' wz := fun wz hz => ⟨keep_cell hz (cell_of_row w' gb 8 _ _ _ hXB), (hrow wz hz).1, hz⟩
            have hRB : ∀ wz : World, Below w'.heap.size w' wz → wz.rangeAt gb 0 [.int .i64 (makeI S).fin, .int .i64 (makeI S).tm, .int .i64 (makeI S).tr, .int .i64 (makeI S).bm, .int .i64 (makeI S).br, .slice hsa (makeI S).sats.length hsc, .slice hca (makeI S).custs.length hcc, .slice hoa (makeI S).cost.length hoc, .slice (some ⟨gh, 0, none⟩) tn htc] := fun wz hz => by
              have := range_row ((hz.block gb (heap_lt HAB.out.xb)).trans HAB.out.xb)
              rwa [htn] at this
            replace hKS := Lib.hid hKS
            replace hRB := Lib.hid hRB
            replace hrow := Lib.hid hrow
            replace hnn := Lib.hid hnn
            replace htn := Lib.hid htn
            have htl0 : 0 < tn := by omega
            replace htl := Lib.hid htl
            clear hXB
            go_upto_region 12 with fail
            have n0 : ¬ nn = 0 := by omega
            have p1 : IntKind.i64.wrap (at_ : Int) = (at_ : Int) := IntWalk.i64_in _ (by omega)
            have p5 : (at_ : Int).tmod (nn : Int) = ((at_ % nn : Nat) : Int) := (Int.ofNat_tmod at_ _).symm
            have k0 : (0 : Int) ≤ ((at_ % nn : Nat) : Int) := by omega
            have k1 : ((at_ % nn : Nat) : Int) < (nn : Int) := by omega
            have k2 : (0 : Int) < (tn : Int) := by omega
            generalize at_ % nn = k at *
            have HW := Lib.hid (Below.refl w'.heap.size w').drew
            refine wp_region_N (fun j => decide (j < 11)) (fun wz => wz.cell? ⟨gb, 8, none⟩ = some (.slice (some ⟨gh, 0, none⟩) tn htc) ∧ wz.cell? ⟨gh, 0, none⟩ = some (.slice (some ⟨gr, 0, none⟩) nn nn) ∧ Below w'.heap.size w' wz) (by kernel_rfl) (hKS.out _ HW.out) (fun hShut hHeld => ?_)
            refine wpAnyN_take_0 (v := ?v12n) ?_ ?_ ?_ ?_ ?_ ?hy12n ?_ ?_ ?_
            case hy12n =>
              refine Or.inl ⟨by rfl, ?_⟩
              intro w hSw
              try dsimp only at hSw
              go_simp
              try with_reducible rfl
            · kernel_rfl
            · kernel_rfl
            · kernel_rfl
            · kernel_rfl
            · exact fun _ _ _ h => h
            · exact hHeld
            · exact hShut
            clear hShut
            intro hShut
            try simp only [Act.put, List.setIfInBounds_toArray, List.set_cons_zero, List.set_cons_succ]
            refine wpAnyN_take_1 (v := ?v13n) ?_ ?_ ?_ ?_ ?_ ?hy13n ?_ ?_ ?_
            case hy13n =>
              refine Or.inl ⟨by rfl, ?_⟩
              intro w hSw
              try dsimp only at hSw
              go_simp
              try with_reducible rfl
            · kernel_rfl
            · kernel_rfl
            · kernel_rfl
            · kernel_rfl
            · exact fun _ _ _ h => h
            · exact hHeld
            · exact hShut
            clear hShut
            intro hShut
            try simp only [Act.put, List.setIfInBounds_toArray, List.set_cons_zero, List.set_cons_succ]
            refine wpAnyN_take_2 (v := ?v14n) ?_ ?_ ?_ ?_ ?_ ?hy14n ?_ ?_ ?_
            case hy14n =>
              refine Or.inl ⟨by rfl, ?_⟩
              intro w hSw
              try dsimp only at hSw
              go_simp
              try with_reducible rfl
            · kernel_rfl
            · kernel_rfl
            · kernel_rfl
            · kernel_rfl
            · exact fun _ _ _ h => h
            · exact hHeld
            · exact hShut
            clear hShut
            intro hShut
            try simp only [Act.put, List.setIfInBounds_toArray, List.set_cons_zero, List.set_cons_succ]
            refine wpAnyN_take_3 (v := ?v15n) ?_ ?_ ?_ ?_ ?_ ?hy15n ?_ ?_ ?_
            case hy15n =>
              refine Or.inl ⟨by rfl, ?_⟩
              intro w hSw
              try dsimp only at hSw
              go_simp
              try with_reducible rfl
            · kernel_rfl
            · kernel_rfl
            · kernel_rfl
            · kernel_rfl
            · exact fun _ _ _ h => h
            · exact hHeld
            · exact hShut
            clear hShut
            intro hShut
            try simp only [Act.put, List.setIfInBounds_toArray, List.set_cons_zero, List.set_cons_succ]
            refine wpAnyN_take_4 (v := ?v16n) ?_ ?_ ?_ ?_ ?_ ?hy16n ?_ ?_ ?_
            case hy16n =>
              refine Or.inl ⟨by rfl, ?_⟩
              intro w hSw
              try dsimp only at hSw
              go_simp
              try with_reducible rfl
            · kernel_rfl
            · kernel_rfl
            · kernel_rfl
            · kernel_rfl
            · exact fun _ _ _ h => h
            · exact hHeld
            · exact hShut
            clear hShut
            intro hShut
            try simp only [Act.put, List.setIfInBounds_toArray, List.set_cons_zero, List.set_cons_succ]
            refine wpAnyN_take_5 (v := ?v17n) ?_ ?_ ?_ ?_ ?_ ?hy17n ?_ ?_ ?_
            case hy17n =>
              refine Or.inl ⟨by rfl, ?_⟩
              intro w hSw
              try dsimp only at hSw
              go_simp
              try with_reducible rfl
            · kernel_rfl
            · kernel_rfl
            · kernel_rfl
            · kernel_rfl
            · exact fun _ _ _ h => h
            · exact hHeld
            · exact hShut
            clear hShut
            intro hShut
            try simp only [Act.put, List.setIfInBounds_toArray, List.set_cons_zero, List.set_cons_succ]
            refine wpAnyN_take_6 (v := .agg (List.toArray [.int .i64 (makeI S).fin, .int .i64 (makeI S).tm, .int .i64 (makeI S).tr, .int .i64 (makeI S).bm, .int .i64 (makeI S).br, .slice hsa (makeI S).sats.length hsc, .slice hca (makeI S).custs.length hcc, .slice hoa (makeI S).cost.length hoc, .slice (some ⟨gh, 0, none⟩) tn htc])) (by kernel_rfl) (by kernel_rfl) (by kernel_rfl) (by kernel_rfl) (fun _ _ _ h => h) (yieldsIf_load_mid (by rfl) 28 _ rfl gb 0 rfl _ _ (fun wz hz => hRB.out wz hz.2.2) Try.underlying28 rfl (by kernel_rfl)) hHeld hShut (fun hS2 => ?_)
            clear hShut
            have hShut := hS2
            clear hS2
            try simp only [Act.put, List.setIfInBounds_toArray, List.set_cons_zero, List.set_cons_succ]
            refine wpAnyN_take_9 (v := ?v18n) ?_ ?_ ?_ ?_ ?_ ?hy18n ?_ ?_ ?_
            case hy18n =>
              refine Or.inl ⟨by rfl, ?_⟩
              intro w hSw
              try dsimp only at hSw
              go_simp
              try with_reducible rfl
            · kernel_rfl
            · kernel_rfl
            · kernel_rfl
            · kernel_rfl
            · exact fun _ _ _ h => h
            · exact hHeld
            · exact hShut
            clear hShut
            intro hShut
            try simp only [Act.put, List.setIfInBounds_toArray, List.set_cons_zero, List.set_cons_succ]
            refine wpAnyN_one_7 (by kernel_rfl) (by exact hShut) (fun K hK => ?_)
            go_simp
            refine (nodes_nn2 (makeI S) ⟨hsa, hsc, hca, hcc, hoa, hoc, some ⟨gh, 0, none⟩, htc⟩ nn tn hnn htn _ (by have := hml.out; omega) (by have := hml.out; omega)).mono ?_
            rintro e wz ⟨rfl, hbz⟩
            go_wp2_with fail
            replace HW := Lib.hid (HW.out.trans (hbz.mono HW.out.size))
            clear hbz
            refine hK.out _ _ (fun _ => (by exact hKS.out _ HW.out)) (fun hH hS2 => ?_)
            clear hK K hHeld hShut
            have hShut := hS2
            clear hS2
            have hHeld := hH rfl
            clear hH
            try simp only [Act.put, List.setIfInBounds_toArray, List.set_cons_zero, List.set_cons_succ]
            refine wpAnyN_take_8 (v := ?v19n) ?_ ?_ ?_ ?_ ?_ ?hy19n ?_ ?_ ?_
            case hy19n =>
              refine Or.inl ⟨by rfl, ?_⟩
              intro w hSw
              try dsimp only at hSw
              go_simp
              try with_reducible rfl
            · kernel_rfl
            · kernel_rfl
            · kernel_rfl
            · kernel_rfl
            · exact fun _ _ _ h => h
            · exact hHeld
            · exact hShut
            clear hShut
            intro hShut
            try simp only [Act.put, List.setIfInBounds_toArray, List.set_cons_zero, List.set_cons_succ]
            refine wpAnyN_take_10 (v := ?v20n) ?_ ?_ ?_ ?_ ?_ ?hy20n ?_ ?_ ?_
            case hy20n =>
              refine Or.inl ⟨by rfl, ?_⟩
              intro w hSw
              try dsimp only at hSw
              go_simp
              try with_reducible rfl
            · kernel_rfl
            · kernel_rfl
            · kernel_rfl
            · kernel_rfl
            · exact fun _ _ _ h => h
            · exact hHeld
            · exact hShut
            clear hShut
            intro hShut
            try simp only [Act.put, List.setIfInBounds_toArray, List.set_cons_zero, List.set_cons_succ]
            obtain ⟨_, ⟨v, hv⟩, hf, HZ⟩ := hrow.out _ HW.out
            replace HZ := Lib.hid HZ
            refine wpAnyN_one_11 (by kernel_rfl) (by exact hShut) (fun K hK => ?_)
            go_simp
            refine hK.out _ _ (fun h => absurd h (by decide)) (fun _ hS2 => ?_)
            clear hK K hShut
            have hShut := hS2
            clear hS2
            try simp only [Act.put, List.setIfInBounds_toArray, List.set_cons_zero, List.set_cons_succ]
            refine wpAnyN_done (by kernel_rfl) ?_ _
            go_wp2_with fail
            go_meet
            exact ⟨rfl, HZ.out⟩
          · obtain ⟨hsa, hsc, hca, hcc, hoa, hoc, hta, htc⟩ := hb
            obtain ⟨is, his, hsz0, hsz1, hsz2⟩ := info_parts info_sat
            have hXB := HAB.out.xb
            have cj : w'.cell? ⟨gb, 5, none⟩ = some (.slice hsa (makeI S).sats.length hsc) := cell_of_row w' gb 5 _ _ _ hXB
            clear hXB
            have HOWN := Lib.hid ((HAB.out.mb.sats.alloc (.cells #[.int .i64 0, .int .i64 0] 42)).drew)
            have HNEW : Hid (∀ (q : Nat) (u : Value), [Value.int .i64 0, .int .i64 0][q]? = some u → ((w'.alloc (.cells #[.int .i64 0, .int .i64 0] 42)).drew).cell? ((⟨w'.heap.size, 0, none⟩ : Addr).add q) = some u) := Lib.hid (fun q u hu => cells_new _ _ _ q u (by simpa using hu))
            have hbw := Lib.hid HAB.out.uw
            have hsl := hml.out.1
            go_upto_region 14 with fail
            go_wp2_with (first | (at_builtin; refine wpList_append_own _ rfl _ _ 24 rfl U.heap.size 42 is (.agg #[.int .i64 0, .int .i64 0]) 2 16 Try.underlying24 his hsz0 hsz1 hsz2 rfl (by decide) _ _ _ rfl HOWN.out ⟨w'.heap.size, 0, none⟩ 1 1 [.int .i64 0, .int .i64 0] rfl rfl HNEW.out (fun x hx => by simp at hx; rcases hx with rfl | rfl <;> rfl) (by unfold maxLen; omega) (by omega) (by have := hbw.out; simp; omega) ?_; intro v' w2 hown2 hgrow _; obtain ⟨A', C', hv'⟩ := own_val hown2; subst hv'; obtain ⟨c5, f5, HZ⟩ := HAB.out.way_sat 0 (.cells #[.int .i64 0, .int .i64 0] 42) hown2 (by first | exact hgrow | exact grown_undrew2 hgrow); have HZ2 := Lib.hid HZ; clear HZ))
            go_meet
            exact ⟨rfl, HZ2.out⟩
          · have HZ := Lib.hid HAB.out.way_not
            go_wp2_with fail
            go_meet
            exact ⟨rfl, HZ.out⟩
        case rest =>
          obtain ⟨rfl, hcut⟩ := hcut
          clear hq hml hmr HAB hc1
          go_upto_region 15 with fail
          have hSame := Lib.hid (rfl : True = True)
          obtain ⟨Y2, hY, XA, IA, SB, BW⟩ := hcut
          have RX : ∀ wz : World, Below wc.heap.size wc wz → wz.rangeAt g 0 [.int .i64 X.fin, .int .i64 X.tm, .int .i64 X.tr, .int .i64 X.bm, .int .i64 X.br, .slice x5 X.sats.length x6, .slice x7 X.custs.length x8, .slice xo X.cost.length xp, .slice xt X.time.length xu] := fun wz hz => range9 (KX.out wz (BW.trans (hz.mono BW.size))).1
          have RY : ∀ wz : World, Below wc.heap.size wc wz → wz.rangeAt (g + 1) 0 [.int .i64 Y.fin, .int .i64 Y.tm, .int .i64 Y.tr, .int .i64 Y.bm, .int .i64 Y.br, .slice y5 Y.sats.length y6, .slice y7 Y.custs.length y8, .slice yo Y.cost.length yp, .slice yt Y.time.length yu] := fun wz hz => range9 (KX.out wz (BW.trans (hz.mono BW.size))).2
          have RA : ∀ wz : World, Below wc.heap.size wc wz → wz.rangeAt ga 0 [.int .i64 (makeI S).fin, .int .i64 (makeI S).tm, .int .i64 (makeI S).tr, .int .i64 (makeI S).bm, .int .i64 (makeI S).br, .slice ha.sa (makeI S).sats.length ha.sc, .slice ha.ca (makeI S).custs.length ha.cc, .slice ha.oa (makeI S).cost.length ha.oc, .slice ha.ta (makeI S).time.length ha.tc] := fun wz hz => range_row ((hz.block ga (heap_lt XA)).trans XA)
          have RB : ∀ wz : World, Below wc.heap.size wc wz → wz.rangeAt gb 0 [.int .i64 Y2.fin, .int .i64 Y2.tm, .int .i64 Y2.tr, .int .i64 Y2.bm, .int .i64 Y2.br, .slice hY.sa Y2.sats.length hY.sc, .slice hY.ca Y2.custs.length hY.cc, .slice hY.oa Y2.cost.length hY.oc, .slice hY.ta Y2.time.length hY.tc] := fun wz hz => range_row ((hz.block gb (heap_lt SB.blk)).trans SB.blk)
          replace RX := Lib.hid RX
          replace RY := Lib.hid RY
          replace RA := Lib.hid RA
          replace RB := Lib.hid RB
          have JX := Lib.hid (IX.out.below BW)
          have JY := Lib.hid (IY.out.below BW)
          have JA := Lib.hid IA
          have JB := Lib.hid SB.is
          have JL := Lib.hid hLL.out.1
          have hWW := Lib.hid (hW.out.trans (BW.mono (by have := hg.out; omega)))
          have gw : w.heap.size ≤ wc.heap.size := by have := BW.size; have := hg.out; omega
          have HW := Lib.hid (Below.refl wc.heap.size wc).drew
          clear XA IA SB BW KX KD H IX IY d0 d1 d2 d3 d4 d5 d6 d7 d8 d9 d10
          refine wp_region_N (fun j => decide (j < 40)) (fun wz => Below wc.heap.size wc wz) (by kernel_rfl) HW.out (fun hShut hHeld => ?_)
          refine wpAnyN_take_0 (v := .agg (List.toArray [.int .i64 X.fin, .int .i64 X.tm, .int .i64 X.tr, .int .i64 X.bm, .int .i64 X.br, .slice x5 X.sats.length x6, .slice x7 X.custs.length x8, .slice xo X.cost.length xp, .slice xt X.time.length xu])) (by kernel_rfl) (by kernel_rfl) (by kernel_rfl) (by kernel_rfl) (fun _ _ _ h => h) (yieldsIf_load_mid (by rfl) 28 _ rfl g 0 rfl _ _ (fun wz hz => RX.out wz hz) Try.underlying28 rfl (by kernel_rfl)) hHeld hShut (fun hS2 => ?_)
          clear hShut
          have hShut := hS2
          clear hS2
          try simp only [Act.put, List.setIfInBounds_toArray, List.set_cons_zero, List.set_cons_succ]
          refine wpAnyN_take_1 (v := .agg (List.toArray [.int .i64 Y.fin, .int .i64 Y.tm, .int .i64 Y.tr, .int .i64 Y.bm, .int .i64 Y.br, .slice y5 Y.sats.length y6, .slice y7 Y.custs.length y8, .slice yo Y.cost.length yp, .slice yt Y.time.length yu])) (by kernel_rfl) (by kernel_rfl) (by kernel_rfl) (by kernel_rfl) (fun _ _ _ h => h) (yieldsIf_load_mid (by rfl) 28 _ rfl (g + 1) 0 rfl _ _ (fun wz hz => RY.out wz hz) Try.underlying28 rfl (by kernel_rfl)) hHeld hShut (fun hS2 => ?_)
          clear hShut
          have hShut := hS2
          clear hS2
          try simp only [Act.put, List.setIfInBounds_toArray, List.set_cons_zero, List.set_cons_succ]
          refine wpAnyN_take_3 (v := .agg (List.toArray [.int .i64 X.fin, .int .i64 X.tm, .int .i64 X.tr, .int .i64 X.bm, .int .i64 X.br, .slice x5 X.sats.length x6, .slice x7 X.custs.length x8, .slice xo X.cost.length xp, .slice xt X.time.length xu])) (by kernel_rfl) (by kernel_rfl) (by kernel_rfl) (by kernel_rfl) (fun _ _ _ h => h) (yieldsIf_load_mid (by rfl) 28 _ rfl g 0 rfl _ _ (fun wz hz => RX.out wz hz) Try.underlying28 rfl (by kernel_rfl)) hHeld hShut (fun hS2 => ?_)
          clear hShut
          have hShut := hS2
          clear hS2
          try simp only [Act.put, List.setIfInBounds_toArray, List.set_cons_zero, List.set_cons_succ]
          refine wpAnyN_take_4 (v := .agg (List.toArray [.int .i64 Y.fin, .int .i64 Y.tm, .int .i64 Y.tr, .int .i64 Y.bm, .int .i64 Y.br, .slice y5 Y.sats.length y6, .slice y7 Y.custs.length y8, .slice yo Y.cost.length yp, .slice yt Y.time.length yu])) (by kernel_rfl) (by kernel_rfl) (by kernel_rfl) (by kernel_rfl) (fun _ _ _ h => h) (yieldsIf_load_mid (by rfl) 28 _ rfl (g + 1) 0 rfl _ _ (fun wz hz => RY.out wz hz) Try.underlying28 rfl (by kernel_rfl)) hHeld hShut (fun hS2 => ?_)
          clear hShut
          have hShut := hS2
          clear hS2
          try simp only [Act.put, List.setIfInBounds_toArray, List.set_cons_zero, List.set_cons_succ]
          refine wpAnyN_one_2 (by kernel_rfl) (by exact hShut) (fun K hK => ?_)
          go_simp
          refine (samei_any X Y ⟨x5, x6, x7, x8, xo, xp, xt, xu⟩ ⟨y5, y6, y7, y8, yo, yp, yt, yu⟩ _ (JX.out.below HW.out) (JY.out.below HW.out)).mono ?_
          rintro e wz2 ⟨rfl, hbz⟩
          go_wp2_with fail
          replace HW := Lib.hid (HW.out.trans (hbz.mono HW.out.size))
          clear hbz
          refine hK.out _ _ (fun _ => (by exact HW.out)) (fun hH hS2 => ?_)
          clear hK K hHeld hShut
          have hShut := hS2
          clear hS2
          have hHeld := hH rfl
          clear hH
          try simp only [Act.put, List.setIfInBounds_toArray, List.set_cons_zero, List.set_cons_succ]
          refine wpAnyN_one_5 (by kernel_rfl) (by exact hShut) (fun K hK => ?_)
          go_simp
          refine (samel_any X Y ⟨x5, x6, x7, x8, xo, xp, xt, xu⟩ ⟨y5, y6, y7, y8, yo, yp, yt, yu⟩ _ (JX.out.below HW.out) (JY.out.below HW.out)).mono ?_
          rintro e wz5 ⟨rfl, hbz⟩
          go_wp2_with fail
          replace HW := Lib.hid (HW.out.trans (hbz.mono HW.out.size))
          clear hbz
          refine hK.out _ _ (fun _ => (by exact HW.out)) (fun hH hS2 => ?_)
          clear hK K hHeld hShut
          have hShut := hS2
          clear hS2
          have hHeld := hH rfl
          clear hH
          try simp only [Act.put, List.setIfInBounds_toArray, List.set_cons_zero, List.set_cons_succ]
          refine wpAnyN_take_6 (v := ?v21n) ?_ ?_ ?_ ?_ ?_ ?hy21n ?_ ?_ ?_
          case hy21n =>
            refine Or.inl ⟨by rfl, ?_⟩
            intro w hSw
            try dsimp only at hSw
            go_simp
            try with_reducible rfl
          · kernel_rfl
          · kernel_rfl
          · kernel_rfl
          · kernel_rfl
          · exact fun _ _ _ h => h
          · exact hHeld
          · exact hShut
          clear hShut
          intro hShut
          try simp only [Act.put, List.setIfInBounds_toArray, List.set_cons_zero, List.set_cons_succ]
          refine wpAnyN_take_7 (v := ?v22n) ?_ ?_ ?_ ?_ ?_ ?hy22n ?_ ?_ ?_
          case hy22n =>
            refine Or.inl ⟨by rfl, ?_⟩
            intro w hSw
            try dsimp only at hSw
            go_simp
            try with_reducible rfl
          · kernel_rfl
          · kernel_rfl
          · kernel_rfl
          · kernel_rfl
          · exact fun _ _ _ h => h
          · exact hHeld
          · exact hShut
          clear hShut
          intro hShut
          try simp only [Act.put, List.setIfInBounds_toArray, List.set_cons_zero, List.set_cons_succ]
          refine wpAnyN_take_8 (v := .agg (List.toArray [.int .i64 (makeI S).fin, .int .i64 (makeI S).tm, .int .i64 (makeI S).tr, .int .i64 (makeI S).bm, .int .i64 (makeI S).br, .slice ha.sa (makeI S).sats.length ha.sc, .slice ha.ca (makeI S).custs.length ha.cc, .slice ha.oa (makeI S).cost.length ha.oc, .slice ha.ta (makeI S).time.length ha.tc])) (by kernel_rfl) (by kernel_rfl) (by kernel_rfl) (by kernel_rfl) (fun _ _ _ h => h) (yieldsIf_load_mid (by rfl) 28 _ rfl ga 0 rfl _ _ (fun wz hz => RA.out wz hz) Try.underlying28 rfl (by kernel_rfl)) hHeld hShut (fun hS2 => ?_)
          clear hShut
          have hShut := hS2
          clear hS2
          try simp only [Act.put, List.setIfInBounds_toArray, List.set_cons_zero, List.set_cons_succ]
          refine wpAnyN_take_9 (v := .agg (List.toArray [.int .i64 Y2.fin, .int .i64 Y2.tm, .int .i64 Y2.tr, .int .i64 Y2.bm, .int .i64 Y2.br, .slice hY.sa Y2.sats.length hY.sc, .slice hY.ca Y2.custs.length hY.cc, .slice hY.oa Y2.cost.length hY.oc, .slice hY.ta Y2.time.length hY.tc])) (by kernel_rfl) (by kernel_rfl) (by kernel_rfl) (by kernel_rfl) (fun _ _ _ h => h) (yieldsIf_load_mid (by rfl) 28 _ rfl gb 0 rfl _ _ (fun wz hz => RB.out wz hz) Try.underlying28 rfl (by kernel_rfl)) hHeld hShut (fun hS2 => ?_)
          clear hShut
          have hShut := hS2
          clear hS2
          try simp only [Act.put, List.setIfInBounds_toArray, List.set_cons_zero, List.set_cons_succ]
          refine wpAnyN_take_11 (v := .agg (List.toArray [.int .i64 (makeI S).fin, .int .i64 (makeI S).tm, .int .i64 (makeI S).tr, .int .i64 (makeI S).bm, .int .i64 (makeI S).br, .slice ha.sa (makeI S).sats.length ha.sc, .slice ha.ca (makeI S).custs.length ha.cc, .slice ha.oa (makeI S).cost.length ha.oc, .slice ha.ta (makeI S).time.length ha.tc])) (by kernel_rfl) (by kernel_rfl) (by kernel_rfl) (by kernel_rfl) (fun _ _ _ h => h) (yieldsIf_load_mid (by rfl) 28 _ rfl ga 0 rfl _ _ (fun wz hz => RA.out wz hz) Try.underlying28 rfl (by kernel_rfl)) hHeld hShut (fun hS2 => ?_)
          clear hShut
          have hShut := hS2
          clear hS2
          try simp only [Act.put, List.setIfInBounds_toArray, List.set_cons_zero, List.set_cons_succ]
          refine wpAnyN_take_12 (v := .agg (List.toArray [.int .i64 Y2.fin, .int .i64 Y2.tm, .int .i64 Y2.tr, .int .i64 Y2.bm, .int .i64 Y2.br, .slice hY.sa Y2.sats.length hY.sc, .slice hY.ca Y2.custs.length hY.cc, .slice hY.oa Y2.cost.length hY.oc, .slice hY.ta Y2.time.length hY.tc])) (by kernel_rfl) (by kernel_rfl) (by kernel_rfl) (by kernel_rfl) (fun _ _ _ h => h) (yieldsIf_load_mid (by rfl) 28 _ rfl gb 0 rfl _ _ (fun wz hz => RB.out wz hz) Try.underlying28 rfl (by kernel_rfl)) hHeld hShut (fun hS2 => ?_)
          clear hShut
          have hShut := hS2
          clear hS2
          try simp only [Act.put, List.setIfInBounds_toArray, List.set_cons_zero, List.set_cons_succ]
          refine wpAnyN_one_10 (by kernel_rfl) (by exact hShut) (fun K hK => ?_)
          go_simp
          refine (samei_any (makeI S) Y2 ha hY _ (JA.out.below HW.out) (JB.out.below HW.out)).mono ?_
          rintro e wz10 ⟨rfl, hbz⟩
          go_wp2_with fail
          replace HW := Lib.hid (HW.out.trans (hbz.mono HW.out.size))
          clear hbz
          refine hK.out _ _ (fun _ => (by exact HW.out)) (fun hH hS2 => ?_)
          clear hK K hHeld hShut
          have hShut := hS2
          clear hS2
          have hHeld := hH rfl
          clear hH
          try simp only [Act.put, List.setIfInBounds_toArray, List.set_cons_zero, List.set_cons_succ]
          refine wpAnyN_one_13 (by kernel_rfl) (by exact hShut) (fun K hK => ?_)
          go_simp
          refine (samel_any (makeI S) Y2 ha hY _ (JA.out.below HW.out) (JB.out.below HW.out)).mono ?_
          rintro e wz13 ⟨rfl, hbz⟩
          go_wp2_with fail
          replace HW := Lib.hid (HW.out.trans (hbz.mono HW.out.size))
          clear hbz
          refine hK.out _ _ (fun _ => (by exact HW.out)) (fun hH hS2 => ?_)
          clear hK K hHeld hShut
          have hShut := hS2
          clear hS2
          have hHeld := hH rfl
          clear hH
          try simp only [Act.put, List.setIfInBounds_toArray, List.set_cons_zero, List.set_cons_succ]
          refine wpAnyN_take_14 (v := ?v23n) ?_ ?_ ?_ ?_ ?_ ?hy23n ?_ ?_ ?_
          case hy23n =>
            refine Or.inl ⟨by rfl, ?_⟩
            intro w hSw
            try dsimp only at hSw
            go_simp
            try with_reducible rfl
          · kernel_rfl
          · kernel_rfl
          · kernel_rfl
          · kernel_rfl
          · exact fun _ _ _ h => h
          · exact hHeld
          · exact hShut
          clear hShut
          intro hShut
          try simp only [Act.put, List.setIfInBounds_toArray, List.set_cons_zero, List.set_cons_succ]
          refine wpAnyN_take_15 (v := ?v24n) ?_ ?_ ?_ ?_ ?_ ?hy24n ?_ ?_ ?_
          case hy24n =>
            refine Or.inl ⟨by rfl, ?_⟩
            intro w hSw
            try dsimp only at hSw
            go_simp
            try with_reducible rfl
          · kernel_rfl
          · kernel_rfl
          · kernel_rfl
          · kernel_rfl
          · exact fun _ _ _ h => h
          · exact hHeld
          · exact hShut
          clear hShut
          intro hShut
          try simp only [Act.put, List.setIfInBounds_toArray, List.set_cons_zero, List.set_cons_succ]
          refine wpAnyN_take_16 (v := ?v25n) ?_ ?_ ?_ ?_ ?_ ?hy25n ?_ ?_ ?_
          case hy25n =>
            refine Or.inl ⟨by rfl, ?_⟩
            intro w hSw
            try dsimp only at hSw
            go_simp
            try with_reducible rfl
          · kernel_rfl
          · kernel_rfl
          · kernel_rfl
          · kernel_rfl
          · exact fun _ _ _ h => h
          · exact hHeld
          · exact hShut
          clear hShut
          intro hShut
          try simp only [Act.put, List.setIfInBounds_toArray, List.set_cons_zero, List.set_cons_succ]
          refine wpAnyN_take_17 (v := .agg (List.toArray [.int .i64 X.fin, .int .i64 X.tm, .int .i64 X.tr, .int .i64 X.bm, .int .i64 X.br, .slice x5 X.sats.length x6, .slice x7 X.custs.length x8, .slice xo X.cost.length xp, .slice xt X.time.length xu])) (by kernel_rfl) (by kernel_rfl) (by kernel_rfl) (by kernel_rfl) (fun _ _ _ h => h) (yieldsIf_load_mid (by rfl) 28 _ rfl g 0 rfl _ _ (fun wz hz => RX.out wz hz) Try.underlying28 rfl (by kernel_rfl)) hHeld hShut (fun hS2 => ?_)
          clear hShut
          have hShut := hS2
          clear hS2
          try simp only [Act.put, List.setIfInBounds_toArray, List.set_cons_zero, List.set_cons_succ]
          refine wpAnyN_take_18 (v := .agg (List.toArray [.int .i64 X.fin, .int .i64 X.tm, .int .i64 X.tr, .int .i64 X.bm, .int .i64 X.br, .slice x5 X.sats.length x6, .slice x7 X.custs.length x8, .slice xo X.cost.length xp, .slice xt X.time.length xu])) (by kernel_rfl) (by kernel_rfl) (by kernel_rfl) (by kernel_rfl) (fun _ _ _ h => h) (yieldsIf_load_mid (by rfl) 28 _ rfl g 0 rfl _ _ (fun wz hz => RX.out wz hz) Try.underlying28 rfl (by kernel_rfl)) hHeld hShut (fun hS2 => ?_)
          clear hShut
          have hShut := hS2
          clear hS2
          try simp only [Act.put, List.setIfInBounds_toArray, List.set_cons_zero, List.set_cons_succ]
          refine wpAnyN_one_19 (by kernel_rfl) (by exact hShut) (fun K hK => ?_)
          go_simp
          refine (clone_light X ⟨x5, x6, x7, x8, xo, xp, xt, xu⟩ _ (JX.out.below HW.out) JL.out).mono ?_
          rintro e wz19 ⟨hc1, rfl, hc19, hbz⟩
          have Jhc1 := Lib.hid hc19
          clear hc19
          go_wp2_with fail
          replace HW := Lib.hid (HW.out.trans (hbz.mono HW.out.size))
          clear hbz
          refine hK.out _ _ (fun _ => (by exact HW.out)) (fun hH hS2 => ?_)
          clear hK K hHeld hShut
          have hShut := hS2
          clear hS2
          have hHeld := hH rfl
          clear hH
          try simp only [Act.put, List.setIfInBounds_toArray, List.set_cons_zero, List.set_cons_succ]
          refine wpAnyN_one_20 (by kernel_rfl) (by exact hShut) (fun K hK => ?_)
          go_simp
          refine (samei_any X X ⟨x5, x6, x7, x8, xo, xp, xt, xu⟩ hc1 _ (JX.out.below HW.out) Jhc1.out).mono ?_
          rintro e wz20 ⟨hez, hbz⟩
          rw [sameB_self] at hez
          subst hez
          go_wp2_with fail
          replace HW := Lib.hid (HW.out.trans (hbz.mono HW.out.size))
          clear hbz
          refine hK.out _ _ (fun _ => (by exact HW.out)) (fun hH hS2 => ?_)
          clear hK K hHeld hShut
          have hShut := hS2
          clear hS2
          have hHeld := hH rfl
          clear hH
          try simp only [Act.put, List.setIfInBounds_toArray, List.set_cons_zero, List.set_cons_succ]
          refine wpAnyN_take_21 (v := ?v26n) ?_ ?_ ?_ ?_ ?_ ?hy26n ?_ ?_ ?_
          case hy26n =>
            refine Or.inl ⟨by rfl, ?_⟩
            intro w hSw
            try dsimp only at hSw
            go_simp
            try with_reducible rfl
          · kernel_rfl
          · kernel_rfl
          · kernel_rfl
          · kernel_rfl
          · exact fun _ _ _ h => h
          · exact hHeld
          · exact hShut
          clear hShut
          intro hShut
          try simp only [Act.put, List.setIfInBounds_toArray, List.set_cons_zero, List.set_cons_succ]
          refine wpAnyN_take_22 (v := ?v27n) ?_ ?_ ?_ ?_ ?_ ?hy27n ?_ ?_ ?_
          case hy27n =>
            refine Or.inl ⟨by rfl, ?_⟩
            intro w hSw
            try dsimp only at hSw
            go_simp
            try with_reducible rfl
          · kernel_rfl
          · kernel_rfl
          · kernel_rfl
          · kernel_rfl
          · exact fun _ _ _ h => h
          · exact hHeld
          · exact hShut
          clear hShut
          intro hShut
          try simp only [Act.put, List.setIfInBounds_toArray, List.set_cons_zero, List.set_cons_succ]
          refine wpAnyN_take_23 (v := .agg (List.toArray [.int .i64 X.fin, .int .i64 X.tm, .int .i64 X.tr, .int .i64 X.bm, .int .i64 X.br, .slice x5 X.sats.length x6, .slice x7 X.custs.length x8, .slice xo X.cost.length xp, .slice xt X.time.length xu])) (by kernel_rfl) (by kernel_rfl) (by kernel_rfl) (by kernel_rfl) (fun _ _ _ h => h) (yieldsIf_load_mid (by rfl) 28 _ rfl g 0 rfl _ _ (fun wz hz => RX.out wz hz) Try.underlying28 rfl (by kernel_rfl)) hHeld hShut (fun hS2 => ?_)
          clear hShut
          have hShut := hS2
          clear hS2
          try simp only [Act.put, List.setIfInBounds_toArray, List.set_cons_zero, List.set_cons_succ]
          refine wpAnyN_take_24 (v := .agg (List.toArray [.int .i64 X.fin, .int .i64 X.tm, .int .i64 X.tr, .int .i64 X.bm, .int .i64 X.br, .slice x5 X.sats.length x6, .slice x7 X.custs.length x8, .slice xo X.cost.length xp, .slice xt X.time.length xu])) (by kernel_rfl) (by kernel_rfl) (by kernel_rfl) (by kernel_rfl) (fun _ _ _ h => h) (yieldsIf_load_mid (by rfl) 28 _ rfl g 0 rfl _ _ (fun wz hz => RX.out wz hz) Try.underlying28 rfl (by kernel_rfl)) hHeld hShut (fun hS2 => ?_)
          clear hShut
          have hShut := hS2
          clear hS2
          try simp only [Act.put, List.setIfInBounds_toArray, List.set_cons_zero, List.set_cons_succ]
          refine wpAnyN_one_25 (by kernel_rfl) (by exact hShut) (fun K hK => ?_)
          go_simp
          refine (clone_light X ⟨x5, x6, x7, x8, xo, xp, xt, xu⟩ _ (JX.out.below HW.out) JL.out).mono ?_
          rintro e wz25 ⟨hc2, rfl, hc25, hbz⟩
          have Jhc2 := Lib.hid hc25
          clear hc25
          go_wp2_with fail
          replace HW := Lib.hid (HW.out.trans (hbz.mono HW.out.size))
          clear hbz
          refine hK.out _ _ (fun _ => (by exact HW.out)) (fun hH hS2 => ?_)
          clear hK K hHeld hShut
          have hShut := hS2
          clear hS2
          have hHeld := hH rfl
          clear hH
          try simp only [Act.put, List.setIfInBounds_toArray, List.set_cons_zero, List.set_cons_succ]
          refine wpAnyN_one_26 (by kernel_rfl) (by exact hShut) (fun K hK => ?_)
          go_simp
          refine (samel_any X X ⟨x5, x6, x7, x8, xo, xp, xt, xu⟩ hc2 _ (JX.out.below HW.out) Jhc2.out).mono ?_
          rintro e wz26 ⟨hez, hbz⟩
          rw [sameB_self] at hez
          subst hez
          go_wp2_with fail
          replace HW := Lib.hid (HW.out.trans (hbz.mono HW.out.size))
          clear hbz
          refine hK.out _ _ (fun _ => (by exact HW.out)) (fun hH hS2 => ?_)
          clear hK K hHeld hShut
          have hShut := hS2
          clear hS2
          have hHeld := hH rfl
          clear hH
          try simp only [Act.put, List.setIfInBounds_toArray, List.set_cons_zero, List.set_cons_succ]
          refine wpAnyN_take_27 (v := ?v28n) ?_ ?_ ?_ ?_ ?_ ?hy28n ?_ ?_ ?_
          case hy28n =>
            refine Or.inl ⟨by rfl, ?_⟩
            intro w hSw
            try dsimp only at hSw
            go_simp
            try with_reducible rfl
          · kernel_rfl
          · kernel_rfl
          · kernel_rfl
          · kernel_rfl
          · exact fun _ _ _ h => h
          · exact hHeld
          · exact hShut
          clear hShut
          intro hShut
          try simp only [Act.put, List.setIfInBounds_toArray, List.set_cons_zero, List.set_cons_succ]
          refine wpAnyN_take_28 (v := ?v29n) ?_ ?_ ?_ ?_ ?_ ?hy29n ?_ ?_ ?_
          case hy29n =>
            refine Or.inl ⟨by rfl, ?_⟩
            intro w hSw
            try dsimp only at hSw
            go_simp
            try with_reducible rfl
          · kernel_rfl
          · kernel_rfl
          · kernel_rfl
          · kernel_rfl
          · exact fun _ _ _ h => h
          · exact hHeld
          · exact hShut
          clear hShut
          intro hShut
          try simp only [Act.put, List.setIfInBounds_toArray, List.set_cons_zero, List.set_cons_succ]
          refine wpAnyN_done (by kernel_rfl) ?_ _
          go_wp2_with fail
          go_ret
          exact ⟨rfl, by rw [hg.out]; exact hWW.out.trans (HW.out.mono (by have := hg.out; omega))⟩
      · refine wp_region_N (fun j => decide (j < 6)) (fun wz => (wz.cell? ⟨g + 2, 0, none⟩ = some (.int .u8 S.fin) ∧ wz.cell? ⟨g + 2, 1, none⟩ = some (.int .u8 S.tm) ∧ wz.cell? ⟨g + 2, 2, none⟩ = some (.int .u8 S.tr) ∧ wz.cell? ⟨g + 2, 3, none⟩ = some (.int .u8 S.bm) ∧ wz.cell? ⟨g + 2, 4, none⟩ = some (.int .u8 S.br) ∧ wz.cell? ⟨g + 2, 5, none⟩ = some (.slice sa S.sats.length sc) ∧ wz.cell? ⟨g + 2, 6, none⟩ = some (.slice ca S.custs.length cc) ∧ wz.cell? ⟨g + 2, 7, none⟩ = some (.slice oa S.cost.length oc) ∧ wz.cell? ⟨g + 2, 8, none⟩ = some (.slice ta S.time.length tc) ∧ wz.cell? ⟨g + 2, 9, none⟩ = some (.bool S.tight) ∧ wz.cell? ⟨g + 2, 10, none⟩ = some (.bool S.loose)) ∧ Below w3.heap.size w3 wz) (by kernel_rfl) (by exact ⟨KD.out _ (Below.refl _ _).drew, (Below.refl _ _).drew⟩) (fun hShut hHeld => ?_)
        have HB := Lib.hid ((Below.refl w3.heap.size w3).drew)
        generalize w3.drew = V0 at *
        refine wpAnyN_take_0 (v := ?v30n) ?_ ?_ ?_ ?_ ?_ ?hy30n ?_ ?_ ?_
        case hy30n =>
          refine Or.inl ⟨by rfl, ?_⟩
          intro w hSw
          try dsimp only at hSw
          go_simp
          try with_reducible rfl
        · kernel_rfl
        · kernel_rfl
        · kernel_rfl
        · kernel_rfl
        · exact fun _ _ _ h => h
        · exact hHeld
        · exact hShut
        clear hShut
        intro hShut
        try simp only [Act.put, List.setIfInBounds_toArray, List.set_cons_zero, List.set_cons_succ]
        refine wpAnyN_take_2 (v := ?v31n) ?_ ?_ ?_ ?_ ?_ ?hy31n ?_ ?_ ?_
        case hy31n =>
          refine Or.inl ⟨by rfl, ?_⟩
          intro w hSw
          try dsimp only at hSw
          go_simp
          try with_reducible rfl
        · kernel_rfl
        · kernel_rfl
        · kernel_rfl
        · kernel_rfl
        · exact fun _ _ _ h => h
        · exact hHeld
        · exact hShut
        clear hShut
        intro hShut
        try simp only [Act.put, List.setIfInBounds_toArray, List.set_cons_zero, List.set_cons_succ]
        refine wpAnyN_of_1_4_5 (by kernel_rfl) (by exact hShut) (fun K hK => ?_) (fun K hK => ?_) (fun K hK => ?_)
        · go_simp
          refine (make_any S ⟨sa, sc, ca, cc, oa, oc, ta, tc⟩ _ (H.out.below HB.out)).mono ?_
          rintro e V1 ⟨ha, a7, a8, rfl, HM, hb⟩
          go_wp2_with fail
          replace HB := Lib.hid (HB.out.trans (hb.mono HB.out.size))
          have HMA := Lib.hid HM
          clear HM hb
          refine hK.out _ _ (fun _ => (by exact ⟨KD.out _ HB.out, HB.out⟩)) (fun hH hS2 => ?_)
          clear hK K hHeld hShut
          have hShut := hS2
          clear hS2
          have hHeld := hH rfl
          clear hH
          try simp only [Act.put, List.setIfInBounds_toArray, List.set_cons_zero, List.set_cons_succ]
          refine wpAnyN_of_3_4_5 (by kernel_rfl) (by exact hShut) (fun K hK => ?_) (fun K hK => ?_) (fun K hK => ?_)
          · go_simp
            refine (make_any S ⟨sa, sc, ca, cc, oa, oc, ta, tc⟩ _ (H.out.below HB.out)).mono ?_
            rintro e V2 ⟨hb', b7, b8, rfl, HM, hb⟩
            go_wp2_with fail
            have HU := Lib.hid HB.out.size
            replace HB := Lib.hid (HB.out.trans (hb.mono HB.out.size))
            have HMB := Lib.hid HM
            have HAg := Lib.hid ((Agree.refl V1).below hb)
            have HV := Lib.hid hb.size
            clear HM hb
            refine hK.out _ _ (fun _ => (by exact ⟨KD.out _ HB.out, HB.out⟩)) (fun hH hS2 => ?_)
            clear hK K hHeld hShut
            have hShut := hS2
            clear hS2
            have hHeld := hH rfl
            clear hH
            try simp only [Act.put, List.setIfInBounds_toArray, List.set_cons_zero, List.set_cons_succ]
            refine wpAnyN_of_4_5 (by kernel_rfl) (by exact hShut) (fun K hK => ?_) (fun K hK => ?_)
            · go_simp
              go_wp2_with fail
              have hb : Below V2.heap.size V2 (V2.alloc (.cells #[.int .i64 0, .int .i64 0, .int .i64 0, .int .i64 0, .int .i64 0, .slice none 0 0, .slice none 0 0, .slice none 0 0, .slice none 0 0] 28)) := (Below.refl _ _).alloc (Nat.le_refl _) _
              have hn := heap_alloc_new V2 (.cells #[.int .i64 0, .int .i64 0, .int .i64 0, .int .i64 0, .int .i64 0, .slice none 0 0, .slice none 0 0, .slice none 0 0, .slice none 0 0] 28)
              have NA := Lib.hid HB.out.size
              have XUA := Lib.hid (fun (cur : Array Value) (T : TypeId) (hk : V1.heap[V2.heap.size]? = some (.cells cur T (0, 0))) => (absurd (heap_lt hk) (by have := HV.out; omega) : T = 28))
              replace HAg := Lib.hid (HAg.out.below hb)
              replace HMB := Lib.hid (HMB.out.below hb)
              replace HV := Lib.hid (Nat.le_trans HV.out hb.size)
              replace HB := Lib.hid (HB.out.trans (hb.mono HB.out.size))
              have XA := Lib.hid hn
              clear hn hb
              generalize V2.alloc (.cells #[.int .i64 0, .int .i64 0, .int .i64 0, .int .i64 0, .int .i64 0, .slice none 0 0, .slice none 0 0, .slice none 0 0, .slice none 0 0] 28) = V3 at *
              refine hK.out _ _ (fun _ => (by exact ⟨KD.out _ HB.out, HB.out⟩)) (fun hH hS2 => ?_)
              clear hK K hHeld hShut
              have hShut := hS2
              clear hS2
              have hHeld := hH rfl
              clear hH
              try simp only [Act.put, List.setIfInBounds_toArray, List.set_cons_zero, List.set_cons_succ]
              refine wpAnyN_one_5 (by kernel_rfl) (by exact hShut) (fun K hK => ?_)
              go_simp
              go_wp2_with fail
              have hb : Below V3.heap.size V3 (V3.alloc (.cells #[.int .i64 0, .int .i64 0, .int .i64 0, .int .i64 0, .int .i64 0, .slice none 0 0, .slice none 0 0, .slice none 0 0, .slice none 0 0] 28)) := (Below.refl _ _).alloc (Nat.le_refl _) _
              have hn := heap_alloc_new V3 (.cells #[.int .i64 0, .int .i64 0, .int .i64 0, .int .i64 0, .int .i64 0, .slice none 0 0, .slice none 0 0, .slice none 0 0, .slice none 0 0] 28)
              have NB := Lib.hid HB.out.size
              have XUB := Lib.hid (fun (cur : Array Value) (T : TypeId) (hk : V1.heap[V3.heap.size]? = some (.cells cur T (0, 0))) => (absurd (heap_lt hk) (by have := HV.out; omega) : T = 28))
              have NE : V2.heap.size ≠ V3.heap.size := by have := heap_lt XA.out; omega
              replace NE := Lib.hid NE
              replace HAg := Lib.hid (HAg.out.below hb)
              replace HMB := Lib.hid (HMB.out.below hb)
              replace HV := Lib.hid (Nat.le_trans HV.out hb.size)
              replace XA := Lib.hid ((hb.block _ (heap_lt XA.out)).trans XA.out)
              replace HB := Lib.hid (HB.out.trans (hb.mono HB.out.size))
              have XB := Lib.hid hn
              clear hn hb
              generalize V3.alloc (.cells #[.int .i64 0, .int .i64 0, .int .i64 0, .int .i64 0, .int .i64 0, .slice none 0 0, .slice none 0 0, .slice none 0 0, .slice none 0 0] 28) = V4 at *
              refine hK.out _ _ (fun _ => (by exact ⟨KD.out _ HB.out, HB.out⟩)) (fun hH hS2 => ?_)
              clear hK K hHeld hShut
              have hShut := hS2
              clear hS2
              have hHeld := hH rfl
              clear hH
              try simp only [Act.put, List.setIfInBounds_toArray, List.set_cons_zero, List.set_cons_succ]
              have HF := Lib.hid (AB0.fill ⟨HMA.out, HAg.out, HU.out, HV.out, HMB.out, XA.out, XB.out, NA.out, NB.out, NE.out, XUA.out, XUB.out, HB.out⟩)
              clear hHeld
              refine wpAnyN_one_6 (by kernel_rfl) (by exact hShut) (fun K hK => ?_)
              refine if_true_of (by rfl) ?_
              refine wp_fill 28 (.tmp 13) (.tmp 26) rfl (V2.heap.size) (makeI S) ha (by first | rfl | simp [Act.eval, Act.put]) (by first | rfl | simp [Act.eval, Act.put]) (by exact XA.out) (size9 _ _) ?_
              refine hK.out _ _ (fun h => absurd h (by decide)) (fun _ hS2 => ?_)
              clear hK K hShut
              have hShut := hS2
              clear hS2
              try simp only [Act.put, List.setIfInBounds_toArray, List.set_cons_zero, List.set_cons_succ]
              refine wpAnyN_one_7 (by kernel_rfl) (by exact hShut) (fun K hK => ?_)
              refine if_true_of (by rfl) ?_
              refine wp_fill 28 (.tmp 14) (.tmp 28) rfl (V3.heap.size) (makeI S) hb' (by first | rfl | simp [Act.eval, Act.put]) (by first | rfl | simp [Act.eval, Act.put]) (by exact HF.out.1) (size9 _ _) ?_
              refine hK.out _ _ (fun h => absurd h (by decide)) (fun _ hS2 => ?_)
              clear hK K hShut
              have hShut := hS2
              clear hS2
              try simp only [Act.put, List.setIfInBounds_toArray, List.set_cons_zero, List.set_cons_succ]
              refine wpAnyN_done (by kernel_rfl) ?_ _
              exact ⟨V1, ha, hb', V2.heap.size, V3.heap.size, _, a7, a8, b7, b8, HF.out.2, by first | rfl | simp [Act.put]⟩
            · go_simp
              go_wp2_with fail
              have hb : Below V2.heap.size V2 (V2.alloc (.cells #[.int .i64 0, .int .i64 0, .int .i64 0, .int .i64 0, .int .i64 0, .slice none 0 0, .slice none 0 0, .slice none 0 0, .slice none 0 0] 28)) := (Below.refl _ _).alloc (Nat.le_refl _) _
              have hn := heap_alloc_new V2 (.cells #[.int .i64 0, .int .i64 0, .int .i64 0, .int .i64 0, .int .i64 0, .slice none 0 0, .slice none 0 0, .slice none 0 0, .slice none 0 0] 28)
              have NB := Lib.hid HB.out.size
              have XUB := Lib.hid (fun (cur : Array Value) (T : TypeId) (hk : V1.heap[V2.heap.size]? = some (.cells cur T (0, 0))) => (absurd (heap_lt hk) (by have := HV.out; omega) : T = 28))
              replace HAg := Lib.hid (HAg.out.below hb)
              replace HMB := Lib.hid (HMB.out.below hb)
              replace HV := Lib.hid (Nat.le_trans HV.out hb.size)
              replace HB := Lib.hid (HB.out.trans (hb.mono HB.out.size))
              have XB := Lib.hid hn
              clear hn hb
              generalize V2.alloc (.cells #[.int .i64 0, .int .i64 0, .int .i64 0, .int .i64 0, .int .i64 0, .slice none 0 0, .slice none 0 0, .slice none 0 0, .slice none 0 0] 28) = V3 at *
              refine hK.out _ _ (fun _ => (by exact ⟨KD.out _ HB.out, HB.out⟩)) (fun hH hS2 => ?_)
              clear hK K hHeld hShut
              have hShut := hS2
              clear hS2
              have hHeld := hH rfl
              clear hH
              try simp only [Act.put, List.setIfInBounds_toArray, List.set_cons_zero, List.set_cons_succ]
              refine wpAnyN_one_4 (by kernel_rfl) (by exact hShut) (fun K hK => ?_)
              go_simp
              go_wp2_with fail
              have hb : Below V3.heap.size V3 (V3.alloc (.cells #[.int .i64 0, .int .i64 0, .int .i64 0, .int .i64 0, .int .i64 0, .slice none 0 0, .slice none 0 0, .slice none 0 0, .slice none 0 0] 28)) := (Below.refl _ _).alloc (Nat.le_refl _) _
              have hn := heap_alloc_new V3 (.cells #[.int .i64 0, .int .i64 0, .int .i64 0, .int .i64 0, .int .i64 0, .slice none 0 0, .slice none 0 0, .slice none 0 0, .slice none 0 0] 28)
              have NA := Lib.hid HB.out.size
              have XUA := Lib.hid (fun (cur : Array Value) (T : TypeId) (hk : V1.heap[V3.heap.size]? = some (.cells cur T (0, 0))) => (absurd (heap_lt hk) (by have := HV.out; omega) : T = 28))
              have NE : V3.heap.size ≠ V2.heap.size := by have := heap_lt XB.out; omega
              replace NE := Lib.hid NE
              replace HAg := Lib.hid (HAg.out.below hb)
              replace HMB := Lib.hid (HMB.out.below hb)
              replace HV := Lib.hid (Nat.le_trans HV.out hb.size)
              replace XB := Lib.hid ((hb.block _ (heap_lt XB.out)).trans XB.out)
              replace HB := Lib.hid (HB.out.trans (hb.mono HB.out.size))
              have XA := Lib.hid hn
              clear hn hb
              generalize V3.alloc (.cells #[.int .i64 0, .int .i64 0, .int .i64 0, .int .i64 0, .int .i64 0, .slice none 0 0, .slice none 0 0, .slice none 0 0, .slice none 0 0] 28) = V4 at *
              refine hK.out _ _ (fun _ => (by exact ⟨KD.out _ HB.out, HB.out⟩)) (fun hH hS2 => ?_)
              clear hK K hHeld hShut
              have hShut := hS2
              clear hS2
              have hHeld := hH rfl
              clear hH
              try simp only [Act.put, List.setIfInBounds_toArray, List.set_cons_zero, List.set_cons_succ]
              have HF := Lib.hid (AB0.fill ⟨HMA.out, HAg.out, HU.out, HV.out, HMB.out, XA.out, XB.out, NA.out, NB.out, NE.out, XUA.out, XUB.out, HB.out⟩)
              clear hHeld
              refine wpAnyN_one_6 (by kernel_rfl) (by exact hShut) (fun K hK => ?_)
              refine if_true_of (by rfl) ?_
              refine wp_fill 28 (.tmp 13) (.tmp 26) rfl (V3.heap.size) (makeI S) ha (by first | rfl | simp [Act.eval, Act.put]) (by first | rfl | simp [Act.eval, Act.put]) (by exact XA.out) (size9 _ _) ?_
              refine hK.out _ _ (fun h => absurd h (by decide)) (fun _ hS2 => ?_)
              clear hK K hShut
              have hShut := hS2
              clear hS2
              try simp only [Act.put, List.setIfInBounds_toArray, List.set_cons_zero, List.set_cons_succ]
              refine wpAnyN_one_7 (by kernel_rfl) (by exact hShut) (fun K hK => ?_)
              refine if_true_of (by rfl) ?_
              refine wp_fill 28 (.tmp 14) (.tmp 28) rfl (V2.heap.size) (makeI S) hb' (by first | rfl | simp [Act.eval, Act.put]) (by first | rfl | simp [Act.eval, Act.put]) (by exact HF.out.1) (size9 _ _) ?_
              refine hK.out _ _ (fun h => absurd h (by decide)) (fun _ hS2 => ?_)
              clear hK K hShut
              have hShut := hS2
              clear hS2
              try simp only [Act.put, List.setIfInBounds_toArray, List.set_cons_zero, List.set_cons_succ]
              refine wpAnyN_done (by kernel_rfl) ?_ _
              exact ⟨V1, ha, hb', V3.heap.size, V2.heap.size, _, a7, a8, b7, b8, HF.out.2, by first | rfl | simp [Act.put]⟩
          · go_simp
            go_wp2_with fail
            have hb : Below V1.heap.size V1 (V1.alloc (.cells #[.int .i64 0, .int .i64 0, .int .i64 0, .int .i64 0, .int .i64 0, .slice none 0 0, .slice none 0 0, .slice none 0 0, .slice none 0 0] 28)) := (Below.refl _ _).alloc (Nat.le_refl _) _
            have hn := heap_alloc_new V1 (.cells #[.int .i64 0, .int .i64 0, .int .i64 0, .int .i64 0, .int .i64 0, .slice none 0 0, .slice none 0 0, .slice none 0 0, .slice none 0 0] 28)
            have NA := Lib.hid HB.out.size
            replace HMA := Lib.hid (HMA.out.below hb)
            replace HB := Lib.hid (HB.out.trans (hb.mono HB.out.size))
            have XA := Lib.hid hn
            clear hn hb
            generalize V1.alloc (.cells #[.int .i64 0, .int .i64 0, .int .i64 0, .int .i64 0, .int .i64 0, .slice none 0 0, .slice none 0 0, .slice none 0 0, .slice none 0 0] 28) = V2 at *
            refine hK.out _ _ (fun _ => (by exact ⟨KD.out _ HB.out, HB.out⟩)) (fun hH hS2 => ?_)
            clear hK K hHeld hShut
            have hShut := hS2
            clear hS2
            have hHeld := hH rfl
            clear hH
            try simp only [Act.put, List.setIfInBounds_toArray, List.set_cons_zero, List.set_cons_succ]
            refine wpAnyN_of_3_5 (by kernel_rfl) (by exact hShut) (fun K hK => ?_) (fun K hK => ?_)
            · go_simp
              refine (make_any S ⟨sa, sc, ca, cc, oa, oc, ta, tc⟩ _ (H.out.below HB.out)).mono ?_
              rintro e V3 ⟨hb', b7, b8, rfl, HM, hb⟩
              go_wp2_with fail
              have HU := Lib.hid HB.out.size
              have XUA := Lib.hid (fun (cur : Array Value) (T : TypeId) (hk : V2.heap[V1.heap.size]? = some (.cells cur T (0, 0))) => ty_of XA.out hk)
              replace XA := Lib.hid ((hb.block _ (heap_lt XA.out)).trans XA.out)
              replace HB := Lib.hid (HB.out.trans (hb.mono HB.out.size))
              have HMB := Lib.hid HM
              have HAg := Lib.hid ((Agree.refl V2).below hb)
              have HV := Lib.hid hb.size
              clear HM hb
              refine hK.out _ _ (fun _ => (by exact ⟨KD.out _ HB.out, HB.out⟩)) (fun hH hS2 => ?_)
              clear hK K hHeld hShut
              have hShut := hS2
              clear hS2
              have hHeld := hH rfl
              clear hH
              try simp only [Act.put, List.setIfInBounds_toArray, List.set_cons_zero, List.set_cons_succ]
              refine wpAnyN_one_5 (by kernel_rfl) (by exact hShut) (fun K hK => ?_)
              go_simp
              go_wp2_with fail
              have hb : Below V3.heap.size V3 (V3.alloc (.cells #[.int .i64 0, .int .i64 0, .int .i64 0, .int .i64 0, .int .i64 0, .slice none 0 0, .slice none 0 0, .slice none 0 0, .slice none 0 0] 28)) := (Below.refl _ _).alloc (Nat.le_refl _) _
              have hn := heap_alloc_new V3 (.cells #[.int .i64 0, .int .i64 0, .int .i64 0, .int .i64 0, .int .i64 0, .slice none 0 0, .slice none 0 0, .slice none 0 0, .slice none 0 0] 28)
              have NB := Lib.hid HB.out.size
              have XUB := Lib.hid (fun (cur : Array Value) (T : TypeId) (hk : V2.heap[V3.heap.size]? = some (.cells cur T (0, 0))) => (absurd (heap_lt hk) (by have := HV.out; omega) : T = 28))
              have NE : V1.heap.size ≠ V3.heap.size := by have := heap_lt XA.out; omega
              replace NE := Lib.hid NE
              replace HAg := Lib.hid (HAg.out.below hb)
              replace HMB := Lib.hid (HMB.out.below hb)
              replace HV := Lib.hid (Nat.le_trans HV.out hb.size)
              replace XA := Lib.hid ((hb.block _ (heap_lt XA.out)).trans XA.out)
              replace HB := Lib.hid (HB.out.trans (hb.mono HB.out.size))
              have XB := Lib.hid hn
              clear hn hb
              generalize V3.alloc (.cells #[.int .i64 0, .int .i64 0, .int .i64 0, .int .i64 0, .int .i64 0, .slice none 0 0, .slice none 0 0, .slice none 0 0, .slice none 0 0] 28) = V4 at *
              refine hK.out _ _ (fun _ => (by exact ⟨KD.out _ HB.out, HB.out⟩)) (fun hH hS2 => ?_)
              clear hK K hHeld hShut
              have hShut := hS2
              clear hS2
              have hHeld := hH rfl
              clear hH
              try simp only [Act.put, List.setIfInBounds_toArray, List.set_cons_zero, List.set_cons_succ]
              have HF := Lib.hid (AB0.fill ⟨HMA.out, HAg.out, HU.out, HV.out, HMB.out, XA.out, XB.out, NA.out, NB.out, NE.out, XUA.out, XUB.out, HB.out⟩)
              clear hHeld
              refine wpAnyN_one_6 (by kernel_rfl) (by exact hShut) (fun K hK => ?_)
              refine if_true_of (by rfl) ?_
              refine wp_fill 28 (.tmp 13) (.tmp 26) rfl (V1.heap.size) (makeI S) ha (by first | rfl | simp [Act.eval, Act.put]) (by first | rfl | simp [Act.eval, Act.put]) (by exact XA.out) (size9 _ _) ?_
              refine hK.out _ _ (fun h => absurd h (by decide)) (fun _ hS2 => ?_)
              clear hK K hShut
              have hShut := hS2
              clear hS2
              try simp only [Act.put, List.setIfInBounds_toArray, List.set_cons_zero, List.set_cons_succ]
              refine wpAnyN_one_7 (by kernel_rfl) (by exact hShut) (fun K hK => ?_)
              refine if_true_of (by rfl) ?_
              refine wp_fill 28 (.tmp 14) (.tmp 28) rfl (V3.heap.size) (makeI S) hb' (by first | rfl | simp [Act.eval, Act.put]) (by first | rfl | simp [Act.eval, Act.put]) (by exact HF.out.1) (size9 _ _) ?_
              refine hK.out _ _ (fun h => absurd h (by decide)) (fun _ hS2 => ?_)
              clear hK K hShut
              have hShut := hS2
              clear hS2
              try simp only [Act.put, List.setIfInBounds_toArray, List.set_cons_zero, List.set_cons_succ]
              refine wpAnyN_done (by kernel_rfl) ?_ _
              exact ⟨V2, ha, hb', V1.heap.size, V3.heap.size, _, a7, a8, b7, b8, HF.out.2, by first | rfl | simp [Act.put]⟩
            · go_simp
              go_wp2_with fail
              have hb : Below V2.heap.size V2 (V2.alloc (.cells #[.int .i64 0, .int .i64 0, .int .i64 0, .int .i64 0, .int .i64 0, .slice none 0 0, .slice none 0 0, .slice none 0 0, .slice none 0 0] 28)) := (Below.refl _ _).alloc (Nat.le_refl _) _
              have hn := heap_alloc_new V2 (.cells #[.int .i64 0, .int .i64 0, .int .i64 0, .int .i64 0, .int .i64 0, .slice none 0 0, .slice none 0 0, .slice none 0 0, .slice none 0 0] 28)
              have NB := Lib.hid HB.out.size
              have NE : V1.heap.size ≠ V2.heap.size := by have := heap_lt XA.out; omega
              replace NE := Lib.hid NE
              replace HMA := Lib.hid (HMA.out.below hb)
              replace XA := Lib.hid ((hb.block _ (heap_lt XA.out)).trans XA.out)
              replace HB := Lib.hid (HB.out.trans (hb.mono HB.out.size))
              have XB := Lib.hid hn
              clear hn hb
              generalize V2.alloc (.cells #[.int .i64 0, .int .i64 0, .int .i64 0, .int .i64 0, .int .i64 0, .slice none 0 0, .slice none 0 0, .slice none 0 0, .slice none 0 0] 28) = V3 at *
              refine hK.out _ _ (fun _ => (by exact ⟨KD.out _ HB.out, HB.out⟩)) (fun hH hS2 => ?_)
              clear hK K hHeld hShut
              have hShut := hS2
              clear hS2
              have hHeld := hH rfl
              clear hH
              try simp only [Act.put, List.setIfInBounds_toArray, List.set_cons_zero, List.set_cons_succ]
              refine wpAnyN_one_3 (by kernel_rfl) (by exact hShut) (fun K hK => ?_)
              go_simp
              refine (make_any S ⟨sa, sc, ca, cc, oa, oc, ta, tc⟩ _ (H.out.below HB.out)).mono ?_
              rintro e V4 ⟨hb', b7, b8, rfl, HM, hb⟩
              go_wp2_with fail
              have HU := Lib.hid HB.out.size
              have XUA := Lib.hid (fun (cur : Array Value) (T : TypeId) (hk : V3.heap[V1.heap.size]? = some (.cells cur T (0, 0))) => ty_of XA.out hk)
              have XUB := Lib.hid (fun (cur : Array Value) (T : TypeId) (hk : V3.heap[V2.heap.size]? = some (.cells cur T (0, 0))) => ty_of XB.out hk)
              replace XA := Lib.hid ((hb.block _ (heap_lt XA.out)).trans XA.out)
              replace XB := Lib.hid ((hb.block _ (heap_lt XB.out)).trans XB.out)
              replace HB := Lib.hid (HB.out.trans (hb.mono HB.out.size))
              have HMB := Lib.hid HM
              have HAg := Lib.hid ((Agree.refl V3).below hb)
              have HV := Lib.hid hb.size
              clear HM hb
              refine hK.out _ _ (fun _ => (by exact ⟨KD.out _ HB.out, HB.out⟩)) (fun hH hS2 => ?_)
              clear hK K hHeld hShut
              have hShut := hS2
              clear hS2
              have hHeld := hH rfl
              clear hH
              try simp only [Act.put, List.setIfInBounds_toArray, List.set_cons_zero, List.set_cons_succ]
              have HF := Lib.hid (AB0.fill ⟨HMA.out, HAg.out, HU.out, HV.out, HMB.out, XA.out, XB.out, NA.out, NB.out, NE.out, XUA.out, XUB.out, HB.out⟩)
              clear hHeld
              refine wpAnyN_one_6 (by kernel_rfl) (by exact hShut) (fun K hK => ?_)
              refine if_true_of (by rfl) ?_
              refine wp_fill 28 (.tmp 13) (.tmp 26) rfl (V1.heap.size) (makeI S) ha (by first | rfl | simp [Act.eval, Act.put]) (by first | rfl | simp [Act.eval, Act.put]) (by exact XA.out) (size9 _ _) ?_
              refine hK.out _ _ (fun h => absurd h (by decide)) (fun _ hS2 => ?_)
              clear hK K hShut
              have hShut := hS2
              clear hS2
              try simp only [Act.put, List.setIfInBounds_toArray, List.set_cons_zero, List.set_cons_succ]
              refine wpAnyN_one_7 (by kernel_rfl) (by exact hShut) (fun K hK => ?_)
              refine if_true_of (by rfl) ?_
              refine wp_fill 28 (.tmp 14) (.tmp 28) rfl (V2.heap.size) (makeI S) hb' (by first | rfl | simp [Act.eval, Act.put]) (by first | rfl | simp [Act.eval, Act.put]) (by exact HF.out.1) (size9 _ _) ?_
              refine hK.out _ _ (fun h => absurd h (by decide)) (fun _ hS2 => ?_)
              clear hK K hShut
              have hShut := hS2
              clear hS2
              try simp only [Act.put, List.setIfInBounds_toArray, List.set_cons_zero, List.set_cons_succ]
              refine wpAnyN_done (by kernel_rfl) ?_ _
              exact ⟨V3, ha, hb', V1.heap.size, V2.heap.size, _, a7, a8, b7, b8, HF.out.2, by first | rfl | simp [Act.put]⟩
          · go_simp
            go_wp2_with fail
            have hb : Below V1.heap.size V1 (V1.alloc (.cells #[.int .i64 0, .int .i64 0, .int .i64 0, .int .i64 0, .int .i64 0, .slice none 0 0, .slice none 0 0, .slice none 0 0, .slice none 0 0] 28)) := (Below.refl _ _).alloc (Nat.le_refl _) _
            have hn := heap_alloc_new V1 (.cells #[.int .i64 0, .int .i64 0, .int .i64 0, .int .i64 0, .int .i64 0, .slice none 0 0, .slice none 0 0, .slice none 0 0, .slice none 0 0] 28)
            have NB := Lib.hid HB.out.size
            replace HMA := Lib.hid (HMA.out.below hb)
            replace HB := Lib.hid (HB.out.trans (hb.mono HB.out.size))
            have XB := Lib.hid hn
            clear hn hb
            generalize V1.alloc (.cells #[.int .i64 0, .int .i64 0, .int .i64 0, .int .i64 0, .int .i64 0, .slice none 0 0, .slice none 0 0, .slice none 0 0, .slice none 0 0] 28) = V2 at *
            refine hK.out _ _ (fun _ => (by exact ⟨KD.out _ HB.out, HB.out⟩)) (fun hH hS2 => ?_)
            clear hK K hHeld hShut
            have hShut := hS2
            clear hS2
            have hHeld := hH rfl
            clear hH
            try simp only [Act.put, List.setIfInBounds_toArray, List.set_cons_zero, List.set_cons_succ]
            refine wpAnyN_of_3_4 (by kernel_rfl) (by exact hShut) (fun K hK => ?_) (fun K hK => ?_)
            · go_simp
              refine (make_any S ⟨sa, sc, ca, cc, oa, oc, ta, tc⟩ _ (H.out.below HB.out)).mono ?_
              rintro e V3 ⟨hb', b7, b8, rfl, HM, hb⟩
              go_wp2_with fail
              have HU := Lib.hid HB.out.size
              have XUB := Lib.hid (fun (cur : Array Value) (T : TypeId) (hk : V2.heap[V1.heap.size]? = some (.cells cur T (0, 0))) => ty_of XB.out hk)
              replace XB := Lib.hid ((hb.block _ (heap_lt XB.out)).trans XB.out)
              replace HB := Lib.hid (HB.out.trans (hb.mono HB.out.size))
              have HMB := Lib.hid HM
              have HAg := Lib.hid ((Agree.refl V2).below hb)
              have HV := Lib.hid hb.size
              clear HM hb
              refine hK.out _ _ (fun _ => (by exact ⟨KD.out _ HB.out, HB.out⟩)) (fun hH hS2 => ?_)
              clear hK K hHeld hShut
              have hShut := hS2
              clear hS2
              have hHeld := hH rfl
              clear hH
              try simp only [Act.put, List.setIfInBounds_toArray, List.set_cons_zero, List.set_cons_succ]
              refine wpAnyN_one_4 (by kernel_rfl) (by exact hShut) (fun K hK => ?_)
              go_simp
              go_wp2_with fail
              have hb : Below V3.heap.size V3 (V3.alloc (.cells #[.int .i64 0, .int .i64 0, .int .i64 0, .int .i64 0, .int .i64 0, .slice none 0 0, .slice none 0 0, .slice none 0 0, .slice none 0 0] 28)) := (Below.refl _ _).alloc (Nat.le_refl _) _
              have hn := heap_alloc_new V3 (.cells #[.int .i64 0, .int .i64 0, .int .i64 0, .int .i64 0, .int .i64 0, .slice none 0 0, .slice none 0 0, .slice none 0 0, .slice none 0 0] 28)
              have NA := Lib.hid HB.out.size
              have XUA := Lib.hid (fun (cur : Array Value) (T : TypeId) (hk : V2.heap[V3.heap.size]? = some (.cells cur T (0, 0))) => (absurd (heap_lt hk) (by have := HV.out; omega) : T = 28))
              have NE : V3.heap.size ≠ V1.heap.size := by have := heap_lt XB.out; omega
              replace NE := Lib.hid NE
              replace HAg := Lib.hid (HAg.out.below hb)
              replace HMB := Lib.hid (HMB.out.below hb)
              replace HV := Lib.hid (Nat.le_trans HV.out hb.size)
              replace XB := Lib.hid ((hb.block _ (heap_lt XB.out)).trans XB.out)
              replace HB := Lib.hid (HB.out.trans (hb.mono HB.out.size))
              have XA := Lib.hid hn
              clear hn hb
              generalize V3.alloc (.cells #[.int .i64 0, .int .i64 0, .int .i64 0, .int .i64 0, .int .i64 0, .slice none 0 0, .slice none 0 0, .slice none 0 0, .slice none 0 0] 28) = V4 at *
              refine hK.out _ _ (fun _ => (by exact ⟨KD.out _ HB.out, HB.out⟩)) (fun hH hS2 => ?_)
              clear hK K hHeld hShut
              have hShut := hS2
              clear hS2
              have hHeld := hH rfl
              clear hH
              try simp only [Act.put, List.setIfInBounds_toArray, List.set_cons_zero, List.set_cons_succ]
              have HF := Lib.hid (AB0.fill ⟨HMA.out, HAg.out, HU.out, HV.out, HMB.out, XA.out, XB.out, NA.out, NB.out, NE.out, XUA.out, XUB.out, HB.out⟩)
              clear hHeld
              refine wpAnyN_one_6 (by kernel_rfl) (by exact hShut) (fun K hK => ?_)
              refine if_true_of (by rfl) ?_
              refine wp_fill 28 (.tmp 13) (.tmp 26) rfl (V3.heap.size) (makeI S) ha (by first | rfl | simp [Act.eval, Act.put]) (by first | rfl | simp [Act.eval, Act.put]) (by exact XA.out) (size9 _ _) ?_
              refine hK.out _ _ (fun h => absurd h (by decide)) (fun _ hS2 => ?_)
              clear hK K hShut
              have hShut := hS2
              clear hS2
              try simp only [Act.put, List.setIfInBounds_toArray, List.set_cons_zero, List.set_cons_succ]
              refine wpAnyN_one_7 (by kernel_rfl) (by exact hShut) (fun K hK => ?_)
              refine if_true_of (by rfl) ?_
              refine wp_fill 28 (.tmp 14) (.tmp 28) rfl (V1.heap.size) (makeI S) hb' (by first | rfl | simp [Act.eval, Act.put]) (by first | rfl | simp [Act.eval, Act.put]) (by exact HF.out.1) (size9 _ _) ?_
              refine hK.out _ _ (fun h => absurd h (by decide)) (fun _ hS2 => ?_)
              clear hK K hShut
              have hShut := hS2
              clear hS2
              try simp only [Act.put, List.setIfInBounds_toArray, List.set_cons_zero, List.set_cons_succ]
              refine wpAnyN_done (by kernel_rfl) ?_ _
              exact ⟨V2, ha, hb', V3.heap.size, V1.heap.size, _, a7, a8, b7, b8, HF.out.2, by first | rfl | simp [Act.put]⟩
            · go_simp
              go_wp2_with fail
              have hb : Below V2.heap.size V2 (V2.alloc (.cells #[.int .i64 0, .int .i64 0, .int .i64 0, .int .i64 0, .int .i64 0, .slice none 0 0, .slice none 0 0, .slice none 0 0, .slice none 0 0] 28)) := (Below.refl _ _).alloc (Nat.le_refl _) _
              have hn := heap_alloc_new V2 (.cells #[.int .i64 0, .int .i64 0, .int .i64 0, .int .i64 0, .int .i64 0, .slice none 0 0, .slice none 0 0, .slice none 0 0, .slice none 0 0] 28)
              have NA := Lib.hid HB.out.size
              have NE : V2.heap.size ≠ V1.heap.size := by have := heap_lt XB.out; omega
              replace NE := Lib.hid NE
              replace HMA := Lib.hid (HMA.out.below hb)
              replace XB := Lib.hid ((hb.block _ (heap_lt XB.out)).trans XB.out)
              replace HB := Lib.hid (HB.out.trans (hb.mono HB.out.size))
              have XA := Lib.hid hn
              clear hn hb
              generalize V2.alloc (.cells #[.int .i64 0, .int .i64 0, .int .i64 0, .int .i64 0, .int .i64 0, .slice none 0 0, .slice none 0 0, .slice none 0 0, .slice none 0 0] 28) = V3 at *
              refine hK.out _ _ (fun _ => (by exact ⟨KD.out _ HB.out, HB.out⟩)) (fun hH hS2 => ?_)
              clear hK K hHeld hShut
              have hShut := hS2
              clear hS2
              have hHeld := hH rfl
              clear hH
              try simp only [Act.put, List.setIfInBounds_toArray, List.set_cons_zero, List.set_cons_succ]
              refine wpAnyN_one_3 (by kernel_rfl) (by exact hShut) (fun K hK => ?_)
              go_simp
              refine (make_any S ⟨sa, sc, ca, cc, oa, oc, ta, tc⟩ _ (H.out.below HB.out)).mono ?_
              rintro e V4 ⟨hb', b7, b8, rfl, HM, hb⟩
              go_wp2_with fail
              have HU := Lib.hid HB.out.size
              have XUA := Lib.hid (fun (cur : Array Value) (T : TypeId) (hk : V3.heap[V2.heap.size]? = some (.cells cur T (0, 0))) => ty_of XA.out hk)
              have XUB := Lib.hid (fun (cur : Array Value) (T : TypeId) (hk : V3.heap[V1.heap.size]? = some (.cells cur T (0, 0))) => ty_of XB.out hk)
              replace XA := Lib.hid ((hb.block _ (heap_lt XA.out)).trans XA.out)
              replace XB := Lib.hid ((hb.block _ (heap_lt XB.out)).trans XB.out)
              replace HB := Lib.hid (HB.out.trans (hb.mono HB.out.size))
              have HMB := Lib.hid HM
              have HAg := Lib.hid ((Agree.refl V3).below hb)
              have HV := Lib.hid hb.size
              clear HM hb
              refine hK.out _ _ (fun _ => (by exact ⟨KD.out _ HB.out, HB.out⟩)) (fun hH hS2 => ?_)
              clear hK K hHeld hShut
              have hShut := hS2
              clear hS2
              have hHeld := hH rfl
              clear hH
              try simp only [Act.put, List.setIfInBounds_toArray, List.set_cons_zero, List.set_cons_succ]
              have HF := Lib.hid (AB0.fill ⟨HMA.out, HAg.out, HU.out, HV.out, HMB.out, XA.out, XB.out, NA.out, NB.out, NE.out, XUA.out, XUB.out, HB.out⟩)
              clear hHeld
              refine wpAnyN_one_6 (by kernel_rfl) (by exact hShut) (fun K hK => ?_)
              refine if_true_of (by rfl) ?_
              refine wp_fill 28 (.tmp 13) (.tmp 26) rfl (V2.heap.size) (makeI S) ha (by first | rfl | simp [Act.eval, Act.put]) (by first | rfl | simp [Act.eval, Act.put]) (by exact XA.out) (size9 _ _) ?_
              refine hK.out _ _ (fun h => absurd h (by decide)) (fun _ hS2 => ?_)
              clear hK K hShut
              have hShut := hS2
              clear hS2
              try simp only [Act.put, List.setIfInBounds_toArray, List.set_cons_zero, List.set_cons_succ]
              refine wpAnyN_one_7 (by kernel_rfl) (by exact hShut) (fun K hK => ?_)
              refine if_true_of (by rfl) ?_
              refine wp_fill 28 (.tmp 14) (.tmp 28) rfl (V1.heap.size) (makeI S) hb' (by first | rfl | simp [Act.eval, Act.put]) (by first | rfl | simp [Act.eval, Act.put]) (by exact HF.out.1) (size9 _ _) ?_
              refine hK.out _ _ (fun h => absurd h (by decide)) (fun _ hS2 => ?_)
              clear hK K hShut
              have hShut := hS2
              clear hS2
              try simp only [Act.put, List.setIfInBounds_toArray, List.set_cons_zero, List.set_cons_succ]
              refine wpAnyN_done (by kernel_rfl) ?_ _
              exact ⟨V3, ha, hb', V2.heap.size, V1.heap.size, _, a7, a8, b7, b8, HF.out.2, by first | rfl | simp [Act.put]⟩
        · go_simp
          go_wp2_with fail
          have hb : Below V0.heap.size V0 (V0.alloc (.cells #[.int .i64 0, .int .i64 0, .int .i64 0, .int .i64 0, .int .i64 0, .slice none 0 0, .slice none 0 0, .slice none 0 0, .slice none 0 0] 28)) := (Below.refl _ _).alloc (Nat.le_refl _) _
          have hn := heap_alloc_new V0 (.cells #[.int .i64 0, .int .i64 0, .int .i64 0, .int .i64 0, .int .i64 0, .slice none 0 0, .slice none 0 0, .slice none 0 0, .slice none 0 0] 28)
          have NA := Lib.hid HB.out.size
          replace HB := Lib.hid (HB.out.trans (hb.mono HB.out.size))
          have XA := Lib.hid hn
          clear hn hb
          generalize V0.alloc (.cells #[.int .i64 0, .int .i64 0, .int .i64 0, .int .i64 0, .int .i64 0, .slice none 0 0, .slice none 0 0, .slice none 0 0, .slice none 0 0] 28) = V1 at *
          refine hK.out _ _ (fun _ => (by exact ⟨KD.out _ HB.out, HB.out⟩)) (fun hH hS2 => ?_)
          clear hK K hHeld hShut
          have hShut := hS2
          clear hS2
          have hHeld := hH rfl
          clear hH
          try simp only [Act.put, List.setIfInBounds_toArray, List.set_cons_zero, List.set_cons_succ]
          refine wpAnyN_of_1_5 (by kernel_rfl) (by exact hShut) (fun K hK => ?_) (fun K hK => ?_)
          · go_simp
            refine (make_any S ⟨sa, sc, ca, cc, oa, oc, ta, tc⟩ _ (H.out.below HB.out)).mono ?_
            rintro e V2 ⟨ha, a7, a8, rfl, HM, hb⟩
            go_wp2_with fail
            replace XA := Lib.hid ((hb.block _ (heap_lt XA.out)).trans XA.out)
            replace HB := Lib.hid (HB.out.trans (hb.mono HB.out.size))
            have HMA := Lib.hid HM
            clear HM hb
            refine hK.out _ _ (fun _ => (by exact ⟨KD.out _ HB.out, HB.out⟩)) (fun hH hS2 => ?_)
            clear hK K hHeld hShut
            have hShut := hS2
            clear hS2
            have hHeld := hH rfl
            clear hH
            try simp only [Act.put, List.setIfInBounds_toArray, List.set_cons_zero, List.set_cons_succ]
            refine wpAnyN_of_3_5 (by kernel_rfl) (by exact hShut) (fun K hK => ?_) (fun K hK => ?_)
            · go_simp
              refine (make_any S ⟨sa, sc, ca, cc, oa, oc, ta, tc⟩ _ (H.out.below HB.out)).mono ?_
              rintro e V3 ⟨hb', b7, b8, rfl, HM, hb⟩
              go_wp2_with fail
              have HU := Lib.hid HB.out.size
              have XUA := Lib.hid (fun (cur : Array Value) (T : TypeId) (hk : V2.heap[V0.heap.size]? = some (.cells cur T (0, 0))) => ty_of XA.out hk)
              replace XA := Lib.hid ((hb.block _ (heap_lt XA.out)).trans XA.out)
              replace HB := Lib.hid (HB.out.trans (hb.mono HB.out.size))
              have HMB := Lib.hid HM
              have HAg := Lib.hid ((Agree.refl V2).below hb)
              have HV := Lib.hid hb.size
              clear HM hb
              refine hK.out _ _ (fun _ => (by exact ⟨KD.out _ HB.out, HB.out⟩)) (fun hH hS2 => ?_)
              clear hK K hHeld hShut
              have hShut := hS2
              clear hS2
              have hHeld := hH rfl
              clear hH
              try simp only [Act.put, List.setIfInBounds_toArray, List.set_cons_zero, List.set_cons_succ]
              refine wpAnyN_one_5 (by kernel_rfl) (by exact hShut) (fun K hK => ?_)
              go_simp
              go_wp2_with fail
              have hb : Below V3.heap.size V3 (V3.alloc (.cells #[.int .i64 0, .int .i64 0, .int .i64 0, .int .i64 0, .int .i64 0, .slice none 0 0, .slice none 0 0, .slice none 0 0, .slice none 0 0] 28)) := (Below.refl _ _).alloc (Nat.le_refl _) _
              have hn := heap_alloc_new V3 (.cells #[.int .i64 0, .int .i64 0, .int .i64 0, .int .i64 0, .int .i64 0, .slice none 0 0, .slice none 0 0, .slice none 0 0, .slice none 0 0] 28)
              have NB := Lib.hid HB.out.size
              have XUB := Lib.hid (fun (cur : Array Value) (T : TypeId) (hk : V2.heap[V3.heap.size]? = some (.cells cur T (0, 0))) => (absurd (heap_lt hk) (by have := HV.out; omega) : T = 28))
              have NE : V0.heap.size ≠ V3.heap.size := by have := heap_lt XA.out; omega
              replace NE := Lib.hid NE
              replace HAg := Lib.hid (HAg.out.below hb)
              replace HMB := Lib.hid (HMB.out.below hb)
              replace HV := Lib.hid (Nat.le_trans HV.out hb.size)
              replace XA := Lib.hid ((hb.block _ (heap_lt XA.out)).trans XA.out)
              replace HB := Lib.hid (HB.out.trans (hb.mono HB.out.size))
              have XB := Lib.hid hn
              clear hn hb
              generalize V3.alloc (.cells #[.int .i64 0, .int .i64 0, .int .i64 0, .int .i64 0, .int .i64 0, .slice none 0 0, .slice none 0 0, .slice none 0 0, .slice none 0 0] 28) = V4 at *
              refine hK.out _ _ (fun _ => (by exact ⟨KD.out _ HB.out, HB.out⟩)) (fun hH hS2 => ?_)
              clear hK K hHeld hShut
              have hShut := hS2
              clear hS2
              have hHeld := hH rfl
              clear hH
              try simp only [Act.put, List.setIfInBounds_toArray, List.set_cons_zero, List.set_cons_succ]
              have HF := Lib.hid (AB0.fill ⟨HMA.out, HAg.out, HU.out, HV.out, HMB.out, XA.out, XB.out, NA.out, NB.out, NE.out, XUA.out, XUB.out, HB.out⟩)
              clear hHeld
              refine wpAnyN_one_6 (by kernel_rfl) (by exact hShut) (fun K hK => ?_)
              refine if_true_of (by rfl) ?_
              refine wp_fill 28 (.tmp 13) (.tmp 26) rfl (V0.heap.size) (makeI S) ha (by first | rfl | simp [Act.eval, Act.put]) (by first | rfl | simp [Act.eval, Act.put]) (by exact XA.out) (size9 _ _) ?_
              refine hK.out _ _ (fun h => absurd h (by decide)) (fun _ hS2 => ?_)
              clear hK K hShut
              have hShut := hS2
              clear hS2
              try simp only [Act.put, List.setIfInBounds_toArray, List.set_cons_zero, List.set_cons_succ]
              refine wpAnyN_one_7 (by kernel_rfl) (by exact hShut) (fun K hK => ?_)
              refine if_true_of (by rfl) ?_
              refine wp_fill 28 (.tmp 14) (.tmp 28) rfl (V3.heap.size) (makeI S) hb' (by first | rfl | simp [Act.eval, Act.put]) (by first | rfl | simp [Act.eval, Act.put]) (by exact HF.out.1) (size9 _ _) ?_
              refine hK.out _ _ (fun h => absurd h (by decide)) (fun _ hS2 => ?_)
              clear hK K hShut
              have hShut := hS2
              clear hS2
              try simp only [Act.put, List.setIfInBounds_toArray, List.set_cons_zero, List.set_cons_succ]
              refine wpAnyN_done (by kernel_rfl) ?_ _
              exact ⟨V2, ha, hb', V0.heap.size, V3.heap.size, _, a7, a8, b7, b8, HF.out.2, by first | rfl | simp [Act.put]⟩
            · go_simp
              go_wp2_with fail
              have hb : Below V2.heap.size V2 (V2.alloc (.cells #[.int .i64 0, .int .i64 0, .int .i64 0, .int .i64 0, .int .i64 0, .slice none 0 0, .slice none 0 0, .slice none 0 0, .slice none 0 0] 28)) := (Below.refl _ _).alloc (Nat.le_refl _) _
              have hn := heap_alloc_new V2 (.cells #[.int .i64 0, .int .i64 0, .int .i64 0, .int .i64 0, .int .i64 0, .slice none 0 0, .slice none 0 0, .slice none 0 0, .slice none 0 0] 28)
              have NB := Lib.hid HB.out.size
              have NE : V0.heap.size ≠ V2.heap.size := by have := heap_lt XA.out; omega
              replace NE := Lib.hid NE
              replace HMA := Lib.hid (HMA.out.below hb)
              replace XA := Lib.hid ((hb.block _ (heap_lt XA.out)).trans XA.out)
              replace HB := Lib.hid (HB.out.trans (hb.mono HB.out.size))
              have XB := Lib.hid hn
              clear hn hb
              generalize V2.alloc (.cells #[.int .i64 0, .int .i64 0, .int .i64 0, .int .i64 0, .int .i64 0, .slice none 0 0, .slice none 0 0, .slice none 0 0, .slice none 0 0] 28) = V3 at *
              refine hK.out _ _ (fun _ => (by exact ⟨KD.out _ HB.out, HB.out⟩)) (fun hH hS2 => ?_)
              clear hK K hHeld hShut
              have hShut := hS2
              clear hS2
              have hHeld := hH rfl
              clear hH
              try simp only [Act.put, List.setIfInBounds_toArray, List.set_cons_zero, List.set_cons_succ]
              refine wpAnyN_one_3 (by kernel_rfl) (by exact hShut) (fun K hK => ?_)
              go_simp
              refine (make_any S ⟨sa, sc, ca, cc, oa, oc, ta, tc⟩ _ (H.out.below HB.out)).mono ?_
              rintro e V4 ⟨hb', b7, b8, rfl, HM, hb⟩
              go_wp2_with fail
              have HU := Lib.hid HB.out.size
              have XUA := Lib.hid (fun (cur : Array Value) (T : TypeId) (hk : V3.heap[V0.heap.size]? = some (.cells cur T (0, 0))) => ty_of XA.out hk)
              have XUB := Lib.hid (fun (cur : Array Value) (T : TypeId) (hk : V3.heap[V2.heap.size]? = some (.cells cur T (0, 0))) => ty_of XB.out hk)
              replace XA := Lib.hid ((hb.block _ (heap_lt XA.out)).trans XA.out)
              replace XB := Lib.hid ((hb.block _ (heap_lt XB.out)).trans XB.out)
              replace HB := Lib.hid (HB.out.trans (hb.mono HB.out.size))
              have HMB := Lib.hid HM
              have HAg := Lib.hid ((Agree.refl V3).below hb)
              have HV := Lib.hid hb.size
              clear HM hb
              refine hK.out _ _ (fun _ => (by exact ⟨KD.out _ HB.out, HB.out⟩)) (fun hH hS2 => ?_)
              clear hK K hHeld hShut
              have hShut := hS2
              clear hS2
              have hHeld := hH rfl
              clear hH
              try simp only [Act.put, List.setIfInBounds_toArray, List.set_cons_zero, List.set_cons_succ]
              have HF := Lib.hid (AB0.fill ⟨HMA.out, HAg.out, HU.out, HV.out, HMB.out, XA.out, XB.out, NA.out, NB.out, NE.out, XUA.out, XUB.out, HB.out⟩)
              clear hHeld
              refine wpAnyN_one_6 (by kernel_rfl) (by exact hShut) (fun K hK => ?_)
              refine if_true_of (by rfl) ?_
              refine wp_fill 28 (.tmp 13) (.tmp 26) rfl (V0.heap.size) (makeI S) ha (by first | rfl | simp [Act.eval, Act.put]) (by first | rfl | simp [Act.eval, Act.put]) (by exact XA.out) (size9 _ _) ?_
              refine hK.out _ _ (fun h => absurd h (by decide)) (fun _ hS2 => ?_)
              clear hK K hShut
              have hShut := hS2
              clear hS2
              try simp only [Act.put, List.setIfInBounds_toArray, List.set_cons_zero, List.set_cons_succ]
              refine wpAnyN_one_7 (by kernel_rfl) (by exact hShut) (fun K hK => ?_)
              refine if_true_of (by rfl) ?_
              refine wp_fill 28 (.tmp 14) (.tmp 28) rfl (V2.heap.size) (makeI S) hb' (by first | rfl | simp [Act.eval, Act.put]) (by first | rfl | simp [Act.eval, Act.put]) (by exact HF.out.1) (size9 _ _) ?_
              refine hK.out _ _ (fun h => absurd h (by decide)) (fun _ hS2 => ?_)
              clear hK K hShut
              have hShut := hS2
              clear hS2
              try simp only [Act.put, List.setIfInBounds_toArray, List.set_cons_zero, List.set_cons_succ]
              refine wpAnyN_done (by kernel_rfl) ?_ _
              exact ⟨V3, ha, hb', V0.heap.size, V2.heap.size, _, a7, a8, b7, b8, HF.out.2, by first | rfl | simp [Act.put]⟩
          · go_simp
            go_wp2_with fail
            have hb : Below V1.heap.size V1 (V1.alloc (.cells #[.int .i64 0, .int .i64 0, .int .i64 0, .int .i64 0, .int .i64 0, .slice none 0 0, .slice none 0 0, .slice none 0 0, .slice none 0 0] 28)) := (Below.refl _ _).alloc (Nat.le_refl _) _
            have hn := heap_alloc_new V1 (.cells #[.int .i64 0, .int .i64 0, .int .i64 0, .int .i64 0, .int .i64 0, .slice none 0 0, .slice none 0 0, .slice none 0 0, .slice none 0 0] 28)
            have NB := Lib.hid HB.out.size
            have NE : V0.heap.size ≠ V1.heap.size := by have := heap_lt XA.out; omega
            replace NE := Lib.hid NE
            replace XA := Lib.hid ((hb.block _ (heap_lt XA.out)).trans XA.out)
            replace HB := Lib.hid (HB.out.trans (hb.mono HB.out.size))
            have XB := Lib.hid hn
            clear hn hb
            generalize V1.alloc (.cells #[.int .i64 0, .int .i64 0, .int .i64 0, .int .i64 0, .int .i64 0, .slice none 0 0, .slice none 0 0, .slice none 0 0, .slice none 0 0] 28) = V2 at *
            refine hK.out _ _ (fun _ => (by exact ⟨KD.out _ HB.out, HB.out⟩)) (fun hH hS2 => ?_)
            clear hK K hHeld hShut
            have hShut := hS2
            clear hS2
            have hHeld := hH rfl
            clear hH
            try simp only [Act.put, List.setIfInBounds_toArray, List.set_cons_zero, List.set_cons_succ]
            refine wpAnyN_one_1 (by kernel_rfl) (by exact hShut) (fun K hK => ?_)
            go_simp
            refine (make_any S ⟨sa, sc, ca, cc, oa, oc, ta, tc⟩ _ (H.out.below HB.out)).mono ?_
            rintro e V3 ⟨ha, a7, a8, rfl, HM, hb⟩
            go_wp2_with fail
            replace XA := Lib.hid ((hb.block _ (heap_lt XA.out)).trans XA.out)
            replace XB := Lib.hid ((hb.block _ (heap_lt XB.out)).trans XB.out)
            replace HB := Lib.hid (HB.out.trans (hb.mono HB.out.size))
            have HMA := Lib.hid HM
            clear HM hb
            refine hK.out _ _ (fun _ => (by exact ⟨KD.out _ HB.out, HB.out⟩)) (fun hH hS2 => ?_)
            clear hK K hHeld hShut
            have hShut := hS2
            clear hS2
            have hHeld := hH rfl
            clear hH
            try simp only [Act.put, List.setIfInBounds_toArray, List.set_cons_zero, List.set_cons_succ]
            refine wpAnyN_one_3 (by kernel_rfl) (by exact hShut) (fun K hK => ?_)
            go_simp
            refine (make_any S ⟨sa, sc, ca, cc, oa, oc, ta, tc⟩ _ (H.out.below HB.out)).mono ?_
            rintro e V4 ⟨hb', b7, b8, rfl, HM, hb⟩
            go_wp2_with fail
            have HU := Lib.hid HB.out.size
            have XUA := Lib.hid (fun (cur : Array Value) (T : TypeId) (hk : V3.heap[V0.heap.size]? = some (.cells cur T (0, 0))) => ty_of XA.out hk)
            have XUB := Lib.hid (fun (cur : Array Value) (T : TypeId) (hk : V3.heap[V1.heap.size]? = some (.cells cur T (0, 0))) => ty_of XB.out hk)
            replace XA := Lib.hid ((hb.block _ (heap_lt XA.out)).trans XA.out)
            replace XB := Lib.hid ((hb.block _ (heap_lt XB.out)).trans XB.out)
            replace HB := Lib.hid (HB.out.trans (hb.mono HB.out.size))
            have HMB := Lib.hid HM
            have HAg := Lib.hid ((Agree.refl V3).below hb)
            have HV := Lib.hid hb.size
            clear HM hb
            refine hK.out _ _ (fun _ => (by exact ⟨KD.out _ HB.out, HB.out⟩)) (fun hH hS2 => ?_)
            clear hK K hHeld hShut
            have hShut := hS2
            clear hS2
            have hHeld := hH rfl
            clear hH
            try simp only [Act.put, List.setIfInBounds_toArray, List.set_cons_zero, List.set_cons_succ]
            have HF := Lib.hid (AB0.fill ⟨HMA.out, HAg.out, HU.out, HV.out, HMB.out, XA.out, XB.out, NA.out, NB.out, NE.out, XUA.out, XUB.out, HB.out⟩)
            clear hHeld
            refine wpAnyN_one_6 (by kernel_rfl) (by exact hShut) (fun K hK => ?_)
            refine if_true_of (by rfl) ?_
            refine wp_fill 28 (.tmp 13) (.tmp 26) rfl (V0.heap.size) (makeI S) ha (by first | rfl | simp [Act.eval, Act.put]) (by first | rfl | simp [Act.eval, Act.put]) (by exact XA.out) (size9 _ _) ?_
            refine hK.out _ _ (fun h => absurd h (by decide)) (fun _ hS2 => ?_)
            clear hK K hShut
            have hShut := hS2
            clear hS2
            try simp only [Act.put, List.setIfInBounds_toArray, List.set_cons_zero, List.set_cons_succ]
            refine wpAnyN_one_7 (by kernel_rfl) (by exact hShut) (fun K hK => ?_)
            refine if_true_of (by rfl) ?_
            refine wp_fill 28 (.tmp 14) (.tmp 28) rfl (V1.heap.size) (makeI S) hb' (by first | rfl | simp [Act.eval, Act.put]) (by first | rfl | simp [Act.eval, Act.put]) (by exact HF.out.1) (size9 _ _) ?_
            refine hK.out _ _ (fun h => absurd h (by decide)) (fun _ hS2 => ?_)
            clear hK K hShut
            have hShut := hS2
            clear hS2
            try simp only [Act.put, List.setIfInBounds_toArray, List.set_cons_zero, List.set_cons_succ]
            refine wpAnyN_done (by kernel_rfl) ?_ _
            exact ⟨V3, ha, hb', V0.heap.size, V1.heap.size, _, a7, a8, b7, b8, HF.out.2, by first | rfl | simp [Act.put]⟩
        · go_simp
          go_wp2_with fail
          have hb : Below V0.heap.size V0 (V0.alloc (.cells #[.int .i64 0, .int .i64 0, .int .i64 0, .int .i64 0, .int .i64 0, .slice none 0 0, .slice none 0 0, .slice none 0 0, .slice none 0 0] 28)) := (Below.refl _ _).alloc (Nat.le_refl _) _
          have hn := heap_alloc_new V0 (.cells #[.int .i64 0, .int .i64 0, .int .i64 0, .int .i64 0, .int .i64 0, .slice none 0 0, .slice none 0 0, .slice none 0 0, .slice none 0 0] 28)
          have NB := Lib.hid HB.out.size
          replace HB := Lib.hid (HB.out.trans (hb.mono HB.out.size))
          have XB := Lib.hid hn
          clear hn hb
          generalize V0.alloc (.cells #[.int .i64 0, .int .i64 0, .int .i64 0, .int .i64 0, .int .i64 0, .slice none 0 0, .slice none 0 0, .slice none 0 0, .slice none 0 0] 28) = V1 at *
          refine hK.out _ _ (fun _ => (by exact ⟨KD.out _ HB.out, HB.out⟩)) (fun hH hS2 => ?_)
          clear hK K hHeld hShut
          have hShut := hS2
          clear hS2
          have hHeld := hH rfl
          clear hH
          try simp only [Act.put, List.setIfInBounds_toArray, List.set_cons_zero, List.set_cons_succ]
          refine wpAnyN_of_1_4 (by kernel_rfl) (by exact hShut) (fun K hK => ?_) (fun K hK => ?_)
          · go_simp
            refine (make_any S ⟨sa, sc, ca, cc, oa, oc, ta, tc⟩ _ (H.out.below HB.out)).mono ?_
            rintro e V2 ⟨ha, a7, a8, rfl, HM, hb⟩
            go_wp2_with fail
            replace XB := Lib.hid ((hb.block _ (heap_lt XB.out)).trans XB.out)
            replace HB := Lib.hid (HB.out.trans (hb.mono HB.out.size))
            have HMA := Lib.hid HM
            clear HM hb
            refine hK.out _ _ (fun _ => (by exact ⟨KD.out _ HB.out, HB.out⟩)) (fun hH hS2 => ?_)
            clear hK K hHeld hShut
            have hShut := hS2
            clear hS2
            have hHeld := hH rfl
            clear hH
            try simp only [Act.put, List.setIfInBounds_toArray, List.set_cons_zero, List.set_cons_succ]
            refine wpAnyN_of_3_4 (by kernel_rfl) (by exact hShut) (fun K hK => ?_) (fun K hK => ?_)
            · go_simp
              refine (make_any S ⟨sa, sc, ca, cc, oa, oc, ta, tc⟩ _ (H.out.below HB.out)).mono ?_
              rintro e V3 ⟨hb', b7, b8, rfl, HM, hb⟩
              go_wp2_with fail
              have HU := Lib.hid HB.out.size
              have XUB := Lib.hid (fun (cur : Array Value) (T : TypeId) (hk : V2.heap[V0.heap.size]? = some (.cells cur T (0, 0))) => ty_of XB.out hk)
              replace XB := Lib.hid ((hb.block _ (heap_lt XB.out)).trans XB.out)
              replace HB := Lib.hid (HB.out.trans (hb.mono HB.out.size))
              have HMB := Lib.hid HM
              have HAg := Lib.hid ((Agree.refl V2).below hb)
              have HV := Lib.hid hb.size
              clear HM hb
              refine hK.out _ _ (fun _ => (by exact ⟨KD.out _ HB.out, HB.out⟩)) (fun hH hS2 => ?_)
              clear hK K hHeld hShut
              have hShut := hS2
              clear hS2
              have hHeld := hH rfl
              clear hH
              try simp only [Act.put, List.setIfInBounds_toArray, List.set_cons_zero, List.set_cons_succ]
              refine wpAnyN_one_4 (by kernel_rfl) (by exact hShut) (fun K hK => ?_)
              go_simp
              go_wp2_with fail
              have hb : Below V3.heap.size V3 (V3.alloc (.cells #[.int .i64 0, .int .i64 0, .int .i64 0, .int .i64 0, .int .i64 0, .slice none 0 0, .slice none 0 0, .slice none 0 0, .slice none 0 0] 28)) := (Below.refl _ _).alloc (Nat.le_refl _) _
              have hn := heap_alloc_new V3 (.cells #[.int .i64 0, .int .i64 0, .int .i64 0, .int .i64 0, .int .i64 0, .slice none 0 0, .slice none 0 0, .slice none 0 0, .slice none 0 0] 28)
              have NA := Lib.hid HB.out.size
              have XUA := Lib.hid (fun (cur : Array Value) (T : TypeId) (hk : V2.heap[V3.heap.size]? = some (.cells cur T (0, 0))) => (absurd (heap_lt hk) (by have := HV.out; omega) : T = 28))
              have NE : V3.heap.size ≠ V0.heap.size := by have := heap_lt XB.out; omega
              replace NE := Lib.hid NE
              replace HAg := Lib.hid (HAg.out.below hb)
              replace HMB := Lib.hid (HMB.out.below hb)
              replace HV := Lib.hid (Nat.le_trans HV.out hb.size)
              replace XB := Lib.hid ((hb.block _ (heap_lt XB.out)).trans XB.out)
              replace HB := Lib.hid (HB.out.trans (hb.mono HB.out.size))
              have XA := Lib.hid hn
              clear hn hb
              generalize V3.alloc (.cells #[.int .i64 0, .int .i64 0, .int .i64 0, .int .i64 0, .int .i64 0, .slice none 0 0, .slice none 0 0, .slice none 0 0, .slice none 0 0] 28) = V4 at *
              refine hK.out _ _ (fun _ => (by exact ⟨KD.out _ HB.out, HB.out⟩)) (fun hH hS2 => ?_)
              clear hK K hHeld hShut
              have hShut := hS2
              clear hS2
              have hHeld := hH rfl
              clear hH
              try simp only [Act.put, List.setIfInBounds_toArray, List.set_cons_zero, List.set_cons_succ]
              have HF := Lib.hid (AB0.fill ⟨HMA.out, HAg.out, HU.out, HV.out, HMB.out, XA.out, XB.out, NA.out, NB.out, NE.out, XUA.out, XUB.out, HB.out⟩)
              clear hHeld
              refine wpAnyN_one_6 (by kernel_rfl) (by exact hShut) (fun K hK => ?_)
              refine if_true_of (by rfl) ?_
              refine wp_fill 28 (.tmp 13) (.tmp 26) rfl (V3.heap.size) (makeI S) ha (by first | rfl | simp [Act.eval, Act.put]) (by first | rfl | simp [Act.eval, Act.put]) (by exact XA.out) (size9 _ _) ?_
              refine hK.out _ _ (fun h => absurd h (by decide)) (fun _ hS2 => ?_)
              clear hK K hShut
              have hShut := hS2
              clear hS2
              try simp only [Act.put, List.setIfInBounds_toArray, List.set_cons_zero, List.set_cons_succ]
              refine wpAnyN_one_7 (by kernel_rfl) (by exact hShut) (fun K hK => ?_)
              refine if_true_of (by rfl) ?_
              refine wp_fill 28 (.tmp 14) (.tmp 28) rfl (V0.heap.size) (makeI S) hb' (by first | rfl | simp [Act.eval, Act.put]) (by first | rfl | simp [Act.eval, Act.put]) (by exact HF.out.1) (size9 _ _) ?_
              refine hK.out _ _ (fun h => absurd h (by decide)) (fun _ hS2 => ?_)
              clear hK K hShut
              have hShut := hS2
              clear hS2
              try simp only [Act.put, List.setIfInBounds_toArray, List.set_cons_zero, List.set_cons_succ]
              refine wpAnyN_done (by kernel_rfl) ?_ _
              exact ⟨V2, ha, hb', V3.heap.size, V0.heap.size, _, a7, a8, b7, b8, HF.out.2, by first | rfl | simp [Act.put]⟩
            · go_simp
              go_wp2_with fail
              have hb : Below V2.heap.size V2 (V2.alloc (.cells #[.int .i64 0, .int .i64 0, .int .i64 0, .int .i64 0, .int .i64 0, .slice none 0 0, .slice none 0 0, .slice none 0 0, .slice none 0 0] 28)) := (Below.refl _ _).alloc (Nat.le_refl _) _
              have hn := heap_alloc_new V2 (.cells #[.int .i64 0, .int .i64 0, .int .i64 0, .int .i64 0, .int .i64 0, .slice none 0 0, .slice none 0 0, .slice none 0 0, .slice none 0 0] 28)
              have NA := Lib.hid HB.out.size
              have NE : V2.heap.size ≠ V0.heap.size := by have := heap_lt XB.out; omega
              replace NE := Lib.hid NE
              replace HMA := Lib.hid (HMA.out.below hb)
              replace XB := Lib.hid ((hb.block _ (heap_lt XB.out)).trans XB.out)
              replace HB := Lib.hid (HB.out.trans (hb.mono HB.out.size))
              have XA := Lib.hid hn
              clear hn hb
              generalize V2.alloc (.cells #[.int .i64 0, .int .i64 0, .int .i64 0, .int .i64 0, .int .i64 0, .slice none 0 0, .slice none 0 0, .slice none 0 0, .slice none 0 0] 28) = V3 at *
              refine hK.out _ _ (fun _ => (by exact ⟨KD.out _ HB.out, HB.out⟩)) (fun hH hS2 => ?_)
              clear hK K hHeld hShut
              have hShut := hS2
              clear hS2
              have hHeld := hH rfl
              clear hH
              try simp only [Act.put, List.setIfInBounds_toArray, List.set_cons_zero, List.set_cons_succ]
              refine wpAnyN_one_3 (by kernel_rfl) (by exact hShut) (fun K hK => ?_)
              go_simp
              refine (make_any S ⟨sa, sc, ca, cc, oa, oc, ta, tc⟩ _ (H.out.below HB.out)).mono ?_
              rintro e V4 ⟨hb', b7, b8, rfl, HM, hb⟩
              go_wp2_with fail
              have HU := Lib.hid HB.out.size
              have XUA := Lib.hid (fun (cur : Array Value) (T : TypeId) (hk : V3.heap[V2.heap.size]? = some (.cells cur T (0, 0))) => ty_of XA.out hk)
              have XUB := Lib.hid (fun (cur : Array Value) (T : TypeId) (hk : V3.heap[V0.heap.size]? = some (.cells cur T (0, 0))) => ty_of XB.out hk)
              replace XA := Lib.hid ((hb.block _ (heap_lt XA.out)).trans XA.out)
              replace XB := Lib.hid ((hb.block _ (heap_lt XB.out)).trans XB.out)
              replace HB := Lib.hid (HB.out.trans (hb.mono HB.out.size))
              have HMB := Lib.hid HM
              have HAg := Lib.hid ((Agree.refl V3).below hb)
              have HV := Lib.hid hb.size
              clear HM hb
              refine hK.out _ _ (fun _ => (by exact ⟨KD.out _ HB.out, HB.out⟩)) (fun hH hS2 => ?_)
              clear hK K hHeld hShut
              have hShut := hS2
              clear hS2
              have hHeld := hH rfl
              clear hH
              try simp only [Act.put, List.setIfInBounds_toArray, List.set_cons_zero, List.set_cons_succ]
              have HF := Lib.hid (AB0.fill ⟨HMA.out, HAg.out, HU.out, HV.out, HMB.out, XA.out, XB.out, NA.out, NB.out, NE.out, XUA.out, XUB.out, HB.out⟩)
              clear hHeld
              refine wpAnyN_one_6 (by kernel_rfl) (by exact hShut) (fun K hK => ?_)
              refine if_true_of (by rfl) ?_
              refine wp_fill 28 (.tmp 13) (.tmp 26) rfl (V2.heap.size) (makeI S) ha (by first | rfl | simp [Act.eval, Act.put]) (by first | rfl | simp [Act.eval, Act.put]) (by exact XA.out) (size9 _ _) ?_
              refine hK.out _ _ (fun h => absurd h (by decide)) (fun _ hS2 => ?_)
              clear hK K hShut
              have hShut := hS2
              clear hS2
              try simp only [Act.put, List.setIfInBounds_toArray, List.set_cons_zero, List.set_cons_succ]
              refine wpAnyN_one_7 (by kernel_rfl) (by exact hShut) (fun K hK => ?_)
              refine if_true_of (by rfl) ?_
              refine wp_fill 28 (.tmp 14) (.tmp 28) rfl (V0.heap.size) (makeI S) hb' (by first | rfl | simp [Act.eval, Act.put]) (by first | rfl | simp [Act.eval, Act.put]) (by exact HF.out.1) (size9 _ _) ?_
              refine hK.out _ _ (fun h => absurd h (by decide)) (fun _ hS2 => ?_)
              clear hK K hShut
              have hShut := hS2
              clear hS2
              try simp only [Act.put, List.setIfInBounds_toArray, List.set_cons_zero, List.set_cons_succ]
              refine wpAnyN_done (by kernel_rfl) ?_ _
              exact ⟨V3, ha, hb', V2.heap.size, V0.heap.size, _, a7, a8, b7, b8, HF.out.2, by first | rfl | simp [Act.put]⟩
          · go_simp
            go_wp2_with fail
            have hb : Below V1.heap.size V1 (V1.alloc (.cells #[.int .i64 0, .int .i64 0, .int .i64 0, .int .i64 0, .int .i64 0, .slice none 0 0, .slice none 0 0, .slice none 0 0, .slice none 0 0] 28)) := (Below.refl _ _).alloc (Nat.le_refl _) _
            have hn := heap_alloc_new V1 (.cells #[.int .i64 0, .int .i64 0, .int .i64 0, .int .i64 0, .int .i64 0, .slice none 0 0, .slice none 0 0, .slice none 0 0, .slice none 0 0] 28)
            have NA := Lib.hid HB.out.size
            have NE : V1.heap.size ≠ V0.heap.size := by have := heap_lt XB.out; omega
            replace NE := Lib.hid NE
            replace XB := Lib.hid ((hb.block _ (heap_lt XB.out)).trans XB.out)
            replace HB := Lib.hid (HB.out.trans (hb.mono HB.out.size))
            have XA := Lib.hid hn
            clear hn hb
            generalize V1.alloc (.cells #[.int .i64 0, .int .i64 0, .int .i64 0, .int .i64 0, .int .i64 0, .slice none 0 0, .slice none 0 0, .slice none 0 0, .slice none 0 0] 28) = V2 at *
            refine hK.out _ _ (fun _ => (by exact ⟨KD.out _ HB.out, HB.out⟩)) (fun hH hS2 => ?_)
            clear hK K hHeld hShut
            have hShut := hS2
            clear hS2
            have hHeld := hH rfl
            clear hH
            try simp only [Act.put, List.setIfInBounds_toArray, List.set_cons_zero, List.set_cons_succ]
            refine wpAnyN_one_1 (by kernel_rfl) (by exact hShut) (fun K hK => ?_)
            go_simp
            refine (make_any S ⟨sa, sc, ca, cc, oa, oc, ta, tc⟩ _ (H.out.below HB.out)).mono ?_
            rintro e V3 ⟨ha, a7, a8, rfl, HM, hb⟩
            go_wp2_with fail
            replace XA := Lib.hid ((hb.block _ (heap_lt XA.out)).trans XA.out)
            replace XB := Lib.hid ((hb.block _ (heap_lt XB.out)).trans XB.out)
            replace HB := Lib.hid (HB.out.trans (hb.mono HB.out.size))
            have HMA := Lib.hid HM
            clear HM hb
            refine hK.out _ _ (fun _ => (by exact ⟨KD.out _ HB.out, HB.out⟩)) (fun hH hS2 => ?_)
            clear hK K hHeld hShut
            have hShut := hS2
            clear hS2
            have hHeld := hH rfl
            clear hH
            try simp only [Act.put, List.setIfInBounds_toArray, List.set_cons_zero, List.set_cons_succ]
            refine wpAnyN_one_3 (by kernel_rfl) (by exact hShut) (fun K hK => ?_)
            go_simp
            refine (make_any S ⟨sa, sc, ca, cc, oa, oc, ta, tc⟩ _ (H.out.below HB.out)).mono ?_
            rintro e V4 ⟨hb', b7, b8, rfl, HM, hb⟩
            go_wp2_with fail
            have HU := Lib.hid HB.out.size
            have XUA := Lib.hid (fun (cur : Array Value) (T : TypeId) (hk : V3.heap[V1.heap.size]? = some (.cells cur T (0, 0))) => ty_of XA.out hk)
            have XUB := Lib.hid (fun (cur : Array Value) (T : TypeId) (hk : V3.heap[V0.heap.size]? = some (.cells cur T (0, 0))) => ty_of XB.out hk)
            replace XA := Lib.hid ((hb.block _ (heap_lt XA.out)).trans XA.out)
            replace XB := Lib.hid ((hb.block _ (heap_lt XB.out)).trans XB.out)
            replace HB := Lib.hid (HB.out.trans (hb.mono HB.out.size))
            have HMB := Lib.hid HM
            have HAg := Lib.hid ((Agree.refl V3).below hb)
            have HV := Lib.hid hb.size
            clear HM hb
            refine hK.out _ _ (fun _ => (by exact ⟨KD.out _ HB.out, HB.out⟩)) (fun hH hS2 => ?_)
            clear hK K hHeld hShut
            have hShut := hS2
            clear hS2
            have hHeld := hH rfl
            clear hH
            try simp only [Act.put, List.setIfInBounds_toArray, List.set_cons_zero, List.set_cons_succ]
            have HF := Lib.hid (AB0.fill ⟨HMA.out, HAg.out, HU.out, HV.out, HMB.out, XA.out, XB.out, NA.out, NB.out, NE.out, XUA.out, XUB.out, HB.out⟩)
            clear hHeld
            refine wpAnyN_one_6 (by kernel_rfl) (by exact hShut) (fun K hK => ?_)
            refine if_true_of (by rfl) ?_
            refine wp_fill 28 (.tmp 13) (.tmp 26) rfl (V1.heap.size) (makeI S) ha (by first | rfl | simp [Act.eval, Act.put]) (by first | rfl | simp [Act.eval, Act.put]) (by exact XA.out) (size9 _ _) ?_
            refine hK.out _ _ (fun h => absurd h (by decide)) (fun _ hS2 => ?_)
            clear hK K hShut
            have hShut := hS2
            clear hS2
            try simp only [Act.put, List.setIfInBounds_toArray, List.set_cons_zero, List.set_cons_succ]
            refine wpAnyN_one_7 (by kernel_rfl) (by exact hShut) (fun K hK => ?_)
            refine if_true_of (by rfl) ?_
            refine wp_fill 28 (.tmp 14) (.tmp 28) rfl (V0.heap.size) (makeI S) hb' (by first | rfl | simp [Act.eval, Act.put]) (by first | rfl | simp [Act.eval, Act.put]) (by exact HF.out.1) (size9 _ _) ?_
            refine hK.out _ _ (fun h => absurd h (by decide)) (fun _ hS2 => ?_)
            clear hK K hShut
            have hShut := hS2
            clear hS2
            try simp only [Act.put, List.setIfInBounds_toArray, List.set_cons_zero, List.set_cons_succ]
            refine wpAnyN_done (by kernel_rfl) ?_ _
            exact ⟨V3, ha, hb', V1.heap.size, V0.heap.size, _, a7, a8, b7, b8, HF.out.2, by first | rfl | simp [Act.put]⟩
theorem law_InstSames (w : World) (v0 : Value) (H0 : ∃ (X : InstD) (h : HdD), v0 = .agg (instC X h) ∧ InstIs w X h) (v1 : Value) (H1 : ∃ (X : InstD) (h : HdD), v1 = .agg (instC X h) ∧ InstIs w X h) (v : Value) (H : ∃ (S : SmallD) (h : SmallH), v = .agg (smallC S h) ∧ SmallIs w S h) (a : Int) (ha : (Lit.int .u8 a).wf = true) (b : Int) (hb : (Lit.int .u8 b).wf = true) (n : Int) (hn : (Lit.int .i64 n).wf = true) :
    Calls Try.prog 7 #[v0, v1, v, .int .u8 a, .int .u8 b, .int .i64 n] w fun e w' => e = .returned (.bool true) ∧ Below w.heap.size w w' := by
  obtain ⟨X, hx, rfl, IX⟩ := H0
  obtain ⟨Y, hy, rfl, IY⟩ := H1
  obtain ⟨S, h, rfl, H⟩ := H
  obtain ⟨a', rfl, ha'⟩ := u8_nat ha
  obtain ⟨b', rfl, hb'⟩ := u8_nat hb
  exact walk_InstSames w X Y hx hy IX IY S h H a' b' ha' hb' n
end Go.Proofs.Ythiinlkpakinlaa
