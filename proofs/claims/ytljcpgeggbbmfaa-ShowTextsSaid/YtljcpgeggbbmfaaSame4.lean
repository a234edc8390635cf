/-
  The walks of the law's Same, three.
-/
import Derived.Test.YtljcpgeggbbmfaaSame2
namespace Go.Proofs.Ytljcpgeggbbmfaa
set_option linter.unusedVariables false
set_option linter.unusedSimpArgs false
open Go.RowKit
set_option maxHeartbeats 3200000 in
set_option maxRecDepth 100000 in
theorem samel_6 (X Y : InstD) (h h' : HdD) (w : World) (IX : InstIs w X h) (IY : InstIs w Y h') (e0 : X.fin = Y.fin) (e1 : X.tm = Y.tm) (e2 : X.tr = Y.tr) (e3 : X.bm = Y.bm) (e4 : X.br = Y.br) (e5 : X.sats = Y.sats) (d : ¬ X.custs = Y.custs) :
    Calls Try.prog 17 #[.agg (instC X h), .agg (instC Y h')] w fun e w' => e = .returned (.bool false) ∧ Below w.heap.size w w' := by
  obtain ⟨sa, sc, ca, cc, oa, oc, ta, tc⟩ := h
  obtain ⟨sa', sc', ca', cc', oa', oc', ta', tc'⟩ := h'
  obtain ⟨f, m, r, n, q, ss, cs, os, ts⟩ := X
  obtain ⟨f', m', r', n', q', ss', cs', os', ts'⟩ := Y
  obtain ⟨A1, A2, A3, A4, l1, l2, l3, l4⟩ := IX
  obtain ⟨B1, B2, B3, B4, z1, z2, z3, z4⟩ := IY
  dsimp only [instC] at *
  replace A1 := Lib.hid A1
  replace A2 := Lib.hid A2
  replace A3 := Lib.hid A3
  replace A4 := Lib.hid A4
  replace B1 := Lib.hid B1
  replace B2 := Lib.hid B2
  replace B3 := Lib.hid B3
  replace B4 := Lib.hid B4
  subst e0
  subst e1
  subst e2
  subst e3
  subst e4
  replace e5 := Lib.hid (decide_eq_true e5)
  replace d := Lib.hid (decide_eq_false d)
  obtain ⟨hB, c1, c2⟩ := two_boxes w #[.int .i64 f, .int .i64 m, .int .i64 r, .int .i64 n, .int .i64 q, .slice sa ss.length sc, .slice ca cs.length cc, .slice oa os.length oc, .slice ta ts.length tc] #[.int .i64 f, .int .i64 m, .int .i64 r, .int .i64 n, .int .i64 q, .slice sa' ss'.length sc', .slice ca' cs'.length cc', .slice oa' os'.length oc', .slice ta' ts'.length tc'] 29
  go_enter Try.func17, Try.ntmps17
  go_upto_region 1 with fail
  generalize ((w.alloc (.cells #[.int .i64 f, .int .i64 m, .int .i64 r, .int .i64 n, .int .i64 q, .slice sa ss.length sc, .slice ca cs.length cc, .slice oa os.length oc, .slice ta ts.length tc] 29)).alloc (.cells #[.int .i64 f, .int .i64 m, .int .i64 r, .int .i64 n, .int .i64 q, .slice sa' ss'.length sc', .slice ca' cs'.length cc', .slice oa' os'.length oc', .slice ta' ts'.length tc'] 29)) = W at *
  have x0 := c1 0 _ rfl
  have y0 := c2 0 _ rfl
  have x1 := c1 1 _ rfl
  have y1 := c2 1 _ rfl
  have x2 := c1 2 _ rfl
  have y2 := c2 2 _ rfl
  have x3 := c1 3 _ rfl
  have y3 := c2 3 _ rfl
  have x4 := c1 4 _ rfl
  have y4 := c2 4 _ rfl
  have x5 := c1 5 _ rfl
  have y5 := c2 5 _ rfl
  have x6 := c1 6 _ rfl
  have y6 := c2 6 _ rfl
  clear c1 c2
  replace hB := Lib.hid hB
  go_wp2_with fail
  refine (eqSats_is _ _ _ _ ss ss' true e5 _ l1 z1 ?_ ?_).mono ?_
  · exact A1.out.below (by repeat' (first | exact hB.out | apply below_drewN))
  · exact B1.out.below (by repeat' (first | exact hB.out | apply below_drewN))
  rintro e w5 ⟨rfl, nq5, rfl⟩
  go_wp2_with fail
  refine (eqCusts_is _ _ _ _ cs cs' false d _ l2 z2 ?_ ?_).mono ?_
  · exact A2.out.below (by repeat' (first | exact hB.out | apply below_drewN))
  · exact B2.out.below (by repeat' (first | exact hB.out | apply below_drewN))
  rintro e w6 ⟨rfl, nq6, rfl⟩
  go_wp2_with fail
  go_ret
  exact ⟨rfl, by repeat' (first | exact hB.out | apply below_drewN)⟩
set_option maxHeartbeats 3200000 in
set_option maxRecDepth 100000 in
theorem samel_7 (X Y : InstD) (h h' : HdD) (w : World) (IX : InstIs w X h) (IY : InstIs w Y h') (e0 : X.fin = Y.fin) (e1 : X.tm = Y.tm) (e2 : X.tr = Y.tr) (e3 : X.bm = Y.bm) (e4 : X.br = Y.br) (e5 : X.sats = Y.sats) (e6 : X.custs = Y.custs) (d : ¬ X.cost = Y.cost) :
    Calls Try.prog 17 #[.agg (instC X h), .agg (instC Y h')] w fun e w' => e = .returned (.bool false) ∧ Below w.heap.size w w' := by
  obtain ⟨sa, sc, ca, cc, oa, oc, ta, tc⟩ := h
  obtain ⟨sa', sc', ca', cc', oa', oc', ta', tc'⟩ := h'
  obtain ⟨f, m, r, n, q, ss, cs, os, ts⟩ := X
  obtain ⟨f', m', r', n', q', ss', cs', os', ts'⟩ := Y
  obtain ⟨A1, A2, A3, A4, l1, l2, l3, l4⟩ := IX
  obtain ⟨B1, B2, B3, B4, z1, z2, z3, z4⟩ := IY
  dsimp only [instC] at *
  replace A1 := Lib.hid A1
  replace A2 := Lib.hid A2
  replace A3 := Lib.hid A3
  replace A4 := Lib.hid A4
  replace B1 := Lib.hid B1
  replace B2 := Lib.hid B2
  replace B3 := Lib.hid B3
  replace B4 := Lib.hid B4
  subst e0
  subst e1
  subst e2
  subst e3
  subst e4
  replace e5 := Lib.hid (decide_eq_true e5)
  replace e6 := Lib.hid (decide_eq_true e6)
  replace d := Lib.hid (decide_eq_false d)
  obtain ⟨hB, c1, c2⟩ := two_boxes w #[.int .i64 f, .int .i64 m, .int .i64 r, .int .i64 n, .int .i64 q, .slice sa ss.length sc, .slice ca cs.length cc, .slice oa os.length oc, .slice ta ts.length tc] #[.int .i64 f, .int .i64 m, .int .i64 r, .int .i64 n, .int .i64 q, .slice sa' ss'.length sc', .slice ca' cs'.length cc', .slice oa' os'.length oc', .slice ta' ts'.length tc'] 29
  go_enter Try.func17, Try.ntmps17
  go_upto_region 1 with fail
  generalize ((w.alloc (.cells #[.int .i64 f, .int .i64 m, .int .i64 r, .int .i64 n, .int .i64 q, .slice sa ss.length sc, .slice ca cs.length cc, .slice oa os.length oc, .slice ta ts.length tc] 29)).alloc (.cells #[.int .i64 f, .int .i64 m, .int .i64 r, .int .i64 n, .int .i64 q, .slice sa' ss'.length sc', .slice ca' cs'.length cc', .slice oa' os'.length oc', .slice ta' ts'.length tc'] 29)) = W at *
  have x0 := c1 0 _ rfl
  have y0 := c2 0 _ rfl
  have x1 := c1 1 _ rfl
  have y1 := c2 1 _ rfl
  have x2 := c1 2 _ rfl
  have y2 := c2 2 _ rfl
  have x3 := c1 3 _ rfl
  have y3 := c2 3 _ rfl
  have x4 := c1 4 _ rfl
  have y4 := c2 4 _ rfl
  have x5 := c1 5 _ rfl
  have y5 := c2 5 _ rfl
  have x6 := c1 6 _ rfl
  have y6 := c2 6 _ rfl
  have x7 := c1 7 _ rfl
  have y7 := c2 7 _ rfl
  clear c1 c2
  replace hB := Lib.hid hB
  go_wp2_with fail
  refine (eqSats_is _ _ _ _ ss ss' true e5 _ l1 z1 ?_ ?_).mono ?_
  · exact A1.out.below (by repeat' (first | exact hB.out | apply below_drewN))
  · exact B1.out.below (by repeat' (first | exact hB.out | apply below_drewN))
  rintro e w5 ⟨rfl, nq5, rfl⟩
  go_wp2_with fail
  refine (eqCusts_is _ _ _ _ cs cs' true e6 _ l2 z2 ?_ ?_).mono ?_
  · exact A2.out.below (by repeat' (first | exact hB.out | apply below_drewN))
  · exact B2.out.below (by repeat' (first | exact hB.out | apply below_drewN))
  rintro e w6 ⟨rfl, nq6, rfl⟩
  go_wp2_with fail
  refine (same1_is _ _ _ _ os os' false d _ l3 z3 ?_ ?_).mono ?_
  · exact A3.out.below (by repeat' (first | exact hB.out | apply below_drewN))
  · exact B3.out.below (by repeat' (first | exact hB.out | apply below_drewN))
  rintro e w7 ⟨rfl, nq7, rfl⟩
  go_wp2_with fail
  go_ret
  exact ⟨rfl, by repeat' (first | exact hB.out | apply below_drewN)⟩
end Go.Proofs.Ytljcpgeggbbmfaa
