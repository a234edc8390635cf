/-
  The walks of the law's Same, two.
-/
import Derived.Test.YtljcpgeggbbmfaaSame2
namespace Go.Proofs.Ytljcpgeggbbmfaa
set_option linter.unusedVariables false
set_option linter.unusedSimpArgs false
open Go.RowKit
set_option maxHeartbeats 3200000 in
set_option maxRecDepth 100000 in
theorem samel_3 (X Y : InstD) (h h' : HdD) (w : World) (IX : InstIs w X h) (IY : InstIs w Y h') (e0 : X.fin = Y.fin) (e1 : X.tm = Y.tm) (e2 : X.tr = Y.tr) (d : ¬ X.bm = Y.bm) :
    Calls Try.prog 17 #[.agg (instC X h), .agg (instC Y h')] w fun e w' => e = .returned (.bool false) ∧ Below w.heap.size w w' := by
  obtain ⟨sa, sc, ca, cc, oa, oc, ta, tc⟩ := h
  obtain ⟨sa', sc', ca', cc', oa', oc', ta', tc'⟩ := h'
  obtain ⟨f, m, r, n, q, ss, cs, os, ts⟩ := X
  obtain ⟨f', m', r', n', q', ss', cs', os', ts'⟩ := Y
  obtain ⟨A1, A2, A3, A4, l1, l2, l3, l4⟩ := IX
  obtain ⟨B1, B2, B3, B4, z1, z2, z3, z4⟩ := IY
  dsimp only [instC] at *
  replace A1 := Lib.hid A1
  replace A2 := Lib.hid A2
  replace A3 := Lib.hid A3
  replace A4 := Lib.hid A4
  replace B1 := Lib.hid B1
  replace B2 := Lib.hid B2
  replace B3 := Lib.hid B3
  replace B4 := Lib.hid B4
  subst e0
  subst e1
  subst e2
  have d' : (n == n') = false := by rw [beq_eq_false_iff_ne]; exact d
  obtain ⟨hB, c1, c2⟩ := two_boxes w #[.int .i64 f, .int .i64 m, .int .i64 r, .int .i64 n, .int .i64 q, .slice sa ss.length sc, .slice ca cs.length cc, .slice oa os.length oc, .slice ta ts.length tc] #[.int .i64 f, .int .i64 m, .int .i64 r, .int .i64 n', .int .i64 q', .slice sa' ss'.length sc', .slice ca' cs'.length cc', .slice oa' os'.length oc', .slice ta' ts'.length tc'] 29
  go_enter Try.func17, Try.ntmps17
  go_upto_region 1 with fail
  generalize ((w.alloc (.cells #[.int .i64 f, .int .i64 m, .int .i64 r, .int .i64 n, .int .i64 q, .slice sa ss.length sc, .slice ca cs.length cc, .slice oa os.length oc, .slice ta ts.length tc] 29)).alloc (.cells #[.int .i64 f, .int .i64 m, .int .i64 r, .int .i64 n', .int .i64 q', .slice sa' ss'.length sc', .slice ca' cs'.length cc', .slice oa' os'.length oc', .slice ta' ts'.length tc'] 29)) = W at *
  have x0 := c1 0 _ rfl
  have y0 := c2 0 _ rfl
  have x1 := c1 1 _ rfl
  have y1 := c2 1 _ rfl
  have x2 := c1 2 _ rfl
  have y2 := c2 2 _ rfl
  have x3 := c1 3 _ rfl
  have y3 := c2 3 _ rfl
  clear c1 c2
  replace hB := Lib.hid hB
  go_wp2_with fail
  go_ret
  exact ⟨rfl, by repeat' (first | exact hB.out | apply below_drewN)⟩
set_option maxHeartbeats 3200000 in
set_option maxRecDepth 100000 in
theorem samel_4 (X Y : InstD) (h h' : HdD) (w : World) (IX : InstIs w X h) (IY : InstIs w Y h') (e0 : X.fin = Y.fin) (e1 : X.tm = Y.tm) (e2 : X.tr = Y.tr) (e3 : X.bm = Y.bm) (d : ¬ X.br = Y.br) :
    Calls Try.prog 17 #[.agg (instC X h), .agg (instC Y h')] w fun e w' => e = .returned (.bool false) ∧ Below w.heap.size w w' := by
  obtain ⟨sa, sc, ca, cc, oa, oc, ta, tc⟩ := h
  obtain ⟨sa', sc', ca', cc', oa', oc', ta', tc'⟩ := h'
  obtain ⟨f, m, r, n, q, ss, cs, os, ts⟩ := X
  obtain ⟨f', m', r', n', q', ss', cs', os', ts'⟩ := Y
  obtain ⟨A1, A2, A3, A4, l1, l2, l3, l4⟩ := IX
  obtain ⟨B1, B2, B3, B4, z1, z2, z3, z4⟩ := IY
  dsimp only [instC] at *
  replace A1 := Lib.hid A1
  replace A2 := Lib.hid A2
  replace A3 := Lib.hid A3
  replace A4 := Lib.hid A4
  replace B1 := Lib.hid B1
  replace B2 := Lib.hid B2
  replace B3 := Lib.hid B3
  replace B4 := Lib.hid B4
  subst e0
  subst e1
  subst e2
  subst e3
  have d' : (q == q') = false := by rw [beq_eq_false_iff_ne]; exact d
  obtain ⟨hB, c1, c2⟩ := two_boxes w #[.int .i64 f, .int .i64 m, .int .i64 r, .int .i64 n, .int .i64 q, .slice sa ss.length sc, .slice ca cs.length cc, .slice oa os.length oc, .slice ta ts.length tc] #[.int .i64 f, .int .i64 m, .int .i64 r, .int .i64 n, .int .i64 q', .slice sa' ss'.length sc', .slice ca' cs'.length cc', .slice oa' os'.length oc', .slice ta' ts'.length tc'] 29
  go_enter Try.func17, Try.ntmps17
  go_upto_region 1 with fail
  generalize ((w.alloc (.cells #[.int .i64 f, .int .i64 m, .int .i64 r, .int .i64 n, .int .i64 q, .slice sa ss.length sc, .slice ca cs.length cc, .slice oa os.length oc, .slice ta ts.length tc] 29)).alloc (.cells #[.int .i64 f, .int .i64 m, .int .i64 r, .int .i64 n, .int .i64 q', .slice sa' ss'.length sc', .slice ca' cs'.length cc', .slice oa' os'.length oc', .slice ta' ts'.length tc'] 29)) = W at *
  have x0 := c1 0 _ rfl
  have y0 := c2 0 _ rfl
  have x1 := c1 1 _ rfl
  have y1 := c2 1 _ rfl
  have x2 := c1 2 _ rfl
  have y2 := c2 2 _ rfl
  have x3 := c1 3 _ rfl
  have y3 := c2 3 _ rfl
  have x4 := c1 4 _ rfl
  have y4 := c2 4 _ rfl
  clear c1 c2
  replace hB := Lib.hid hB
  go_wp2_with fail
  go_ret
  exact ⟨rfl, by repeat' (first | exact hB.out | apply below_drewN)⟩
set_option maxHeartbeats 3200000 in
set_option maxRecDepth 100000 in
theorem samel_5 (X Y : InstD) (h h' : HdD) (w : World) (IX : InstIs w X h) (IY : InstIs w Y h') (e0 : X.fin = Y.fin) (e1 : X.tm = Y.tm) (e2 : X.tr = Y.tr) (e3 : X.bm = Y.bm) (e4 : X.br = Y.br) (d : ¬ X.sats = Y.sats) :
    Calls Try.prog 17 #[.agg (instC X h), .agg (instC Y h')] w fun e w' => e = .returned (.bool false) ∧ Below w.heap.size w w' := by
  obtain ⟨sa, sc, ca, cc, oa, oc, ta, tc⟩ := h
  obtain ⟨sa', sc', ca', cc', oa', oc', ta', tc'⟩ := h'
  obtain ⟨f, m, r, n, q, ss, cs, os, ts⟩ := X
  obtain ⟨f', m', r', n', q', ss', cs', os', ts'⟩ := Y
  obtain ⟨A1, A2, A3, A4, l1, l2, l3, l4⟩ := IX
  obtain ⟨B1, B2, B3, B4, z1, z2, z3, z4⟩ := IY
  dsimp only [instC] at *
  replace A1 := Lib.hid A1
  replace A2 := Lib.hid A2
  replace A3 := Lib.hid A3
  replace A4 := Lib.hid A4
  replace B1 := Lib.hid B1
  replace B2 := Lib.hid B2
  replace B3 := Lib.hid B3
  replace B4 := Lib.hid B4
  subst e0
  subst e1
  subst e2
  subst e3
  subst e4
  replace d := Lib.hid (decide_eq_false d)
  obtain ⟨hB, c1, c2⟩ := two_boxes w #[.int .i64 f, .int .i64 m, .int .i64 r, .int .i64 n, .int .i64 q, .slice sa ss.length sc, .slice ca cs.length cc, .slice oa os.length oc, .slice ta ts.length tc] #[.int .i64 f, .int .i64 m, .int .i64 r, .int .i64 n, .int .i64 q, .slice sa' ss'.length sc', .slice ca' cs'.length cc', .slice oa' os'.length oc', .slice ta' ts'.length tc'] 29
  go_enter Try.func17, Try.ntmps17
  go_upto_region 1 with fail
  generalize ((w.alloc (.cells #[.int .i64 f, .int .i64 m, .int .i64 r, .int .i64 n, .int .i64 q, .slice sa ss.length sc, .slice ca cs.length cc, .slice oa os.length oc, .slice ta ts.length tc] 29)).alloc (.cells #[.int .i64 f, .int .i64 m, .int .i64 r, .int .i64 n, .int .i64 q, .slice sa' ss'.length sc', .slice ca' cs'.length cc', .slice oa' os'.length oc', .slice ta' ts'.length tc'] 29)) = W at *
  have x0 := c1 0 _ rfl
  have y0 := c2 0 _ rfl
  have x1 := c1 1 _ rfl
  have y1 := c2 1 _ rfl
  have x2 := c1 2 _ rfl
  have y2 := c2 2 _ rfl
  have x3 := c1 3 _ rfl
  have y3 := c2 3 _ rfl
  have x4 := c1 4 _ rfl
  have y4 := c2 4 _ rfl
  have x5 := c1 5 _ rfl
  have y5 := c2 5 _ rfl
  clear c1 c2
  replace hB := Lib.hid hB
  go_wp2_with fail
  refine (eqSats_is _ _ _ _ ss ss' false d _ l1 z1 ?_ ?_).mono ?_
  · exact A1.out.below (by repeat' (first | exact hB.out | apply below_drewN))
  · exact B1.out.below (by repeat' (first | exact hB.out | apply below_drewN))
  rintro e w5 ⟨rfl, nq5, rfl⟩
  go_wp2_with fail
  go_ret
  exact ⟨rfl, by repeat' (first | exact hB.out | apply below_drewN)⟩
end Go.Proofs.Ytljcpgeggbbmfaa
