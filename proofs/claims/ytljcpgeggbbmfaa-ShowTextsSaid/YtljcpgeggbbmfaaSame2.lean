/-
  The walks of Same, the program's and the law's, at two instances (layer 11).
-/
import Derived.Test.YtljcpgeggbbmfaaSame
namespace Go.Proofs.Ytljcpgeggbbmfaa
set_option linter.unusedVariables false
set_option linter.unusedSimpArgs false
open Go.RowKit
/-- are two instances the same? -/
def sameB (X Y : InstD) : Bool :=
  decide (X.fin = Y.fin) && (decide (X.tm = Y.tm) && (decide (X.tr = Y.tr) && (decide (X.bm = Y.bm) && (decide (X.br = Y.br) && (decide (X.sats = Y.sats) && (decide (X.custs = Y.custs) && (decide (X.cost = Y.cost) && decide (X.time = Y.time))))))))
theorem sameB_self (X : InstD) : sameB X X = true := by simp [sameB]
theorem sameB_iff (X Y : InstD) : sameB X Y = true ↔ X = Y := by
  constructor
  · intro h
    simp only [sameB, Bool.and_eq_true, decide_eq_true_eq] at h
    obtain ⟨h1, h2, h3, h4, h5, h6, h7, h8, h9⟩ := h
    cases X; cases Y; simp_all
  · rintro rfl; exact sameB_self X
theorem eqSats_is (A B : Option Addr) (CA CB : Nat) (xs ys : List SatD) (b : Bool) (hb : Hid (decide (xs = ys) = b)) (w : World) (hx : xs.length ≤ 9223372036854775807) (hy : ys.length ≤ 9223372036854775807) (RA : Rd w A (xs.flatMap satV)) (RB : Rd w B (ys.flatMap satV)) :
    Calls Try.prog 45 #[.slice A xs.length CA, .slice B ys.length CB] w fun e w' => e = .returned (.bool b) ∧ ∃ nq, w' = w.drewN nq :=
  (eqSats_any A B CA CB xs ys w hx hy RA RB).mono fun e w' ⟨he, hw⟩ => ⟨by rw [he, hb.out], hw⟩
theorem eqCusts_is (A B : Option Addr) (CA CB : Nat) (xs ys : List CustD) (b : Bool) (hb : Hid (decide (xs = ys) = b)) (w : World) (hx : xs.length ≤ 9223372036854775807) (hy : ys.length ≤ 9223372036854775807) (RA : Rd w A (xs.flatMap custV)) (RB : Rd w B (ys.flatMap custV)) :
    Calls Try.prog 46 #[.slice A xs.length CA, .slice B ys.length CB] w fun e w' => e = .returned (.bool b) ∧ ∃ nq, w' = w.drewN nq :=
  (eqCusts_any A B CA CB xs ys w hx hy RA RB).mono fun e w' ⟨he, hw⟩ => ⟨by rw [he, hb.out], hw⟩
theorem same1_is (A B : Option Addr) (CA CB : Nat) (xs ys : List (List Int)) (b : Bool) (hb : Hid (decide (xs = ys) = b)) (w : World) (hx : xs.length ≤ 9223372036854775807) (hy : ys.length ≤ 9223372036854775807) (RA : Rows2 w A xs) (RB : Rows2 w B ys) :
    Calls Try.prog 43 #[.slice A xs.length CA, .slice B ys.length CB] w fun e w' => e = .returned (.bool b) ∧ ∃ nq, w' = w.drewN nq :=
  (same1_any A B CA CB xs ys w hx hy RA RB).mono fun e w' ⟨he, hw⟩ => ⟨by rw [he, hb.out], hw⟩
theorem eq_fleet (a b c d : Int) (r : Bool) (hr : Hid ((a == c && b == d) = r)) (w : World) : (binOp .eql 24 (.agg #[.int .i64 a, .int .i64 b]) (.agg #[.int .i64 c, .int .i64 d])).run Try.prog w = .ok (.bool r) w := by
  have hf : Try.prog.fieldsOf 24 = #[{ name := "Many", type := 3, offset := 0, embedded := false, tag := "", pkgPath := "", byteOffset := 0 }, { name := "Room", type := 2, offset := 1, embedded := false, tag := "", pkgPath := "", byteOffset := 8 }] := by kernel_rfl
  rw [run_eql_struct, run_equalIn_agg w 9999 _ _ _ (by rw [hf]; exact Try.underlying24) (by kernel_rfl), hf]
  have p0 : ∀ x y : Value, ∀ w : World, (part 3 #[x, y] 0).run Try.prog w = .ok x w := fun _ _ _ => by kernel_rfl
  have p1 : ∀ x y : Value, ∀ w : World, (part 2 #[x, y] 1).run Try.prog w = .ok y w := fun _ _ _ => by kernel_rfl
  have q0 : ∀ (x y : Int) (w : World), (Op.equalIn 9999 3 (.int .i64 x) (.int .i64 y)).run Try.prog w = .ok (x == y) w := fun x y w => run_equalIn_int w 9998 _ _ _ x y Try.underlying3
  have q : ∀ (x y : Int) (w : World), (Op.equalIn 9999 2 (.int .i64 x) (.int .i64 y)).run Try.prog w = .ok (x == y) w := fun x y w => run_equalIn_int w 9998 _ _ _ x y Try.underlying2
  simp only [Op.eqFields, Sem.run_bind, p0, p1, q0, q, Result.andThen_ok, Sem.run_ite, Sem.run_pure]
  rw [← hr.out]
  cases (a == c) <;> cases (b == d) <;> simp
/-- the two boxes in which Same holds its arguments. -/
theorem two_boxes (w : World) (cs ds : Array Value) (t : TypeId) : Below w.heap.size w ((w.alloc (.cells cs t)).alloc (.cells ds t)) ∧ (∀ j u, cs[j]? = some u → ((w.alloc (.cells cs t)).alloc (.cells ds t)).cell? ⟨w.heap.size, j, none⟩ = some u) ∧
    ∀ j u, ds[j]? = some u → ((w.alloc (.cells cs t)).alloc (.cells ds t)).cell? ⟨w.heap.size + 1, j, none⟩ = some u := by
  refine ⟨((Below.refl _ _).alloc (Nat.le_refl _) _).alloc (by simp) _, fun j u hu => ?_, fun j u hu => ?_⟩
  · exact keep_cell ((Below.refl _ _).alloc (Nat.le_refl _) _) (by rw [World.cell?_alloc_new]; exact hu)
  · rw [show w.heap.size + 1 = (w.alloc (.cells cs t)).heap.size by simp, World.cell?_alloc_new]; exact hu
set_option maxHeartbeats 3200000 in
set_option maxRecDepth 100000 in
theorem samel_0 (X Y : InstD) (h h' : HdD) (w : World) (IX : InstIs w X h) (IY : InstIs w Y h')  (d : ¬ X.fin = Y.fin) :
    Calls Try.prog 17 #[.agg (instC X h), .agg (instC Y h')] w fun e w' => e = .returned (.bool false) ∧ Below w.heap.size w w' := by
  obtain ⟨sa, sc, ca, cc, oa, oc, ta, tc⟩ := h
  obtain ⟨sa', sc', ca', cc', oa', oc', ta', tc'⟩ := h'
  obtain ⟨f, m, r, n, q, ss, cs, os, ts⟩ := X
  obtain ⟨f', m', r', n', q', ss', cs', os', ts'⟩ := Y
  obtain ⟨A1, A2, A3, A4, l1, l2, l3, l4⟩ := IX
  obtain ⟨B1, B2, B3, B4, z1, z2, z3, z4⟩ := IY
  dsimp only [instC] at *
  replace A1 := Lib.hid A1
  replace A2 := Lib.hid A2
  replace A3 := Lib.hid A3
  replace A4 := Lib.hid A4
  replace B1 := Lib.hid B1
  replace B2 := Lib.hid B2
  replace B3 := Lib.hid B3
  replace B4 := Lib.hid B4
  have d' : (f == f') = false := by rw [beq_eq_false_iff_ne]; exact d
  obtain ⟨hB, c1, c2⟩ := two_boxes w #[.int .i64 f, .int .i64 m, .int .i64 r, .int .i64 n, .int .i64 q, .slice sa ss.length sc, .slice ca cs.length cc, .slice oa os.length oc, .slice ta ts.length tc] #[.int .i64 f', .int .i64 m', .int .i64 r', .int .i64 n', .int .i64 q', .slice sa' ss'.length sc', .slice ca' cs'.length cc', .slice oa' os'.length oc', .slice ta' ts'.length tc'] 29
  go_enter Try.func17, Try.ntmps17
  go_upto_region 1 with fail
  generalize ((w.alloc (.cells #[.int .i64 f, .int .i64 m, .int .i64 r, .int .i64 n, .int .i64 q, .slice sa ss.length sc, .slice ca cs.length cc, .slice oa os.length oc, .slice ta ts.length tc] 29)).alloc (.cells #[.int .i64 f', .int .i64 m', .int .i64 r', .int .i64 n', .int .i64 q', .slice sa' ss'.length sc', .slice ca' cs'.length cc', .slice oa' os'.length oc', .slice ta' ts'.length tc'] 29)) = W at *
  have x0 := c1 0 _ rfl
  have y0 := c2 0 _ rfl
  clear c1 c2
  replace hB := Lib.hid hB
  go_wp2_with fail
  go_ret
  exact ⟨rfl, by repeat' (first | exact hB.out | apply below_drewN)⟩
set_option maxHeartbeats 3200000 in
set_option maxRecDepth 100000 in
theorem samel_1 (X Y : InstD) (h h' : HdD) (w : World) (IX : InstIs w X h) (IY : InstIs w Y h') (e0 : X.fin = Y.fin) (d : ¬ X.tm = Y.tm) :
    Calls Try.prog 17 #[.agg (instC X h), .agg (instC Y h')] w fun e w' => e = .returned (.bool false) ∧ Below w.heap.size w w' := by
  obtain ⟨sa, sc, ca, cc, oa, oc, ta, tc⟩ := h
  obtain ⟨sa', sc', ca', cc', oa', oc', ta', tc'⟩ := h'
  obtain ⟨f, m, r, n, q, ss, cs, os, ts⟩ := X
  obtain ⟨f', m', r', n', q', ss', cs', os', ts'⟩ := Y
  obtain ⟨A1, A2, A3, A4, l1, l2, l3, l4⟩ := IX
  obtain ⟨B1, B2, B3, B4, z1, z2, z3, z4⟩ := IY
  dsimp only [instC] at *
  replace A1 := Lib.hid A1
  replace A2 := Lib.hid A2
  replace A3 := Lib.hid A3
  replace A4 := Lib.hid A4
  replace B1 := Lib.hid B1
  replace B2 := Lib.hid B2
  replace B3 := Lib.hid B3
  replace B4 := Lib.hid B4
  subst e0
  have d' : (m == m') = false := by rw [beq_eq_false_iff_ne]; exact d
  obtain ⟨hB, c1, c2⟩ := two_boxes w #[.int .i64 f, .int .i64 m, .int .i64 r, .int .i64 n, .int .i64 q, .slice sa ss.length sc, .slice ca cs.length cc, .slice oa os.length oc, .slice ta ts.length tc] #[.int .i64 f, .int .i64 m', .int .i64 r', .int .i64 n', .int .i64 q', .slice sa' ss'.length sc', .slice ca' cs'.length cc', .slice oa' os'.length oc', .slice ta' ts'.length tc'] 29
  go_enter Try.func17, Try.ntmps17
  go_upto_region 1 with fail
  generalize ((w.alloc (.cells #[.int .i64 f, .int .i64 m, .int .i64 r, .int .i64 n, .int .i64 q, .slice sa ss.length sc, .slice ca cs.length cc, .slice oa os.length oc, .slice ta ts.length tc] 29)).alloc (.cells #[.int .i64 f, .int .i64 m', .int .i64 r', .int .i64 n', .int .i64 q', .slice sa' ss'.length sc', .slice ca' cs'.length cc', .slice oa' os'.length oc', .slice ta' ts'.length tc'] 29)) = W at *
  have x0 := c1 0 _ rfl
  have y0 := c2 0 _ rfl
  have x1 := c1 1 _ rfl
  have y1 := c2 1 _ rfl
  clear c1 c2
  replace hB := Lib.hid hB
  go_wp2_with fail
  go_ret
  exact ⟨rfl, by repeat' (first | exact hB.out | apply below_drewN)⟩
set_option maxHeartbeats 3200000 in
set_option maxRecDepth 100000 in
theorem samel_2 (X Y : InstD) (h h' : HdD) (w : World) (IX : InstIs w X h) (IY : InstIs w Y h') (e0 : X.fin = Y.fin) (e1 : X.tm = Y.tm) (d : ¬ X.tr = Y.tr) :
    Calls Try.prog 17 #[.agg (instC X h), .agg (instC Y h')] w fun e w' => e = .returned (.bool false) ∧ Below w.heap.size w w' := by
  obtain ⟨sa, sc, ca, cc, oa, oc, ta, tc⟩ := h
  obtain ⟨sa', sc', ca', cc', oa', oc', ta', tc'⟩ := h'
  obtain ⟨f, m, r, n, q, ss, cs, os, ts⟩ := X
  obtain ⟨f', m', r', n', q', ss', cs', os', ts'⟩ := Y
  obtain ⟨A1, A2, A3, A4, l1, l2, l3, l4⟩ := IX
  obtain ⟨B1, B2, B3, B4, z1, z2, z3, z4⟩ := IY
  dsimp only [instC] at *
  replace A1 := Lib.hid A1
  replace A2 := Lib.hid A2
  replace A3 := Lib.hid A3
  replace A4 := Lib.hid A4
  replace B1 := Lib.hid B1
  replace B2 := Lib.hid B2
  replace B3 := Lib.hid B3
  replace B4 := Lib.hid B4
  subst e0
  subst e1
  have d' : (r == r') = false := by rw [beq_eq_false_iff_ne]; exact d
  obtain ⟨hB, c1, c2⟩ := two_boxes w #[.int .i64 f, .int .i64 m, .int .i64 r, .int .i64 n, .int .i64 q, .slice sa ss.length sc, .slice ca cs.length cc, .slice oa os.length oc, .slice ta ts.length tc] #[.int .i64 f, .int .i64 m, .int .i64 r', .int .i64 n', .int .i64 q', .slice sa' ss'.length sc', .slice ca' cs'.length cc', .slice oa' os'.length oc', .slice ta' ts'.length tc'] 29
  go_enter Try.func17, Try.ntmps17
  go_upto_region 1 with fail
  generalize ((w.alloc (.cells #[.int .i64 f, .int .i64 m, .int .i64 r, .int .i64 n, .int .i64 q, .slice sa ss.length sc, .slice ca cs.length cc, .slice oa os.length oc, .slice ta ts.length tc] 29)).alloc (.cells #[.int .i64 f, .int .i64 m, .int .i64 r', .int .i64 n', .int .i64 q', .slice sa' ss'.length sc', .slice ca' cs'.length cc', .slice oa' os'.length oc', .slice ta' ts'.length tc'] 29)) = W at *
  have x0 := c1 0 _ rfl
  have y0 := c2 0 _ rfl
  have x1 := c1 1 _ rfl
  have y1 := c2 1 _ rfl
  have x2 := c1 2 _ rfl
  have y2 := c2 2 _ rfl
  clear c1 c2
  replace hB := Lib.hid hB
  go_wp2_with fail
  go_ret
  exact ⟨rfl, by repeat' (first | exact hB.out | apply below_drewN)⟩
end Go.Proofs.Ytljcpgeggbbmfaa
