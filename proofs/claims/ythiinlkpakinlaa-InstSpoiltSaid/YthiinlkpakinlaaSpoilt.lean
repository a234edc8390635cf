/-
  The walk of InstSpoilt (layer 11).
-/
import Derived.Test.YthiinlkpakinlaaSpoil2
namespace Go.Proofs.Ythiinlkpakinlaa
set_option linter.unusedVariables false
set_option linter.unusedSimpArgs false
open Go.RowKit
theorem grown_undrew {w w2 : World} {r : Option Nat} (h : w.drew.grownBy w2 r) : w.grownBy w2 r := ⟨h.os, h.tape, h.output, h.size, h.block⟩
theorem Spoilt.drew {w : World} {g : Nat} {X : InstD} {h : HdD} (H : Spoilt w g X h) : Spoilt w.drew g X h := ⟨H.blk, ⟨H.is.sats, H.is.custs, H.is.cost, H.is.time, H.is.ls, H.is.lc, H.is.lo, H.is.lt⟩, H.ls, H.lc⟩
theorem nodes_nn (X : InstD) (h : HdD) (nn : Nat) (hn : Hid (nodesN X = nn)) (w : World) (h1 : X.sats.length ≤ 1000000) (h2 : X.custs.length ≤ 1000000) :
    Calls Try.prog 13 #[.agg (instC X h)] w fun e w' => e = .returned (.int .i64 (nn : Int)) ∧ Below w.heap.size w w' :=
  (nodes_below X h w h1 h2).mono fun e w' ⟨he, hb⟩ => ⟨by rw [he, hn.out], hb⟩
set_option maxHeartbeats 40000000 in
set_option maxRecDepth 100000 in
theorem walk_InstSpoilt (w : World) (S : SmallD) (h : SmallH) (H : SmallIs w S h) (what at_ by_ : Nat) (hw1 : what < 256) (hw2 : at_ < 256) (hw3 : by_ < 256) (n : Int) :
    Calls Try.prog 4 #[.agg (smallC S h), .int .u8 what, .int .u8 at_, .int .u8 by_, .int .i64 n] w fun e w' => e = .returned (.bool true) ∧ Below w.heap.size w w' := by
  obtain ⟨sa, sc, ca, cc, oa, oc, ta, tc⟩ := h
  have BW := (Below.refl w.heap.size w).alloc (Nat.le_refl _) (.cells #[Value.int .u8 S.fin, .int .u8 S.tm, .int .u8 S.tr, .int .u8 S.bm, .int .u8 S.br, .slice sa S.sats.length sc, .slice ca S.custs.length cc, .slice oa S.cost.length oc, .slice ta S.time.length tc, .bool S.tight, .bool S.loose] 38)
  have hSm := Lib.hid (⟨H.b1, H.bs, H.bc⟩ : S.fin < 256 ∧ (∀ s ∈ S.sats, s.room < 256 ∧ s.hold < 256) ∧ ∀ c ∈ S.custs, c.load < 256 ∧ c.opn < 256 ∧ c.wide < 256 ∧ c.stay < 256)
  replace H := Lib.hid (H.below BW)
  have DD : ∀ j u, #[Value.int .u8 S.fin, .int .u8 S.tm, .int .u8 S.tr, .int .u8 S.bm, .int .u8 S.br, .slice sa S.sats.length sc, .slice ca S.custs.length cc, .slice oa S.cost.length oc, .slice ta S.time.length tc, .bool S.tight, .bool S.loose][j]? = some u → (w.alloc (.cells #[Value.int .u8 S.fin, .int .u8 S.tm, .int .u8 S.tr, .int .u8 S.bm, .int .u8 S.br, .slice sa S.sats.length sc, .slice ca S.custs.length cc, .slice oa S.cost.length oc, .slice ta S.time.length tc, .bool S.tight, .bool S.loose] 38)).cell? ⟨w.heap.size, j, none⟩ = some u := fun j u hu => by rw [World.cell?_alloc_new]; exact hu
  have gA : w.heap.size < (w.alloc (.cells #[Value.int .u8 S.fin, .int .u8 S.tm, .int .u8 S.tr, .int .u8 S.bm, .int .u8 S.br, .slice sa S.sats.length sc, .slice ca S.custs.length cc, .slice oa S.cost.length oc, .slice ta S.time.length tc, .bool S.tight, .bool S.loose] 38)).heap.size := by simp
  replace DD := Lib.hid DD
  replace BW := Lib.hid BW
  go_enter Try.func4, Try.ntmps4
  go_wp2_with fail
  refine (awake_any _).mono ?_
  rintro e W ⟨rfl, hA⟩
  generalize (w.alloc (.cells #[Value.int .u8 S.fin, .int .u8 S.tm, .int .u8 S.tr, .int .u8 S.bm, .int .u8 S.br, .slice sa S.sats.length sc, .slice ca S.custs.length cc, .slice oa S.cost.length oc, .slice ta S.time.length tc, .bool S.tight, .bool S.loose] 38)) = WA at *
  generalize hg : w.heap.size = g at *
  replace hg := Lib.hid hg
  replace H := Lib.hid (H.out.below hA)
  have d0 : W.cell? ⟨g, 0, none⟩ = some (.int .u8 S.fin) := keep_cell hA (DD.out 0 _ rfl)
  have d1 : W.cell? ⟨g, 1, none⟩ = some (.int .u8 S.tm) := keep_cell hA (DD.out 1 _ rfl)
  have d2 : W.cell? ⟨g, 2, none⟩ = some (.int .u8 S.tr) := keep_cell hA (DD.out 2 _ rfl)
  have d3 : W.cell? ⟨g, 3, none⟩ = some (.int .u8 S.bm) := keep_cell hA (DD.out 3 _ rfl)
  have d4 : W.cell? ⟨g, 4, none⟩ = some (.int .u8 S.br) := keep_cell hA (DD.out 4 _ rfl)
  have d5 : W.cell? ⟨g, 5, none⟩ = some (.slice sa S.sats.length sc) := keep_cell hA (DD.out 5 _ rfl)
  have d6 : W.cell? ⟨g, 6, none⟩ = some (.slice ca S.custs.length cc) := keep_cell hA (DD.out 6 _ rfl)
  have d7 : W.cell? ⟨g, 7, none⟩ = some (.slice oa S.cost.length oc) := keep_cell hA (DD.out 7 _ rfl)
  have d8 : W.cell? ⟨g, 8, none⟩ = some (.slice ta S.time.length tc) := keep_cell hA (DD.out 8 _ rfl)
  have d9 : W.cell? ⟨g, 9, none⟩ = some (.bool S.tight) := keep_cell hA (DD.out 9 _ rfl)
  have d10 : W.cell? ⟨g, 10, none⟩ = some (.bool S.loose) := keep_cell hA (DD.out 10 _ rfl)
  have g1 : g < W.heap.size := Nat.lt_of_lt_of_le gA hA.size
  have hW := Lib.hid (BW.out.trans (hA.mono (by have := hg.out; have := gA; omega)))
  clear BW hA gA DD
  go_wp2_with fail
  refine (make_any S ⟨sa, sc, ca, cc, oa, oc, ta, tc⟩ _ H.out).mono ?_
  rintro e w1 ⟨hx, g7, g8, rfl, hM, hb1⟩
  have hmr := Lib.hid (make_rows S)
  have hco := Lib.hid (make_code S hSm.out)
  have hml := Lib.hid (make_len S)
  have hs1 : 1 ≤ (makeI S).sats.length := (satsI_len S).1
  have hc1 : 1 ≤ (makeI S).custs.length := (custsI_len S).1
  generalize hX : makeI S = X at *
  replace hX := Lib.hid hX
  obtain ⟨x5, x6, x7, x8, xo, xp, xt, xu⟩ := hx
  dsimp only [instC]
  clear d0 d1 d2 d3 d4 d5 d6 d7 d8 d9 d10
  have IX := hM.is (by have := hml.out.1; omega) (by have := hml.out.2.1; omega) (by have := hml.out.2.2.1; omega) (by have := hml.out.2.2.2; omega)
  have g2 : g < w1.heap.size := Nat.lt_of_lt_of_le g1 hb1.size
  have hb2 := Lib.hid (hW.out.trans (hb1.mono (Nat.le_of_lt g1)))
  have hWx := hb1.size
  clear hb1 H hSm
  go_upto_region 4 with fail
  generalize hW2 : (w1.alloc (.cells #[Value.int .i64 X.fin, .int .i64 X.tm, .int .i64 X.tr, .int .i64 X.bm, .int .i64 X.br, .slice x5 X.sats.length x6, .slice x7 X.custs.length x8, .slice xo X.cost.length xp, .slice xt X.time.length xu] 28)) = W2 at *
  obtain ⟨e1, e2, e3⟩ := box_new _ _ W2 hW2
  have HM2 := Lib.hid (hM.below e2)
  have IX2 := Lib.hid (IX.below e2)
  have e2' := Lib.hid e2
  generalize hgx : w1.heap.size = gx at *
  have q0 : W2.cell? ⟨gx, 0, none⟩ = some (.int .i64 X.fin) := cell_of_row W2 gx 0 _ _ _ e1
  have q1 : W2.cell? ⟨gx, 1, none⟩ = some (.int .i64 X.tm) := cell_of_row W2 gx 1 _ _ _ e1
  have q2 : W2.cell? ⟨gx, 2, none⟩ = some (.int .i64 X.tr) := cell_of_row W2 gx 2 _ _ _ e1
  have q3 : W2.cell? ⟨gx, 3, none⟩ = some (.int .i64 X.bm) := cell_of_row W2 gx 3 _ _ _ e1
  have q4 : W2.cell? ⟨gx, 4, none⟩ = some (.int .i64 X.br) := cell_of_row W2 gx 4 _ _ _ e1
  have q5 : W2.cell? ⟨gx, 5, none⟩ = some (.slice x5 X.sats.length x6) := cell_of_row W2 gx 5 _ _ _ e1
  have q6 : W2.cell? ⟨gx, 6, none⟩ = some (.slice x7 X.custs.length x8) := cell_of_row W2 gx 6 _ _ _ e1
  have q7 : W2.cell? ⟨gx, 7, none⟩ = some (.slice xo X.cost.length xp) := cell_of_row W2 gx 7 _ _ _ e1
  have q8 : W2.cell? ⟨gx, 8, none⟩ = some (.slice xt X.time.length xu) := cell_of_row W2 gx 8 _ _ _ e1
  have e1' := Lib.hid e1
  have hb3 := Lib.hid (hb2.out.trans (e2.mono (Nat.le_of_lt g2)))
  have g4 : gx < W2.heap.size := by omega
  clear hW2 e1 e2 e3 hb2 hM
  replace IX := Lib.hid IX
  go_wp2_with fail
  refine (check_ok X ⟨x5, x6, x7, x8, xo, xp, xt, xu⟩ _ IX2.out hco.out (by have := hml.out; omega) (by have := hml.out; omega)).mono ?_
  rintro e w3 ⟨rfl, hb4⟩
  replace q0 := keep_cell hb4 q0
  replace q1 := keep_cell hb4 q1
  replace q2 := keep_cell hb4 q2
  replace q3 := keep_cell hb4 q3
  replace q4 := keep_cell hb4 q4
  replace q5 := keep_cell hb4 q5
  replace q6 := keep_cell hb4 q6
  replace q7 := keep_cell hb4 q7
  replace q8 := keep_cell hb4 q8
  have HM3 := Lib.hid (HM2.out.below hb4)
  have IX3 := Lib.hid (IX2.out.below hb4)
  have e2'' := Lib.hid (e2'.out.trans (hb4.mono (Nat.le_of_lt g4)))
  have e1'' := Lib.hid ((hb4.block gx g4).trans e1'.out)
  have g5 : gx < w3.heap.size := Nat.lt_of_lt_of_le g4 hb4.size
  have hb5 := Lib.hid (hb3.out.trans (hb4.mono (by omega)))
  have g6 : g < w3.heap.size := by omega
  clear hb4 HM2 IX2 e2' e1' hb3
  have hns := Lib.hid (show 1 ≤ X.sats.length ∧ X.sats.length ≤ 3 ∧ 1 ≤ X.custs.length ∧ X.custs.length ≤ 6 from ⟨hs1, hml.out.1, hc1, hml.out.2.1⟩)
  clear hs1 hc1
  go_upto_region 6 with fail
  have hb0 := Below.refl w3.heap.size w3
  have KS : ∀ w' : World, Below w3.heap.size w3 w' → w'.cell? ⟨gx, 0, none⟩ = some (.int .i64 X.fin) ∧ w'.cell? ⟨gx, 1, none⟩ = some (.int .i64 X.tm) ∧ w'.cell? ⟨gx, 2, none⟩ = some (.int .i64 X.tr) ∧ w'.cell? ⟨gx, 3, none⟩ = some (.int .i64 X.bm) ∧ w'.cell? ⟨gx, 4, none⟩ = some (.int .i64 X.br) ∧ w'.cell? ⟨gx, 5, none⟩ = some (.slice x5 X.sats.length x6) ∧ w'.cell? ⟨gx, 6, none⟩ = some (.slice x7 X.custs.length x8) ∧ w'.cell? ⟨gx, 7, none⟩ = some (.slice xo X.cost.length xp) ∧ w'.cell? ⟨gx, 8, none⟩ = some (.slice xt X.time.length xu) ∧ Below w3.heap.size w3 w' := fun w' hb => ⟨keep_cell hb q0, keep_cell hb q1, keep_cell hb q2, keep_cell hb q3, keep_cell hb q4, keep_cell hb q5, keep_cell hb q6, keep_cell hb q7, keep_cell hb q8, hb⟩
  have KB : ∀ w' : World, (w'.cell? ⟨gx, 0, none⟩ = some (.int .i64 X.fin) ∧ w'.cell? ⟨gx, 1, none⟩ = some (.int .i64 X.tm) ∧ w'.cell? ⟨gx, 2, none⟩ = some (.int .i64 X.tr) ∧ w'.cell? ⟨gx, 3, none⟩ = some (.int .i64 X.bm) ∧ w'.cell? ⟨gx, 4, none⟩ = some (.int .i64 X.br) ∧ w'.cell? ⟨gx, 5, none⟩ = some (.slice x5 X.sats.length x6) ∧ w'.cell? ⟨gx, 6, none⟩ = some (.slice x7 X.custs.length x8) ∧ w'.cell? ⟨gx, 7, none⟩ = some (.slice xo X.cost.length xp) ∧ w'.cell? ⟨gx, 8, none⟩ = some (.slice xt X.time.length xu) ∧ Below w3.heap.size w3 w') → Below w3.heap.size w3 w' := fun w' h => h.2.2.2.2.2.2.2.2.2
  replace KB := Lib.hid KB
  replace KS := Lib.hid KS
  obtain ⟨nn, hnn⟩ : ∃ nn : Nat, nodesN X = nn := ⟨_, rfl⟩
  have hnb : nn ≤ 10 ∧ 1 ≤ nn := by have := hmr.out.2.2.2.2; unfold nodesN at hnn this; omega
  replace hnn := Lib.hid hnn
  have n0 : ¬ nn = 0 := by omega
  have p1 : IntKind.i64.wrap (at_ : Int) = (at_ : Int) := IntWalk.i64_in _ (by omega)
  have p2 : IntKind.i64.wrap (by_ : Int) = (by_ : Int) := IntWalk.i64_in _ (by omega)
  have p3 : (at_ : Int).tmod (nn : Int) = ((at_ % nn : Nat) : Int) := (Int.ofNat_tmod at_ nn).symm
  have p4 : (by_ : Int).tmod (nn : Int) = ((by_ % nn : Nat) : Int) := (Int.ofNat_tmod by_ nn).symm
  have p5 : (at_ : Int).tmod (X.custs.length : Int) = ((at_ % X.custs.length : Nat) : Int) := (Int.ofNat_tmod at_ _).symm
  have p6 : (at_ : Int).tmod (X.sats.length : Int) = ((at_ % X.sats.length : Nat) : Int) := (Int.ofNat_tmod at_ _).symm
  have p7 : ¬ X.custs = [] := fun e => by have := hns.out; rw [e] at this; simp at this
  have p8 : ¬ X.sats = [] := fun e => by have := hns.out; rw [e] at this; simp at this
  go_cut [12, 13] (fun s12 s13 wx => ∃ i k : Nat, i < nn ∧ k < nn ∧ s12 = .int .i64 i ∧ s13 = .int .i64 k ∧ Below w3.heap.size w3 wx)
  case first =>
    clear q0 q1 q2 q3 q4 q5 q6 q7 q8
    go_region_held3 (fun w' => w'.cell? ⟨gx, 0, none⟩ = some (.int .i64 X.fin) ∧ w'.cell? ⟨gx, 1, none⟩ = some (.int .i64 X.tm) ∧ w'.cell? ⟨gx, 2, none⟩ = some (.int .i64 X.tr) ∧ w'.cell? ⟨gx, 3, none⟩ = some (.int .i64 X.bm) ∧ w'.cell? ⟨gx, 4, none⟩ = some (.int .i64 X.br) ∧ w'.cell? ⟨gx, 5, none⟩ = some (.slice x5 X.sats.length x6) ∧ w'.cell? ⟨gx, 6, none⟩ = some (.slice x7 X.custs.length x8) ∧ w'.cell? ⟨gx, 7, none⟩ = some (.slice xo X.cost.length xp) ∧ w'.cell? ⟨gx, 8, none⟩ = some (.slice xt X.time.length xu) ∧ Below w3.heap.size w3 w')
      (first | exact KS.out _ (Below.drew hb0) | exact KS.out _ (keep_below (KB.out _ (by assumption)) (by assumption)))
      (first | (go_at_call 13; refine (nodes_nn X ⟨x5, x6, x7, x8, xo, xp, xt, xu⟩ nn hnn _ (by have := hns.out; omega) (by have := hns.out; omega)).mono ?_; rintro e wb ⟨rfl, hb⟩))
    have hE := KB.out _ (by assumption)
    go_wp2_with fail
    go_meet
    exact ⟨at_ % nn, by_ % nn, Nat.mod_lt _ (by omega), Nat.mod_lt _ (by omega), by go_num, by go_num, hE⟩
  case rest =>
    obtain ⟨i, k, hi, hk, rfl, rfl, hbx⟩ := hcut
    replace KB := KS.out _ hbx
    obtain ⟨q0, q1, q2, q3, q4, q5, q6, q7, q8, _⟩ := KB
    replace hbx := Lib.hid hbx
    go_upto_region 7 with fail
    have hcl : at_ % X.custs.length < X.custs.length := Nat.mod_lt _ (by have := hns.out; omega)
    have htl : at_ % X.sats.length < X.sats.length := Nat.mod_lt _ (by have := hns.out; omega)
    go_region
    clear p1 p2 p3 p4 p5 p6 p7 p8 q0 q1 q2 q3 q4 q5 q6 q7 q8
    have ec : (at_ : Int) % (X.custs.length : Int) = ((at_ % X.custs.length : Nat) : Int) := (Int.natCast_emod _ _).symm
    have et : (at_ : Int) % (X.sats.length : Int) = ((at_ % X.sats.length : Nat) : Int) := (Int.natCast_emod _ _).symm
    generalize at_ % X.custs.length = c at ec hcl
    generalize at_ % X.sats.length = t at et htl
    rw [ec, et]
    clear ec et
    replace hbx := hbx.out
    have HMc := Lib.hid (HM3.out.below hbx)
    have IXc := Lib.hid (IX3.out.below hbx)
    have hBc := (hbx.block gx g5).trans e1''.out
    have hbc := Lib.hid (e2''.out.trans (hbx.mono (Nat.le_of_lt g5)))
    have g7' : gx < wc.heap.size := Nat.lt_of_lt_of_le g5 hbx.size
    have hb9 := Lib.hid (hb5.out.trans (hbx.mono (by omega)))
    have g9 : g < wc.heap.size := by omega
    replace hbx := Lib.hid hbx
    have hll := hml.out
    have hq : (what : Int) % 16 = 0 ∨ (what : Int) % 16 = 1 ∨ (what : Int) % 16 = 2 ∨ (what : Int) % 16 = 3 ∨ (what : Int) % 16 = 4 ∨ (what : Int) % 16 = 5 ∨ (what : Int) % 16 = 6 ∨ (what : Int) % 16 = 7 ∨ (what : Int) % 16 = 8 ∨ (what : Int) % 16 = 9 ∨ (what : Int) % 16 = 10 ∨ (what : Int) % 16 = 11 ∨ (what : Int) % 16 = 12 ∨ (what : Int) % 16 = 13 ∨ (what : Int) % 16 = 14 ∨ (what : Int) % 16 = 15 := by omega
    have cell := fun (j : Nat) (u : Value) (hu : #[Value.int .i64 X.fin, .int .i64 X.tm, .int .i64 X.tr, .int .i64 X.bm, .int .i64 X.br, .slice x5 X.sats.length x6, .slice x7 X.custs.length x8, .slice xo X.cost.length xp, .slice xt X.time.length xu][j]? = some u) => (cell_of_row wc gx j _ _ _ hBc).trans hu
    have frz := fun (j : Nat) => frozen_of_row wc gx j _ _ hBc
    replace hBc := Lib.hid hBc
    replace cell := Lib.hid cell
    replace frz := Lib.hid frz
    rcases hq with hq | hq | hq | hq | hq | hq | hq | hq | hq | hq | hq | hq | hq | hq | hq | hq
    · have cj := cell.out 0 _ rfl
      have fj := frz.out 0
      have HZ := spoil_0 hgx IX.out hbc.out hBc.out (by omega) (by omega) n
      have HT : ∃ (Y : InstD) (hh : HdD), Spoilt (wc.setCell ⟨gx, 0, none⟩ (.int .i64 n)).drew gx Y hh ∧ Below g w (wc.setCell ⟨gx, 0, none⟩ (.int .i64 n)).drew := ⟨_, _, HZ.drew, ((hb9.out.setCell (show g ≤ (⟨gx, 0, none⟩ : Addr).block from by show g ≤ gx; omega) _).drew)⟩
      go_upto_region 40 with fail
      generalize (wc.setCell ⟨gx, 0, none⟩ (.int .i64 n)).drew = WZ at *
      obtain ⟨Y, ⟨k1, c1, k2, c2, k3, c3, k4, c4⟩, HZ, HB⟩ := HT
      have gz := heap_lt HZ.blk
      have y0 : WZ.cell? ⟨gx, 0, none⟩ = some (.int .i64 Y.fin) := cell_of_row WZ gx 0 _ _ _ HZ.blk
      have y1 : WZ.cell? ⟨gx, 1, none⟩ = some (.int .i64 Y.tm) := cell_of_row WZ gx 1 _ _ _ HZ.blk
      have y2 : WZ.cell? ⟨gx, 2, none⟩ = some (.int .i64 Y.tr) := cell_of_row WZ gx 2 _ _ _ HZ.blk
      have y3 : WZ.cell? ⟨gx, 3, none⟩ = some (.int .i64 Y.bm) := cell_of_row WZ gx 3 _ _ _ HZ.blk
      have y4 : WZ.cell? ⟨gx, 4, none⟩ = some (.int .i64 Y.br) := cell_of_row WZ gx 4 _ _ _ HZ.blk
      have y5 : WZ.cell? ⟨gx, 5, none⟩ = some (.slice k1 Y.sats.length c1) := cell_of_row WZ gx 5 _ _ _ HZ.blk
      have y6 : WZ.cell? ⟨gx, 6, none⟩ = some (.slice k2 Y.custs.length c2) := cell_of_row WZ gx 6 _ _ _ HZ.blk
      have y7 : WZ.cell? ⟨gx, 7, none⟩ = some (.slice k3 Y.cost.length c3) := cell_of_row WZ gx 7 _ _ _ HZ.blk
      have y8 : WZ.cell? ⟨gx, 8, none⟩ = some (.slice k4 Y.time.length c4) := cell_of_row WZ gx 8 _ _ _ HZ.blk
      have hb0 := Below.refl WZ.heap.size WZ
      have KS : ∀ w' : World, Below WZ.heap.size WZ w' → w'.cell? ⟨gx, 0, none⟩ = some (.int .i64 Y.fin) ∧ w'.cell? ⟨gx, 1, none⟩ = some (.int .i64 Y.tm) ∧ w'.cell? ⟨gx, 2, none⟩ = some (.int .i64 Y.tr) ∧ w'.cell? ⟨gx, 3, none⟩ = some (.int .i64 Y.bm) ∧ w'.cell? ⟨gx, 4, none⟩ = some (.int .i64 Y.br) ∧ w'.cell? ⟨gx, 5, none⟩ = some (.slice k1 Y.sats.length c1) ∧ w'.cell? ⟨gx, 6, none⟩ = some (.slice k2 Y.custs.length c2) ∧ w'.cell? ⟨gx, 7, none⟩ = some (.slice k3 Y.cost.length c3) ∧ w'.cell? ⟨gx, 8, none⟩ = some (.slice k4 Y.time.length c4) ∧ Below WZ.heap.size WZ w' := fun w' hb => ⟨keep_cell hb y0, keep_cell hb y1, keep_cell hb y2, keep_cell hb y3, keep_cell hb y4, keep_cell hb y5, keep_cell hb y6, keep_cell hb y7, keep_cell hb y8, hb⟩
      have KB : ∀ w' : World, (w'.cell? ⟨gx, 0, none⟩ = some (.int .i64 Y.fin) ∧ w'.cell? ⟨gx, 1, none⟩ = some (.int .i64 Y.tm) ∧ w'.cell? ⟨gx, 2, none⟩ = some (.int .i64 Y.tr) ∧ w'.cell? ⟨gx, 3, none⟩ = some (.int .i64 Y.bm) ∧ w'.cell? ⟨gx, 4, none⟩ = some (.int .i64 Y.br) ∧ w'.cell? ⟨gx, 5, none⟩ = some (.slice k1 Y.sats.length c1) ∧ w'.cell? ⟨gx, 6, none⟩ = some (.slice k2 Y.custs.length c2) ∧ w'.cell? ⟨gx, 7, none⟩ = some (.slice k3 Y.cost.length c3) ∧ w'.cell? ⟨gx, 8, none⟩ = some (.slice k4 Y.time.length c4) ∧ Below WZ.heap.size WZ w') → Below WZ.heap.size WZ w' := fun w' h => h.2.2.2.2.2.2.2.2.2
      replace KB := Lib.hid KB
      replace KS := Lib.hid KS
      replace HZ := Lib.hid HZ
      replace HB := Lib.hid HB
      go_region_held3 (fun w' => w'.cell? ⟨gx, 0, none⟩ = some (.int .i64 Y.fin) ∧ w'.cell? ⟨gx, 1, none⟩ = some (.int .i64 Y.tm) ∧ w'.cell? ⟨gx, 2, none⟩ = some (.int .i64 Y.tr) ∧ w'.cell? ⟨gx, 3, none⟩ = some (.int .i64 Y.bm) ∧ w'.cell? ⟨gx, 4, none⟩ = some (.int .i64 Y.br) ∧ w'.cell? ⟨gx, 5, none⟩ = some (.slice k1 Y.sats.length c1) ∧ w'.cell? ⟨gx, 6, none⟩ = some (.slice k2 Y.custs.length c2) ∧ w'.cell? ⟨gx, 7, none⟩ = some (.slice k3 Y.cost.length c3) ∧ w'.cell? ⟨gx, 8, none⟩ = some (.slice k4 Y.time.length c4) ∧ Below WZ.heap.size WZ w')
        (first | exact KS.out _ (Below.drew hb0) | exact KS.out _ (keep_below (KB.out _ (by assumption)) (by assumption)))
        (first | (go_at_call 10; refine (check_any Y ⟨k1, c1, k2, c2, k3, c3, k4, c4⟩ _ (HZ.out.is.below (KB.out _ (by assumption))) HZ.out.ls HZ.out.lc).mono ?_; rintro e w1 ⟨rfl, hb⟩) | (go_at_call 11; refine (code_any Y ⟨k1, c1, k2, c2, k3, c3, k4, c4⟩ _ (HZ.out.is.below (KB.out _ (by assumption))) HZ.out.ls HZ.out.lc).mono ?_; rintro e w1 ⟨rfl, hb⟩))
      have hE := KB.out _ (by assumption)
      go_wp2_with fail
      go_ret
      exact ⟨rfl, by have := hg.out; rw [this]; exact HB.out.trans (hE.mono (by omega))⟩
    · have cj := cell.out 1 _ rfl
      have fj := frz.out 1
      have HZ := spoil_1 hgx IX.out hbc.out hBc.out (by omega) (by omega) n
      have HT : ∃ (Y : InstD) (hh : HdD), Spoilt (wc.setCell ⟨gx, 1, none⟩ (.int .i64 n)).drew gx Y hh ∧ Below g w (wc.setCell ⟨gx, 1, none⟩ (.int .i64 n)).drew := ⟨_, _, HZ.drew, ((hb9.out.setCell (show g ≤ (⟨gx, 1, none⟩ : Addr).block from by show g ≤ gx; omega) _).drew)⟩
      go_upto_region 40 with fail
      generalize (wc.setCell ⟨gx, 1, none⟩ (.int .i64 n)).drew = WZ at *
      obtain ⟨Y, ⟨k1, c1, k2, c2, k3, c3, k4, c4⟩, HZ, HB⟩ := HT
      have gz := heap_lt HZ.blk
      have y0 : WZ.cell? ⟨gx, 0, none⟩ = some (.int .i64 Y.fin) := cell_of_row WZ gx 0 _ _ _ HZ.blk
      have y1 : WZ.cell? ⟨gx, 1, none⟩ = some (.int .i64 Y.tm) := cell_of_row WZ gx 1 _ _ _ HZ.blk
      have y2 : WZ.cell? ⟨gx, 2, none⟩ = some (.int .i64 Y.tr) := cell_of_row WZ gx 2 _ _ _ HZ.blk
      have y3 : WZ.cell? ⟨gx, 3, none⟩ = some (.int .i64 Y.bm) := cell_of_row WZ gx 3 _ _ _ HZ.blk
      have y4 : WZ.cell? ⟨gx, 4, none⟩ = some (.int .i64 Y.br) := cell_of_row WZ gx 4 _ _ _ HZ.blk
      have y5 : WZ.cell? ⟨gx, 5, none⟩ = some (.slice k1 Y.sats.length c1) := cell_of_row WZ gx 5 _ _ _ HZ.blk
      have y6 : WZ.cell? ⟨gx, 6, none⟩ = some (.slice k2 Y.custs.length c2) := cell_of_row WZ gx 6 _ _ _ HZ.blk
      have y7 : WZ.cell? ⟨gx, 7, none⟩ = some (.slice k3 Y.cost.length c3) := cell_of_row WZ gx 7 _ _ _ HZ.blk
      have y8 : WZ.cell? ⟨gx, 8, none⟩ = some (.slice k4 Y.time.length c4) := cell_of_row WZ gx 8 _ _ _ HZ.blk
      have hb0 := Below.refl WZ.heap.size WZ
      have KS : ∀ w' : World, Below WZ.heap.size WZ w' → w'.cell? ⟨gx, 0, none⟩ = some (.int .i64 Y.fin) ∧ w'.cell? ⟨gx, 1, none⟩ = some (.int .i64 Y.tm) ∧ w'.cell? ⟨gx, 2, none⟩ = some (.int .i64 Y.tr) ∧ w'.cell? ⟨gx, 3, none⟩ = some (.int .i64 Y.bm) ∧ w'.cell? ⟨gx, 4, none⟩ = some (.int .i64 Y.br) ∧ w'.cell? ⟨gx, 5, none⟩ = some (.slice k1 Y.sats.length c1) ∧ w'.cell? ⟨gx, 6, none⟩ = some (.slice k2 Y.custs.length c2) ∧ w'.cell? ⟨gx, 7, none⟩ = some (.slice k3 Y.cost.length c3) ∧ w'.cell? ⟨gx, 8, none⟩ = some (.slice k4 Y.time.length c4) ∧ Below WZ.heap.size WZ w' := fun w' hb => ⟨keep_cell hb y0, keep_cell hb y1, keep_cell hb y2, keep_cell hb y3, keep_cell hb y4, keep_cell hb y5, keep_cell hb y6, keep_cell hb y7, keep_cell hb y8, hb⟩
      have KB : ∀ w' : World, (w'.cell? ⟨gx, 0, none⟩ = some (.int .i64 Y.fin) ∧ w'.cell? ⟨gx, 1, none⟩ = some (.int .i64 Y.tm) ∧ w'.cell? ⟨gx, 2, none⟩ = some (.int .i64 Y.tr) ∧ w'.cell? ⟨gx, 3, none⟩ = some (.int .i64 Y.bm) ∧ w'.cell? ⟨gx, 4, none⟩ = some (.int .i64 Y.br) ∧ w'.cell? ⟨gx, 5, none⟩ = some (.slice k1 Y.sats.length c1) ∧ w'.cell? ⟨gx, 6, none⟩ = some (.slice k2 Y.custs.length c2) ∧ w'.cell? ⟨gx, 7, none⟩ = some (.slice k3 Y.cost.length c3) ∧ w'.cell? ⟨gx, 8, none⟩ = some (.slice k4 Y.time.length c4) ∧ Below WZ.heap.size WZ w') → Below WZ.heap.size WZ w' := fun w' h => h.2.2.2.2.2.2.2.2.2
      replace KB := Lib.hid KB
      replace KS := Lib.hid KS
      replace HZ := Lib.hid HZ
      replace HB := Lib.hid HB
      go_region_held3 (fun w' => w'.cell? ⟨gx, 0, none⟩ = some (.int .i64 Y.fin) ∧ w'.cell? ⟨gx, 1, none⟩ = some (.int .i64 Y.tm) ∧ w'.cell? ⟨gx, 2, none⟩ = some (.int .i64 Y.tr) ∧ w'.cell? ⟨gx, 3, none⟩ = some (.int .i64 Y.bm) ∧ w'.cell? ⟨gx, 4, none⟩ = some (.int .i64 Y.br) ∧ w'.cell? ⟨gx, 5, none⟩ = some (.slice k1 Y.sats.length c1) ∧ w'.cell? ⟨gx, 6, none⟩ = some (.slice k2 Y.custs.length c2) ∧ w'.cell? ⟨gx, 7, none⟩ = some (.slice k3 Y.cost.length c3) ∧ w'.cell? ⟨gx, 8, none⟩ = some (.slice k4 Y.time.length c4) ∧ Below WZ.heap.size WZ w')
        (first | exact KS.out _ (Below.drew hb0) | exact KS.out _ (keep_below (KB.out _ (by assumption)) (by assumption)))
        (first | (go_at_call 10; refine (check_any Y ⟨k1, c1, k2, c2, k3, c3, k4, c4⟩ _ (HZ.out.is.below (KB.out _ (by assumption))) HZ.out.ls HZ.out.lc).mono ?_; rintro e w1 ⟨rfl, hb⟩) | (go_at_call 11; refine (code_any Y ⟨k1, c1, k2, c2, k3, c3, k4, c4⟩ _ (HZ.out.is.below (KB.out _ (by assumption))) HZ.out.ls HZ.out.lc).mono ?_; rintro e w1 ⟨rfl, hb⟩))
      have hE := KB.out _ (by assumption)
      go_wp2_with fail
      go_ret
      exact ⟨rfl, by have := hg.out; rw [this]; exact HB.out.trans (hE.mono (by omega))⟩
    · have cj := cell.out 2 _ rfl
      have fj := frz.out 2
      have HZ := spoil_2 hgx IX.out hbc.out hBc.out (by omega) (by omega) n
      have HT : ∃ (Y : InstD) (hh : HdD), Spoilt (wc.setCell ⟨gx, 2, none⟩ (.int .i64 n)).drew gx Y hh ∧ Below g w (wc.setCell ⟨gx, 2, none⟩ (.int .i64 n)).drew := ⟨_, _, HZ.drew, ((hb9.out.setCell (show g ≤ (⟨gx, 2, none⟩ : Addr).block from by show g ≤ gx; omega) _).drew)⟩
      go_upto_region 40 with fail
      generalize (wc.setCell ⟨gx, 2, none⟩ (.int .i64 n)).drew = WZ at *
      obtain ⟨Y, ⟨k1, c1, k2, c2, k3, c3, k4, c4⟩, HZ, HB⟩ := HT
      have gz := heap_lt HZ.blk
      have y0 : WZ.cell? ⟨gx, 0, none⟩ = some (.int .i64 Y.fin) := cell_of_row WZ gx 0 _ _ _ HZ.blk
      have y1 : WZ.cell? ⟨gx, 1, none⟩ = some (.int .i64 Y.tm) := cell_of_row WZ gx 1 _ _ _ HZ.blk
      have y2 : WZ.cell? ⟨gx, 2, none⟩ = some (.int .i64 Y.tr) := cell_of_row WZ gx 2 _ _ _ HZ.blk
      have y3 : WZ.cell? ⟨gx, 3, none⟩ = some (.int .i64 Y.bm) := cell_of_row WZ gx 3 _ _ _ HZ.blk
      have y4 : WZ.cell? ⟨gx, 4, none⟩ = some (.int .i64 Y.br) := cell_of_row WZ gx 4 _ _ _ HZ.blk
      have y5 : WZ.cell? ⟨gx, 5, none⟩ = some (.slice k1 Y.sats.length c1) := cell_of_row WZ gx 5 _ _ _ HZ.blk
      have y6 : WZ.cell? ⟨gx, 6, none⟩ = some (.slice k2 Y.custs.length c2) := cell_of_row WZ gx 6 _ _ _ HZ.blk
      have y7 : WZ.cell? ⟨gx, 7, none⟩ = some (.slice k3 Y.cost.length c3) := cell_of_row WZ gx 7 _ _ _ HZ.blk
      have y8 : WZ.cell? ⟨gx, 8, none⟩ = some (.slice k4 Y.time.length c4) := cell_of_row WZ gx 8 _ _ _ HZ.blk
      have hb0 := Below.refl WZ.heap.size WZ
      have KS : ∀ w' : World, Below WZ.heap.size WZ w' → w'.cell? ⟨gx, 0, none⟩ = some (.int .i64 Y.fin) ∧ w'.cell? ⟨gx, 1, none⟩ = some (.int .i64 Y.tm) ∧ w'.cell? ⟨gx, 2, none⟩ = some (.int .i64 Y.tr) ∧ w'.cell? ⟨gx, 3, none⟩ = some (.int .i64 Y.bm) ∧ w'.cell? ⟨gx, 4, none⟩ = some (.int .i64 Y.br) ∧ w'.cell? ⟨gx, 5, none⟩ = some (.slice k1 Y.sats.length c1) ∧ w'.cell? ⟨gx, 6, none⟩ = some (.slice k2 Y.custs.length c2) ∧ w'.cell? ⟨gx, 7, none⟩ = some (.slice k3 Y.cost.length c3) ∧ w'.cell? ⟨gx, 8, none⟩ = some (.slice k4 Y.time.length c4) ∧ Below WZ.heap.size WZ w' := fun w' hb => ⟨keep_cell hb y0, keep_cell hb y1, keep_cell hb y2, keep_cell hb y3, keep_cell hb y4, keep_cell hb y5, keep_cell hb y6, keep_cell hb y7, keep_cell hb y8, hb⟩
      have KB : ∀ w' : World, (w'.cell? ⟨gx, 0, none⟩ = some (.int .i64 Y.fin) ∧ w'.cell? ⟨gx, 1, none⟩ = some (.int .i64 Y.tm) ∧ w'.cell? ⟨gx, 2, none⟩ = some (.int .i64 Y.tr) ∧ w'.cell? ⟨gx, 3, none⟩ = some (.int .i64 Y.bm) ∧ w'.cell? ⟨gx, 4, none⟩ = some (.int .i64 Y.br) ∧ w'.cell? ⟨gx, 5, none⟩ = some (.slice k1 Y.sats.length c1) ∧ w'.cell? ⟨gx, 6, none⟩ = some (.slice k2 Y.custs.length c2) ∧ w'.cell? ⟨gx, 7, none⟩ = some (.slice k3 Y.cost.length c3) ∧ w'.cell? ⟨gx, 8, none⟩ = some (.slice k4 Y.time.length c4) ∧ Below WZ.heap.size WZ w') → Below WZ.heap.size WZ w' := fun w' h => h.2.2.2.2.2.2.2.2.2
      replace KB := Lib.hid KB
      replace KS := Lib.hid KS
      replace HZ := Lib.hid HZ
      replace HB := Lib.hid HB
      go_region_held3 (fun w' => w'.cell? ⟨gx, 0, none⟩ = some (.int .i64 Y.fin) ∧ w'.cell? ⟨gx, 1, none⟩ = some (.int .i64 Y.tm) ∧ w'.cell? ⟨gx, 2, none⟩ = some (.int .i64 Y.tr) ∧ w'.cell? ⟨gx, 3, none⟩ = some (.int .i64 Y.bm) ∧ w'.cell? ⟨gx, 4, none⟩ = some (.int .i64 Y.br) ∧ w'.cell? ⟨gx, 5, none⟩ = some (.slice k1 Y.sats.length c1) ∧ w'.cell? ⟨gx, 6, none⟩ = some (.slice k2 Y.custs.length c2) ∧ w'.cell? ⟨gx, 7, none⟩ = some (.slice k3 Y.cost.length c3) ∧ w'.cell? ⟨gx, 8, none⟩ = some (.slice k4 Y.time.length c4) ∧ Below WZ.heap.size WZ w')
        (first | exact KS.out _ (Below.drew hb0) | exact KS.out _ (keep_below (KB.out _ (by assumption)) (by assumption)))
        (first | (go_at_call 10; refine (check_any Y ⟨k1, c1, k2, c2, k3, c3, k4, c4⟩ _ (HZ.out.is.below (KB.out _ (by assumption))) HZ.out.ls HZ.out.lc).mono ?_; rintro e w1 ⟨rfl, hb⟩) | (go_at_call 11; refine (code_any Y ⟨k1, c1, k2, c2, k3, c3, k4, c4⟩ _ (HZ.out.is.below (KB.out _ (by assumption))) HZ.out.ls HZ.out.lc).mono ?_; rintro e w1 ⟨rfl, hb⟩))
      have hE := KB.out _ (by assumption)
      go_wp2_with fail
      go_ret
      exact ⟨rfl, by have := hg.out; rw [this]; exact HB.out.trans (hE.mono (by omega))⟩
    · have cj := cell.out 3 _ rfl
      have fj := frz.out 3
      have HZ := spoil_3 hgx IX.out hbc.out hBc.out (by omega) (by omega) n
      have HT : ∃ (Y : InstD) (hh : HdD), Spoilt (wc.setCell ⟨gx, 3, none⟩ (.int .i64 n)).drew gx Y hh ∧ Below g w (wc.setCell ⟨gx, 3, none⟩ (.int .i64 n)).drew := ⟨_, _, HZ.drew, ((hb9.out.setCell (show g ≤ (⟨gx, 3, none⟩ : Addr).block from by show g ≤ gx; omega) _).drew)⟩
      go_upto_region 40 with fail
      generalize (wc.setCell ⟨gx, 3, none⟩ (.int .i64 n)).drew = WZ at *
      obtain ⟨Y, ⟨k1, c1, k2, c2, k3, c3, k4, c4⟩, HZ, HB⟩ := HT
      have gz := heap_lt HZ.blk
      have y0 : WZ.cell? ⟨gx, 0, none⟩ = some (.int .i64 Y.fin) := cell_of_row WZ gx 0 _ _ _ HZ.blk
      have y1 : WZ.cell? ⟨gx, 1, none⟩ = some (.int .i64 Y.tm) := cell_of_row WZ gx 1 _ _ _ HZ.blk
      have y2 : WZ.cell? ⟨gx, 2, none⟩ = some (.int .i64 Y.tr) := cell_of_row WZ gx 2 _ _ _ HZ.blk
      have y3 : WZ.cell? ⟨gx, 3, none⟩ = some (.int .i64 Y.bm) := cell_of_row WZ gx 3 _ _ _ HZ.blk
      have y4 : WZ.cell? ⟨gx, 4, none⟩ = some (.int .i64 Y.br) := cell_of_row WZ gx 4 _ _ _ HZ.blk
      have y5 : WZ.cell? ⟨gx, 5, none⟩ = some (.slice k1 Y.sats.length c1) := cell_of_row WZ gx 5 _ _ _ HZ.blk
      have y6 : WZ.cell? ⟨gx, 6, none⟩ = some (.slice k2 Y.custs.length c2) := cell_of_row WZ gx 6 _ _ _ HZ.blk
      have y7 : WZ.cell? ⟨gx, 7, none⟩ = some (.slice k3 Y.cost.length c3) := cell_of_row WZ gx 7 _ _ _ HZ.blk
      have y8 : WZ.cell? ⟨gx, 8, none⟩ = some (.slice k4 Y.time.length c4) := cell_of_row WZ gx 8 _ _ _ HZ.blk
      have hb0 := Below.refl WZ.heap.size WZ
      have KS : ∀ w' : World, Below WZ.heap.size WZ w' → w'.cell? ⟨gx, 0, none⟩ = some (.int .i64 Y.fin) ∧ w'.cell? ⟨gx, 1, none⟩ = some (.int .i64 Y.tm) ∧ w'.cell? ⟨gx, 2, none⟩ = some (.int .i64 Y.tr) ∧ w'.cell? ⟨gx, 3, none⟩ = some (.int .i64 Y.bm) ∧ w'.cell? ⟨gx, 4, none⟩ = some (.int .i64 Y.br) ∧ w'.cell? ⟨gx, 5, none⟩ = some (.slice k1 Y.sats.length c1) ∧ w'.cell? ⟨gx, 6, none⟩ = some (.slice k2 Y.custs.length c2) ∧ w'.cell? ⟨gx, 7, none⟩ = some (.slice k3 Y.cost.length c3) ∧ w'.cell? ⟨gx, 8, none⟩ = some (.slice k4 Y.time.length c4) ∧ Below WZ.heap.size WZ w' := fun w' hb => ⟨keep_cell hb y0, keep_cell hb y1, keep_cell hb y2, keep_cell hb y3, keep_cell hb y4, keep_cell hb y5, keep_cell hb y6, keep_cell hb y7, keep_cell hb y8, hb⟩
      have KB : ∀ w' : World, (w'.cell? ⟨gx, 0, none⟩ = some (.int .i64 Y.fin) ∧ w'.cell? ⟨gx, 1, none⟩ = some (.int .i64 Y.tm) ∧ w'.cell? ⟨gx, 2, none⟩ = some (.int .i64 Y.tr) ∧ w'.cell? ⟨gx, 3, none⟩ = some (.int .i64 Y.bm) ∧ w'.cell? ⟨gx, 4, none⟩ = some (.int .i64 Y.br) ∧ w'.cell? ⟨gx, 5, none⟩ = some (.slice k1 Y.sats.length c1) ∧ w'.cell? ⟨gx, 6, none⟩ = some (.slice k2 Y.custs.length c2) ∧ w'.cell? ⟨gx, 7, none⟩ = some (.slice k3 Y.cost.length c3) ∧ w'.cell? ⟨gx, 8, none⟩ = some (.slice k4 Y.time.length c4) ∧ Below WZ.heap.size WZ w') → Below WZ.heap.size WZ w' := fun w' h => h.2.2.2.2.2.2.2.2.2
      replace KB := Lib.hid KB
      replace KS := Lib.hid KS
      replace HZ := Lib.hid HZ
      replace HB := Lib.hid HB
      go_region_held3 (fun w' => w'.cell? ⟨gx, 0, none⟩ = some (.int .i64 Y.fin) ∧ w'.cell? ⟨gx, 1, none⟩ = some (.int .i64 Y.tm) ∧ w'.cell? ⟨gx, 2, none⟩ = some (.int .i64 Y.tr) ∧ w'.cell? ⟨gx, 3, none⟩ = some (.int .i64 Y.bm) ∧ w'.cell? ⟨gx, 4, none⟩ = some (.int .i64 Y.br) ∧ w'.cell? ⟨gx, 5, none⟩ = some (.slice k1 Y.sats.length c1) ∧ w'.cell? ⟨gx, 6, none⟩ = some (.slice k2 Y.custs.length c2) ∧ w'.cell? ⟨gx, 7, none⟩ = some (.slice k3 Y.cost.length c3) ∧ w'.cell? ⟨gx, 8, none⟩ = some (.slice k4 Y.time.length c4) ∧ Below WZ.heap.size WZ w')
        (first | exact KS.out _ (Below.drew hb0) | exact KS.out _ (keep_below (KB.out _ (by assumption)) (by assumption)))
        (first | (go_at_call 10; refine (check_any Y ⟨k1, c1, k2, c2, k3, c3, k4, c4⟩ _ (HZ.out.is.below (KB.out _ (by assumption))) HZ.out.ls HZ.out.lc).mono ?_; rintro e w1 ⟨rfl, hb⟩) | (go_at_call 11; refine (code_any Y ⟨k1, c1, k2, c2, k3, c3, k4, c4⟩ _ (HZ.out.is.below (KB.out _ (by assumption))) HZ.out.ls HZ.out.lc).mono ?_; rintro e w1 ⟨rfl, hb⟩))
      have hE := KB.out _ (by assumption)
      go_wp2_with fail
      go_ret
      exact ⟨rfl, by have := hg.out; rw [this]; exact HB.out.trans (hE.mono (by omega))⟩
    · have cj := cell.out 4 _ rfl
      have fj := frz.out 4
      have HZ := spoil_4 hgx IX.out hbc.out hBc.out (by omega) (by omega) n
      have HT : ∃ (Y : InstD) (hh : HdD), Spoilt (wc.setCell ⟨gx, 4, none⟩ (.int .i64 n)).drew gx Y hh ∧ Below g w (wc.setCell ⟨gx, 4, none⟩ (.int .i64 n)).drew := ⟨_, _, HZ.drew, ((hb9.out.setCell (show g ≤ (⟨gx, 4, none⟩ : Addr).block from by show g ≤ gx; omega) _).drew)⟩
      go_upto_region 40 with fail
      generalize (wc.setCell ⟨gx, 4, none⟩ (.int .i64 n)).drew = WZ at *
      obtain ⟨Y, ⟨k1, c1, k2, c2, k3, c3, k4, c4⟩, HZ, HB⟩ := HT
      have gz := heap_lt HZ.blk
      have y0 : WZ.cell? ⟨gx, 0, none⟩ = some (.int .i64 Y.fin) := cell_of_row WZ gx 0 _ _ _ HZ.blk
      have y1 : WZ.cell? ⟨gx, 1, none⟩ = some (.int .i64 Y.tm) := cell_of_row WZ gx 1 _ _ _ HZ.blk
      have y2 : WZ.cell? ⟨gx, 2, none⟩ = some (.int .i64 Y.tr) := cell_of_row WZ gx 2 _ _ _ HZ.blk
      have y3 : WZ.cell? ⟨gx, 3, none⟩ = some (.int .i64 Y.bm) := cell_of_row WZ gx 3 _ _ _ HZ.blk
      have y4 : WZ.cell? ⟨gx, 4, none⟩ = some (.int .i64 Y.br) := cell_of_row WZ gx 4 _ _ _ HZ.blk
      have y5 : WZ.cell? ⟨gx, 5, none⟩ = some (.slice k1 Y.sats.length c1) := cell_of_row WZ gx 5 _ _ _ HZ.blk
      have y6 : WZ.cell? ⟨gx, 6, none⟩ = some (.slice k2 Y.custs.length c2) := cell_of_row WZ gx 6 _ _ _ HZ.blk
      have y7 : WZ.cell? ⟨gx, 7, none⟩ = some (.slice k3 Y.cost.length c3) := cell_of_row WZ gx 7 _ _ _ HZ.blk
      have y8 : WZ.cell? ⟨gx, 8, none⟩ = some (.slice k4 Y.time.length c4) := cell_of_row WZ gx 8 _ _ _ HZ.blk
      have hb0 := Below.refl WZ.heap.size WZ
      have KS : ∀ w' : World, Below WZ.heap.size WZ w' → w'.cell? ⟨gx, 0, none⟩ = some (.int .i64 Y.fin) ∧ w'.cell? ⟨gx, 1, none⟩ = some (.int .i64 Y.tm) ∧ w'.cell? ⟨gx, 2, none⟩ = some (.int .i64 Y.tr) ∧ w'.cell? ⟨gx, 3, none⟩ = some (.int .i64 Y.bm) ∧ w'.cell? ⟨gx, 4, none⟩ = some (.int .i64 Y.br) ∧ w'.cell? ⟨gx, 5, none⟩ = some (.slice k1 Y.sats.length c1) ∧ w'.cell? ⟨gx, 6, none⟩ = some (.slice k2 Y.custs.length c2) ∧ w'.cell? ⟨gx, 7, none⟩ = some (.slice k3 Y.cost.length c3) ∧ w'.cell? ⟨gx, 8, none⟩ = some (.slice k4 Y.time.length c4) ∧ Below WZ.heap.size WZ w' := fun w' hb => ⟨keep_cell hb y0, keep_cell hb y1, keep_cell hb y2, keep_cell hb y3, keep_cell hb y4, keep_cell hb y5, keep_cell hb y6, keep_cell hb y7, keep_cell hb y8, hb⟩
      have KB : ∀ w' : World, (w'.cell? ⟨gx, 0, none⟩ = some (.int .i64 Y.fin) ∧ w'.cell? ⟨gx, 1, none⟩ = some (.int .i64 Y.tm) ∧ w'.cell? ⟨gx, 2, none⟩ = some (.int .i64 Y.tr) ∧ w'.cell? ⟨gx, 3, none⟩ = some (.int .i64 Y.bm) ∧ w'.cell? ⟨gx, 4, none⟩ = some (.int .i64 Y.br) ∧ w'.cell? ⟨gx, 5, none⟩ = some (.slice k1 Y.sats.length c1) ∧ w'.cell? ⟨gx, 6, none⟩ = some (.slice k2 Y.custs.length c2) ∧ w'.cell? ⟨gx, 7, none⟩ = some (.slice k3 Y.cost.length c3) ∧ w'.cell? ⟨gx, 8, none⟩ = some (.slice k4 Y.time.length c4) ∧ Below WZ.heap.size WZ w') → Below WZ.heap.size WZ w' := fun w' h => h.2.2.2.2.2.2.2.2.2
      replace KB := Lib.hid KB
      replace KS := Lib.hid KS
      replace HZ := Lib.hid HZ
      replace HB := Lib.hid HB
      go_region_held3 (fun w' => w'.cell? ⟨gx, 0, none⟩ = some (.int .i64 Y.fin) ∧ w'.cell? ⟨gx, 1, none⟩ = some (.int .i64 Y.tm) ∧ w'.cell? ⟨gx, 2, none⟩ = some (.int .i64 Y.tr) ∧ w'.cell? ⟨gx, 3, none⟩ = some (.int .i64 Y.bm) ∧ w'.cell? ⟨gx, 4, none⟩ = some (.int .i64 Y.br) ∧ w'.cell? ⟨gx, 5, none⟩ = some (.slice k1 Y.sats.length c1) ∧ w'.cell? ⟨gx, 6, none⟩ = some (.slice k2 Y.custs.length c2) ∧ w'.cell? ⟨gx, 7, none⟩ = some (.slice k3 Y.cost.length c3) ∧ w'.cell? ⟨gx, 8, none⟩ = some (.slice k4 Y.time.length c4) ∧ Below WZ.heap.size WZ w')
        (first | exact KS.out _ (Below.drew hb0) | exact KS.out _ (keep_below (KB.out _ (by assumption)) (by assumption)))
        (first | (go_at_call 10; refine (check_any Y ⟨k1, c1, k2, c2, k3, c3, k4, c4⟩ _ (HZ.out.is.below (KB.out _ (by assumption))) HZ.out.ls HZ.out.lc).mono ?_; rintro e w1 ⟨rfl, hb⟩) | (go_at_call 11; refine (code_any Y ⟨k1, c1, k2, c2, k3, c3, k4, c4⟩ _ (HZ.out.is.below (KB.out _ (by assumption))) HZ.out.ls HZ.out.lc).mono ?_; rintro e w1 ⟨rfl, hb⟩))
      have hE := KB.out _ (by assumption)
      go_wp2_with fail
      go_ret
      exact ⟨rfl, by have := hg.out; rw [this]; exact HB.out.trans (hE.mono (by omega))⟩
    · have cj := cell.out 5 _ rfl
      obtain ⟨gs, hgs, ⟨v, hv⟩, hf, HZ⟩ := spoil_5 HMc.out hBc.out (by omega) (by omega) (by omega) (by omega) n t htl
      dsimp only at hgs
      subst hgs
      have hgs2 : W.heap.size ≤ gs := (own_lt HMc.out.sats (g := gs) rfl).1
      have k0 : (0 : Int) ≤ (t : Int) := by omega
      have k1 : (t : Int) < (X.sats.length : Int) := by omega
      have HT : ∃ (Y : InstD) (hh : HdD), Spoilt (wc.setCell ⟨gs, t * 2, none⟩ (.int .i64 n)).drew gx Y hh ∧ Below g w (wc.setCell ⟨gs, t * 2, none⟩ (.int .i64 n)).drew := ⟨_, _, HZ.drew, ((hb9.out.setCell (show g ≤ (⟨gs, t * 2, none⟩ : Addr).block from by show g ≤ gs; omega) _).drew)⟩
      go_upto_region 40 with fail
      generalize (wc.setCell ⟨gs, t * 2, none⟩ (.int .i64 n)).drew = WZ at *
      obtain ⟨Y, ⟨k1, c1, k2, c2, k3, c3, k4, c4⟩, HZ, HB⟩ := HT
      have gz := heap_lt HZ.blk
      have y0 : WZ.cell? ⟨gx, 0, none⟩ = some (.int .i64 Y.fin) := cell_of_row WZ gx 0 _ _ _ HZ.blk
      have y1 : WZ.cell? ⟨gx, 1, none⟩ = some (.int .i64 Y.tm) := cell_of_row WZ gx 1 _ _ _ HZ.blk
      have y2 : WZ.cell? ⟨gx, 2, none⟩ = some (.int .i64 Y.tr) := cell_of_row WZ gx 2 _ _ _ HZ.blk
      have y3 : WZ.cell? ⟨gx, 3, none⟩ = some (.int .i64 Y.bm) := cell_of_row WZ gx 3 _ _ _ HZ.blk
      have y4 : WZ.cell? ⟨gx, 4, none⟩ = some (.int .i64 Y.br) := cell_of_row WZ gx 4 _ _ _ HZ.blk
      have y5 : WZ.cell? ⟨gx, 5, none⟩ = some (.slice k1 Y.sats.length c1) := cell_of_row WZ gx 5 _ _ _ HZ.blk
      have y6 : WZ.cell? ⟨gx, 6, none⟩ = some (.slice k2 Y.custs.length c2) := cell_of_row WZ gx 6 _ _ _ HZ.blk
      have y7 : WZ.cell? ⟨gx, 7, none⟩ = some (.slice k3 Y.cost.length c3) := cell_of_row WZ gx 7 _ _ _ HZ.blk
      have y8 : WZ.cell? ⟨gx, 8, none⟩ = some (.slice k4 Y.time.length c4) := cell_of_row WZ gx 8 _ _ _ HZ.blk
      have hb0 := Below.refl WZ.heap.size WZ
      have KS : ∀ w' : World, Below WZ.heap.size WZ w' → w'.cell? ⟨gx, 0, none⟩ = some (.int .i64 Y.fin) ∧ w'.cell? ⟨gx, 1, none⟩ = some (.int .i64 Y.tm) ∧ w'.cell? ⟨gx, 2, none⟩ = some (.int .i64 Y.tr) ∧ w'.cell? ⟨gx, 3, none⟩ = some (.int .i64 Y.bm) ∧ w'.cell? ⟨gx, 4, none⟩ = some (.int .i64 Y.br) ∧ w'.cell? ⟨gx, 5, none⟩ = some (.slice k1 Y.sats.length c1) ∧ w'.cell? ⟨gx, 6, none⟩ = some (.slice k2 Y.custs.length c2) ∧ w'.cell? ⟨gx, 7, none⟩ = some (.slice k3 Y.cost.length c3) ∧ w'.cell? ⟨gx, 8, none⟩ = some (.slice k4 Y.time.length c4) ∧ Below WZ.heap.size WZ w' := fun w' hb => ⟨keep_cell hb y0, keep_cell hb y1, keep_cell hb y2, keep_cell hb y3, keep_cell hb y4, keep_cell hb y5, keep_cell hb y6, keep_cell hb y7, keep_cell hb y8, hb⟩
      have KB : ∀ w' : World, (w'.cell? ⟨gx, 0, none⟩ = some (.int .i64 Y.fin) ∧ w'.cell? ⟨gx, 1, none⟩ = some (.int .i64 Y.tm) ∧ w'.cell? ⟨gx, 2, none⟩ = some (.int .i64 Y.tr) ∧ w'.cell? ⟨gx, 3, none⟩ = some (.int .i64 Y.bm) ∧ w'.cell? ⟨gx, 4, none⟩ = some (.int .i64 Y.br) ∧ w'.cell? ⟨gx, 5, none⟩ = some (.slice k1 Y.sats.length c1) ∧ w'.cell? ⟨gx, 6, none⟩ = some (.slice k2 Y.custs.length c2) ∧ w'.cell? ⟨gx, 7, none⟩ = some (.slice k3 Y.cost.length c3) ∧ w'.cell? ⟨gx, 8, none⟩ = some (.slice k4 Y.time.length c4) ∧ Below WZ.heap.size WZ w') → Below WZ.heap.size WZ w' := fun w' h => h.2.2.2.2.2.2.2.2.2
      replace KB := Lib.hid KB
      replace KS := Lib.hid KS
      replace HZ := Lib.hid HZ
      replace HB := Lib.hid HB
      go_region_held3 (fun w' => w'.cell? ⟨gx, 0, none⟩ = some (.int .i64 Y.fin) ∧ w'.cell? ⟨gx, 1, none⟩ = some (.int .i64 Y.tm) ∧ w'.cell? ⟨gx, 2, none⟩ = some (.int .i64 Y.tr) ∧ w'.cell? ⟨gx, 3, none⟩ = some (.int .i64 Y.bm) ∧ w'.cell? ⟨gx, 4, none⟩ = some (.int .i64 Y.br) ∧ w'.cell? ⟨gx, 5, none⟩ = some (.slice k1 Y.sats.length c1) ∧ w'.cell? ⟨gx, 6, none⟩ = some (.slice k2 Y.custs.length c2) ∧ w'.cell? ⟨gx, 7, none⟩ = some (.slice k3 Y.cost.length c3) ∧ w'.cell? ⟨gx, 8, none⟩ = some (.slice k4 Y.time.length c4) ∧ Below WZ.heap.size WZ w')
        (first | exact KS.out _ (Below.drew hb0) | exact KS.out _ (keep_below (KB.out _ (by assumption)) (by assumption)))
        (first | (go_at_call 10; refine (check_any Y ⟨k1, c1, k2, c2, k3, c3, k4, c4⟩ _ (HZ.out.is.below (KB.out _ (by assumption))) HZ.out.ls HZ.out.lc).mono ?_; rintro e w1 ⟨rfl, hb⟩) | (go_at_call 11; refine (code_any Y ⟨k1, c1, k2, c2, k3, c3, k4, c4⟩ _ (HZ.out.is.below (KB.out _ (by assumption))) HZ.out.ls HZ.out.lc).mono ?_; rintro e w1 ⟨rfl, hb⟩))
      have hE := KB.out _ (by assumption)
      go_wp2_with fail
      go_ret
      exact ⟨rfl, by have := hg.out; rw [this]; exact HB.out.trans (hE.mono (by omega))⟩
    · have cj := cell.out 5 _ rfl
      obtain ⟨gs, hgs, ⟨v, hv⟩, hf, HZ⟩ := spoil_6 HMc.out hBc.out (by omega) (by omega) (by omega) (by omega) n t htl
      dsimp only at hgs
      subst hgs
      have hgs2 : W.heap.size ≤ gs := (own_lt HMc.out.sats (g := gs) rfl).1
      have k0 : (0 : Int) ≤ (t : Int) := by omega
      have k1 : (t : Int) < (X.sats.length : Int) := by omega
      have HT : ∃ (Y : InstD) (hh : HdD), Spoilt (wc.setCell ⟨gs, t * 2 + 1, none⟩ (.int .i64 n)).drew gx Y hh ∧ Below g w (wc.setCell ⟨gs, t * 2 + 1, none⟩ (.int .i64 n)).drew := ⟨_, _, HZ.drew, ((hb9.out.setCell (show g ≤ (⟨gs, t * 2 + 1, none⟩ : Addr).block from by show g ≤ gs; omega) _).drew)⟩
      go_upto_region 40 with fail
      generalize (wc.setCell ⟨gs, t * 2 + 1, none⟩ (.int .i64 n)).drew = WZ at *
      obtain ⟨Y, ⟨k1, c1, k2, c2, k3, c3, k4, c4⟩, HZ, HB⟩ := HT
      have gz := heap_lt HZ.blk
      have y0 : WZ.cell? ⟨gx, 0, none⟩ = some (.int .i64 Y.fin) := cell_of_row WZ gx 0 _ _ _ HZ.blk
      have y1 : WZ.cell? ⟨gx, 1, none⟩ = some (.int .i64 Y.tm) := cell_of_row WZ gx 1 _ _ _ HZ.blk
      have y2 : WZ.cell? ⟨gx, 2, none⟩ = some (.int .i64 Y.tr) := cell_of_row WZ gx 2 _ _ _ HZ.blk
      have y3 : WZ.cell? ⟨gx, 3, none⟩ = some (.int .i64 Y.bm) := cell_of_row WZ gx 3 _ _ _ HZ.blk
      have y4 : WZ.cell? ⟨gx, 4, none⟩ = some (.int .i64 Y.br) := cell_of_row WZ gx 4 _ _ _ HZ.blk
      have y5 : WZ.cell? ⟨gx, 5, none⟩ = some (.slice k1 Y.sats.length c1) := cell_of_row WZ gx 5 _ _ _ HZ.blk
      have y6 : WZ.cell? ⟨gx, 6, none⟩ = some (.slice k2 Y.custs.length c2) := cell_of_row WZ gx 6 _ _ _ HZ.blk
      have y7 : WZ.cell? ⟨gx, 7, none⟩ = some (.slice k3 Y.cost.length c3) := cell_of_row WZ gx 7 _ _ _ HZ.blk
      have y8 : WZ.cell? ⟨gx, 8, none⟩ = some (.slice k4 Y.time.length c4) := cell_of_row WZ gx 8 _ _ _ HZ.blk
      have hb0 := Below.refl WZ.heap.size WZ
      have KS : ∀ w' : World, Below WZ.heap.size WZ w' → w'.cell? ⟨gx, 0, none⟩ = some (.int .i64 Y.fin) ∧ w'.cell? ⟨gx, 1, none⟩ = some (.int .i64 Y.tm) ∧ w'.cell? ⟨gx, 2, none⟩ = some (.int .i64 Y.tr) ∧ w'.cell? ⟨gx, 3, none⟩ = some (.int .i64 Y.bm) ∧ w'.cell? ⟨gx, 4, none⟩ = some (.int .i64 Y.br) ∧ w'.cell? ⟨gx, 5, none⟩ = some (.slice k1 Y.sats.length c1) ∧ w'.cell? ⟨gx, 6, none⟩ = some (.slice k2 Y.custs.length c2) ∧ w'.cell? ⟨gx, 7, none⟩ = some (.slice k3 Y.cost.length c3) ∧ w'.cell? ⟨gx, 8, none⟩ = some (.slice k4 Y.time.length c4) ∧ Below WZ.heap.size WZ w' := fun w' hb => ⟨keep_cell hb y0, keep_cell hb y1, keep_cell hb y2, keep_cell hb y3, keep_cell hb y4, keep_cell hb y5, keep_cell hb y6, keep_cell hb y7, keep_cell hb y8, hb⟩
      have KB : ∀ w' : World, (w'.cell? ⟨gx, 0, none⟩ = some (.int .i64 Y.fin) ∧ w'.cell? ⟨gx, 1, none⟩ = some (.int .i64 Y.tm) ∧ w'.cell? ⟨gx, 2, none⟩ = some (.int .i64 Y.tr) ∧ w'.cell? ⟨gx, 3, none⟩ = some (.int .i64 Y.bm) ∧ w'.cell? ⟨gx, 4, none⟩ = some (.int .i64 Y.br) ∧ w'.cell? ⟨gx, 5, none⟩ = some (.slice k1 Y.sats.length c1) ∧ w'.cell? ⟨gx, 6, none⟩ = some (.slice k2 Y.custs.length c2) ∧ w'.cell? ⟨gx, 7, none⟩ = some (.slice k3 Y.cost.length c3) ∧ w'.cell? ⟨gx, 8, none⟩ = some (.slice k4 Y.time.length c4) ∧ Below WZ.heap.size WZ w') → Below WZ.heap.size WZ w' := fun w' h => h.2.2.2.2.2.2.2.2.2
      replace KB := Lib.hid KB
      replace KS := Lib.hid KS
      replace HZ := Lib.hid HZ
      replace HB := Lib.hid HB
      go_region_held3 (fun w' => w'.cell? ⟨gx, 0, none⟩ = some (.int .i64 Y.fin) ∧ w'.cell? ⟨gx, 1, none⟩ = some (.int .i64 Y.tm) ∧ w'.cell? ⟨gx, 2, none⟩ = some (.int .i64 Y.tr) ∧ w'.cell? ⟨gx, 3, none⟩ = some (.int .i64 Y.bm) ∧ w'.cell? ⟨gx, 4, none⟩ = some (.int .i64 Y.br) ∧ w'.cell? ⟨gx, 5, none⟩ = some (.slice k1 Y.sats.length c1) ∧ w'.cell? ⟨gx, 6, none⟩ = some (.slice k2 Y.custs.length c2) ∧ w'.cell? ⟨gx, 7, none⟩ = some (.slice k3 Y.cost.length c3) ∧ w'.cell? ⟨gx, 8, none⟩ = some (.slice k4 Y.time.length c4) ∧ Below WZ.heap.size WZ w')
        (first | exact KS.out _ (Below.drew hb0) | exact KS.out _ (keep_below (KB.out _ (by assumption)) (by assumption)))
        (first | (go_at_call 10; refine (check_any Y ⟨k1, c1, k2, c2, k3, c3, k4, c4⟩ _ (HZ.out.is.below (KB.out _ (by assumption))) HZ.out.ls HZ.out.lc).mono ?_; rintro e w1 ⟨rfl, hb⟩) | (go_at_call 11; refine (code_any Y ⟨k1, c1, k2, c2, k3, c3, k4, c4⟩ _ (HZ.out.is.below (KB.out _ (by assumption))) HZ.out.ls HZ.out.lc).mono ?_; rintro e w1 ⟨rfl, hb⟩))
      have hE := KB.out _ (by assumption)
      go_wp2_with fail
      go_ret
      exact ⟨rfl, by have := hg.out; rw [this]; exact HB.out.trans (hE.mono (by omega))⟩
    · have cj := cell.out 6 _ rfl
      obtain ⟨gs, hgs, ⟨v, hv⟩, hf, HZ⟩ := spoil_7 HMc.out hBc.out (by omega) (by omega) (by omega) (by omega) n c hcl
      dsimp only at hgs
      subst hgs
      have hgs2 : W.heap.size ≤ gs := (own_lt HMc.out.custs (g := gs) rfl).1
      have k0 : (0 : Int) ≤ (c : Int) := by omega
      have k1 : (c : Int) < (X.custs.length : Int) := by omega
      have HT : ∃ (Y : InstD) (hh : HdD), Spoilt (wc.setCell ⟨gs, c * 4, none⟩ (.int .i64 n)).drew gx Y hh ∧ Below g w (wc.setCell ⟨gs, c * 4, none⟩ (.int .i64 n)).drew := ⟨_, _, HZ.drew, ((hb9.out.setCell (show g ≤ (⟨gs, c * 4, none⟩ : Addr).block from by show g ≤ gs; omega) _).drew)⟩
      go_upto_region 40 with fail
      generalize (wc.setCell ⟨gs, c * 4, none⟩ (.int .i64 n)).drew = WZ at *
      obtain ⟨Y, ⟨k1, c1, k2, c2, k3, c3, k4, c4⟩, HZ, HB⟩ := HT
      have gz := heap_lt HZ.blk
      have y0 : WZ.cell? ⟨gx, 0, none⟩ = some (.int .i64 Y.fin) := cell_of_row WZ gx 0 _ _ _ HZ.blk
      have y1 : WZ.cell? ⟨gx, 1, none⟩ = some (.int .i64 Y.tm) := cell_of_row WZ gx 1 _ _ _ HZ.blk
      have y2 : WZ.cell? ⟨gx, 2, none⟩ = some (.int .i64 Y.tr) := cell_of_row WZ gx 2 _ _ _ HZ.blk
      have y3 : WZ.cell? ⟨gx, 3, none⟩ = some (.int .i64 Y.bm) := cell_of_row WZ gx 3 _ _ _ HZ.blk
      have y4 : WZ.cell? ⟨gx, 4, none⟩ = some (.int .i64 Y.br) := cell_of_row WZ gx 4 _ _ _ HZ.blk
      have y5 : WZ.cell? ⟨gx, 5, none⟩ = some (.slice k1 Y.sats.length c1) := cell_of_row WZ gx 5 _ _ _ HZ.blk
      have y6 : WZ.cell? ⟨gx, 6, none⟩ = some (.slice k2 Y.custs.length c2) := cell_of_row WZ gx 6 _ _ _ HZ.blk
      have y7 : WZ.cell? ⟨gx, 7, none⟩ = some (.slice k3 Y.cost.length c3) := cell_of_row WZ gx 7 _ _ _ HZ.blk
      have y8 : WZ.cell? ⟨gx, 8, none⟩ = some (.slice k4 Y.time.length c4) := cell_of_row WZ gx 8 _ _ _ HZ.blk
      have hb0 := Below.refl WZ.heap.size WZ
      have KS : ∀ w' : World, Below WZ.heap.size WZ w' → w'.cell? ⟨gx, 0, none⟩ = some (.int .i64 Y.fin) ∧ w'.cell? ⟨gx, 1, none⟩ = some (.int .i64 Y.tm) ∧ w'.cell? ⟨gx, 2, none⟩ = some (.int .i64 Y.tr) ∧ w'.cell? ⟨gx, 3, none⟩ = some (.int .i64 Y.bm) ∧ w'.cell? ⟨gx, 4, none⟩ = some (.int .i64 Y.br) ∧ w'.cell? ⟨gx, 5, none⟩ = some (.slice k1 Y.sats.length c1) ∧ w'.cell? ⟨gx, 6, none⟩ = some (.slice k2 Y.custs.length c2) ∧ w'.cell? ⟨gx, 7, none⟩ = some (.slice k3 Y.cost.length c3) ∧ w'.cell? ⟨gx, 8, none⟩ = some (.slice k4 Y.time.length c4) ∧ Below WZ.heap.size WZ w' := fun w' hb => ⟨keep_cell hb y0, keep_cell hb y1, keep_cell hb y2, keep_cell hb y3, keep_cell hb y4, keep_cell hb y5, keep_cell hb y6, keep_cell hb y7, keep_cell hb y8, hb⟩
      have KB : ∀ w' : World, (w'.cell? ⟨gx, 0, none⟩ = some (.int .i64 Y.fin) ∧ w'.cell? ⟨gx, 1, none⟩ = some (.int .i64 Y.tm) ∧ w'.cell? ⟨gx, 2, none⟩ = some (.int .i64 Y.tr) ∧ w'.cell? ⟨gx, 3, none⟩ = some (.int .i64 Y.bm) ∧ w'.cell? ⟨gx, 4, none⟩ = some (.int .i64 Y.br) ∧ w'.cell? ⟨gx, 5, none⟩ = some (.slice k1 Y.sats.length c1) ∧ w'.cell? ⟨gx, 6, none⟩ = some (.slice k2 Y.custs.length c2) ∧ w'.cell? ⟨gx, 7, none⟩ = some (.slice k3 Y.cost.length c3) ∧ w'.cell? ⟨gx, 8, none⟩ = some (.slice k4 Y.time.length c4) ∧ Below WZ.heap.size WZ w') → Below WZ.heap.size WZ w' := fun w' h => h.2.2.2.2.2.2.2.2.2
      replace KB := Lib.hid KB
      replace KS := Lib.hid KS
      replace HZ := Lib.hid HZ
      replace HB := Lib.hid HB
      go_region_held3 (fun w' => w'.cell? ⟨gx, 0, none⟩ = some (.int .i64 Y.fin) ∧ w'.cell? ⟨gx, 1, none⟩ = some (.int .i64 Y.tm) ∧ w'.cell? ⟨gx, 2, none⟩ = some (.int .i64 Y.tr) ∧ w'.cell? ⟨gx, 3, none⟩ = some (.int .i64 Y.bm) ∧ w'.cell? ⟨gx, 4, none⟩ = some (.int .i64 Y.br) ∧ w'.cell? ⟨gx, 5, none⟩ = some (.slice k1 Y.sats.length c1) ∧ w'.cell? ⟨gx, 6, none⟩ = some (.slice k2 Y.custs.length c2) ∧ w'.cell? ⟨gx, 7, none⟩ = some (.slice k3 Y.cost.length c3) ∧ w'.cell? ⟨gx, 8, none⟩ = some (.slice k4 Y.time.length c4) ∧ Below WZ.heap.size WZ w')
        (first | exact KS.out _ (Below.drew hb0) | exact KS.out _ (keep_below (KB.out _ (by assumption)) (by assumption)))
        (first | (go_at_call 10; refine (check_any Y ⟨k1, c1, k2, c2, k3, c3, k4, c4⟩ _ (HZ.out.is.below (KB.out _ (by assumption))) HZ.out.ls HZ.out.lc).mono ?_; rintro e w1 ⟨rfl, hb⟩) | (go_at_call 11; refine (code_any Y ⟨k1, c1, k2, c2, k3, c3, k4, c4⟩ _ (HZ.out.is.below (KB.out _ (by assumption))) HZ.out.ls HZ.out.lc).mono ?_; rintro e w1 ⟨rfl, hb⟩))
      have hE := KB.out _ (by assumption)
      go_wp2_with fail
      go_ret
      exact ⟨rfl, by have := hg.out; rw [this]; exact HB.out.trans (hE.mono (by omega))⟩
    · have cj := cell.out 6 _ rfl
      obtain ⟨gs, hgs, ⟨v, hv⟩, hf, HZ⟩ := spoil_8 HMc.out hBc.out (by omega) (by omega) (by omega) (by omega) n c hcl
      dsimp only at hgs
      subst hgs
      have hgs2 : W.heap.size ≤ gs := (own_lt HMc.out.custs (g := gs) rfl).1
      have k0 : (0 : Int) ≤ (c : Int) := by omega
      have k1 : (c : Int) < (X.custs.length : Int) := by omega
      have HT : ∃ (Y : InstD) (hh : HdD), Spoilt (wc.setCell ⟨gs, c * 4 + 1, none⟩ (.int .i64 n)).drew gx Y hh ∧ Below g w (wc.setCell ⟨gs, c * 4 + 1, none⟩ (.int .i64 n)).drew := ⟨_, _, HZ.drew, ((hb9.out.setCell (show g ≤ (⟨gs, c * 4 + 1, none⟩ : Addr).block from by show g ≤ gs; omega) _).drew)⟩
      go_upto_region 40 with fail
      generalize (wc.setCell ⟨gs, c * 4 + 1, none⟩ (.int .i64 n)).drew = WZ at *
      obtain ⟨Y, ⟨k1, c1, k2, c2, k3, c3, k4, c4⟩, HZ, HB⟩ := HT
      have gz := heap_lt HZ.blk
      have y0 : WZ.cell? ⟨gx, 0, none⟩ = some (.int .i64 Y.fin) := cell_of_row WZ gx 0 _ _ _ HZ.blk
      have y1 : WZ.cell? ⟨gx, 1, none⟩ = some (.int .i64 Y.tm) := cell_of_row WZ gx 1 _ _ _ HZ.blk
      have y2 : WZ.cell? ⟨gx, 2, none⟩ = some (.int .i64 Y.tr) := cell_of_row WZ gx 2 _ _ _ HZ.blk
      have y3 : WZ.cell? ⟨gx, 3, none⟩ = some (.int .i64 Y.bm) := cell_of_row WZ gx 3 _ _ _ HZ.blk
      have y4 : WZ.cell? ⟨gx, 4, none⟩ = some (.int .i64 Y.br) := cell_of_row WZ gx 4 _ _ _ HZ.blk
      have y5 : WZ.cell? ⟨gx, 5, none⟩ = some (.slice k1 Y.sats.length c1) := cell_of_row WZ gx 5 _ _ _ HZ.blk
      have y6 : WZ.cell? ⟨gx, 6, none⟩ = some (.slice k2 Y.custs.length c2) := cell_of_row WZ gx 6 _ _ _ HZ.blk
      have y7 : WZ.cell? ⟨gx, 7, none⟩ = some (.slice k3 Y.cost.length c3) := cell_of_row WZ gx 7 _ _ _ HZ.blk
      have y8 : WZ.cell? ⟨gx, 8, none⟩ = some (.slice k4 Y.time.length c4) := cell_of_row WZ gx 8 _ _ _ HZ.blk
      have hb0 := Below.refl WZ.heap.size WZ
      have KS : ∀ w' : World, Below WZ.heap.size WZ w' → w'.cell? ⟨gx, 0, none⟩ = some (.int .i64 Y.fin) ∧ w'.cell? ⟨gx, 1, none⟩ = some (.int .i64 Y.tm) ∧ w'.cell? ⟨gx, 2, none⟩ = some (.int .i64 Y.tr) ∧ w'.cell? ⟨gx, 3, none⟩ = some (.int .i64 Y.bm) ∧ w'.cell? ⟨gx, 4, none⟩ = some (.int .i64 Y.br) ∧ w'.cell? ⟨gx, 5, none⟩ = some (.slice k1 Y.sats.length c1) ∧ w'.cell? ⟨gx, 6, none⟩ = some (.slice k2 Y.custs.length c2) ∧ w'.cell? ⟨gx, 7, none⟩ = some (.slice k3 Y.cost.length c3) ∧ w'.cell? ⟨gx, 8, none⟩ = some (.slice k4 Y.time.length c4) ∧ Below WZ.heap.size WZ w' := fun w' hb => ⟨keep_cell hb y0, keep_cell hb y1, keep_cell hb y2, keep_cell hb y3, keep_cell hb y4, keep_cell hb y5, keep_cell hb y6, keep_cell hb y7, keep_cell hb y8, hb⟩
      have KB : ∀ w' : World, (w'.cell? ⟨gx, 0, none⟩ = some (.int .i64 Y.fin) ∧ w'.cell? ⟨gx, 1, none⟩ = some (.int .i64 Y.tm) ∧ w'.cell? ⟨gx, 2, none⟩ = some (.int .i64 Y.tr) ∧ w'.cell? ⟨gx, 3, none⟩ = some (.int .i64 Y.bm) ∧ w'.cell? ⟨gx, 4, none⟩ = some (.int .i64 Y.br) ∧ w'.cell? ⟨gx, 5, none⟩ = some (.slice k1 Y.sats.length c1) ∧ w'.cell? ⟨gx, 6, none⟩ = some (.slice k2 Y.custs.length c2) ∧ w'.cell? ⟨gx, 7, none⟩ = some (.slice k3 Y.cost.length c3) ∧ w'.cell? ⟨gx, 8, none⟩ = some (.slice k4 Y.time.length c4) ∧ Below WZ.heap.size WZ w') → Below WZ.heap.size WZ w' := fun w' h => h.2.2.2.2.2.2.2.2.2
      replace KB := Lib.hid KB
      replace KS := Lib.hid KS
      replace HZ := Lib.hid HZ
      replace HB := Lib.hid HB
      go_region_held3 (fun w' => w'.cell? ⟨gx, 0, none⟩ = some (.int .i64 Y.fin) ∧ w'.cell? ⟨gx, 1, none⟩ = some (.int .i64 Y.tm) ∧ w'.cell? ⟨gx, 2, none⟩ = some (.int .i64 Y.tr) ∧ w'.cell? ⟨gx, 3, none⟩ = some (.int .i64 Y.bm) ∧ w'.cell? ⟨gx, 4, none⟩ = some (.int .i64 Y.br) ∧ w'.cell? ⟨gx, 5, none⟩ = some (.slice k1 Y.sats.length c1) ∧ w'.cell? ⟨gx, 6, none⟩ = some (.slice k2 Y.custs.length c2) ∧ w'.cell? ⟨gx, 7, none⟩ = some (.slice k3 Y.cost.length c3) ∧ w'.cell? ⟨gx, 8, none⟩ = some (.slice k4 Y.time.length c4) ∧ Below WZ.heap.size WZ w')
        (first | exact KS.out _ (Below.drew hb0) | exact KS.out _ (keep_below (KB.out _ (by assumption)) (by assumption)))
        (first | (go_at_call 10; refine (check_any Y ⟨k1, c1, k2, c2, k3, c3, k4, c4⟩ _ (HZ.out.is.below (KB.out _ (by assumption))) HZ.out.ls HZ.out.lc).mono ?_; rintro e w1 ⟨rfl, hb⟩) | (go_at_call 11; refine (code_any Y ⟨k1, c1, k2, c2, k3, c3, k4, c4⟩ _ (HZ.out.is.below (KB.out _ (by assumption))) HZ.out.ls HZ.out.lc).mono ?_; rintro e w1 ⟨rfl, hb⟩))
      have hE := KB.out _ (by assumption)
      go_wp2_with fail
      go_ret
      exact ⟨rfl, by have := hg.out; rw [this]; exact HB.out.trans (hE.mono (by omega))⟩
    · have cj := cell.out 6 _ rfl
      obtain ⟨gs, hgs, ⟨v, hv⟩, hf, HZ⟩ := spoil_9 HMc.out hBc.out (by omega) (by omega) (by omega) (by omega) n c hcl
      dsimp only at hgs
      subst hgs
      have hgs2 : W.heap.size ≤ gs := (own_lt HMc.out.custs (g := gs) rfl).1
      have k0 : (0 : Int) ≤ (c : Int) := by omega
      have k1 : (c : Int) < (X.custs.length : Int) := by omega
      have HT : ∃ (Y : InstD) (hh : HdD), Spoilt (wc.setCell ⟨gs, c * 4 + 2, none⟩ (.int .i64 n)).drew gx Y hh ∧ Below g w (wc.setCell ⟨gs, c * 4 + 2, none⟩ (.int .i64 n)).drew := ⟨_, _, HZ.drew, ((hb9.out.setCell (show g ≤ (⟨gs, c * 4 + 2, none⟩ : Addr).block from by show g ≤ gs; omega) _).drew)⟩
      go_upto_region 40 with fail
      generalize (wc.setCell ⟨gs, c * 4 + 2, none⟩ (.int .i64 n)).drew = WZ at *
      obtain ⟨Y, ⟨k1, c1, k2, c2, k3, c3, k4, c4⟩, HZ, HB⟩ := HT
      have gz := heap_lt HZ.blk
      have y0 : WZ.cell? ⟨gx, 0, none⟩ = some (.int .i64 Y.fin) := cell_of_row WZ gx 0 _ _ _ HZ.blk
      have y1 : WZ.cell? ⟨gx, 1, none⟩ = some (.int .i64 Y.tm) := cell_of_row WZ gx 1 _ _ _ HZ.blk
      have y2 : WZ.cell? ⟨gx, 2, none⟩ = some (.int .i64 Y.tr) := cell_of_row WZ gx 2 _ _ _ HZ.blk
      have y3 : WZ.cell? ⟨gx, 3, none⟩ = some (.int .i64 Y.bm) := cell_of_row WZ gx 3 _ _ _ HZ.blk
      have y4 : WZ.cell? ⟨gx, 4, none⟩ = some (.int .i64 Y.br) := cell_of_row WZ gx 4 _ _ _ HZ.blk
      have y5 : WZ.cell? ⟨gx, 5, none⟩ = some (.slice k1 Y.sats.length c1) := cell_of_row WZ gx 5 _ _ _ HZ.blk
      have y6 : WZ.cell? ⟨gx, 6, none⟩ = some (.slice k2 Y.custs.length c2) := cell_of_row WZ gx 6 _ _ _ HZ.blk
      have y7 : WZ.cell? ⟨gx, 7, none⟩ = some (.slice k3 Y.cost.length c3) := cell_of_row WZ gx 7 _ _ _ HZ.blk
      have y8 : WZ.cell? ⟨gx, 8, none⟩ = some (.slice k4 Y.time.length c4) := cell_of_row WZ gx 8 _ _ _ HZ.blk
      have hb0 := Below.refl WZ.heap.size WZ
      have KS : ∀ w' : World, Below WZ.heap.size WZ w' → w'.cell? ⟨gx, 0, none⟩ = some (.int .i64 Y.fin) ∧ w'.cell? ⟨gx, 1, none⟩ = some (.int .i64 Y.tm) ∧ w'.cell? ⟨gx, 2, none⟩ = some (.int .i64 Y.tr) ∧ w'.cell? ⟨gx, 3, none⟩ = some (.int .i64 Y.bm) ∧ w'.cell? ⟨gx, 4, none⟩ = some (.int .i64 Y.br) ∧ w'.cell? ⟨gx, 5, none⟩ = some (.slice k1 Y.sats.length c1) ∧ w'.cell? ⟨gx, 6, none⟩ = some (.slice k2 Y.custs.length c2) ∧ w'.cell? ⟨gx, 7, none⟩ = some (.slice k3 Y.cost.length c3) ∧ w'.cell? ⟨gx, 8, none⟩ = some (.slice k4 Y.time.length c4) ∧ Below WZ.heap.size WZ w' := fun w' hb => ⟨keep_cell hb y0, keep_cell hb y1, keep_cell hb y2, keep_cell hb y3, keep_cell hb y4, keep_cell hb y5, keep_cell hb y6, keep_cell hb y7, keep_cell hb y8, hb⟩
      have KB : ∀ w' : World, (w'.cell? ⟨gx, 0, none⟩ = some (.int .i64 Y.fin) ∧ w'.cell? ⟨gx, 1, none⟩ = some (.int .i64 Y.tm) ∧ w'.cell? ⟨gx, 2, none⟩ = some (.int .i64 Y.tr) ∧ w'.cell? ⟨gx, 3, none⟩ = some (.int .i64 Y.bm) ∧ w'.cell? ⟨gx, 4, none⟩ = some (.int .i64 Y.br) ∧ w'.cell? ⟨gx, 5, none⟩ = some (.slice k1 Y.sats.length c1) ∧ w'.cell? ⟨gx, 6, none⟩ = some (.slice k2 Y.custs.length c2) ∧ w'.cell? ⟨gx, 7, none⟩ = some (.slice k3 Y.cost.length c3) ∧ w'.cell? ⟨gx, 8, none⟩ = some (.slice k4 Y.time.length c4) ∧ Below WZ.heap.size WZ w') → Below WZ.heap.size WZ w' := fun w' h => h.2.2.2.2.2.2.2.2.2
      replace KB := Lib.hid KB
      replace KS := Lib.hid KS
      replace HZ := Lib.hid HZ
      replace HB := Lib.hid HB
      go_region_held3 (fun w' => w'.cell? ⟨gx, 0, none⟩ = some (.int .i64 Y.fin) ∧ w'.cell? ⟨gx, 1, none⟩ = some (.int .i64 Y.tm) ∧ w'.cell? ⟨gx, 2, none⟩ = some (.int .i64 Y.tr) ∧ w'.cell? ⟨gx, 3, none⟩ = some (.int .i64 Y.bm) ∧ w'.cell? ⟨gx, 4, none⟩ = some (.int .i64 Y.br) ∧ w'.cell? ⟨gx, 5, none⟩ = some (.slice k1 Y.sats.length c1) ∧ w'.cell? ⟨gx, 6, none⟩ = some (.slice k2 Y.custs.length c2) ∧ w'.cell? ⟨gx, 7, none⟩ = some (.slice k3 Y.cost.length c3) ∧ w'.cell? ⟨gx, 8, none⟩ = some (.slice k4 Y.time.length c4) ∧ Below WZ.heap.size WZ w')
        (first | exact KS.out _ (Below.drew hb0) | exact KS.out _ (keep_below (KB.out _ (by assumption)) (by assumption)))
        (first | (go_at_call 10; refine (check_any Y ⟨k1, c1, k2, c2, k3, c3, k4, c4⟩ _ (HZ.out.is.below (KB.out _ (by assumption))) HZ.out.ls HZ.out.lc).mono ?_; rintro e w1 ⟨rfl, hb⟩) | (go_at_call 11; refine (code_any Y ⟨k1, c1, k2, c2, k3, c3, k4, c4⟩ _ (HZ.out.is.below (KB.out _ (by assumption))) HZ.out.ls HZ.out.lc).mono ?_; rintro e w1 ⟨rfl, hb⟩))
      have hE := KB.out _ (by assumption)
      go_wp2_with fail
      go_ret
      exact ⟨rfl, by have := hg.out; rw [this]; exact HB.out.trans (hE.mono (by omega))⟩
    · have cj := cell.out 6 _ rfl
      obtain ⟨gs, hgs, ⟨v, hv⟩, hf, HZ⟩ := spoil_10 HMc.out hBc.out (by omega) (by omega) (by omega) (by omega) n c hcl
      dsimp only at hgs
      subst hgs
      have hgs2 : W.heap.size ≤ gs := (own_lt HMc.out.custs (g := gs) rfl).1
      have k0 : (0 : Int) ≤ (c : Int) := by omega
      have k1 : (c : Int) < (X.custs.length : Int) := by omega
      have HT : ∃ (Y : InstD) (hh : HdD), Spoilt (wc.setCell ⟨gs, c * 4 + 3, none⟩ (.int .i64 n)).drew gx Y hh ∧ Below g w (wc.setCell ⟨gs, c * 4 + 3, none⟩ (.int .i64 n)).drew := ⟨_, _, HZ.drew, ((hb9.out.setCell (show g ≤ (⟨gs, c * 4 + 3, none⟩ : Addr).block from by show g ≤ gs; omega) _).drew)⟩
      go_upto_region 40 with fail
      generalize (wc.setCell ⟨gs, c * 4 + 3, none⟩ (.int .i64 n)).drew = WZ at *
      obtain ⟨Y, ⟨k1, c1, k2, c2, k3, c3, k4, c4⟩, HZ, HB⟩ := HT
      have gz := heap_lt HZ.blk
      have y0 : WZ.cell? ⟨gx, 0, none⟩ = some (.int .i64 Y.fin) := cell_of_row WZ gx 0 _ _ _ HZ.blk
      have y1 : WZ.cell? ⟨gx, 1, none⟩ = some (.int .i64 Y.tm) := cell_of_row WZ gx 1 _ _ _ HZ.blk
      have y2 : WZ.cell? ⟨gx, 2, none⟩ = some (.int .i64 Y.tr) := cell_of_row WZ gx 2 _ _ _ HZ.blk
      have y3 : WZ.cell? ⟨gx, 3, none⟩ = some (.int .i64 Y.bm) := cell_of_row WZ gx 3 _ _ _ HZ.blk
      have y4 : WZ.cell? ⟨gx, 4, none⟩ = some (.int .i64 Y.br) := cell_of_row WZ gx 4 _ _ _ HZ.blk
      have y5 : WZ.cell? ⟨gx, 5, none⟩ = some (.slice k1 Y.sats.length c1) := cell_of_row WZ gx 5 _ _ _ HZ.blk
      have y6 : WZ.cell? ⟨gx, 6, none⟩ = some (.slice k2 Y.custs.length c2) := cell_of_row WZ gx 6 _ _ _ HZ.blk
      have y7 : WZ.cell? ⟨gx, 7, none⟩ = some (.slice k3 Y.cost.length c3) := cell_of_row WZ gx 7 _ _ _ HZ.blk
      have y8 : WZ.cell? ⟨gx, 8, none⟩ = some (.slice k4 Y.time.length c4) := cell_of_row WZ gx 8 _ _ _ HZ.blk
      have hb0 := Below.refl WZ.heap.size WZ
      have KS : ∀ w' : World, Below WZ.heap.size WZ w' → w'.cell? ⟨gx, 0, none⟩ = some (.int .i64 Y.fin) ∧ w'.cell? ⟨gx, 1, none⟩ = some (.int .i64 Y.tm) ∧ w'.cell? ⟨gx, 2, none⟩ = some (.int .i64 Y.tr) ∧ w'.cell? ⟨gx, 3, none⟩ = some (.int .i64 Y.bm) ∧ w'.cell? ⟨gx, 4, none⟩ = some (.int .i64 Y.br) ∧ w'.cell? ⟨gx, 5, none⟩ = some (.slice k1 Y.sats.length c1) ∧ w'.cell? ⟨gx, 6, none⟩ = some (.slice k2 Y.custs.length c2) ∧ w'.cell? ⟨gx, 7, none⟩ = some (.slice k3 Y.cost.length c3) ∧ w'.cell? ⟨gx, 8, none⟩ = some (.slice k4 Y.time.length c4) ∧ Below WZ.heap.size WZ w' := fun w' hb => ⟨keep_cell hb y0, keep_cell hb y1, keep_cell hb y2, keep_cell hb y3, keep_cell hb y4, keep_cell hb y5, keep_cell hb y6, keep_cell hb y7, keep_cell hb y8, hb⟩
      have KB : ∀ w' : World, (w'.cell? ⟨gx, 0, none⟩ = some (.int .i64 Y.fin) ∧ w'.cell? ⟨gx, 1, none⟩ = some (.int .i64 Y.tm) ∧ w'.cell? ⟨gx, 2, none⟩ = some (.int .i64 Y.tr) ∧ w'.cell? ⟨gx, 3, none⟩ = some (.int .i64 Y.bm) ∧ w'.cell? ⟨gx, 4, none⟩ = some (.int .i64 Y.br) ∧ w'.cell? ⟨gx, 5, none⟩ = some (.slice k1 Y.sats.length c1) ∧ w'.cell? ⟨gx, 6, none⟩ = some (.slice k2 Y.custs.length c2) ∧ w'.cell? ⟨gx, 7, none⟩ = some (.slice k3 Y.cost.length c3) ∧ w'.cell? ⟨gx, 8, none⟩ = some (.slice k4 Y.time.length c4) ∧ Below WZ.heap.size WZ w') → Below WZ.heap.size WZ w' := fun w' h => h.2.2.2.2.2.2.2.2.2
      replace KB := Lib.hid KB
      replace KS := Lib.hid KS
      replace HZ := Lib.hid HZ
      replace HB := Lib.hid HB
      go_region_held3 (fun w' => w'.cell? ⟨gx, 0, none⟩ = some (.int .i64 Y.fin) ∧ w'.cell? ⟨gx, 1, none⟩ = some (.int .i64 Y.tm) ∧ w'.cell? ⟨gx, 2, none⟩ = some (.int .i64 Y.tr) ∧ w'.cell? ⟨gx, 3, none⟩ = some (.int .i64 Y.bm) ∧ w'.cell? ⟨gx, 4, none⟩ = some (.int .i64 Y.br) ∧ w'.cell? ⟨gx, 5, none⟩ = some (.slice k1 Y.sats.length c1) ∧ w'.cell? ⟨gx, 6, none⟩ = some (.slice k2 Y.custs.length c2) ∧ w'.cell? ⟨gx, 7, none⟩ = some (.slice k3 Y.cost.length c3) ∧ w'.cell? ⟨gx, 8, none⟩ = some (.slice k4 Y.time.length c4) ∧ Below WZ.heap.size WZ w')
        (first | exact KS.out _ (Below.drew hb0) | exact KS.out _ (keep_below (KB.out _ (by assumption)) (by assumption)))
        (first | (go_at_call 10; refine (check_any Y ⟨k1, c1, k2, c2, k3, c3, k4, c4⟩ _ (HZ.out.is.below (KB.out _ (by assumption))) HZ.out.ls HZ.out.lc).mono ?_; rintro e w1 ⟨rfl, hb⟩) | (go_at_call 11; refine (code_any Y ⟨k1, c1, k2, c2, k3, c3, k4, c4⟩ _ (HZ.out.is.below (KB.out _ (by assumption))) HZ.out.ls HZ.out.lc).mono ?_; rintro e w1 ⟨rfl, hb⟩))
      have hE := KB.out _ (by assumption)
      go_wp2_with fail
      go_ret
      exact ⟨rfl, by have := hg.out; rw [this]; exact HB.out.trans (hE.mono (by omega))⟩
    · have cj := cell.out 7 _ rfl
      have hil : i < X.cost.length := by have := hmr.out.1; have := hnn.out; omega
      have hkn : k < nodesN X := by have := hnn.out; omega
      obtain ⟨gh, gr, hgh, hrow, ⟨v, hv⟩, hf, hgs2, HZ⟩ := spoil_11 HMc.out hBc.out (by omega) (by omega) (by omega) (by omega) n i k hil hkn
      dsimp only at hgh
      subst hgh
      have k0 : (0 : Int) ≤ (i : Int) := by omega
      have k1 : (i : Int) < (X.cost.length : Int) := by omega
      have k2 : (0 : Int) ≤ (k : Int) := by omega
      have k3 : (k : Int) < (nodesN X : Int) := by omega
      have HT : ∃ (Y : InstD) (hh : HdD), Spoilt (wc.setCell ⟨gr, k, none⟩ (.int .i64 n)).drew gx Y hh ∧ Below g w (wc.setCell ⟨gr, k, none⟩ (.int .i64 n)).drew := ⟨_, _, HZ.drew, ((hb9.out.setCell (show g ≤ (⟨gr, k, none⟩ : Addr).block from by show g ≤ gr; omega) _).drew)⟩
      go_upto_region 40 with fail
      generalize (wc.setCell ⟨gr, k, none⟩ (.int .i64 n)).drew = WZ at *
      obtain ⟨Y, ⟨k1, c1, k2, c2, k3, c3, k4, c4⟩, HZ, HB⟩ := HT
      have gz := heap_lt HZ.blk
      have y0 : WZ.cell? ⟨gx, 0, none⟩ = some (.int .i64 Y.fin) := cell_of_row WZ gx 0 _ _ _ HZ.blk
      have y1 : WZ.cell? ⟨gx, 1, none⟩ = some (.int .i64 Y.tm) := cell_of_row WZ gx 1 _ _ _ HZ.blk
      have y2 : WZ.cell? ⟨gx, 2, none⟩ = some (.int .i64 Y.tr) := cell_of_row WZ gx 2 _ _ _ HZ.blk
      have y3 : WZ.cell? ⟨gx, 3, none⟩ = some (.int .i64 Y.bm) := cell_of_row WZ gx 3 _ _ _ HZ.blk
      have y4 : WZ.cell? ⟨gx, 4, none⟩ = some (.int .i64 Y.br) := cell_of_row WZ gx 4 _ _ _ HZ.blk
      have y5 : WZ.cell? ⟨gx, 5, none⟩ = some (.slice k1 Y.sats.length c1) := cell_of_row WZ gx 5 _ _ _ HZ.blk
      have y6 : WZ.cell? ⟨gx, 6, none⟩ = some (.slice k2 Y.custs.length c2) := cell_of_row WZ gx 6 _ _ _ HZ.blk
      have y7 : WZ.cell? ⟨gx, 7, none⟩ = some (.slice k3 Y.cost.length c3) := cell_of_row WZ gx 7 _ _ _ HZ.blk
      have y8 : WZ.cell? ⟨gx, 8, none⟩ = some (.slice k4 Y.time.length c4) := cell_of_row WZ gx 8 _ _ _ HZ.blk
      have hb0 := Below.refl WZ.heap.size WZ
      have KS : ∀ w' : World, Below WZ.heap.size WZ w' → w'.cell? ⟨gx, 0, none⟩ = some (.int .i64 Y.fin) ∧ w'.cell? ⟨gx, 1, none⟩ = some (.int .i64 Y.tm) ∧ w'.cell? ⟨gx, 2, none⟩ = some (.int .i64 Y.tr) ∧ w'.cell? ⟨gx, 3, none⟩ = some (.int .i64 Y.bm) ∧ w'.cell? ⟨gx, 4, none⟩ = some (.int .i64 Y.br) ∧ w'.cell? ⟨gx, 5, none⟩ = some (.slice k1 Y.sats.length c1) ∧ w'.cell? ⟨gx, 6, none⟩ = some (.slice k2 Y.custs.length c2) ∧ w'.cell? ⟨gx, 7, none⟩ = some (.slice k3 Y.cost.length c3) ∧ w'.cell? ⟨gx, 8, none⟩ = some (.slice k4 Y.time.length c4) ∧ Below WZ.heap.size WZ w' := fun w' hb => ⟨keep_cell hb y0, keep_cell hb y1, keep_cell hb y2, keep_cell hb y3, keep_cell hb y4, keep_cell hb y5, keep_cell hb y6, keep_cell hb y7, keep_cell hb y8, hb⟩
      have KB : ∀ w' : World, (w'.cell? ⟨gx, 0, none⟩ = some (.int .i64 Y.fin) ∧ w'.cell? ⟨gx, 1, none⟩ = some (.int .i64 Y.tm) ∧ w'.cell? ⟨gx, 2, none⟩ = some (.int .i64 Y.tr) ∧ w'.cell? ⟨gx, 3, none⟩ = some (.int .i64 Y.bm) ∧ w'.cell? ⟨gx, 4, none⟩ = some (.int .i64 Y.br) ∧ w'.cell? ⟨gx, 5, none⟩ = some (.slice k1 Y.sats.length c1) ∧ w'.cell? ⟨gx, 6, none⟩ = some (.slice k2 Y.custs.length c2) ∧ w'.cell? ⟨gx, 7, none⟩ = some (.slice k3 Y.cost.length c3) ∧ w'.cell? ⟨gx, 8, none⟩ = some (.slice k4 Y.time.length c4) ∧ Below WZ.heap.size WZ w') → Below WZ.heap.size WZ w' := fun w' h => h.2.2.2.2.2.2.2.2.2
      replace KB := Lib.hid KB
      replace KS := Lib.hid KS
      replace HZ := Lib.hid HZ
      replace HB := Lib.hid HB
      go_region_held3 (fun w' => w'.cell? ⟨gx, 0, none⟩ = some (.int .i64 Y.fin) ∧ w'.cell? ⟨gx, 1, none⟩ = some (.int .i64 Y.tm) ∧ w'.cell? ⟨gx, 2, none⟩ = some (.int .i64 Y.tr) ∧ w'.cell? ⟨gx, 3, none⟩ = some (.int .i64 Y.bm) ∧ w'.cell? ⟨gx, 4, none⟩ = some (.int .i64 Y.br) ∧ w'.cell? ⟨gx, 5, none⟩ = some (.slice k1 Y.sats.length c1) ∧ w'.cell? ⟨gx, 6, none⟩ = some (.slice k2 Y.custs.length c2) ∧ w'.cell? ⟨gx, 7, none⟩ = some (.slice k3 Y.cost.length c3) ∧ w'.cell? ⟨gx, 8, none⟩ = some (.slice k4 Y.time.length c4) ∧ Below WZ.heap.size WZ w')
        (first | exact KS.out _ (Below.drew hb0) | exact KS.out _ (keep_below (KB.out _ (by assumption)) (by assumption)))
        (first | (go_at_call 10; refine (check_any Y ⟨k1, c1, k2, c2, k3, c3, k4, c4⟩ _ (HZ.out.is.below (KB.out _ (by assumption))) HZ.out.ls HZ.out.lc).mono ?_; rintro e w1 ⟨rfl, hb⟩) | (go_at_call 11; refine (code_any Y ⟨k1, c1, k2, c2, k3, c3, k4, c4⟩ _ (HZ.out.is.below (KB.out _ (by assumption))) HZ.out.ls HZ.out.lc).mono ?_; rintro e w1 ⟨rfl, hb⟩))
      have hE := KB.out _ (by assumption)
      go_wp2_with fail
      go_ret
      exact ⟨rfl, by have := hg.out; rw [this]; exact HB.out.trans (hE.mono (by omega))⟩
    · have cj := cell.out 8 _ rfl
      have hil : i < X.time.length := by have := hmr.out.2.1; have := hnn.out; omega
      have hkn : k < nodesN X := by have := hnn.out; omega
      obtain ⟨gh, gr, hgh, hrow, ⟨v, hv⟩, hf, hgs2, HZ⟩ := spoil_12 HMc.out hBc.out (by omega) (by omega) (by omega) (by omega) n i k hil hkn
      dsimp only at hgh
      subst hgh
      have k0 : (0 : Int) ≤ (i : Int) := by omega
      have k1 : (i : Int) < (X.time.length : Int) := by omega
      have k2 : (0 : Int) ≤ (k : Int) := by omega
      have k3 : (k : Int) < (nodesN X : Int) := by omega
      have HT : ∃ (Y : InstD) (hh : HdD), Spoilt (wc.setCell ⟨gr, k, none⟩ (.int .i64 n)).drew gx Y hh ∧ Below g w (wc.setCell ⟨gr, k, none⟩ (.int .i64 n)).drew := ⟨_, _, HZ.drew, ((hb9.out.setCell (show g ≤ (⟨gr, k, none⟩ : Addr).block from by show g ≤ gr; omega) _).drew)⟩
      go_upto_region 40 with fail
      generalize (wc.setCell ⟨gr, k, none⟩ (.int .i64 n)).drew = WZ at *
      obtain ⟨Y, ⟨k1, c1, k2, c2, k3, c3, k4, c4⟩, HZ, HB⟩ := HT
      have gz := heap_lt HZ.blk
      have y0 : WZ.cell? ⟨gx, 0, none⟩ = some (.int .i64 Y.fin) := cell_of_row WZ gx 0 _ _ _ HZ.blk
      have y1 : WZ.cell? ⟨gx, 1, none⟩ = some (.int .i64 Y.tm) := cell_of_row WZ gx 1 _ _ _ HZ.blk
      have y2 : WZ.cell? ⟨gx, 2, none⟩ = some (.int .i64 Y.tr) := cell_of_row WZ gx 2 _ _ _ HZ.blk
      have y3 : WZ.cell? ⟨gx, 3, none⟩ = some (.int .i64 Y.bm) := cell_of_row WZ gx 3 _ _ _ HZ.blk
      have y4 : WZ.cell? ⟨gx, 4, none⟩ = some (.int .i64 Y.br) := cell_of_row WZ gx 4 _ _ _ HZ.blk
      have y5 : WZ.cell? ⟨gx, 5, none⟩ = some (.slice k1 Y.sats.length c1) := cell_of_row WZ gx 5 _ _ _ HZ.blk
      have y6 : WZ.cell? ⟨gx, 6, none⟩ = some (.slice k2 Y.custs.length c2) := cell_of_row WZ gx 6 _ _ _ HZ.blk
      have y7 : WZ.cell? ⟨gx, 7, none⟩ = some (.slice k3 Y.cost.length c3) := cell_of_row WZ gx 7 _ _ _ HZ.blk
      have y8 : WZ.cell? ⟨gx, 8, none⟩ = some (.slice k4 Y.time.length c4) := cell_of_row WZ gx 8 _ _ _ HZ.blk
      have hb0 := Below.refl WZ.heap.size WZ
      have KS : ∀ w' : World, Below WZ.heap.size WZ w' → w'.cell? ⟨gx, 0, none⟩ = some (.int .i64 Y.fin) ∧ w'.cell? ⟨gx, 1, none⟩ = some (.int .i64 Y.tm) ∧ w'.cell? ⟨gx, 2, none⟩ = some (.int .i64 Y.tr) ∧ w'.cell? ⟨gx, 3, none⟩ = some (.int .i64 Y.bm) ∧ w'.cell? ⟨gx, 4, none⟩ = some (.int .i64 Y.br) ∧ w'.cell? ⟨gx, 5, none⟩ = some (.slice k1 Y.sats.length c1) ∧ w'.cell? ⟨gx, 6, none⟩ = some (.slice k2 Y.custs.length c2) ∧ w'.cell? ⟨gx, 7, none⟩ = some (.slice k3 Y.cost.length c3) ∧ w'.cell? ⟨gx, 8, none⟩ = some (.slice k4 Y.time.length c4) ∧ Below WZ.heap.size WZ w' := fun w' hb => ⟨keep_cell hb y0, keep_cell hb y1, keep_cell hb y2, keep_cell hb y3, keep_cell hb y4, keep_cell hb y5, keep_cell hb y6, keep_cell hb y7, keep_cell hb y8, hb⟩
      have KB : ∀ w' : World, (w'.cell? ⟨gx, 0, none⟩ = some (.int .i64 Y.fin) ∧ w'.cell? ⟨gx, 1, none⟩ = some (.int .i64 Y.tm) ∧ w'.cell? ⟨gx, 2, none⟩ = some (.int .i64 Y.tr) ∧ w'.cell? ⟨gx, 3, none⟩ = some (.int .i64 Y.bm) ∧ w'.cell? ⟨gx, 4, none⟩ = some (.int .i64 Y.br) ∧ w'.cell? ⟨gx, 5, none⟩ = some (.slice k1 Y.sats.length c1) ∧ w'.cell? ⟨gx, 6, none⟩ = some (.slice k2 Y.custs.length c2) ∧ w'.cell? ⟨gx, 7, none⟩ = some (.slice k3 Y.cost.length c3) ∧ w'.cell? ⟨gx, 8, none⟩ = some (.slice k4 Y.time.length c4) ∧ Below WZ.heap.size WZ w') → Below WZ.heap.size WZ w' := fun w' h => h.2.2.2.2.2.2.2.2.2
      replace KB := Lib.hid KB
      replace KS := Lib.hid KS
      replace HZ := Lib.hid HZ
      replace HB := Lib.hid HB
      go_region_held3 (fun w' => w'.cell? ⟨gx, 0, none⟩ = some (.int .i64 Y.fin) ∧ w'.cell? ⟨gx, 1, none⟩ = some (.int .i64 Y.tm) ∧ w'.cell? ⟨gx, 2, none⟩ = some (.int .i64 Y.tr) ∧ w'.cell? ⟨gx, 3, none⟩ = some (.int .i64 Y.bm) ∧ w'.cell? ⟨gx, 4, none⟩ = some (.int .i64 Y.br) ∧ w'.cell? ⟨gx, 5, none⟩ = some (.slice k1 Y.sats.length c1) ∧ w'.cell? ⟨gx, 6, none⟩ = some (.slice k2 Y.custs.length c2) ∧ w'.cell? ⟨gx, 7, none⟩ = some (.slice k3 Y.cost.length c3) ∧ w'.cell? ⟨gx, 8, none⟩ = some (.slice k4 Y.time.length c4) ∧ Below WZ.heap.size WZ w')
        (first | exact KS.out _ (Below.drew hb0) | exact KS.out _ (keep_below (KB.out _ (by assumption)) (by assumption)))
        (first | (go_at_call 10; refine (check_any Y ⟨k1, c1, k2, c2, k3, c3, k4, c4⟩ _ (HZ.out.is.below (KB.out _ (by assumption))) HZ.out.ls HZ.out.lc).mono ?_; rintro e w1 ⟨rfl, hb⟩) | (go_at_call 11; refine (code_any Y ⟨k1, c1, k2, c2, k3, c3, k4, c4⟩ _ (HZ.out.is.below (KB.out _ (by assumption))) HZ.out.ls HZ.out.lc).mono ?_; rintro e w1 ⟨rfl, hb⟩))
      have hE := KB.out _ (by assumption)
      go_wp2_with fail
      go_ret
      exact ⟨rfl, by have := hg.out; rw [this]; exact HB.out.trans (hE.mono (by omega))⟩
    · have cj := cell.out 7 _ rfl
      have hil : i < X.cost.length := by have := hmr.out.1; have := hnn.out; omega
      obtain ⟨gh, gr, hgh, hrow, e3, e4, e5, e6, e7, _⟩ := HMc.out.cost.at hil
      dsimp only at hgh
      subst hgh
      have k0 : (0 : Int) ≤ (i : Int) := by omega
      have k1 : (i : Int) < (X.cost.length : Int) := by omega
      have hKS : ∀ wz : World, wz.heap[gx]? = wc.heap[gx]? → wz.heap[gh]? = wc.heap[gh]? → wz.cell? ⟨gx, 7, none⟩ = some (.slice (some ⟨gh, 0, none⟩) X.cost.length xp) ∧ wz.cell? ⟨gh, i, none⟩ = some (.slice (some ⟨gr, 0, none⟩) (nodesN X) (nodesN X)) := fun wz h1 h2 => ⟨(World.cell?_of_block (a := ⟨gx, 7, none⟩) h1).trans cj, (World.cell?_of_block (a := ⟨gh, i, none⟩) h2).trans hrow⟩
      have hlx := heap_lt hBc.out
      have hlh := (own_lt e7 (g := gh) rfl).2
      obtain ⟨i0, hi0, hz0, hz1, hz2⟩ := info_parts info_i64
      have HOWN := Lib.hid ((row_owns e5 e6 e4 (by have := hnn.out; unfold maxLen; omega)).alloc (.cells #[.int .i64 n] 2))
      have HNEW : Hid (∀ (q : Nat) (u : Value), [Value.int .i64 n][q]? = some u → ((wc.alloc (.cells #[.int .i64 n] 2)).drew).cell? ((⟨wc.heap.size, 0, none⟩ : Addr).add q) = some u) := Lib.hid (fun q u hu => cells_new _ _ _ q u (by simpa using hu))
      go_upto_region 37 with fail
      refine wp_region_N (fun j => decide (j < 11)) (fun wz => wz.cell? ⟨gx, 7, none⟩ = some (.slice (some ⟨gh, 0, none⟩) X.cost.length xp) ∧ wz.cell? ⟨gh, i, none⟩ = some (.slice (some ⟨gr, 0, none⟩) (nodesN X) (nodesN X))) (by kernel_rfl) (hKS _ rfl rfl) (fun hShut hHeld => ?_)
      refine wpAnyN_take_0 (v := ?v1n) ?_ ?_ ?_ ?_ ?_ ?hy1n ?_ ?_ ?_
      case hy1n =>
        refine Or.inl ⟨by rfl, ?_⟩
        intro w hSw
        try dsimp only at hSw
        go_simp
        try with_reducible rfl
      · kernel_rfl
      · kernel_rfl
      · kernel_rfl
      · kernel_rfl
      · exact fun _ _ _ h => h
      · exact hHeld
      · exact hShut
      clear hShut
      intro hShut
      try simp only [Act.put, List.setIfInBounds_toArray, List.set_cons_zero, List.set_cons_succ]
      refine wpAnyN_take_1 (v := ?v2n) ?_ ?_ ?_ ?_ ?_ ?hy2n ?_ ?_ ?_
      case hy2n =>
        refine Or.inl ⟨by rfl, ?_⟩
        intro w hSw
        try dsimp only at hSw
        go_simp
        try with_reducible rfl
      · kernel_rfl
      · kernel_rfl
      · kernel_rfl
      · kernel_rfl
      · exact fun _ _ _ h => h
      · exact hHeld
      · exact hShut
      clear hShut
      intro hShut
      try simp only [Act.put, List.setIfInBounds_toArray, List.set_cons_zero, List.set_cons_succ]
      refine wpAnyN_take_2 (v := ?v3n) ?_ ?_ ?_ ?_ ?_ ?hy3n ?_ ?_ ?_
      case hy3n =>
        refine Or.inl ⟨by rfl, ?_⟩
        intro w hSw
        try dsimp only at hSw
        go_simp
        try with_reducible rfl
      · kernel_rfl
      · kernel_rfl
      · kernel_rfl
      · kernel_rfl
      · exact fun _ _ _ h => h
      · exact hHeld
      · exact hShut
      clear hShut
      intro hShut
      try simp only [Act.put, List.setIfInBounds_toArray, List.set_cons_zero, List.set_cons_succ]
      refine wpAnyN_take_3 (v := ?v4n) ?_ ?_ ?_ ?_ ?_ ?hy4n ?_ ?_ ?_
      case hy4n =>
        refine Or.inl ⟨by rfl, ?_⟩
        intro w hSw
        try dsimp only at hSw
        go_simp
        try with_reducible rfl
      · kernel_rfl
      · kernel_rfl
      · kernel_rfl
      · kernel_rfl
      · exact fun _ _ _ h => h
      · exact hHeld
      · exact hShut
      clear hShut
      intro hShut
      try simp only [Act.put, List.setIfInBounds_toArray, List.set_cons_zero, List.set_cons_succ]
      refine wpAnyN_take_4 (v := ?v5n) ?_ ?_ ?_ ?_ ?_ ?hy5n ?_ ?_ ?_
      case hy5n =>
        refine Or.inl ⟨by rfl, ?_⟩
        intro w hSw
        try dsimp only at hSw
        go_simp
        try with_reducible rfl
      · kernel_rfl
      · kernel_rfl
      · kernel_rfl
      · kernel_rfl
      · exact fun _ _ _ h => h
      · exact hHeld
      · exact hShut
      clear hShut
      intro hShut
      try simp only [Act.put, List.setIfInBounds_toArray, List.set_cons_zero, List.set_cons_succ]
      refine wpAnyN_take_5 (v := ?v6n) ?_ ?_ ?_ ?_ ?_ ?hy6n ?_ ?_ ?_
      case hy6n =>
        refine Or.inl ⟨by rfl, ?_⟩
        intro w hSw
        try dsimp only at hSw
        go_simp
        try with_reducible rfl
      · kernel_rfl
      · kernel_rfl
      · kernel_rfl
      · kernel_rfl
      · exact fun _ _ _ h => h
      · exact hHeld
      · exact hShut
      clear hShut
      intro hShut
      try simp only [Act.put, List.setIfInBounds_toArray, List.set_cons_zero, List.set_cons_succ]
      refine wpAnyN_take_6 (v := ?v7n) ?_ ?_ ?_ ?_ ?_ ?hy7n ?_ ?_ ?_
      case hy7n =>
        refine Or.inl ⟨by rfl, ?_⟩
        intro w hSw
        try dsimp only at hSw
        go_simp
        try with_reducible rfl
      · kernel_rfl
      · kernel_rfl
      · kernel_rfl
      · kernel_rfl
      · exact fun _ _ _ h => h
      · exact hHeld
      · exact hShut
      clear hShut
      intro hShut
      try simp only [Act.put, List.setIfInBounds_toArray, List.set_cons_zero, List.set_cons_succ]
      refine wpAnyN_take_7 (v := ?v8n) ?_ ?_ ?_ ?_ ?_ ?hy8n ?_ ?_ ?_
      case hy8n =>
        refine Or.inl ⟨by rfl, ?_⟩
        intro w hSw
        try dsimp only at hSw
        go_simp
        try with_reducible rfl
      · kernel_rfl
      · kernel_rfl
      · kernel_rfl
      · kernel_rfl
      · exact fun _ _ _ h => h
      · exact hHeld
      · exact hShut
      clear hShut
      intro hShut
      try simp only [Act.put, List.setIfInBounds_toArray, List.set_cons_zero, List.set_cons_succ]
      refine wpAnyN_take_8 (v := ?v9n) ?_ ?_ ?_ ?_ ?_ ?hy9n ?_ ?_ ?_
      case hy9n =>
        refine Or.inl ⟨by rfl, ?_⟩
        intro w hSw
        try dsimp only at hSw
        go_simp
        try with_reducible rfl
      · kernel_rfl
      · kernel_rfl
      · kernel_rfl
      · kernel_rfl
      · exact fun _ _ _ h => h
      · exact hHeld
      · exact hShut
      clear hShut
      intro hShut
      try simp only [Act.put, List.setIfInBounds_toArray, List.set_cons_zero, List.set_cons_succ]
      refine wpAnyN_one_9 (by kernel_rfl) (by exact hShut) (fun K hK => ?_)
      go_simp
      refine hK.out _ _ (fun _ => (hKS _ (Below.heap_alloc _ _ _ hlx) (Below.heap_alloc _ _ _ hlh))) (fun hH hS2 => ?_)
      clear hK K hHeld hShut
      have hShut := hS2
      clear hS2
      have hHeld := hH rfl
      clear hH
      try simp only [Act.put, List.setIfInBounds_toArray, List.set_cons_zero, List.set_cons_succ]
      refine wpAnyN_one_10 (by kernel_rfl) (by exact hShut) (fun K hK => ?_)
      refine if_true_of (by rfl) ?_
      refine wp_append_own _ (.tmp 155) (.tmp 157) 45 rfl W.heap.size 2 i0 (.int .i64 0) 1 8 Try.underlying45 hi0 hz0 hz1 hz2 rfl (by decide) (.slice (some ⟨gr, 0, none⟩) (nodesN X) (nodesN X)) (nodesN X) (i64s X.cost[i]) rfl HOWN.out.drew.drew ⟨wc.heap.size, 0, none⟩ 1 1 [.int .i64 n] rfl rfl HNEW.out (fun x hx => by simp at hx; subst hx; rfl) (by have := hnn.out; unfold maxLen; omega) (by have := hnn.out; omega) (by show W.heap.size ≤ (wc.alloc _).heap.size; simp; omega) ?_
      intro v' w2 hown2 hgrow _
      obtain ⟨A', C', hv'⟩ := own_val hown2
      subst hv'
      obtain ⟨⟨v5, c5⟩, f5, b1, b2, h1, h2, HZ⟩ := spoil_13 HMc.out hBc.out (by omega) (by omega) (by omega) (by omega) n i hil rfl e3 (.cells #[.int .i64 n] 2) hown2 (grown_undrew (grown_undrew hgrow))
      have HZ2 := Lib.hid HZ
      clear HZ
      have HZb := Lib.hid ((((hb9.out.alloc (by omega) (.cells #[.int .i64 n] 2)).drew.drew.grown hgrow (by show g ≤ (wc.alloc _).heap.size; simp; omega) (fun q hq => by have hq2 : gr = q := Option.some.inj hq; omega)).setCell (show g ≤ (⟨gh, i, none⟩ : Addr).block by show g ≤ gh; omega) (.slice A' (nodesN X + 1) C')))
      refine hK.out _ _ (fun _ => (hKS _ h1 h2)) (fun hH hS2 => ?_)
      clear hK K hHeld hShut
      have hShut := hS2
      clear hS2
      have hHeld := hH rfl
      clear hH
      try simp only [Act.put, List.setIfInBounds_toArray, List.set_cons_zero, List.set_cons_succ]
      refine wpAnyN_one_11 (by kernel_rfl) (by exact hShut) (fun K hK => ?_)
      go_simp
      refine hK.out _ _ (fun h => absurd h (by decide)) (fun _ hS2 => ?_)
      clear hK K hShut
      have hShut := hS2
      clear hS2
      try simp only [Act.put, List.setIfInBounds_toArray, List.set_cons_zero, List.set_cons_succ]
      refine wpAnyN_one_12 (by kernel_rfl) (by exact hShut) (fun K hK => ?_)
      go_simp
      refine hK.out _ _ (fun h => absurd h (by decide)) (fun _ hS2 => ?_)
      clear hK K hShut
      have hShut := hS2
      clear hS2
      try simp only [Act.put, List.setIfInBounds_toArray, List.set_cons_zero, List.set_cons_succ]
      refine wpAnyN_done (by kernel_rfl) ?_ _
      clear hShut hHeld
      have HT : ∃ (Y : InstD) (hh : HdD), Spoilt (w2.setCell ⟨gh, i, none⟩ (.slice A' (nodesN X + 1) C')) gx Y hh ∧ Below g w (w2.setCell ⟨gh, i, none⟩ (.slice A' (nodesN X + 1) C')) := ⟨_, _, HZ2.out, HZb.out⟩
      go_upto_region 40 with fail
      generalize (w2.setCell ⟨gh, i, none⟩ (.slice A' (nodesN X + 1) C')) = WZ at *
      obtain ⟨Y, ⟨k1, c1, k2, c2, k3, c3, k4, c4⟩, HZ, HB⟩ := HT
      have gz := heap_lt HZ.blk
      have y0 : WZ.cell? ⟨gx, 0, none⟩ = some (.int .i64 Y.fin) := cell_of_row WZ gx 0 _ _ _ HZ.blk
      have y1 : WZ.cell? ⟨gx, 1, none⟩ = some (.int .i64 Y.tm) := cell_of_row WZ gx 1 _ _ _ HZ.blk
      have y2 : WZ.cell? ⟨gx, 2, none⟩ = some (.int .i64 Y.tr) := cell_of_row WZ gx 2 _ _ _ HZ.blk
      have y3 : WZ.cell? ⟨gx, 3, none⟩ = some (.int .i64 Y.bm) := cell_of_row WZ gx 3 _ _ _ HZ.blk
      have y4 : WZ.cell? ⟨gx, 4, none⟩ = some (.int .i64 Y.br) := cell_of_row WZ gx 4 _ _ _ HZ.blk
      have y5 : WZ.cell? ⟨gx, 5, none⟩ = some (.slice k1 Y.sats.length c1) := cell_of_row WZ gx 5 _ _ _ HZ.blk
      have y6 : WZ.cell? ⟨gx, 6, none⟩ = some (.slice k2 Y.custs.length c2) := cell_of_row WZ gx 6 _ _ _ HZ.blk
      have y7 : WZ.cell? ⟨gx, 7, none⟩ = some (.slice k3 Y.cost.length c3) := cell_of_row WZ gx 7 _ _ _ HZ.blk
      have y8 : WZ.cell? ⟨gx, 8, none⟩ = some (.slice k4 Y.time.length c4) := cell_of_row WZ gx 8 _ _ _ HZ.blk
      have hb0 := Below.refl WZ.heap.size WZ
      have KS : ∀ w' : World, Below WZ.heap.size WZ w' → w'.cell? ⟨gx, 0, none⟩ = some (.int .i64 Y.fin) ∧ w'.cell? ⟨gx, 1, none⟩ = some (.int .i64 Y.tm) ∧ w'.cell? ⟨gx, 2, none⟩ = some (.int .i64 Y.tr) ∧ w'.cell? ⟨gx, 3, none⟩ = some (.int .i64 Y.bm) ∧ w'.cell? ⟨gx, 4, none⟩ = some (.int .i64 Y.br) ∧ w'.cell? ⟨gx, 5, none⟩ = some (.slice k1 Y.sats.length c1) ∧ w'.cell? ⟨gx, 6, none⟩ = some (.slice k2 Y.custs.length c2) ∧ w'.cell? ⟨gx, 7, none⟩ = some (.slice k3 Y.cost.length c3) ∧ w'.cell? ⟨gx, 8, none⟩ = some (.slice k4 Y.time.length c4) ∧ Below WZ.heap.size WZ w' := fun w' hb => ⟨keep_cell hb y0, keep_cell hb y1, keep_cell hb y2, keep_cell hb y3, keep_cell hb y4, keep_cell hb y5, keep_cell hb y6, keep_cell hb y7, keep_cell hb y8, hb⟩
      have KB : ∀ w' : World, (w'.cell? ⟨gx, 0, none⟩ = some (.int .i64 Y.fin) ∧ w'.cell? ⟨gx, 1, none⟩ = some (.int .i64 Y.tm) ∧ w'.cell? ⟨gx, 2, none⟩ = some (.int .i64 Y.tr) ∧ w'.cell? ⟨gx, 3, none⟩ = some (.int .i64 Y.bm) ∧ w'.cell? ⟨gx, 4, none⟩ = some (.int .i64 Y.br) ∧ w'.cell? ⟨gx, 5, none⟩ = some (.slice k1 Y.sats.length c1) ∧ w'.cell? ⟨gx, 6, none⟩ = some (.slice k2 Y.custs.length c2) ∧ w'.cell? ⟨gx, 7, none⟩ = some (.slice k3 Y.cost.length c3) ∧ w'.cell? ⟨gx, 8, none⟩ = some (.slice k4 Y.time.length c4) ∧ Below WZ.heap.size WZ w') → Below WZ.heap.size WZ w' := fun w' h => h.2.2.2.2.2.2.2.2.2
      replace KB := Lib.hid KB
      replace KS := Lib.hid KS
      replace HZ := Lib.hid HZ
      replace HB := Lib.hid HB
      go_region_held3 (fun w' => w'.cell? ⟨gx, 0, none⟩ = some (.int .i64 Y.fin) ∧ w'.cell? ⟨gx, 1, none⟩ = some (.int .i64 Y.tm) ∧ w'.cell? ⟨gx, 2, none⟩ = some (.int .i64 Y.tr) ∧ w'.cell? ⟨gx, 3, none⟩ = some (.int .i64 Y.bm) ∧ w'.cell? ⟨gx, 4, none⟩ = some (.int .i64 Y.br) ∧ w'.cell? ⟨gx, 5, none⟩ = some (.slice k1 Y.sats.length c1) ∧ w'.cell? ⟨gx, 6, none⟩ = some (.slice k2 Y.custs.length c2) ∧ w'.cell? ⟨gx, 7, none⟩ = some (.slice k3 Y.cost.length c3) ∧ w'.cell? ⟨gx, 8, none⟩ = some (.slice k4 Y.time.length c4) ∧ Below WZ.heap.size WZ w')
        (first | exact KS.out _ (Below.drew hb0) | exact KS.out _ (keep_below (KB.out _ (by assumption)) (by assumption)))
        (first | (go_at_call 10; refine (check_any Y ⟨k1, c1, k2, c2, k3, c3, k4, c4⟩ _ (HZ.out.is.below (KB.out _ (by assumption))) HZ.out.ls HZ.out.lc).mono ?_; rintro e w1 ⟨rfl, hb⟩) | (go_at_call 11; refine (code_any Y ⟨k1, c1, k2, c2, k3, c3, k4, c4⟩ _ (HZ.out.is.below (KB.out _ (by assumption))) HZ.out.ls HZ.out.lc).mono ?_; rintro e w1 ⟨rfl, hb⟩))
      have hE := KB.out _ (by assumption)
      go_wp2_with fail
      go_ret
      exact ⟨rfl, by have := hg.out; rw [this]; exact HB.out.trans (hE.mono (by omega))⟩
    · have cj := cell.out 8 _ rfl
      have fj := frz.out 8
      have hil : i < X.time.length := by have := hmr.out.2.1; have := hnn.out; omega
      have HZ := spoil_14 hgx IX.out hbc.out hBc.out (by omega) (by omega) i hil
      dsimp only at HZ
      have hcap : X.time.length ≤ xu := by
        rcases HMc.out.time.own.2 with ⟨hv, h0⟩ | ⟨g', cap', cur', hv, _, _, hc, _⟩
        · omega
        · injection hv with _ _ e; dsimp only at e; rw [e]; exact hc
      have k0 : (0 : Int) ≤ (i : Int) := by omega
      have k1 : (i : Int) ≤ (xu : Int) := by omega
      have HT : ∃ (Y : InstD) (hh : HdD), Spoilt (wc.setCell ⟨gx, 8, none⟩ (.slice xt i xu)).drew gx Y hh ∧ Below g w (wc.setCell ⟨gx, 8, none⟩ (.slice xt i xu)).drew := ⟨_, _, HZ.drew, ((hb9.out.setCell (show g ≤ (⟨gx, 8, none⟩ : Addr).block from by show g ≤ gx; omega) _).drew)⟩
      go_upto_region 40 with fail
      generalize (wc.setCell ⟨gx, 8, none⟩ (.slice xt i xu)).drew = WZ at *
      obtain ⟨Y, ⟨k1, c1, k2, c2, k3, c3, k4, c4⟩, HZ, HB⟩ := HT
      have gz := heap_lt HZ.blk
      have y0 : WZ.cell? ⟨gx, 0, none⟩ = some (.int .i64 Y.fin) := cell_of_row WZ gx 0 _ _ _ HZ.blk
      have y1 : WZ.cell? ⟨gx, 1, none⟩ = some (.int .i64 Y.tm) := cell_of_row WZ gx 1 _ _ _ HZ.blk
      have y2 : WZ.cell? ⟨gx, 2, none⟩ = some (.int .i64 Y.tr) := cell_of_row WZ gx 2 _ _ _ HZ.blk
      have y3 : WZ.cell? ⟨gx, 3, none⟩ = some (.int .i64 Y.bm) := cell_of_row WZ gx 3 _ _ _ HZ.blk
      have y4 : WZ.cell? ⟨gx, 4, none⟩ = some (.int .i64 Y.br) := cell_of_row WZ gx 4 _ _ _ HZ.blk
      have y5 : WZ.cell? ⟨gx, 5, none⟩ = some (.slice k1 Y.sats.length c1) := cell_of_row WZ gx 5 _ _ _ HZ.blk
      have y6 : WZ.cell? ⟨gx, 6, none⟩ = some (.slice k2 Y.custs.length c2) := cell_of_row WZ gx 6 _ _ _ HZ.blk
      have y7 : WZ.cell? ⟨gx, 7, none⟩ = some (.slice k3 Y.cost.length c3) := cell_of_row WZ gx 7 _ _ _ HZ.blk
      have y8 : WZ.cell? ⟨gx, 8, none⟩ = some (.slice k4 Y.time.length c4) := cell_of_row WZ gx 8 _ _ _ HZ.blk
      have hb0 := Below.refl WZ.heap.size WZ
      have KS : ∀ w' : World, Below WZ.heap.size WZ w' → w'.cell? ⟨gx, 0, none⟩ = some (.int .i64 Y.fin) ∧ w'.cell? ⟨gx, 1, none⟩ = some (.int .i64 Y.tm) ∧ w'.cell? ⟨gx, 2, none⟩ = some (.int .i64 Y.tr) ∧ w'.cell? ⟨gx, 3, none⟩ = some (.int .i64 Y.bm) ∧ w'.cell? ⟨gx, 4, none⟩ = some (.int .i64 Y.br) ∧ w'.cell? ⟨gx, 5, none⟩ = some (.slice k1 Y.sats.length c1) ∧ w'.cell? ⟨gx, 6, none⟩ = some (.slice k2 Y.custs.length c2) ∧ w'.cell? ⟨gx, 7, none⟩ = some (.slice k3 Y.cost.length c3) ∧ w'.cell? ⟨gx, 8, none⟩ = some (.slice k4 Y.time.length c4) ∧ Below WZ.heap.size WZ w' := fun w' hb => ⟨keep_cell hb y0, keep_cell hb y1, keep_cell hb y2, keep_cell hb y3, keep_cell hb y4, keep_cell hb y5, keep_cell hb y6, keep_cell hb y7, keep_cell hb y8, hb⟩
      have KB : ∀ w' : World, (w'.cell? ⟨gx, 0, none⟩ = some (.int .i64 Y.fin) ∧ w'.cell? ⟨gx, 1, none⟩ = some (.int .i64 Y.tm) ∧ w'.cell? ⟨gx, 2, none⟩ = some (.int .i64 Y.tr) ∧ w'.cell? ⟨gx, 3, none⟩ = some (.int .i64 Y.bm) ∧ w'.cell? ⟨gx, 4, none⟩ = some (.int .i64 Y.br) ∧ w'.cell? ⟨gx, 5, none⟩ = some (.slice k1 Y.sats.length c1) ∧ w'.cell? ⟨gx, 6, none⟩ = some (.slice k2 Y.custs.length c2) ∧ w'.cell? ⟨gx, 7, none⟩ = some (.slice k3 Y.cost.length c3) ∧ w'.cell? ⟨gx, 8, none⟩ = some (.slice k4 Y.time.length c4) ∧ Below WZ.heap.size WZ w') → Below WZ.heap.size WZ w' := fun w' h => h.2.2.2.2.2.2.2.2.2
      replace KB := Lib.hid KB
      replace KS := Lib.hid KS
      replace HZ := Lib.hid HZ
      replace HB := Lib.hid HB
      go_region_held3 (fun w' => w'.cell? ⟨gx, 0, none⟩ = some (.int .i64 Y.fin) ∧ w'.cell? ⟨gx, 1, none⟩ = some (.int .i64 Y.tm) ∧ w'.cell? ⟨gx, 2, none⟩ = some (.int .i64 Y.tr) ∧ w'.cell? ⟨gx, 3, none⟩ = some (.int .i64 Y.bm) ∧ w'.cell? ⟨gx, 4, none⟩ = some (.int .i64 Y.br) ∧ w'.cell? ⟨gx, 5, none⟩ = some (.slice k1 Y.sats.length c1) ∧ w'.cell? ⟨gx, 6, none⟩ = some (.slice k2 Y.custs.length c2) ∧ w'.cell? ⟨gx, 7, none⟩ = some (.slice k3 Y.cost.length c3) ∧ w'.cell? ⟨gx, 8, none⟩ = some (.slice k4 Y.time.length c4) ∧ Below WZ.heap.size WZ w')
        (first | exact KS.out _ (Below.drew hb0) | exact KS.out _ (keep_below (KB.out _ (by assumption)) (by assumption)))
        (first | (go_at_call 10; refine (check_any Y ⟨k1, c1, k2, c2, k3, c3, k4, c4⟩ _ (HZ.out.is.below (KB.out _ (by assumption))) HZ.out.ls HZ.out.lc).mono ?_; rintro e w1 ⟨rfl, hb⟩) | (go_at_call 11; refine (code_any Y ⟨k1, c1, k2, c2, k3, c3, k4, c4⟩ _ (HZ.out.is.below (KB.out _ (by assumption))) HZ.out.ls HZ.out.lc).mono ?_; rintro e w1 ⟨rfl, hb⟩))
      have hE := KB.out _ (by assumption)
      go_wp2_with fail
      go_ret
      exact ⟨rfl, by have := hg.out; rw [this]; exact HB.out.trans (hE.mono (by omega))⟩
    · have cj := cell.out 5 _ rfl
      have fj := frz.out 5
      obtain ⟨is, his, hsz0, hsz1, hsz2⟩ := info_parts info_sat
      have HOWN := Lib.hid ((HMc.out.sats.alloc (.cells #[.int .i64 n, .int .i64 0] 42)).drew)
      have HNEW : Hid (∀ (q : Nat) (u : Value), [Value.int .i64 n, .int .i64 0][q]? = some u → ((wc.alloc (.cells #[.int .i64 n, .int .i64 0] 42)).drew).cell? ((⟨wc.heap.size, 0, none⟩ : Addr).add q) = some u) := Lib.hid (fun q u hu => cells_new _ _ _ q u (by simpa using hu))
      have hbw := Lib.hid (show W.heap.size ≤ wc.heap.size by omega)
      go_upto_region 9 with fail
      go_wp2_with (first | (at_builtin; refine wpList_append_own _ rfl _ _ 24 rfl W.heap.size 42 is (.agg #[.int .i64 0, .int .i64 0]) 2 16 Try.underlying24 his hsz0 hsz1 hsz2 rfl (by decide) _ _ _ rfl HOWN.out ⟨wc.heap.size, 0, none⟩ 1 1 [.int .i64 n, .int .i64 0] rfl rfl HNEW.out (fun x hx => by simp at hx; rcases hx with rfl | rfl <;> rfl) (by unfold maxLen; omega) (by omega) (by have := hbw.out; simp; omega) ?_; intro v' w2 hown2 hgrow _; obtain ⟨A', C', hv'⟩ := own_val hown2; subst hv'; obtain ⟨c5, f5, HZ⟩ := spoil_15 HMc.out hBc.out (by omega) (by omega) (by omega) (by omega) (by omega) n (.cells #[.int .i64 n, .int .i64 0] 42) hown2 (grown_undrew hgrow); have HZ2 := Lib.hid HZ; clear HZ))
      have HZb := Lib.hid ((((hb9.out.alloc (by omega) (.cells #[.int .i64 n, .int .i64 0] 42)).drew.grown hgrow (by simp; omega) (fun q hq => by have := (own_lt HMc.out.sats hq).1; omega)).setCell (show g ≤ (⟨gx, 5, none⟩ : Addr).block by show g ≤ gx; omega) (.slice A' (X.sats.length + 1) C')))
      have HT : ∃ (Y : InstD) (hh : HdD), Spoilt (w2.setCell ⟨gx, 5, none⟩ (.slice A' (X.sats.length + 1) C')) gx Y hh ∧ Below g w (w2.setCell ⟨gx, 5, none⟩ (.slice A' (X.sats.length + 1) C')) := ⟨_, _, HZ2.out, HZb.out⟩
      go_upto_region 40 with fail
      generalize (w2.setCell ⟨gx, 5, none⟩ (.slice A' (X.sats.length + 1) C')) = WZ at *
      obtain ⟨Y, ⟨k1, c1, k2, c2, k3, c3, k4, c4⟩, HZ, HB⟩ := HT
      have gz := heap_lt HZ.blk
      have y0 : WZ.cell? ⟨gx, 0, none⟩ = some (.int .i64 Y.fin) := cell_of_row WZ gx 0 _ _ _ HZ.blk
      have y1 : WZ.cell? ⟨gx, 1, none⟩ = some (.int .i64 Y.tm) := cell_of_row WZ gx 1 _ _ _ HZ.blk
      have y2 : WZ.cell? ⟨gx, 2, none⟩ = some (.int .i64 Y.tr) := cell_of_row WZ gx 2 _ _ _ HZ.blk
      have y3 : WZ.cell? ⟨gx, 3, none⟩ = some (.int .i64 Y.bm) := cell_of_row WZ gx 3 _ _ _ HZ.blk
      have y4 : WZ.cell? ⟨gx, 4, none⟩ = some (.int .i64 Y.br) := cell_of_row WZ gx 4 _ _ _ HZ.blk
      have y5 : WZ.cell? ⟨gx, 5, none⟩ = some (.slice k1 Y.sats.length c1) := cell_of_row WZ gx 5 _ _ _ HZ.blk
      have y6 : WZ.cell? ⟨gx, 6, none⟩ = some (.slice k2 Y.custs.length c2) := cell_of_row WZ gx 6 _ _ _ HZ.blk
      have y7 : WZ.cell? ⟨gx, 7, none⟩ = some (.slice k3 Y.cost.length c3) := cell_of_row WZ gx 7 _ _ _ HZ.blk
      have y8 : WZ.cell? ⟨gx, 8, none⟩ = some (.slice k4 Y.time.length c4) := cell_of_row WZ gx 8 _ _ _ HZ.blk
      have hb0 := Below.refl WZ.heap.size WZ
      have KS : ∀ w' : World, Below WZ.heap.size WZ w' → w'.cell? ⟨gx, 0, none⟩ = some (.int .i64 Y.fin) ∧ w'.cell? ⟨gx, 1, none⟩ = some (.int .i64 Y.tm) ∧ w'.cell? ⟨gx, 2, none⟩ = some (.int .i64 Y.tr) ∧ w'.cell? ⟨gx, 3, none⟩ = some (.int .i64 Y.bm) ∧ w'.cell? ⟨gx, 4, none⟩ = some (.int .i64 Y.br) ∧ w'.cell? ⟨gx, 5, none⟩ = some (.slice k1 Y.sats.length c1) ∧ w'.cell? ⟨gx, 6, none⟩ = some (.slice k2 Y.custs.length c2) ∧ w'.cell? ⟨gx, 7, none⟩ = some (.slice k3 Y.cost.length c3) ∧ w'.cell? ⟨gx, 8, none⟩ = some (.slice k4 Y.time.length c4) ∧ Below WZ.heap.size WZ w' := fun w' hb => ⟨keep_cell hb y0, keep_cell hb y1, keep_cell hb y2, keep_cell hb y3, keep_cell hb y4, keep_cell hb y5, keep_cell hb y6, keep_cell hb y7, keep_cell hb y8, hb⟩
      have KB : ∀ w' : World, (w'.cell? ⟨gx, 0, none⟩ = some (.int .i64 Y.fin) ∧ w'.cell? ⟨gx, 1, none⟩ = some (.int .i64 Y.tm) ∧ w'.cell? ⟨gx, 2, none⟩ = some (.int .i64 Y.tr) ∧ w'.cell? ⟨gx, 3, none⟩ = some (.int .i64 Y.bm) ∧ w'.cell? ⟨gx, 4, none⟩ = some (.int .i64 Y.br) ∧ w'.cell? ⟨gx, 5, none⟩ = some (.slice k1 Y.sats.length c1) ∧ w'.cell? ⟨gx, 6, none⟩ = some (.slice k2 Y.custs.length c2) ∧ w'.cell? ⟨gx, 7, none⟩ = some (.slice k3 Y.cost.length c3) ∧ w'.cell? ⟨gx, 8, none⟩ = some (.slice k4 Y.time.length c4) ∧ Below WZ.heap.size WZ w') → Below WZ.heap.size WZ w' := fun w' h => h.2.2.2.2.2.2.2.2.2
      replace KB := Lib.hid KB
      replace KS := Lib.hid KS
      replace HZ := Lib.hid HZ
      replace HB := Lib.hid HB
      go_region_held3 (fun w' => w'.cell? ⟨gx, 0, none⟩ = some (.int .i64 Y.fin) ∧ w'.cell? ⟨gx, 1, none⟩ = some (.int .i64 Y.tm) ∧ w'.cell? ⟨gx, 2, none⟩ = some (.int .i64 Y.tr) ∧ w'.cell? ⟨gx, 3, none⟩ = some (.int .i64 Y.bm) ∧ w'.cell? ⟨gx, 4, none⟩ = some (.int .i64 Y.br) ∧ w'.cell? ⟨gx, 5, none⟩ = some (.slice k1 Y.sats.length c1) ∧ w'.cell? ⟨gx, 6, none⟩ = some (.slice k2 Y.custs.length c2) ∧ w'.cell? ⟨gx, 7, none⟩ = some (.slice k3 Y.cost.length c3) ∧ w'.cell? ⟨gx, 8, none⟩ = some (.slice k4 Y.time.length c4) ∧ Below WZ.heap.size WZ w')
        (first | exact KS.out _ (Below.drew hb0) | exact KS.out _ (keep_below (KB.out _ (by assumption)) (by assumption)))
        (first | (go_at_call 10; refine (check_any Y ⟨k1, c1, k2, c2, k3, c3, k4, c4⟩ _ (HZ.out.is.below (KB.out _ (by assumption))) HZ.out.ls HZ.out.lc).mono ?_; rintro e w1 ⟨rfl, hb⟩) | (go_at_call 11; refine (code_any Y ⟨k1, c1, k2, c2, k3, c3, k4, c4⟩ _ (HZ.out.is.below (KB.out _ (by assumption))) HZ.out.ls HZ.out.lc).mono ?_; rintro e w1 ⟨rfl, hb⟩))
      have hE := KB.out _ (by assumption)
      go_wp2_with fail
      go_ret
      exact ⟨rfl, by have := hg.out; rw [this]; exact HB.out.trans (hE.mono (by omega))⟩
theorem law_InstSpoilt (w : World) (v : Value) (H : ∃ (S : SmallD) (h : SmallH), v = .agg (smallC S h) ∧ SmallIs w S h) (a : Int) (ha : (Lit.int .u8 a).wf = true) (b : Int) (hb : (Lit.int .u8 b).wf = true) (c : Int) (hc : (Lit.int .u8 c).wf = true) (n : Int) (hn : (Lit.int .i64 n).wf = true) :
    Calls Try.prog 4 #[v, .int .u8 a, .int .u8 b, .int .u8 c, .int .i64 n] w fun e w' => e = .returned (.bool true) ∧ Below w.heap.size w w' := by
  obtain ⟨S, h, rfl, H⟩ := H
  obtain ⟨a', rfl, ha'⟩ := u8_nat ha
  obtain ⟨b', rfl, hb'⟩ := u8_nat hb
  obtain ⟨c', rfl, hc'⟩ := u8_nat hc
  exact walk_InstSpoilt w S h H a' b' c' ha' hb' hc' n
end Go.Proofs.Ythiinlkpakinlaa
