/-
  The walk of ShowTexts (layer 13).
-/
import Derived.Test.YtljcpgeggbbmfaaTells
namespace Go.Proofs.Ytljcpgeggbbmfaa
set_option linter.unusedVariables false
set_option linter.unusedSimpArgs false
open Go.RowKit
set_option maxHeartbeats 16000000 in
set_option maxRecDepth 100000 in
theorem walk_ShowTexts (w : World) (S : SmallD) (h : SmallH) (H : SmallIs w S h) :
    Calls Try.prog 9 #[.agg (smallC S h)] w fun e w' => e = .returned (.bool true) ∧ Below w.heap.size w w' := by
  have K := Lib.hid (make_ok H)
  have HT := Lib.hid (make_text H)
  obtain ⟨sa, sc, ca, cc, oa, oc, ta, tc⟩ := h
  have BW := (Below.refl w.heap.size w).alloc (Nat.le_refl _) (.cells #[Value.int .u8 S.fin, .int .u8 S.tm, .int .u8 S.tr, .int .u8 S.bm, .int .u8 S.br, .slice sa S.sats.length sc, .slice ca S.custs.length cc, .slice oa S.cost.length oc, .slice ta S.time.length tc, .bool S.tight, .bool S.loose] 40)
  replace H := Lib.hid (H.below BW)
  have DD : ∀ j u, #[Value.int .u8 S.fin, .int .u8 S.tm, .int .u8 S.tr, .int .u8 S.bm, .int .u8 S.br, .slice sa S.sats.length sc, .slice ca S.custs.length cc, .slice oa S.cost.length oc, .slice ta S.time.length tc, .bool S.tight, .bool S.loose][j]? = some u → (w.alloc (.cells #[Value.int .u8 S.fin, .int .u8 S.tm, .int .u8 S.tr, .int .u8 S.bm, .int .u8 S.br, .slice sa S.sats.length sc, .slice ca S.custs.length cc, .slice oa S.cost.length oc, .slice ta S.time.length tc, .bool S.tight, .bool S.loose] 40)).cell? ⟨w.heap.size, j, none⟩ = some u := fun j u hu => by rw [World.cell?_alloc_new]; exact hu
  have gA : w.heap.size < (w.alloc (.cells #[Value.int .u8 S.fin, .int .u8 S.tm, .int .u8 S.tr, .int .u8 S.bm, .int .u8 S.br, .slice sa S.sats.length sc, .slice ca S.custs.length cc, .slice oa S.cost.length oc, .slice ta S.time.length tc, .bool S.tight, .bool S.loose] 40)).heap.size := by simp
  replace DD := Lib.hid DD
  replace BW := Lib.hid BW
  go_enter Try.func9, Try.ntmps9
  go_wp2_with fail
  refine (awake13_any _).mono ?_
  rintro e W ⟨rfl, hA⟩
  generalize (w.alloc (.cells #[Value.int .u8 S.fin, .int .u8 S.tm, .int .u8 S.tr, .int .u8 S.bm, .int .u8 S.br, .slice sa S.sats.length sc, .slice ca S.custs.length cc, .slice oa S.cost.length oc, .slice ta S.time.length tc, .bool S.tight, .bool S.loose] 40)) = WA at *
  generalize hg : w.heap.size = g at *
  replace hg := Lib.hid hg
  replace H := Lib.hid (H.out.below hA)
  have d0 : W.cell? ⟨g, 0, none⟩ = some (Value.int .u8 S.fin) := keep_cell hA (DD.out 0 _ rfl)
  have d1 : W.cell? ⟨g, 1, none⟩ = some (.int .u8 S.tm) := keep_cell hA (DD.out 1 _ rfl)
  have d2 : W.cell? ⟨g, 2, none⟩ = some (.int .u8 S.tr) := keep_cell hA (DD.out 2 _ rfl)
  have d3 : W.cell? ⟨g, 3, none⟩ = some (.int .u8 S.bm) := keep_cell hA (DD.out 3 _ rfl)
  have d4 : W.cell? ⟨g, 4, none⟩ = some (.int .u8 S.br) := keep_cell hA (DD.out 4 _ rfl)
  have d5 : W.cell? ⟨g, 5, none⟩ = some (.slice sa S.sats.length sc) := keep_cell hA (DD.out 5 _ rfl)
  have d6 : W.cell? ⟨g, 6, none⟩ = some (.slice ca S.custs.length cc) := keep_cell hA (DD.out 6 _ rfl)
  have d7 : W.cell? ⟨g, 7, none⟩ = some (.slice oa S.cost.length oc) := keep_cell hA (DD.out 7 _ rfl)
  have d8 : W.cell? ⟨g, 8, none⟩ = some (.slice ta S.time.length tc) := keep_cell hA (DD.out 8 _ rfl)
  have d9 : W.cell? ⟨g, 9, none⟩ = some (.bool S.tight) := keep_cell hA (DD.out 9 _ rfl)
  have d10 : W.cell? ⟨g, 10, none⟩ = some (.bool S.loose) := keep_cell hA (DD.out 10 _ rfl)
  have g1 : g < W.heap.size := Nat.lt_of_lt_of_le gA hA.size
  have hW := Lib.hid (BW.out.trans (hA.mono (by have := hg.out; have := gA; omega)))
  clear BW hA gA DD
  go_wp2_with fail
  refine (make_any S ⟨sa, sc, ca, cc, oa, oc, ta, tc⟩ _ H.out).mono ?_
  rintro e w1 ⟨⟨x5, x6, x7, x8, xo, xp, xt, xu⟩, g7, g8, rfl, hM, hb1⟩
  have IX := hM.make
  have hW1 := (On.mk hW.out (Nat.le_of_lt g1)).go hb1
  clear d0 d1 d2 d3 d4 d5 d6 d7 d8 d9 d10
  clear hM hb1 hW H g7 g8 HT
  generalize makeI S = X at *
  have hN := below_new w1 (.cells #[.int .i64 X.fin, .int .i64 X.tm, .int .i64 X.tr, .int .i64 X.bm, .int .i64 X.br, .slice x5 X.sats.length x6, .slice x7 X.custs.length x8, .slice xo X.cost.length xp, .slice xt X.time.length xu] 29)
  replace hW1 := Lib.hid (hW1.go hN)
  replace IX := Lib.hid (IX.below hN)
  have hn1 := Lib.hid (heap_alloc_new w1 (.cells #[.int .i64 X.fin, .int .i64 X.tm, .int .i64 X.tr, .int .i64 X.bm, .int .i64 X.br, .slice x5 X.sats.length x6, .slice x7 X.custs.length x8, .slice xo X.cost.length xp, .slice xt X.time.length xu] 29))
  clear hN
  go_upto_region 4 with fail
  generalize w1.alloc (.cells #[.int .i64 X.fin, .int .i64 X.tm, .int .i64 X.tr, .int .i64 X.bm, .int .i64 X.br, .slice x5 X.sats.length x6, .slice x7 X.custs.length x8, .slice xo X.cost.length xp, .slice xt X.time.length xu] 29) = w2 at *
  generalize w1.heap.size = gx at *
  have RX : ∀ wz : World, Below w2.heap.size w2 wz → wz.rangeAt gx 0 [.int .i64 X.fin, .int .i64 X.tm, .int .i64 X.tr, .int .i64 X.bm, .int .i64 X.br, .slice x5 X.sats.length x6, .slice x7 X.custs.length x8, .slice xo X.cost.length xp, .slice xt X.time.length xu] := fun wz hz => range_cells (fun j v hv => by rw [cell_of_row wz gx j _ _ _ ((hz.block gx (heap_lt hn1.out)).trans hn1.out), ← hv]; simp)
  replace RX := Lib.hid RX
  have HW := Lib.hid (Below.refl w2.heap.size w2).drew
  have hSA := Lib.hid (fun w (J : InstIs w X ⟨x5, x6, x7, x8, xo, xp, xt, xu⟩) => show_any X ⟨x5, x6, x7, x8, xo, xp, xt, xu⟩ K.out w J)
  have hSB := Lib.hid (fun w (J : InstIs w X ⟨x5, x6, x7, x8, xo, xp, xt, xu⟩) => tells_any X ⟨x5, x6, x7, x8, xo, xp, xt, xu⟩ K.out w J)
  generalize showTx X = TA at *
  refine wp_region_N (fun j => decide (j < 6)) (fun wz => Below w2.heap.size w2 wz) (by kernel_rfl) HW.out (fun hShut hHeld => ?_)
  refine wpAnyN_take_0 (v := .agg (List.toArray [.int .i64 X.fin, .int .i64 X.tm, .int .i64 X.tr, .int .i64 X.bm, .int .i64 X.br, .slice x5 X.sats.length x6, .slice x7 X.custs.length x8, .slice xo X.cost.length xp, .slice xt X.time.length xu])) (by kernel_rfl) (by kernel_rfl) (by kernel_rfl) (by kernel_rfl) (fun _ _ _ h => h) (yieldsIf_load_mid (by rfl) 29 _ rfl gx 0 rfl _ _ (fun wz hz => RX.out wz hz) Try.underlying29 rfl (by kernel_rfl)) hHeld hShut (fun hS2 => ?_)
  clear hShut
  have hShut := hS2
  clear hS2
  try simp only [Act.put, List.setIfInBounds_toArray, List.set_cons_zero, List.set_cons_succ]
  refine wpAnyN_take_2 (v := .agg (List.toArray [.int .i64 X.fin, .int .i64 X.tm, .int .i64 X.tr, .int .i64 X.bm, .int .i64 X.br, .slice x5 X.sats.length x6, .slice x7 X.custs.length x8, .slice xo X.cost.length xp, .slice xt X.time.length xu])) (by kernel_rfl) (by kernel_rfl) (by kernel_rfl) (by kernel_rfl) (fun _ _ _ h => h) (yieldsIf_load_mid (by rfl) 29 _ rfl gx 0 rfl _ _ (fun wz hz => RX.out wz hz) Try.underlying29 rfl (by kernel_rfl)) hHeld hShut (fun hS2 => ?_)
  clear hShut
  have hShut := hS2
  clear hS2
  try simp only [Act.put, List.setIfInBounds_toArray, List.set_cons_zero, List.set_cons_succ]
  refine wpAnyN_one_1 (by kernel_rfl) (by exact hShut) (fun K hK => ?_)
  go_simp
  refine (hSA.out _ (IX.out.below HW.out)).mono ?_
  rintro e wz1 ⟨rfl, hbz⟩
  go_wp2_with fail
  replace HW := Lib.hid (HW.out.trans (hbz.mono HW.out.size))
  clear hbz
  refine hK.out _ _ (fun _ => (by exact HW.out)) (fun hH hS2 => ?_)
  clear hK K hHeld hShut
  have hShut := hS2
  clear hS2
  have hHeld := hH rfl
  clear hH
  try simp only [Act.put, List.setIfInBounds_toArray, List.set_cons_zero, List.set_cons_succ]
  refine wpAnyN_one_3 (by kernel_rfl) (by exact hShut) (fun K hK => ?_)
  go_simp
  refine (hSB.out _ (IX.out.below HW.out)).mono ?_
  rintro e wz3 ⟨rfl, hbz⟩
  go_wp2_with fail
  replace HW := Lib.hid (HW.out.trans (hbz.mono HW.out.size))
  clear hbz
  refine hK.out _ _ (fun _ => (by exact HW.out)) (fun hH hS2 => ?_)
  clear hK K hHeld hShut
  have hShut := hS2
  clear hS2
  have hHeld := hH rfl
  clear hH
  try simp only [Act.put, List.setIfInBounds_toArray, List.set_cons_zero, List.set_cons_succ]
  refine wpAnyN_take_4 (v := ?v1n) ?_ ?_ ?_ ?_ ?_ ?hy1n ?_ ?_ ?_
  case hy1n =>
    refine Or.inl ⟨by rfl, ?_⟩
    intro w hSw
    try dsimp only at hSw
    go_simp
    try with_reducible rfl
  · kernel_rfl
  · kernel_rfl
  · kernel_rfl
  · kernel_rfl
  · exact fun _ _ _ h => h
  · exact hHeld
  · exact hShut
  clear hShut
  intro hShut
  try simp only [Act.put, List.setIfInBounds_toArray, List.set_cons_zero, List.set_cons_succ]
  refine wpAnyN_take_5 (v := ?v2n) ?_ ?_ ?_ ?_ ?_ ?hy2n ?_ ?_ ?_
  case hy2n =>
    refine Or.inl ⟨by rfl, ?_⟩
    intro w hSw
    try dsimp only at hSw
    go_simp
    try with_reducible rfl
  · kernel_rfl
  · kernel_rfl
  · kernel_rfl
  · kernel_rfl
  · exact fun _ _ _ h => h
  · exact hHeld
  · exact hShut
  clear hShut
  intro hShut
  try simp only [Act.put, List.setIfInBounds_toArray, List.set_cons_zero, List.set_cons_succ]
  refine wpAnyN_done (by kernel_rfl) ?_ _
  go_wp2_with fail
  go_ret
  exact ⟨rfl, by first | exact (hW1.out.go HW.out).b | (rw [hg.out]; exact (hW1.out.go HW.out).b)⟩
theorem law_ShowTexts (w : World) (v : Value) (hv : ∃ (S : SmallD) (h : SmallH), v = .agg (smallC S h) ∧ SmallIs w S h) :
    Calls Try.prog 9 #[v] w fun e w' => e = .returned (.bool true) ∧ Below w.heap.size w w' := by
  obtain ⟨S, h, rfl, H⟩ := hv
  exact walk_ShowTexts w S h H
end Go.Proofs.Ytljcpgeggbbmfaa
