/-
  The walk of InstClones (layer 11).
-/
import Derived.Test.YthiinlkpakinlaaLo
import Derived.Test.YthiinlkpakinlaaSame5
import Derived.Test.YthiinlkpakinlaaLaws11
namespace Go.Proofs.Ythiinlkpakinlaa
set_option linter.unusedVariables false
set_option linter.unusedSimpArgs false
open Go.RowKit
theorem make_code (S : SmallD) (h : S.fin < 256 ∧ (∀ s ∈ S.sats, s.room < 256 ∧ s.hold < 256) ∧ ∀ c ∈ S.custs, c.load < 256 ∧ c.opn < 256 ∧ c.wide < 256 ∧ c.stay < 256) : codeI (makeI S) = 0 := code_make S h.1 h.2.1 h.2.2
theorem make_rows (S : SmallD) : (makeI S).cost.length = nodesN (makeI S) ∧ (makeI S).time.length = nodesN (makeI S) ∧ (∀ r ∈ (makeI S).cost, r.length = nodesN (makeI S)) ∧ (∀ r ∈ (makeI S).time, r.length = nodesN (makeI S)) ∧ nodesN (makeI S) ≤ 10 := by
  have h1 := satsI_len S
  have h2 := custsI_len S
  refine ⟨makeI_cost S, makeI_time S, fun r hr => ?_, fun r hr => ?_, ?_⟩
  · obtain ⟨i, _, rfl⟩ := List.mem_map.1 (show r ∈ matM S.cost (nodesI S) from hr)
    exact rowM_length _ _ _
  · obtain ⟨i, _, rfl⟩ := List.mem_map.1 (show r ∈ matM S.time (nodesI S) from hr)
    exact rowM_length _ _ _
  · show 1 + (satsI S).length + (custsI S).length ≤ 10; omega
theorem samel_made (X : InstD) (S : SmallD) (hX : makeI S = X) (h h' : HdD) (w : World) (IX : InstIs w X h) (IY : InstIs w (makeI S) h') :
    Calls Try.prog 18 #[.agg (instC X h), .agg (instC (makeI S) h')] w fun e w' => e = .returned (.bool true) ∧ Below w.heap.size w w' :=
  (samel_any X (makeI S) h h' w IX IY).mono fun e w' ⟨he, hb⟩ => ⟨by rw [he, hX, sameB_self], hb⟩
theorem check_ok (X : InstD) (h : HdD) (w : World) (H : InstIs w X h) (hc : codeI X = 0) (ls : X.sats.length ≤ 1000000) (lc : X.custs.length ≤ 1000000) :
    Calls Try.prog 10 #[.agg (instC X h)] w fun e w' => e = .returned (.int .i64 0) ∧ Below w.heap.size w w' :=
  (check_any X h w H ls lc).mono fun e w' ⟨he, hb⟩ => ⟨by rw [he, hc], hb⟩
set_option maxHeartbeats 8000000 in
set_option maxRecDepth 100000 in
theorem walk_InstClones (w : World) (S : SmallD) (h : SmallH) (H : SmallIs w S h) (n : Int) :
    Calls Try.prog 6 #[.agg (smallC S h), .int .i64 n] w fun e w' => e = .returned (.bool true) ∧ Below w.heap.size w w' := by
  obtain ⟨sa, sc, ca, cc, oa, oc, ta, tc⟩ := h
  have BW := (Below.refl w.heap.size w).alloc (Nat.le_refl _) (.cells #[Value.int .u8 S.fin, .int .u8 S.tm, .int .u8 S.tr, .int .u8 S.bm, .int .u8 S.br, .slice sa S.sats.length sc, .slice ca S.custs.length cc, .slice oa S.cost.length oc, .slice ta S.time.length tc, .bool S.tight, .bool S.loose] 38)
  have hSm := Lib.hid (⟨H.b1, H.bs, H.bc⟩ : S.fin < 256 ∧ (∀ s ∈ S.sats, s.room < 256 ∧ s.hold < 256) ∧ ∀ c ∈ S.custs, c.load < 256 ∧ c.opn < 256 ∧ c.wide < 256 ∧ c.stay < 256)
  replace H := Lib.hid (H.below BW)
  have DD : ∀ j u, #[Value.int .u8 S.fin, .int .u8 S.tm, .int .u8 S.tr, .int .u8 S.bm, .int .u8 S.br, .slice sa S.sats.length sc, .slice ca S.custs.length cc, .slice oa S.cost.length oc, .slice ta S.time.length tc, .bool S.tight, .bool S.loose][j]? = some u → (w.alloc (.cells #[Value.int .u8 S.fin, .int .u8 S.tm, .int .u8 S.tr, .int .u8 S.bm, .int .u8 S.br, .slice sa S.sats.length sc, .slice ca S.custs.length cc, .slice oa S.cost.length oc, .slice ta S.time.length tc, .bool S.tight, .bool S.loose] 38)).cell? ⟨w.heap.size, j, none⟩ = some u := fun j u hu => by rw [World.cell?_alloc_new]; exact hu
  have gA : w.heap.size < (w.alloc (.cells #[Value.int .u8 S.fin, .int .u8 S.tm, .int .u8 S.tr, .int .u8 S.bm, .int .u8 S.br, .slice sa S.sats.length sc, .slice ca S.custs.length cc, .slice oa S.cost.length oc, .slice ta S.time.length tc, .bool S.tight, .bool S.loose] 38)).heap.size := by simp
  replace DD := Lib.hid DD
  replace BW := Lib.hid BW
  go_enter Try.func6, Try.ntmps6
  go_wp2_with fail
  refine (awake_any _).mono ?_
  rintro e W ⟨rfl, hA⟩
  generalize (w.alloc (.cells #[Value.int .u8 S.fin, .int .u8 S.tm, .int .u8 S.tr, .int .u8 S.bm, .int .u8 S.br, .slice sa S.sats.length sc, .slice ca S.custs.length cc, .slice oa S.cost.length oc, .slice ta S.time.length tc, .bool S.tight, .bool S.loose] 38)) = WA at *
  generalize hg : w.heap.size = g at *
  replace hg := Lib.hid hg
  replace H := Lib.hid (H.out.below hA)
  have d0 : W.cell? ⟨g, 0, none⟩ = some (.int .u8 S.fin) := keep_cell hA (DD.out 0 _ rfl)
  have d1 : W.cell? ⟨g, 1, none⟩ = some (.int .u8 S.tm) := keep_cell hA (DD.out 1 _ rfl)
  have d2 : W.cell? ⟨g, 2, none⟩ = some (.int .u8 S.tr) := keep_cell hA (DD.out 2 _ rfl)
  have d3 : W.cell? ⟨g, 3, none⟩ = some (.int .u8 S.bm) := keep_cell hA (DD.out 3 _ rfl)
  have d4 : W.cell? ⟨g, 4, none⟩ = some (.int .u8 S.br) := keep_cell hA (DD.out 4 _ rfl)
  have d5 : W.cell? ⟨g, 5, none⟩ = some (.slice sa S.sats.length sc) := keep_cell hA (DD.out 5 _ rfl)
  have d6 : W.cell? ⟨g, 6, none⟩ = some (.slice ca S.custs.length cc) := keep_cell hA (DD.out 6 _ rfl)
  have d7 : W.cell? ⟨g, 7, none⟩ = some (.slice oa S.cost.length oc) := keep_cell hA (DD.out 7 _ rfl)
  have d8 : W.cell? ⟨g, 8, none⟩ = some (.slice ta S.time.length tc) := keep_cell hA (DD.out 8 _ rfl)
  have d9 : W.cell? ⟨g, 9, none⟩ = some (.bool S.tight) := keep_cell hA (DD.out 9 _ rfl)
  have d10 : W.cell? ⟨g, 10, none⟩ = some (.bool S.loose) := keep_cell hA (DD.out 10 _ rfl)
  have g1 : g < W.heap.size := Nat.lt_of_lt_of_le gA hA.size
  have hW := Lib.hid (BW.out.trans (hA.mono (by have := hg.out; have := gA; omega)))
  clear BW hA gA DD
  go_wp2_with fail
  refine (make_any S ⟨sa, sc, ca, cc, oa, oc, ta, tc⟩ _ H.out).mono ?_
  rintro e w1 ⟨hx, g7, g8, rfl, hM, hb1⟩
  have hmr := Lib.hid (make_rows S)
  have hco := Lib.hid (make_code S hSm.out)
  have hml := Lib.hid (make_len S)
  generalize hX : makeI S = X at *
  replace hX := Lib.hid hX
  obtain ⟨x5, x6, x7, x8, xo, xp, xt, xu⟩ := hx
  dsimp only [instC]
  replace d0 := keep_cell hb1 d0
  replace d1 := keep_cell hb1 d1
  replace d2 := keep_cell hb1 d2
  replace d3 := keep_cell hb1 d3
  replace d4 := keep_cell hb1 d4
  replace d5 := keep_cell hb1 d5
  replace d6 := keep_cell hb1 d6
  replace d7 := keep_cell hb1 d7
  replace d8 := keep_cell hb1 d8
  replace d9 := keep_cell hb1 d9
  replace d10 := keep_cell hb1 d10
  have IX := hM.is (by have := hml.out.1; omega) (by have := hml.out.2.1; omega) (by have := hml.out.2.2.1; omega) (by have := hml.out.2.2.2; omega)
  have g2 : g < w1.heap.size := Nat.lt_of_lt_of_le g1 hb1.size
  have hb2 := Lib.hid (hW.out.trans (hb1.mono (Nat.le_of_lt g1)))
  have HS1 := Lib.hid (H.out.below hb1)
  clear hb1 hM
  go_upto_region 4 with fail
  generalize hW2 : (w1.alloc (.cells #[Value.int .i64 X.fin, .int .i64 X.tm, .int .i64 X.tr, .int .i64 X.bm, .int .i64 X.br, .slice x5 X.sats.length x6, .slice x7 X.custs.length x8, .slice xo X.cost.length xp, .slice xt X.time.length xu] 28)) = W2 at *
  obtain ⟨e1, e2, e3⟩ := box_new _ _ W2 hW2
  generalize hgx : w1.heap.size = gx at *
  have q0 : W2.cell? ⟨gx, 0, none⟩ = some (.int .i64 X.fin) := cell_of_row W2 gx 0 _ _ _ e1
  have q1 : W2.cell? ⟨gx, 1, none⟩ = some (.int .i64 X.tm) := cell_of_row W2 gx 1 _ _ _ e1
  have q2 : W2.cell? ⟨gx, 2, none⟩ = some (.int .i64 X.tr) := cell_of_row W2 gx 2 _ _ _ e1
  have q3 : W2.cell? ⟨gx, 3, none⟩ = some (.int .i64 X.bm) := cell_of_row W2 gx 3 _ _ _ e1
  have q4 : W2.cell? ⟨gx, 4, none⟩ = some (.int .i64 X.br) := cell_of_row W2 gx 4 _ _ _ e1
  have q5 : W2.cell? ⟨gx, 5, none⟩ = some (.slice x5 X.sats.length x6) := cell_of_row W2 gx 5 _ _ _ e1
  have q6 : W2.cell? ⟨gx, 6, none⟩ = some (.slice x7 X.custs.length x8) := cell_of_row W2 gx 6 _ _ _ e1
  have q7 : W2.cell? ⟨gx, 7, none⟩ = some (.slice xo X.cost.length xp) := cell_of_row W2 gx 7 _ _ _ e1
  have q8 : W2.cell? ⟨gx, 8, none⟩ = some (.slice xt X.time.length xu) := cell_of_row W2 gx 8 _ _ _ e1
  replace d0 := keep_cell (by rw [hgx]; exact e2) d0
  replace d1 := keep_cell (by rw [hgx]; exact e2) d1
  replace d2 := keep_cell (by rw [hgx]; exact e2) d2
  replace d3 := keep_cell (by rw [hgx]; exact e2) d3
  replace d4 := keep_cell (by rw [hgx]; exact e2) d4
  replace d5 := keep_cell (by rw [hgx]; exact e2) d5
  replace d6 := keep_cell (by rw [hgx]; exact e2) d6
  replace d7 := keep_cell (by rw [hgx]; exact e2) d7
  replace d8 := keep_cell (by rw [hgx]; exact e2) d8
  replace d9 := keep_cell (by rw [hgx]; exact e2) d9
  replace d10 := keep_cell (by rw [hgx]; exact e2) d10
  have IX2 := Lib.hid (IX.below (by rw [hgx]; exact e2))
  have HS2 := Lib.hid (HS1.out.below (by rw [hgx]; exact e2))
  have hb3 := Lib.hid (hb2.out.trans (e2.mono (Nat.le_of_lt g2)))
  have g3 : g < gx := g2
  have g4 : gx < W2.heap.size := by omega
  have KQ : ∀ w' : World, Below W2.heap.size W2 w' → (w'.cell? ⟨gx, 0, none⟩ = some (.int .i64 X.fin) ∧ w'.cell? ⟨gx, 1, none⟩ = some (.int .i64 X.tm) ∧ w'.cell? ⟨gx, 2, none⟩ = some (.int .i64 X.tr) ∧ w'.cell? ⟨gx, 3, none⟩ = some (.int .i64 X.bm) ∧ w'.cell? ⟨gx, 4, none⟩ = some (.int .i64 X.br) ∧ w'.cell? ⟨gx, 5, none⟩ = some (.slice x5 X.sats.length x6) ∧ w'.cell? ⟨gx, 6, none⟩ = some (.slice x7 X.custs.length x8) ∧ w'.cell? ⟨gx, 7, none⟩ = some (.slice xo X.cost.length xp) ∧ w'.cell? ⟨gx, 8, none⟩ = some (.slice xt X.time.length xu)) ∧ (w'.cell? ⟨g, 0, none⟩ = some (.int .u8 S.fin) ∧ w'.cell? ⟨g, 1, none⟩ = some (.int .u8 S.tm) ∧ w'.cell? ⟨g, 2, none⟩ = some (.int .u8 S.tr) ∧ w'.cell? ⟨g, 3, none⟩ = some (.int .u8 S.bm) ∧ w'.cell? ⟨g, 4, none⟩ = some (.int .u8 S.br) ∧ w'.cell? ⟨g, 5, none⟩ = some (.slice sa S.sats.length sc) ∧ w'.cell? ⟨g, 6, none⟩ = some (.slice ca S.custs.length cc) ∧ w'.cell? ⟨g, 7, none⟩ = some (.slice oa S.cost.length oc) ∧ w'.cell? ⟨g, 8, none⟩ = some (.slice ta S.time.length tc) ∧ w'.cell? ⟨g, 9, none⟩ = some (.bool S.tight) ∧ w'.cell? ⟨g, 10, none⟩ = some (.bool S.loose)) := fun w' hb => ⟨⟨keep_cell hb q0, keep_cell hb q1, keep_cell hb q2, keep_cell hb q3, keep_cell hb q4, keep_cell hb q5, keep_cell hb q6, keep_cell hb q7, keep_cell hb q8⟩, ⟨keep_cell hb d0, keep_cell hb d1, keep_cell hb d2, keep_cell hb d3, keep_cell hb d4, keep_cell hb d5, keep_cell hb d6, keep_cell hb d7, keep_cell hb d8, keep_cell hb d9, keep_cell hb d10⟩⟩
  replace KQ := Lib.hid KQ
  clear hW2 e1 e2 e3 IX hb2
  go_wp2_with fail
  refine (clone_any X ⟨x5, x6, x7, x8, xo, xp, xt, xu⟩ _ IX2.out (by have := hml.out; omega) (by have := hml.out; omega) (by have := hml.out; omega) (by have := hml.out; omega) (fun r hr => by have := hmr.out.2.2.1 r hr; have := hmr.out.2.2.2.2; omega) (fun r hr => by have := hmr.out.2.2.2.1 r hr; have := hmr.out.2.2.2.2; omega)).mono ?_
  rintro e w3 ⟨hy, h7, h8, rfl, hC, hb4⟩
  obtain ⟨y5, y6, y7, y8, yo, yp, yt, yu⟩ := hy
  dsimp only [instC]
  replace d0 := keep_cell hb4 d0
  replace d1 := keep_cell hb4 d1
  replace d2 := keep_cell hb4 d2
  replace d3 := keep_cell hb4 d3
  replace d4 := keep_cell hb4 d4
  replace d5 := keep_cell hb4 d5
  replace d6 := keep_cell hb4 d6
  replace d7 := keep_cell hb4 d7
  replace d8 := keep_cell hb4 d8
  replace d9 := keep_cell hb4 d9
  replace d10 := keep_cell hb4 d10
  replace q0 := keep_cell hb4 q0
  replace q1 := keep_cell hb4 q1
  replace q2 := keep_cell hb4 q2
  replace q3 := keep_cell hb4 q3
  replace q4 := keep_cell hb4 q4
  replace q5 := keep_cell hb4 q5
  replace q6 := keep_cell hb4 q6
  replace q7 := keep_cell hb4 q7
  replace q8 := keep_cell hb4 q8
  have z4 := hb4.size
  go_upto_region 5 with fail
  generalize hW4 : (w3.alloc (.cells #[Value.int .i64 X.fin, .int .i64 X.tm, .int .i64 X.tr, .int .i64 X.bm, .int .i64 X.br, .slice y5 X.sats.length y6, .slice y7 X.custs.length y8, .slice yo X.cost.length yp, .slice yt X.time.length yu] 28)) = W4 at *
  obtain ⟨e1, e2, e3⟩ := box_new _ _ W4 hW4
  obtain ⟨M, hMM, HI⟩ := ClI.of (nn := nodesN X) hC hb4 hmr.out.2.2.1 hmr.out.2.2.2.1 e1 e2
  clear hW4 e1 e2 e3 hC hb4 d0 d1 d2 d3 d4 d5 d6 d7 d8 d9 d10 q0 q1 q2 q3 q4 q5 q6 q7 q8
  dsimp only at HI
  generalize hgy : w3.heap.size = gy at *
  have c5 := HI.cell 5 _ rfl
  have hns : (X.sats.length : Int) ≤ 3 := by have := hml.out; omega
  replace HI := Lib.hid HI
  go_wp2_with fail
  clear c5
  go_loopw [20] (fun i wr => ∃ k : Nat, k ≤ X.sats.length ∧ i = .int .i64 k ∧ ClI W2 gy M X.sats.length X.custs.length X.cost.length X.time.length (nodesN X) #[Value.int .i64 X.fin, .int .i64 X.tm, .int .i64 X.tr, .int .i64 X.bm, .int .i64 X.br, .slice y5 X.sats.length y6, .slice y7 X.custs.length y8, .slice yo X.cost.length yp, .slice yt X.time.length yu] y5 y7 yo yt yp yu wr) (fun i _ => X.sats.length - (intOf i).toNat)
  case atStart => exact ⟨0, Nat.zero_le _, rfl, HI.out⟩
  case round =>
    clear HI
    obtain ⟨k, hk, rfl, HI⟩ := hrel
    by_cases hkl : k < X.sats.length
    · have c5 := HI.cell 5 _ rfl
      obtain ⟨gb, cur, rfl, hB, hM2, hh, hr⟩ := HI.sats.at hkl (by decide)
      obtain ⟨⟨v, hv⟩, hf⟩ := hr 0 (by decide)
      rw [Nat.add_zero] at hv hf
      clear hr
      have k0 : (0 : Int) ≤ (k : Int) := by omega
      have k1 : (k : Int) < (X.sats.length : Int) := by omega
      replace HI := Lib.hid HI
      replace hh := Lib.hid hh
      go_wp2_with fail
      go_roundw
      case rel => exact ⟨k + 1, by omega, by go_num, HI.out.set (p := ⟨gb, k * 2, none⟩) hh.out hB hM2 (by decide) _⟩
      case measure => simp [intOf]; omega
    · obtain rfl : k = X.sats.length := by omega
      have c6 := HI.cell 6 _ rfl
      have hnc : (X.custs.length : Int) ≤ 6 := by have := hml.out; omega
      replace HI := Lib.hid HI
      go_wp2_with fail
      clear c6
      go_loopw [33] (fun i wr => ∃ k : Nat, k ≤ X.custs.length ∧ i = .int .i64 k ∧ ClI W2 gy M X.sats.length X.custs.length X.cost.length X.time.length (nodesN X) #[Value.int .i64 X.fin, .int .i64 X.tm, .int .i64 X.tr, .int .i64 X.bm, .int .i64 X.br, .slice y5 X.sats.length y6, .slice y7 X.custs.length y8, .slice yo X.cost.length yp, .slice yt X.time.length yu] y5 y7 yo yt yp yu wr) (fun i _ => X.custs.length - (intOf i).toNat)
      case atStart => exact ⟨0, Nat.zero_le _, rfl, HI.out⟩
      case round =>
        clear HI
        obtain ⟨k, hk, rfl, HI⟩ := hrel
        by_cases hkl : k < X.custs.length
        · have c6 := HI.cell 6 _ rfl
          obtain ⟨gb, cur, rfl, hB, hM2, hh, hr⟩ := HI.custs.at hkl (by decide)
          obtain ⟨⟨v, hv⟩, hf⟩ := hr 0 (by decide)
          rw [Nat.add_zero] at hv hf
          clear hr
          have k0 : (0 : Int) ≤ (k : Int) := by omega
          have k1 : (k : Int) < (X.custs.length : Int) := by omega
          replace HI := Lib.hid HI
          replace hh := Lib.hid hh
          go_wp2_with fail
          go_roundw
          case rel => exact ⟨k + 1, by omega, by go_num, HI.out.set (p := ⟨gb, k * 4, none⟩) hh.out hB hM2 (by decide) _⟩
          case measure => simp [intOf]; omega
        · obtain rfl : k = X.custs.length := by omega
          have c7 := HI.cell 7 _ rfl
          have ho : (X.cost.length : Int) ≤ 10 := by have := hml.out; omega
          have hnn : (nodesN X : Int) ≤ 10 := by have := hmr.out.2.2.2.2; omega
          have htl := Lib.hid (show X.time.length = X.cost.length by rw [hmr.out.1, hmr.out.2.1])
          replace HI := Lib.hid HI
          go_wp2_with fail
          clear c7
          go_loopw [46] (fun i wr => ∃ k : Nat, k ≤ X.cost.length ∧ i = .int .i64 k ∧ ClI W2 gy M X.sats.length X.custs.length X.cost.length X.time.length (nodesN X) #[Value.int .i64 X.fin, .int .i64 X.tm, .int .i64 X.tr, .int .i64 X.bm, .int .i64 X.br, .slice y5 X.sats.length y6, .slice y7 X.custs.length y8, .slice yo X.cost.length yp, .slice yt X.time.length yu] y5 y7 yo yt yp yu wr) (fun i _ => X.cost.length - (intOf i).toNat)
          case atStart => exact ⟨0, Nat.zero_le _, rfl, HI.out⟩
          case round =>
            clear HI
            obtain ⟨i, hi, rfl, HI⟩ := hrel
            by_cases hil : i < X.cost.length
            · have c7 := HI.cell 7 _ rfl
              obtain ⟨ga, a, c, rfl, hca, hlo⟩ := HI.cost.at hil
              have k0 : (0 : Int) ≤ (i : Int) := by omega
              have k1 : (i : Int) < (X.cost.length : Int) := by omega
              replace HI := Lib.hid HI
              replace hlo := Lib.hid hlo
              go_wp2_with fail
              clear c7 hca hlo
              go_loopw [55] (fun i wr => ∃ k : Nat, k ≤ nodesN X ∧ i = .int .i64 k ∧ ClI W2 gy M X.sats.length X.custs.length X.cost.length X.time.length (nodesN X) #[Value.int .i64 X.fin, .int .i64 X.tm, .int .i64 X.tr, .int .i64 X.bm, .int .i64 X.br, .slice y5 X.sats.length y6, .slice y7 X.custs.length y8, .slice (some ⟨ga, 0, none⟩) X.cost.length yp, .slice yt X.time.length yu] y5 y7 (some ⟨ga, 0, none⟩) yt yp yu wr) (fun i _ => nodesN X - (intOf i).toNat)
              case atStart => exact ⟨0, Nat.zero_le _, rfl, HI.out⟩
              case round =>
                clear HI
                obtain ⟨k, hk, rfl, HI⟩ := hrel
                by_cases hkl : k < nodesN X
                · have c7 := HI.cell 7 _ rfl
                  have c8 := HI.cell 8 _ rfl
                  obtain ⟨ga', a, c, hga, hca, hlo⟩ := HI.cost.at hil
                  injection hga with hga
                  injection hga with hga
                  subst hga
                  obtain ⟨gb, a2, c2, rfl, hcb, hlo2⟩ := HI.time.at (i := i) (by have := htl.out; omega)
                  obtain ⟨gc, cur, rfl, hB, hM2, hh, hr⟩ := hlo.at hkl (by decide)
                  obtain ⟨⟨v, hv⟩, hf⟩ := hr 0 (by decide)
                  obtain ⟨gd, cur2, rfl, hB2, hM3, hh2, hr2⟩ := hlo2.at hkl (by decide)
                  obtain ⟨⟨v2, hv2⟩, hf2⟩ := hr2 0 (by decide)
                  rw [Nat.mul_one, Nat.add_zero] at hv hf hv2 hf2
                  have hne : ¬ gd = gc := by omega
                  have hne2 : ¬ gc = gd := by omega
                  clear hr hr2 hlo hlo2
                  have j0 : (0 : Int) ≤ (k : Int) := by omega
                  have j1 : (k : Int) < (nodesN X : Int) := by omega
                  have k2 : (i : Int) < (X.time.length : Int) := by have := htl.out; omega
                  replace HI := Lib.hid HI
                  replace hh := Lib.hid hh
                  replace hh2 := Lib.hid hh2
                  go_wp2_with fail
                  go_region
                  go_wp2_with fail
                  go_roundw
                  case rel => exact ⟨k + 1, by omega, by go_num, ((HI.out.set (p := ⟨gc, k, none⟩) hh.out hB (by show gc < gy; omega) (by decide) _).set (p := ⟨gd, k, none⟩) ((heap_setCell_other _ _ gd _ hne).trans hh2.out) (by show W2.heap.size ≤ gd; omega) hM3 (by decide) _).drew⟩
                  case measure => simp [intOf]; omega
                · obtain rfl : k = nodesN X := by omega
                  replace HI := Lib.hid HI
                  go_wp2_with fail
                  go_roundw
                  case rel => exact ⟨i + 1, by omega, by go_num, HI.out⟩
                  case measure => simp [intOf]; omega
            · obtain rfl : i = X.cost.length := by omega
              have hB9 := HI.below
              obtain ⟨⟨q0, q1, q2, q3, q4, q5, q6, q7, q8⟩, ⟨d0, d1, d2, d3, d4, d5, d6, d7, d8, d9, d10⟩⟩ := KQ.out _ hB9
              have IX9 := Lib.hid (IX2.out.below hB9)
              have HS9 := Lib.hid (HS2.out.below hB9)
              have hz9 := hB9.size
              have hb9 := Lib.hid (hb3.out.trans (hB9.mono (by omega)))
              have g9 : g < wr.heap.size := by omega
              have x9 : gx < wr.heap.size := by omega
              clear HI hB9 KQ
              have hb0 := Below.refl wr.heap.size wr
              have KS : ∀ w' : World, Below wr.heap.size wr w' → ((w'.cell? ⟨gx, 0, none⟩ = some (.int .i64 X.fin) ∧ w'.cell? ⟨gx, 1, none⟩ = some (.int .i64 X.tm) ∧ w'.cell? ⟨gx, 2, none⟩ = some (.int .i64 X.tr) ∧ w'.cell? ⟨gx, 3, none⟩ = some (.int .i64 X.bm) ∧ w'.cell? ⟨gx, 4, none⟩ = some (.int .i64 X.br) ∧ w'.cell? ⟨gx, 5, none⟩ = some (.slice x5 X.sats.length x6) ∧ w'.cell? ⟨gx, 6, none⟩ = some (.slice x7 X.custs.length x8) ∧ w'.cell? ⟨gx, 7, none⟩ = some (.slice xo X.cost.length xp) ∧ w'.cell? ⟨gx, 8, none⟩ = some (.slice xt X.time.length xu)) ∧ (w'.cell? ⟨g, 0, none⟩ = some (.int .u8 S.fin) ∧ w'.cell? ⟨g, 1, none⟩ = some (.int .u8 S.tm) ∧ w'.cell? ⟨g, 2, none⟩ = some (.int .u8 S.tr) ∧ w'.cell? ⟨g, 3, none⟩ = some (.int .u8 S.bm) ∧ w'.cell? ⟨g, 4, none⟩ = some (.int .u8 S.br) ∧ w'.cell? ⟨g, 5, none⟩ = some (.slice sa S.sats.length sc) ∧ w'.cell? ⟨g, 6, none⟩ = some (.slice ca S.custs.length cc) ∧ w'.cell? ⟨g, 7, none⟩ = some (.slice oa S.cost.length oc) ∧ w'.cell? ⟨g, 8, none⟩ = some (.slice ta S.time.length tc) ∧ w'.cell? ⟨g, 9, none⟩ = some (.bool S.tight) ∧ w'.cell? ⟨g, 10, none⟩ = some (.bool S.loose)) ∧ Below wr.heap.size wr w') := fun w' hb => ⟨⟨keep_cell hb q0, keep_cell hb q1, keep_cell hb q2, keep_cell hb q3, keep_cell hb q4, keep_cell hb q5, keep_cell hb q6, keep_cell hb q7, keep_cell hb q8⟩, ⟨keep_cell hb d0, keep_cell hb d1, keep_cell hb d2, keep_cell hb d3, keep_cell hb d4, keep_cell hb d5, keep_cell hb d6, keep_cell hb d7, keep_cell hb d8, keep_cell hb d9, keep_cell hb d10⟩, hb⟩
              have KB : ∀ w' : World, ((w'.cell? ⟨gx, 0, none⟩ = some (.int .i64 X.fin) ∧ w'.cell? ⟨gx, 1, none⟩ = some (.int .i64 X.tm) ∧ w'.cell? ⟨gx, 2, none⟩ = some (.int .i64 X.tr) ∧ w'.cell? ⟨gx, 3, none⟩ = some (.int .i64 X.bm) ∧ w'.cell? ⟨gx, 4, none⟩ = some (.int .i64 X.br) ∧ w'.cell? ⟨gx, 5, none⟩ = some (.slice x5 X.sats.length x6) ∧ w'.cell? ⟨gx, 6, none⟩ = some (.slice x7 X.custs.length x8) ∧ w'.cell? ⟨gx, 7, none⟩ = some (.slice xo X.cost.length xp) ∧ w'.cell? ⟨gx, 8, none⟩ = some (.slice xt X.time.length xu)) ∧ (w'.cell? ⟨g, 0, none⟩ = some (.int .u8 S.fin) ∧ w'.cell? ⟨g, 1, none⟩ = some (.int .u8 S.tm) ∧ w'.cell? ⟨g, 2, none⟩ = some (.int .u8 S.tr) ∧ w'.cell? ⟨g, 3, none⟩ = some (.int .u8 S.bm) ∧ w'.cell? ⟨g, 4, none⟩ = some (.int .u8 S.br) ∧ w'.cell? ⟨g, 5, none⟩ = some (.slice sa S.sats.length sc) ∧ w'.cell? ⟨g, 6, none⟩ = some (.slice ca S.custs.length cc) ∧ w'.cell? ⟨g, 7, none⟩ = some (.slice oa S.cost.length oc) ∧ w'.cell? ⟨g, 8, none⟩ = some (.slice ta S.time.length tc) ∧ w'.cell? ⟨g, 9, none⟩ = some (.bool S.tight) ∧ w'.cell? ⟨g, 10, none⟩ = some (.bool S.loose)) ∧ Below wr.heap.size wr w') → Below wr.heap.size wr w' := fun w' h => h.2.2
              replace KB := Lib.hid KB
              replace KS := Lib.hid KS
              go_wp2_with fail
              go_region_held3 (fun w' => ((w'.cell? ⟨gx, 0, none⟩ = some (.int .i64 X.fin) ∧ w'.cell? ⟨gx, 1, none⟩ = some (.int .i64 X.tm) ∧ w'.cell? ⟨gx, 2, none⟩ = some (.int .i64 X.tr) ∧ w'.cell? ⟨gx, 3, none⟩ = some (.int .i64 X.bm) ∧ w'.cell? ⟨gx, 4, none⟩ = some (.int .i64 X.br) ∧ w'.cell? ⟨gx, 5, none⟩ = some (.slice x5 X.sats.length x6) ∧ w'.cell? ⟨gx, 6, none⟩ = some (.slice x7 X.custs.length x8) ∧ w'.cell? ⟨gx, 7, none⟩ = some (.slice xo X.cost.length xp) ∧ w'.cell? ⟨gx, 8, none⟩ = some (.slice xt X.time.length xu)) ∧ (w'.cell? ⟨g, 0, none⟩ = some (.int .u8 S.fin) ∧ w'.cell? ⟨g, 1, none⟩ = some (.int .u8 S.tm) ∧ w'.cell? ⟨g, 2, none⟩ = some (.int .u8 S.tr) ∧ w'.cell? ⟨g, 3, none⟩ = some (.int .u8 S.bm) ∧ w'.cell? ⟨g, 4, none⟩ = some (.int .u8 S.br) ∧ w'.cell? ⟨g, 5, none⟩ = some (.slice sa S.sats.length sc) ∧ w'.cell? ⟨g, 6, none⟩ = some (.slice ca S.custs.length cc) ∧ w'.cell? ⟨g, 7, none⟩ = some (.slice oa S.cost.length oc) ∧ w'.cell? ⟨g, 8, none⟩ = some (.slice ta S.time.length tc) ∧ w'.cell? ⟨g, 9, none⟩ = some (.bool S.tight) ∧ w'.cell? ⟨g, 10, none⟩ = some (.bool S.loose)) ∧ Below wr.heap.size wr w'))
                (first | exact KS.out _ (Below.drew hb0) | exact KS.out _ (keep_below (KB.out _ (by assumption)) (by assumption)))
                (first | (go_at_call 12; refine (make_any S ⟨sa, sc, ca, cc, oa, oc, ta, tc⟩ _ (HS9.out.below (KB.out _ (by assumption)))).mono ?_; rintro e wa ⟨hz, j7, j8, rfl, hMz, hb⟩; replace hMz := hMz.make) | (go_at_call 18; refine (samel_made X S hX.out ⟨x5, x6, x7, x8, xo, xp, xt, xu⟩ _ _ (IX9.out.below (KB.out _ (by assumption))) (by assumption)).mono ?_; rintro e wb ⟨rfl, hb⟩) | (go_at_call 10; refine (check_ok X ⟨x5, x6, x7, x8, xo, xp, xt, xu⟩ _ (IX9.out.below (KB.out _ (by assumption))) hco.out (by have := hml.out; omega) (by have := hml.out; omega)).mono ?_; rintro e wc ⟨rfl, hb⟩))
              have hE := KB.out _ (by assumption)
              go_wp2_with fail
              go_ret
              exact ⟨rfl, by have := hg.out; rw [this]; exact hb9.out.trans (hE.mono (by omega))⟩
theorem law_InstClones (w : World) (v : Value) (H : ∃ (S : SmallD) (h : SmallH), v = .agg (smallC S h) ∧ SmallIs w S h) (n : Int) (hn : (Lit.int .i64 n).wf = true) :
    Calls Try.prog 6 #[v, .int .i64 n] w fun e w' => e = .returned (.bool true) ∧ Below w.heap.size w w' := by
  obtain ⟨S, h, rfl, H⟩ := H
  exact walk_InstClones w S h H n
end Go.Proofs.Ythiinlkpakinlaa
