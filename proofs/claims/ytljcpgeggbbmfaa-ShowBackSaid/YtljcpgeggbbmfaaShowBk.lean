/-
  The walk of ShowBack (layer 13).
-/
import Derived.Test.YtljcpgeggbbmfaaBk
import Derived.Deep.DeepCutAuto
import Derived.Deep.CutBlock
import Derived.IntWalk
namespace Go.Proofs.Ytljcpgeggbbmfaa
set_option linter.unusedVariables false
set_option linter.unusedSimpArgs false
open Go.RowKit
theorem sb_range {w : World} {g : Nat} {X : InstD} {h : HdD} {T : TypeId} (hB : w.heap[g]? = some (.cells (instC X h) T (0, 0))) : w.rangeAt g 0 [.int .i64 X.fin, .int .i64 X.tm, .int .i64 X.tr, .int .i64 X.bm, .int .i64 X.br, .slice h.sa X.sats.length h.sc, .slice h.ca X.custs.length h.cc, .slice h.oa X.cost.length h.oc, .slice h.ta X.time.length h.tc] :=
  range_cells (fun j v hv => by rw [cell_of_row w g j _ _ _ hB, ← hv]; unfold instC; simp)
theorem check0 (X : InstD) (h : HdD) (K : ReadOk X) (w : World) (H : InstIs w X h) :
    Calls Try.prog 27 #[.agg (instC X h)] w fun e w' => e = .returned (.int .i64 0) ∧ Below w.heap.size w w' :=
  (check_any X h w H (by have := K.s2; omega) (by have := K.c2; omega)).mono fun e w' ⟨he, hb⟩ => ⟨by rw [he, K.code], hb⟩
set_option maxHeartbeats 40000000 in
set_option maxRecDepth 100000 in
theorem walk_ShowBack (w : World) (S : SmallD) (h : SmallH) (H : SmallIs w S h) (a : Option Addr) (cap : Nat) (bs : List Int) (hbl : bs.length ≤ 9223372036854775807) (HE : Elems .u32 w a bs) :
    Calls Try.prog 10 #[.agg (smallC S h), .slice a bs.length cap] w fun e w' => e = .returned (.bool true) ∧ Below w.heap.size w w' := by
  replace HE := Lib.hid (fun w' (hb : Below w.heap.size w w') => HE.below hb)
  have K := Lib.hid (make_ok H)
  have HT := Lib.hid (make_text H)
  obtain ⟨sa, sc, ca, cc, oa, oc, ta, tc⟩ := h
  have BW := (Below.refl w.heap.size w).alloc (Nat.le_refl _) (.cells #[Value.int .u8 S.fin, .int .u8 S.tm, .int .u8 S.tr, .int .u8 S.bm, .int .u8 S.br, .slice sa S.sats.length sc, .slice ca S.custs.length cc, .slice oa S.cost.length oc, .slice ta S.time.length tc, .bool S.tight, .bool S.loose] 40)
  replace H := Lib.hid (H.below BW)
  have DD : ∀ j u, #[Value.int .u8 S.fin, .int .u8 S.tm, .int .u8 S.tr, .int .u8 S.bm, .int .u8 S.br, .slice sa S.sats.length sc, .slice ca S.custs.length cc, .slice oa S.cost.length oc, .slice ta S.time.length tc, .bool S.tight, .bool S.loose][j]? = some u → (w.alloc (.cells #[Value.int .u8 S.fin, .int .u8 S.tm, .int .u8 S.tr, .int .u8 S.bm, .int .u8 S.br, .slice sa S.sats.length sc, .slice ca S.custs.length cc, .slice oa S.cost.length oc, .slice ta S.time.length tc, .bool S.tight, .bool S.loose] 40)).cell? ⟨w.heap.size, j, none⟩ = some u := fun j u hu => by rw [World.cell?_alloc_new]; exact hu
  have gA : w.heap.size < (w.alloc (.cells #[Value.int .u8 S.fin, .int .u8 S.tm, .int .u8 S.tr, .int .u8 S.bm, .int .u8 S.br, .slice sa S.sats.length sc, .slice ca S.custs.length cc, .slice oa S.cost.length oc, .slice ta S.time.length tc, .bool S.tight, .bool S.loose] 40)).heap.size := by simp
  replace DD := Lib.hid DD
  replace BW := Lib.hid BW
  go_enter Try.func10, Try.ntmps10
  go_wp2_with fail
  refine (awake13_any _).mono ?_
  rintro e W ⟨rfl, hA⟩
  generalize (w.alloc (.cells #[Value.int .u8 S.fin, .int .u8 S.tm, .int .u8 S.tr, .int .u8 S.bm, .int .u8 S.br, .slice sa S.sats.length sc, .slice ca S.custs.length cc, .slice oa S.cost.length oc, .slice ta S.time.length tc, .bool S.tight, .bool S.loose] 40)) = WA at *
  generalize hg : w.heap.size = g at *
  replace hg := Lib.hid hg
  replace H := Lib.hid (H.out.below hA)
  have d0 : W.cell? ⟨g, 0, none⟩ = some (Value.int .u8 S.fin) := keep_cell hA (DD.out 0 _ rfl)
  have d1 : W.cell? ⟨g, 1, none⟩ = some (.int .u8 S.tm) := keep_cell hA (DD.out 1 _ rfl)
  have d2 : W.cell? ⟨g, 2, none⟩ = some (.int .u8 S.tr) := keep_cell hA (DD.out 2 _ rfl)
  have d3 : W.cell? ⟨g, 3, none⟩ = some (.int .u8 S.bm) := keep_cell hA (DD.out 3 _ rfl)
  have d4 : W.cell? ⟨g, 4, none⟩ = some (.int .u8 S.br) := keep_cell hA (DD.out 4 _ rfl)
  have d5 : W.cell? ⟨g, 5, none⟩ = some (.slice sa S.sats.length sc) := keep_cell hA (DD.out 5 _ rfl)
  have d6 : W.cell? ⟨g, 6, none⟩ = some (.slice ca S.custs.length cc) := keep_cell hA (DD.out 6 _ rfl)
  have d7 : W.cell? ⟨g, 7, none⟩ = some (.slice oa S.cost.length oc) := keep_cell hA (DD.out 7 _ rfl)
  have d8 : W.cell? ⟨g, 8, none⟩ = some (.slice ta S.time.length tc) := keep_cell hA (DD.out 8 _ rfl)
  have d9 : W.cell? ⟨g, 9, none⟩ = some (.bool S.tight) := keep_cell hA (DD.out 9 _ rfl)
  have d10 : W.cell? ⟨g, 10, none⟩ = some (.bool S.loose) := keep_cell hA (DD.out 10 _ rfl)
  have g1 : g < W.heap.size := Nat.lt_of_lt_of_le gA hA.size
  have hW := Lib.hid (BW.out.trans (hA.mono (by have := hg.out; have := gA; omega)))
  clear BW hA gA DD
  have hN3 : 3 ≤ nodesN (makeI S) ∧ nodesN (makeI S) ≤ 10 := by
    have a := satsI_len S
    have b := custsI_len S
    show 3 ≤ 1 + (satsI S).length + (custsI S).length ∧ 1 + (satsI S).length + (custsI S).length ≤ 10
    omega
  have hS1 : 1 ≤ (makeI S).sats.length ∧ (makeI S).sats.length ≤ 3 := satsI_len S
  go_wp2_with fail
  refine (make_any S ⟨sa, sc, ca, cc, oa, oc, ta, tc⟩ _ H.out).mono ?_
  rintro e w1 ⟨⟨x5, x6, x7, x8, xo, xp, xt, xu⟩, g7, g8, rfl, hM, hb1⟩
  have hN := below_new w1 (.cells #[.int .i64 (makeI S).fin, .int .i64 (makeI S).tm, .int .i64 (makeI S).tr, .int .i64 (makeI S).bm, .int .i64 (makeI S).br, .slice x5 (makeI S).sats.length x6, .slice x7 (makeI S).custs.length x8, .slice xo (makeI S).cost.length xp, .slice xt (makeI S).time.length xu] 29)
  have hO := ((On.mk hW.out (Nat.le_of_lt g1)).go hb1).go hN
  have hBK0 : BK g W.heap.size w w1.heap.size ⟨x5, x6, x7, x8, xo, xp, xt, xu⟩ g7 g8 (makeI S) (w1.alloc (.cells #[.int .i64 (makeI S).fin, .int .i64 (makeI S).tm, .int .i64 (makeI S).tr, .int .i64 (makeI S).bm, .int .i64 (makeI S).br, .slice x5 (makeI S).sats.length x6, .slice x7 (makeI S).custs.length x8, .slice xo (makeI S).cost.length xp, .slice xt (makeI S).time.length xu] 29)) := ⟨K.out, hM.below hN, heap_alloc_new w1 _, hO.b, hO.le, Nat.le_of_lt g1⟩
  replace hBK0 := Lib.hid hBK0
  clear hN hO hM hb1 d0 d1 d2 d3 d4 d5 d6 d7 d8 d9 d10 hW H HT
  go_upto_region 4 with fail
  generalize w1.alloc (.cells #[.int .i64 (makeI S).fin, .int .i64 (makeI S).tm, .int .i64 (makeI S).tr, .int .i64 (makeI S).bm, .int .i64 (makeI S).br, .slice x5 (makeI S).sats.length x6, .slice x7 (makeI S).custs.length x8, .slice xo (makeI S).cost.length xp, .slice xt (makeI S).time.length xu] 29) = w2 at *
  generalize w1.heap.size = gx at *
  obtain ⟨nn, hnn⟩ : ∃ nn, nodesN (makeI S) = nn := ⟨_, rfl⟩
  obtain ⟨ns, hns⟩ : ∃ ns, (makeI S).sats.length = ns := ⟨_, rfl⟩
  rw [hnn] at hN3
  rw [hns] at hS1
  replace hnn := Lib.hid hnn
  replace hns := Lib.hid hns
  generalize makeI S = X0 at *
  generalize W.heap.size = B0 at *
  go_wp2_with fail
  go_loopw [19] (fun i wr => ∃ (k : Nat) (X : InstD), k ≤ bs.length ∧ k ≤ 60 ∧ i = .int .i64 k ∧ BK g B0 w gx ⟨x5, x6, x7, x8, xo, xp, xt, xu⟩ g7 g8 X wr ∧ nodesN X = nn ∧ X.sats.length = ns) (fun i _ => bs.length - (intOf i).toNat)
  case atStart => exact ⟨0, X0, Nat.zero_le _, by omega, rfl, hBK0.out, hnn.out, hns.out⟩
  case round =>
    clear hBK0 hnn hns K
    obtain ⟨k, X, hk, h60, rfl, hBK, hXn, hXs⟩ := hrel
    replace hBK := Lib.hid hBK
    replace hXn := Lib.hid hXn
    replace hXs := Lib.hid hXs
    have k0 : (0 : Int) ≤ (k : Int) := by omega
    by_cases hkl : k < bs.length
    · obtain ⟨ad, rfl, hc, hw⟩ := (HE.out wr hBK.out.bel) k hkl
      have k1 : (k : Int) < (bs.length : Int) := by omega
      have hq0 : (0 : Int) ≤ bs.getD k 0 ∧ bs.getD k 0 ≤ 4294967295 := by simpa [Lit.wf, IntKind.min, IntKind.max, IntKind.signed, IntKind.bits] using hw
      obtain ⟨q, hq⟩ : ∃ q : Nat, bs.getD k 0 = (q : Int) := ⟨(bs.getD k 0).toNat, by omega⟩
      rw [hq] at hc hq0
      clear hw hq
      by_cases h6 : 60 ≤ k
      · have h6' : (60 : Int) ≤ (k : Int) := by omega
        have hbx := hBK.out.box
        dsimp only [instC] at hbx
        obtain ⟨⟨c0, c1, c2, c3, c4, c5, c6, c7, c8⟩, _⟩ := row9 hbx
        have KX := hBK.out.ok
        have hOn := Lib.hid (On.mk hBK.out.bel hBK.out.le)
        have IXF := Lib.hid hBK.out.is
        replace hbx := Lib.hid hbx
        clear hBK
        go_wp2_with fail
        refine (show_any X ⟨x5, x6, x7, x8, xo, xp, xt, xu⟩ KX _ IXF.out).mono ?_
        rintro e wA ⟨rfl, hbA⟩
        have hOnA := Lib.hid (hOn.out.go hbA)
        have IXA := Lib.hid (IXF.out.below hbA)
        have hbxA := Lib.hid ((hbA.block gx (heap_lt hbx.out)).trans hbx.out)
        clear hbA hOn IXF hbx c0 c1 c2 c3 c4 c5 c6 c7 c8
        go_wp2_with fail
        refine (show_back KX _).mono ?_
        rintro e wB ⟨hbB, ⟨Z, ⟨d1, e1, d2, e2, d3, e3, d4, e4⟩, hr, _, rfl, HJ⟩ | ⟨a', c', hr, _⟩⟩
        rotate_left
        · cases hr
        injection hr with hr
        subst hr
        have hb6 := below_new wB (.cells #[.int .i64 X.fin, .int .i64 X.tm, .int .i64 X.tr, .int .i64 X.bm, .int .i64 X.br, .slice d1 X.sats.length e1, .slice d2 X.custs.length e2, .slice d3 X.cost.length e3, .slice d4 X.time.length e4] 29)
        have hb7 := hbB.trans (hb6.mono hbB.size)
        have hOnB := Lib.hid (hOnA.out.go hb7)
        have IXB := Lib.hid (IXA.out.below hb7)
        have HJB := Lib.hid (HJ.below hb6)
        have hbxB := Lib.hid ((hb7.block gx (heap_lt hbxA.out)).trans hbxA.out)
        have hbyB := Lib.hid (heap_alloc_new wB (.cells #[.int .i64 X.fin, .int .i64 X.tm, .int .i64 X.tr, .int .i64 X.bm, .int .i64 X.br, .slice d1 X.sats.length e1, .slice d2 X.custs.length e2, .slice d3 X.cost.length e3, .slice d4 X.time.length e4] 29))
        clear hbB hb6 hb7 hOnA IXA HJ hbxA
        go_upto_region 14 with fail
        generalize wB.alloc (.cells #[.int .i64 X.fin, .int .i64 X.tm, .int .i64 X.tr, .int .i64 X.bm, .int .i64 X.br, .slice d1 X.sats.length e1, .slice d2 X.custs.length e2, .slice d3 X.cost.length e3, .slice d4 X.time.length e4] 29) = w6 at *
        generalize wB.heap.size = gy at *
        obtain ⟨⟨c0, c1, c2, c3, c4, c5, c6, c7, c8⟩, _⟩ := row9 hbxB.out
        go_wp2_with fail
        refine (check0 X ⟨x5, x6, x7, x8, xo, xp, xt, xu⟩ KX _ IXB.out).mono ?_
        rintro e w7 ⟨rfl, hb7⟩
        have hOn7 := Lib.hid (hOnB.out.go hb7)
        have IX7 := Lib.hid (IXB.out.below hb7)
        have HJ7 := Lib.hid (HJB.out.below hb7)
        have hbx7 := Lib.hid ((hb7.block gx (heap_lt hbxB.out)).trans hbxB.out)
        have hby7 := Lib.hid ((hb7.block gy (heap_lt hbyB.out)).trans hbyB.out)
        clear hb7 hOnB IXB HJB hbxB hbyB c0 c1 c2 c3 c4 c5 c6 c7 c8
        obtain ⟨⟨c0, c1, c2, c3, c4, c5, c6, c7, c8⟩, _⟩ := row9 hbx7.out
        obtain ⟨⟨d0', d1', d2', d3', d4', d5', d6', d7', d8'⟩, _⟩ := row9 hby7.out
        go_wp2_with fail
        refine (same_self X ⟨x5, x6, x7, x8, xo, xp, xt, xu⟩ ⟨d1, e1, d2, e2, d3, e3, d4, e4⟩ _ IX7.out HJ7.out).mono ?_
        rintro e w8 ⟨rfl, hb8⟩
        have hOn8 := Lib.hid (hOn7.out.go hb8)
        clear hb8
        go_wp2_with fail
        go_ret
        exact ⟨rfl, by first | exact hOn8.out.b | (rw [hg.out]; exact hOn8.out.b)⟩
      · have h6' : ¬ (60 : Int) ≤ (k : Int) := by omega
        go_upto_region 8 with fail
        go_cut [8, 9] (fun s8 s9 wx => s8 = .int .i64 ((k % nn : Nat) : Int) ∧ s9 = .int .i64 (((k / 2 + k / 7) % nn : Nat) : Int) ∧ Below wr.heap.size wr wx)
        case first =>
          have RX : ∀ wz : World, Below wr.heap.size wr wz → wz.rangeAt gx 0 [.int .i64 X.fin, .int .i64 X.tm, .int .i64 X.tr, .int .i64 X.bm, .int .i64 X.br, .slice x5 X.sats.length x6, .slice x7 X.custs.length x8, .slice xo X.cost.length xp, .slice xt X.time.length xu] := fun wz hz => sb_range ((hz.block gx (heap_lt hBK.out.box)).trans hBK.out.box)
          replace RX := Lib.hid RX
          have HW := Lib.hid (Below.refl wr.heap.size wr).drew
          have hnm : Hid (1 + X.sats.length + X.custs.length = nn) := hXn
          have ls9 : X.sats.length ≤ 1000000 := by have := hBK.out.ok.s2; omega
          have lc9 : X.custs.length ≤ 1000000 := by have := hBK.out.ok.c2; omega
          clear hc
          have n0 : ¬ nn = 0 := by omega
          have p1 : (k : Int).tmod (nn : Int) = ((k % nn : Nat) : Int) := (Int.ofNat_tmod k nn).symm
          have p2 : (k : Int).tdiv 2 = ((k / 2 : Nat) : Int) := (Int.ofNat_tdiv k 2).symm
          have p3 : (k : Int).tdiv 7 = ((k / 7 : Nat) : Int) := (Int.ofNat_tdiv k 7).symm
          have p6 : IntKind.i64.wrap ((k / 2 : Nat) : Int) = ((k / 2 : Nat) : Int) := IntWalk.i64_in _ (by omega)
          have p7 : IntKind.i64.wrap ((k / 7 : Nat) : Int) = ((k / 7 : Nat) : Int) := IntWalk.i64_in _ (by omega)
          have p4 : IntKind.i64.wrap (((k / 2 : Nat) : Int) + ((k / 7 : Nat) : Int)) = ((k / 2 + k / 7 : Nat) : Int) := by rw [IntWalk.i64_in _ (by omega)]; omega
          have p5 : ((k / 2 + k / 7 : Nat) : Int).tmod (nn : Int) = (((k / 2 + k / 7) % nn : Nat) : Int) := (Int.ofNat_tmod _ nn).symm
          generalize (k / 2 + k / 7) % nn = b' at *
          generalize k / 2 + k / 7 = k27 at *
          generalize k / 2 = k2 at *
          generalize k / 7 = k7 at *
          generalize k % nn = a' at *
          refine wp_region_N (fun j => decide (j < 14)) (fun wz => Below wr.heap.size wr wz) (by kernel_rfl) HW.out (fun hShut hHeld => ?_)
          refine wpAnyN_take_0 (v := ?v1n) ?_ ?_ ?_ ?_ ?_ ?hy1n ?_ ?_ ?_
          case hy1n =>
            refine Or.inl ⟨by rfl, ?_⟩
            intro w hSw
            try dsimp only at hSw
            go_simp
            try with_reducible rfl
          · kernel_rfl
          · kernel_rfl
          · kernel_rfl
          · kernel_rfl
          · exact fun _ _ _ h => h
          · exact hHeld
          · exact hShut
          clear hShut
          intro hShut
          try simp only [Act.put, List.setIfInBounds_toArray, List.set_cons_zero, List.set_cons_succ]
          refine wpAnyN_take_1 (v := .agg (List.toArray [.int .i64 X.fin, .int .i64 X.tm, .int .i64 X.tr, .int .i64 X.bm, .int .i64 X.br, .slice x5 X.sats.length x6, .slice x7 X.custs.length x8, .slice xo X.cost.length xp, .slice xt X.time.length xu])) (by kernel_rfl) (by kernel_rfl) (by kernel_rfl) (by kernel_rfl) (fun _ _ _ h => h) (yieldsIf_load_mid (by rfl) 29 _ rfl gx 0 rfl _ _ (fun wz hz => RX.out wz hz) Try.underlying29 rfl (by kernel_rfl)) hHeld hShut (fun hS2 => ?_)
          clear hShut
          have hShut := hS2
          clear hS2
          try simp only [Act.put, List.setIfInBounds_toArray, List.set_cons_zero, List.set_cons_succ]
          refine wpAnyN_take_4 (v := ?v2n) ?_ ?_ ?_ ?_ ?_ ?hy2n ?_ ?_ ?_
          case hy2n =>
            refine Or.inl ⟨by rfl, ?_⟩
            intro w hSw
            try dsimp only at hSw
            go_simp
            try with_reducible rfl
          · kernel_rfl
          · kernel_rfl
          · kernel_rfl
          · kernel_rfl
          · exact fun _ _ _ h => h
          · exact hHeld
          · exact hShut
          clear hShut
          intro hShut
          try simp only [Act.put, List.setIfInBounds_toArray, List.set_cons_zero, List.set_cons_succ]
          refine wpAnyN_take_5 (v := ?v3n) ?_ ?_ ?_ ?_ ?_ ?hy3n ?_ ?_ ?_
          case hy3n =>
            refine Or.inl ⟨by rfl, ?_⟩
            intro w hSw
            try dsimp only at hSw
            go_simp
            try with_reducible rfl
          · kernel_rfl
          · kernel_rfl
          · kernel_rfl
          · kernel_rfl
          · exact fun _ _ _ h => h
          · exact hHeld
          · exact hShut
          clear hShut
          intro hShut
          try simp only [Act.put, List.setIfInBounds_toArray, List.set_cons_zero, List.set_cons_succ]
          refine wpAnyN_take_6 (v := ?v4n) ?_ ?_ ?_ ?_ ?_ ?hy4n ?_ ?_ ?_
          case hy4n =>
            refine Or.inl ⟨by rfl, ?_⟩
            intro w hSw
            try dsimp only at hSw
            go_simp
            try with_reducible rfl
          · kernel_rfl
          · kernel_rfl
          · kernel_rfl
          · kernel_rfl
          · exact fun _ _ _ h => h
          · exact hHeld
          · exact hShut
          clear hShut
          intro hShut
          try simp only [Act.put, List.setIfInBounds_toArray, List.set_cons_zero, List.set_cons_succ]
          refine wpAnyN_take_7 (v := ?v5n) ?_ ?_ ?_ ?_ ?_ ?hy5n ?_ ?_ ?_
          case hy5n =>
            refine Or.inl ⟨by rfl, ?_⟩
            intro w hSw
            try dsimp only at hSw
            go_simp
            try with_reducible rfl
          · kernel_rfl
          · kernel_rfl
          · kernel_rfl
          · kernel_rfl
          · exact fun _ _ _ h => h
          · exact hHeld
          · exact hShut
          clear hShut
          intro hShut
          try simp only [Act.put, List.setIfInBounds_toArray, List.set_cons_zero, List.set_cons_succ]
          refine wpAnyN_take_8 (v := ?v6n) ?_ ?_ ?_ ?_ ?_ ?hy6n ?_ ?_ ?_
          case hy6n =>
            refine Or.inl ⟨by rfl, ?_⟩
            intro w hSw
            try dsimp only at hSw
            go_simp
            try with_reducible rfl
          · kernel_rfl
          · kernel_rfl
          · kernel_rfl
          · kernel_rfl
          · exact fun _ _ _ h => h
          · exact hHeld
          · exact hShut
          clear hShut
          intro hShut
          try simp only [Act.put, List.setIfInBounds_toArray, List.set_cons_zero, List.set_cons_succ]
          refine wpAnyN_take_9 (v := .agg (List.toArray [.int .i64 X.fin, .int .i64 X.tm, .int .i64 X.tr, .int .i64 X.bm, .int .i64 X.br, .slice x5 X.sats.length x6, .slice x7 X.custs.length x8, .slice xo X.cost.length xp, .slice xt X.time.length xu])) (by kernel_rfl) (by kernel_rfl) (by kernel_rfl) (by kernel_rfl) (fun _ _ _ h => h) (yieldsIf_load_mid (by rfl) 29 _ rfl gx 0 rfl _ _ (fun wz hz => RX.out wz hz) Try.underlying29 rfl (by kernel_rfl)) hHeld hShut (fun hS2 => ?_)
          clear hShut
          have hShut := hS2
          clear hS2
          try simp only [Act.put, List.setIfInBounds_toArray, List.set_cons_zero, List.set_cons_succ]
          refine wpAnyN_one_2 (by kernel_rfl) (by exact hShut) (fun K hK => ?_)
          go_simp
          refine (nodes11_nn _ _ _ _ _ _ _ _ _ X.sats.length _ X.custs.length _ nn _ ls9 lc9 hnm).mono ?_
          rintro e wz2 ⟨rfl, hbz⟩
          go_wp2_with fail
          replace HW := Lib.hid (HW.out.trans (hbz.mono HW.out.size))
          clear hbz
          refine hK.out _ _ (fun _ => (by exact HW.out)) (fun hH hS2 => ?_)
          clear hK K hHeld hShut
          have hShut := hS2
          clear hS2
          have hHeld := hH rfl
          clear hH
          try simp only [Act.put, List.setIfInBounds_toArray, List.set_cons_zero, List.set_cons_succ]
          refine wpAnyN_take_3 (v := ?v7n) ?_ ?_ ?_ ?_ ?_ ?hy7n ?_ ?_ ?_
          case hy7n =>
            refine Or.inl ⟨by rfl, ?_⟩
            intro w hSw
            try dsimp only at hSw
            go_simp
            try with_reducible rfl
          · kernel_rfl
          · kernel_rfl
          · kernel_rfl
          · kernel_rfl
          · exact fun _ _ _ h => h
          · exact hHeld
          · exact hShut
          clear hShut
          intro hShut
          try simp only [Act.put, List.setIfInBounds_toArray, List.set_cons_zero, List.set_cons_succ]
          refine wpAnyN_one_10 (by kernel_rfl) (by exact hShut) (fun K hK => ?_)
          go_simp
          refine (nodes11_nn _ _ _ _ _ _ _ _ _ X.sats.length _ X.custs.length _ nn _ ls9 lc9 hnm).mono ?_
          rintro e wz10 ⟨rfl, hbz⟩
          go_wp2_with fail
          replace HW := Lib.hid (HW.out.trans (hbz.mono HW.out.size))
          clear hbz
          refine hK.out _ _ (fun _ => (by exact HW.out)) (fun hH hS2 => ?_)
          clear hK K hHeld hShut
          have hShut := hS2
          clear hS2
          have hHeld := hH rfl
          clear hH
          try simp only [Act.put, List.setIfInBounds_toArray, List.set_cons_zero, List.set_cons_succ]
          refine wpAnyN_take_11 (v := ?v8n) ?_ ?_ ?_ ?_ ?_ ?hy8n ?_ ?_ ?_
          case hy8n =>
            refine Or.inl ⟨by rfl, ?_⟩
            intro w hSw
            try dsimp only at hSw
            go_simp
            try with_reducible rfl
          · kernel_rfl
          · kernel_rfl
          · kernel_rfl
          · kernel_rfl
          · exact fun _ _ _ h => h
          · exact hHeld
          · exact hShut
          clear hShut
          intro hShut
          try simp only [Act.put, List.setIfInBounds_toArray, List.set_cons_zero, List.set_cons_succ]
          refine wpAnyN_take_12 (v := ?v9n) ?_ ?_ ?_ ?_ ?_ ?hy9n ?_ ?_ ?_
          case hy9n =>
            refine Or.inl ⟨by rfl, ?_⟩
            intro w hSw
            try dsimp only at hSw
            go_simp
            try with_reducible rfl
          · kernel_rfl
          · kernel_rfl
          · kernel_rfl
          · kernel_rfl
          · exact fun _ _ _ h => h
          · exact hHeld
          · exact hShut
          clear hShut
          intro hShut
          try simp only [Act.put, List.setIfInBounds_toArray, List.set_cons_zero, List.set_cons_succ]
          refine wpAnyN_take_13 (v := ?v10n) ?_ ?_ ?_ ?_ ?_ ?hy10n ?_ ?_ ?_
          case hy10n =>
            refine Or.inl ⟨by rfl, ?_⟩
            intro w hSw
            try dsimp only at hSw
            go_simp
            try with_reducible rfl
          · kernel_rfl
          · kernel_rfl
          · kernel_rfl
          · kernel_rfl
          · exact fun _ _ _ h => h
          · exact hHeld
          · exact hShut
          clear hShut
          intro hShut
          try simp only [Act.put, List.setIfInBounds_toArray, List.set_cons_zero, List.set_cons_succ]
          refine wpAnyN_done (by kernel_rfl) ?_ _
          go_wp2_with fail
          go_meet
          exact ⟨rfl, rfl, HW.out⟩
        case rest =>
          obtain ⟨rfl, rfl, hbx⟩ := hcut
          have B1 := Lib.hid (hBK.out.below hbx)
          have ha9 : k % nn < nn := Nat.mod_lt _ (by omega)
          have hb9 : (k / 2 + k / 7) % nn < nn := Nat.mod_lt _ (by omega)
          clear hbx hBK hc
          generalize k % nn = a' at *
          generalize (k / 2 + k / 7) % nn = b' at *
          by_cases hab : a' = b'
          · subst hab
            have htk : k % ns < ns := Nat.mod_lt _ (by omega)
            have hts : k % ns < X.sats.length := by have := hXs.out; omega
            have hBV := B1.out
            go_upto_region 11 with fail
            obtain ⟨gs, hgs, ⟨v, hv⟩, hf, HZ⟩ := hBV.room (k % ns) hts ((q % 1000000001 : Nat) : Int) (by omega) (by omega)
            dsimp only at hgs
            subst hgs
            have c5 : wc.cell? ⟨gx, 5, none⟩ = some (.slice (some ⟨gs, 0, none⟩) X.sats.length x6) := cell_of_row _ gx 5 _ _ _ hBV.box
            rw [hXs.out] at c5
            have r1 : (k : Int).tmod (ns : Int) = ((k % ns : Nat) : Int) := (Int.ofNat_tmod k ns).symm
            have r2 : (q : Int).tmod 1000000001 = ((q % 1000000001 : Nat) : Int) := (Int.ofNat_tmod q 1000000001).symm
            have r3 : IntKind.u32.wrap ((q % 1000000001 : Nat) : Int) = ((q % 1000000001 : Nat) : Int) := by rw [IntKind.wrap_u32]; omega
            have r4 : IntKind.i64.wrap ((q % 1000000001 : Nat) : Int) = ((q % 1000000001 : Nat) : Int) := IntWalk.i64_in _ (by omega)
            have r0 : ¬ ns = 0 := by omega
            have t0 : (0 : Int) ≤ ((k % ns : Nat) : Int) := by omega
            have t1 : ((k % ns : Nat) : Int) < (ns : Int) := by omega
            replace HZ := Lib.hid HZ
            clear hBV
            generalize k % ns = t at *
            generalize q % 1000000001 = m at *
            refine wp_region_N (fun j => decide (j < 12)) (fun wz => wz.cell? ⟨gx, 5, none⟩ = some (.slice (some ⟨gs, 0, none⟩) ns x6)) (by kernel_rfl) (by exact c5) (fun hShut hHeld => ?_)
            refine wpAnyN_take_0 (v := ?v11n) ?_ ?_ ?_ ?_ ?_ ?hy11n ?_ ?_ ?_
            case hy11n =>
              refine Or.inl ⟨by rfl, ?_⟩
              intro w hSw
              try dsimp only at hSw
              go_simp
              try with_reducible rfl
            · kernel_rfl
            · kernel_rfl
            · kernel_rfl
            · kernel_rfl
            · exact fun _ _ _ h => h
            · exact hHeld
            · exact hShut
            clear hShut
            intro hShut
            try simp only [Act.put, List.setIfInBounds_toArray, List.set_cons_zero, List.set_cons_succ]
            refine wpAnyN_take_1 (v := ?v12n) ?_ ?_ ?_ ?_ ?_ ?hy12n ?_ ?_ ?_
            case hy12n =>
              refine Or.inl ⟨by rfl, ?_⟩
              intro w hSw
              try dsimp only at hSw
              go_simp
              try with_reducible rfl
            · kernel_rfl
            · kernel_rfl
            · kernel_rfl
            · kernel_rfl
            · exact fun _ _ _ h => h
            · exact hHeld
            · exact hShut
            clear hShut
            intro hShut
            try simp only [Act.put, List.setIfInBounds_toArray, List.set_cons_zero, List.set_cons_succ]
            refine wpAnyN_take_2 (v := ?v13n) ?_ ?_ ?_ ?_ ?_ ?hy13n ?_ ?_ ?_
            case hy13n =>
              refine Or.inl ⟨by rfl, ?_⟩
              intro w hSw
              try dsimp only at hSw
              go_simp
              try with_reducible rfl
            · kernel_rfl
            · kernel_rfl
            · kernel_rfl
            · kernel_rfl
            · exact fun _ _ _ h => h
            · exact hHeld
            · exact hShut
            clear hShut
            intro hShut
            try simp only [Act.put, List.setIfInBounds_toArray, List.set_cons_zero, List.set_cons_succ]
            refine wpAnyN_take_3 (v := ?v14n) ?_ ?_ ?_ ?_ ?_ ?hy14n ?_ ?_ ?_
            case hy14n =>
              refine Or.inl ⟨by rfl, ?_⟩
              intro w hSw
              try dsimp only at hSw
              go_simp
              try with_reducible rfl
            · kernel_rfl
            · kernel_rfl
            · kernel_rfl
            · kernel_rfl
            · exact fun _ _ _ h => h
            · exact hHeld
            · exact hShut
            clear hShut
            intro hShut
            try simp only [Act.put, List.setIfInBounds_toArray, List.set_cons_zero, List.set_cons_succ]
            refine wpAnyN_take_4 (v := ?v15n) ?_ ?_ ?_ ?_ ?_ ?hy15n ?_ ?_ ?_
            case hy15n =>
              refine Or.inl ⟨by rfl, ?_⟩
              intro w hSw
              try dsimp only at hSw
              go_simp
              try with_reducible rfl
            · kernel_rfl
            · kernel_rfl
            · kernel_rfl
            · kernel_rfl
            · exact fun _ _ _ h => h
            · exact hHeld
            · exact hShut
            clear hShut
            intro hShut
            try simp only [Act.put, List.setIfInBounds_toArray, List.set_cons_zero, List.set_cons_succ]
            refine wpAnyN_take_5 (v := ?v16n) ?_ ?_ ?_ ?_ ?_ ?hy16n ?_ ?_ ?_
            case hy16n =>
              refine Or.inl ⟨by rfl, ?_⟩
              intro w hSw
              try dsimp only at hSw
              go_simp
              try with_reducible rfl
            · kernel_rfl
            · kernel_rfl
            · kernel_rfl
            · kernel_rfl
            · exact fun _ _ _ h => h
            · exact hHeld
            · exact hShut
            clear hShut
            intro hShut
            try simp only [Act.put, List.setIfInBounds_toArray, List.set_cons_zero, List.set_cons_succ]
            refine wpAnyN_take_6 (v := ?v17n) ?_ ?_ ?_ ?_ ?_ ?hy17n ?_ ?_ ?_
            case hy17n =>
              refine Or.inl ⟨by rfl, ?_⟩
              intro w hSw
              try dsimp only at hSw
              go_simp
              try with_reducible rfl
            · kernel_rfl
            · kernel_rfl
            · kernel_rfl
            · kernel_rfl
            · exact fun _ _ _ h => h
            · exact hHeld
            · exact hShut
            clear hShut
            intro hShut
            try simp only [Act.put, List.setIfInBounds_toArray, List.set_cons_zero, List.set_cons_succ]
            refine wpAnyN_take_7 (v := ?v18n) ?_ ?_ ?_ ?_ ?_ ?hy18n ?_ ?_ ?_
            case hy18n =>
              refine Or.inl ⟨by rfl, ?_⟩
              intro w hSw
              try dsimp only at hSw
              go_simp
              try with_reducible rfl
            · kernel_rfl
            · kernel_rfl
            · kernel_rfl
            · kernel_rfl
            · exact fun _ _ _ h => h
            · exact hHeld
            · exact hShut
            clear hShut
            intro hShut
            try simp only [Act.put, List.setIfInBounds_toArray, List.set_cons_zero, List.set_cons_succ]
            refine wpAnyN_take_8 (v := ?v19n) ?_ ?_ ?_ ?_ ?_ ?hy19n ?_ ?_ ?_
            case hy19n =>
              refine Or.inl ⟨by rfl, ?_⟩
              intro w hSw
              try dsimp only at hSw
              go_simp
              try with_reducible rfl
            · kernel_rfl
            · kernel_rfl
            · kernel_rfl
            · kernel_rfl
            · exact fun _ _ _ h => h
            · exact hHeld
            · exact hShut
            clear hShut
            intro hShut
            try simp only [Act.put, List.setIfInBounds_toArray, List.set_cons_zero, List.set_cons_succ]
            refine wpAnyN_take_9 (v := ?v20n) ?_ ?_ ?_ ?_ ?_ ?hy20n ?_ ?_ ?_
            case hy20n =>
              refine Or.inl ⟨by rfl, ?_⟩
              intro w hSw
              try dsimp only at hSw
              go_simp
              try with_reducible rfl
            · kernel_rfl
            · kernel_rfl
            · kernel_rfl
            · kernel_rfl
            · exact fun _ _ _ h => h
            · exact hHeld
            · exact hShut
            clear hShut
            intro hShut
            try simp only [Act.put, List.setIfInBounds_toArray, List.set_cons_zero, List.set_cons_succ]
            refine wpAnyN_take_10 (v := ?v21n) ?_ ?_ ?_ ?_ ?_ ?hy21n ?_ ?_ ?_
            case hy21n =>
              refine Or.inl ⟨by rfl, ?_⟩
              intro w hSw
              try dsimp only at hSw
              go_simp
              try with_reducible rfl
            · kernel_rfl
            · kernel_rfl
            · kernel_rfl
            · kernel_rfl
            · exact fun _ _ _ h => h
            · exact hHeld
            · exact hShut
            clear hShut
            intro hShut
            try simp only [Act.put, List.setIfInBounds_toArray, List.set_cons_zero, List.set_cons_succ]
            refine wpAnyN_take_11 (v := ?v22n) ?_ ?_ ?_ ?_ ?_ ?hy22n ?_ ?_ ?_
            case hy22n =>
              refine Or.inl ⟨by rfl, ?_⟩
              intro w hSw
              try dsimp only at hSw
              go_simp
              try with_reducible rfl
            · kernel_rfl
            · kernel_rfl
            · kernel_rfl
            · kernel_rfl
            · exact fun _ _ _ h => h
            · exact hHeld
            · exact hShut
            clear hShut
            intro hShut
            try simp only [Act.put, List.setIfInBounds_toArray, List.set_cons_zero, List.set_cons_succ]

            refine wpAnyN_one_12 (by kernel_rfl) (by exact hShut) (fun K hK => ?_)
            go_simp
            refine hK.out _ _ (fun h => absurd h (by decide)) (fun _ hS2 => ?_)
            clear hK K hShut
            have hShut := hS2
            clear hS2
            try simp only [Act.put, List.setIfInBounds_toArray, List.set_cons_zero, List.set_cons_succ]
            refine wpAnyN_done (by kernel_rfl) ?_ _
            go_wp2_with fail
            go_roundw
            case rel => exact ⟨k + 1, _, by omega, by omega, by go_num, HZ.out.below ((Below.refl _ _).drew), by show 1 + (X.sats.set _ _).length + X.custs.length = nn; rw [List.length_set]; exact hXn.out, by show (X.sats.set _ _).length = ns; rw [List.length_set]; exact hXs.out⟩
            case measure => simp [intOf]; omega
          · have hab2 : ((a' : Int) != (b' : Int)) = true := by rw [bne_iff_ne]; omega
            have hco : X.cost.length = nn := B1.out.ok.o.trans hXn.out
            have hti : X.time.length = nn := B1.out.ok.t.trans hXn.out
            obtain ⟨gh1, gr1, e1, c1, ⟨v1, hv1⟩, f1, ⟨q1, y1⟩, ⟨q2, y2⟩, B2⟩ := B1.out.cost a' b' (by omega) (by have := hXn.out; omega) hab ((q % 1000000001 : Nat) : Int) (by omega) (by omega)
            obtain ⟨gh2, gr2, e2, g82, c2, _, _, ⟨q3, y3⟩, _, _⟩ := B1.out.time b' a' (by omega) (by have := hXn.out; omega) (fun e => hab e.symm) ((q / 2 % 1000000001 : Nat) : Int) (by omega) (by omega)
            obtain ⟨gh2', gr2', e2', g82', _, ⟨v2, hv2⟩, f2, _, _, B3⟩ := B2.time b' a' (by show b' < X.time.length; omega) (by show a' < nodesN X; have := hXn.out; omega) (fun e => hab e.symm) ((q / 2 % 1000000001 : Nat) : Int) (by omega) (by omega)
            have er : gr2' = gr2 := by rw [g82] at g82'; exact (Option.some.inj g82').symm
            subst er
            dsimp only at e1 e2
            subst e1
            subst e2
            rw [hXn.out] at c1 c2
            have d7 : wc.cell? ⟨gx, 7, none⟩ = some (.slice (some ⟨gh1, 0, none⟩) X.cost.length xp) := cell_of_row _ gx 7 _ _ _ B1.out.box
            have d8 : wc.cell? ⟨gx, 8, none⟩ = some (.slice (some ⟨gh2, 0, none⟩) X.time.length xu) := cell_of_row _ gx 8 _ _ _ B1.out.box
            rw [hco] at d7
            rw [hti] at d8
            have B4 := B3.below ((Below.refl _ _).drew)
            have hXn2 : Hid (nodesN { { X with cost := X.cost.set a' (X.cost[a'].set b' ((q % 1000000001 : Nat) : Int)) } with time := X.time.set b' (X.time[b'].set a' ((q / 2 % 1000000001 : Nat) : Int)) } = nn) := hXn
            have hXs2 : Hid (({ { X with cost := X.cost.set a' (X.cost[a'].set b' ((q % 1000000001 : Nat) : Int)) } with time := X.time.set b' (X.time[b'].set a' ((q / 2 % 1000000001 : Nat) : Int)) } : InstD).sats.length = ns) := hXs
            generalize ({ { X with cost := X.cost.set a' (X.cost[a'].set b' ((q % 1000000001 : Nat) : Int)) } with time := X.time.set b' (X.time[b'].set a' ((q / 2 % 1000000001 : Nat) : Int)) } : InstD) = X2 at *
            replace B4 := Lib.hid B4
            have hne0 := bk_ne B1.out.box y2 (by decide)
            have hne1 := bk_ne y1 y2 (by decide)
            have hne2 := bk_ne y3 y2 (by decide)
            clear B2 B3 e2' g82' g82 y1 y2 y3
            have hS2 : ∀ u : Value, (wc.setCell ⟨gr1, b', none⟩ u).cell? ⟨gx, 7, none⟩ = some (.slice (some ⟨gh1, 0, none⟩) nn xp) ∧ (wc.setCell ⟨gr1, b', none⟩ u).cell? ⟨gh1, a', none⟩ = some (.slice (some ⟨gr1, 0, none⟩) nn nn) ∧ (wc.setCell ⟨gr1, b', none⟩ u).cell? ⟨gx, 8, none⟩ = some (.slice (some ⟨gh2, 0, none⟩) nn xu) ∧ (wc.setCell ⟨gr1, b', none⟩ u).cell? ⟨gh2, b', none⟩ = some (.slice (some ⟨gr2', 0, none⟩) nn nn) := fun u => ⟨bk_other hne0 d7, bk_other hne1 c1, bk_other hne0 d8, bk_other hne2 c2⟩
            have hS2q := Lib.hid hS2
            clear hS2 hne0 hne1 hne2
            go_upto_region 10 with fail
            have r2 : (q : Int).tmod 1000000001 = ((q % 1000000001 : Nat) : Int) := (Int.ofNat_tmod q 1000000001).symm
            have r3 : IntKind.u32.wrap ((q % 1000000001 : Nat) : Int) = ((q % 1000000001 : Nat) : Int) := by rw [IntKind.wrap_u32]; omega
            have r4 : IntKind.i64.wrap ((q % 1000000001 : Nat) : Int) = ((q % 1000000001 : Nat) : Int) := IntWalk.i64_in _ (by omega)
            have s1 : (q : Int).tdiv 2 = ((q / 2 : Nat) : Int) := (Int.ofNat_tdiv q 2).symm
            have s2 : IntKind.u32.wrap ((q / 2 : Nat) : Int) = ((q / 2 : Nat) : Int) := by rw [IntKind.wrap_u32]; omega
            have s3 : ((q / 2 : Nat) : Int).tmod 1000000001 = ((q / 2 % 1000000001 : Nat) : Int) := (Int.ofNat_tmod (q / 2) 1000000001).symm
            have s4 : IntKind.u32.wrap ((q / 2 % 1000000001 : Nat) : Int) = ((q / 2 % 1000000001 : Nat) : Int) := by rw [IntKind.wrap_u32]; omega
            have s5 : IntKind.i64.wrap ((q / 2 % 1000000001 : Nat) : Int) = ((q / 2 % 1000000001 : Nat) : Int) := IntWalk.i64_in _ (by omega)
            have t0 : (0 : Int) ≤ (a' : Int) := by omega
            have t1 : (a' : Int) < (nn : Int) := by omega
            have t2 : (0 : Int) ≤ (b' : Int) := by omega
            have t3 : (b' : Int) < (nn : Int) := by omega
            generalize q / 2 % 1000000001 = m2 at *
            generalize hm1 : q % 1000000001 = m1 at *
            generalize q / 2 = qh at *
            replace hm1 := Lib.hid hm1
            refine wp_region_N (fun j => decide (j < 22)) (fun wz => wz.cell? ⟨gx, 7, none⟩ = some (.slice (some ⟨gh1, 0, none⟩) nn xp) ∧ wz.cell? ⟨gh1, a', none⟩ = some (.slice (some ⟨gr1, 0, none⟩) nn nn) ∧ wz.cell? ⟨gx, 8, none⟩ = some (.slice (some ⟨gh2, 0, none⟩) nn xu) ∧ wz.cell? ⟨gh2, b', none⟩ = some (.slice (some ⟨gr2', 0, none⟩) nn nn)) (by kernel_rfl) (by exact ⟨d7, c1, d8, c2⟩) (fun hShut hHeld => ?_)
            refine wpAnyN_take_0 (v := ?v23n) ?_ ?_ ?_ ?_ ?_ ?hy23n ?_ ?_ ?_
            case hy23n =>
              refine Or.inl ⟨by rfl, ?_⟩
              intro w hSw
              try dsimp only at hSw
              go_simp
              try with_reducible rfl
            · kernel_rfl
            · kernel_rfl
            · kernel_rfl
            · kernel_rfl
            · exact fun _ _ _ h => h
            · exact hHeld
            · exact hShut
            clear hShut
            intro hShut
            try simp only [Act.put, List.setIfInBounds_toArray, List.set_cons_zero, List.set_cons_succ]
            refine wpAnyN_take_1 (v := ?v24n) ?_ ?_ ?_ ?_ ?_ ?hy24n ?_ ?_ ?_
            case hy24n =>
              refine Or.inl ⟨by rfl, ?_⟩
              intro w hSw
              try dsimp only at hSw
              go_simp
              try with_reducible rfl
            · kernel_rfl
            · kernel_rfl
            · kernel_rfl
            · kernel_rfl
            · exact fun _ _ _ h => h
            · exact hHeld
            · exact hShut
            clear hShut
            intro hShut
            try simp only [Act.put, List.setIfInBounds_toArray, List.set_cons_zero, List.set_cons_succ]
            refine wpAnyN_take_2 (v := ?v25n) ?_ ?_ ?_ ?_ ?_ ?hy25n ?_ ?_ ?_
            case hy25n =>
              refine Or.inl ⟨by rfl, ?_⟩
              intro w hSw
              try dsimp only at hSw
              go_simp
              try with_reducible rfl
            · kernel_rfl
            · kernel_rfl
            · kernel_rfl
            · kernel_rfl
            · exact fun _ _ _ h => h
            · exact hHeld
            · exact hShut
            clear hShut
            intro hShut
            try simp only [Act.put, List.setIfInBounds_toArray, List.set_cons_zero, List.set_cons_succ]
            refine wpAnyN_take_3 (v := ?v26n) ?_ ?_ ?_ ?_ ?_ ?hy26n ?_ ?_ ?_
            case hy26n =>
              refine Or.inl ⟨by rfl, ?_⟩
              intro w hSw
              try dsimp only at hSw
              go_simp
              try with_reducible rfl
            · kernel_rfl
            · kernel_rfl
            · kernel_rfl
            · kernel_rfl
            · exact fun _ _ _ h => h
            · exact hHeld
            · exact hShut
            clear hShut
            intro hShut
            try simp only [Act.put, List.setIfInBounds_toArray, List.set_cons_zero, List.set_cons_succ]
            refine wpAnyN_take_4 (v := ?v27n) ?_ ?_ ?_ ?_ ?_ ?hy27n ?_ ?_ ?_
            case hy27n =>
              refine Or.inl ⟨by rfl, ?_⟩
              intro w hSw
              try dsimp only at hSw
              go_simp
              try with_reducible rfl
            · kernel_rfl
            · kernel_rfl
            · kernel_rfl
            · kernel_rfl
            · exact fun _ _ _ h => h
            · exact hHeld
            · exact hShut
            clear hShut
            intro hShut
            try simp only [Act.put, List.setIfInBounds_toArray, List.set_cons_zero, List.set_cons_succ]
            refine wpAnyN_take_5 (v := ?v28n) ?_ ?_ ?_ ?_ ?_ ?hy28n ?_ ?_ ?_
            case hy28n =>
              refine Or.inl ⟨by rfl, ?_⟩
              intro w hSw
              try dsimp only at hSw
              go_simp
              try with_reducible rfl
            · kernel_rfl
            · kernel_rfl
            · kernel_rfl
            · kernel_rfl
            · exact fun _ _ _ h => h
            · exact hHeld
            · exact hShut
            clear hShut
            intro hShut
            try simp only [Act.put, List.setIfInBounds_toArray, List.set_cons_zero, List.set_cons_succ]
            refine wpAnyN_take_6 (v := ?v29n) ?_ ?_ ?_ ?_ ?_ ?hy29n ?_ ?_ ?_
            case hy29n =>
              refine Or.inl ⟨by rfl, ?_⟩
              intro w hSw
              try dsimp only at hSw
              go_simp
              try with_reducible rfl
            · kernel_rfl
            · kernel_rfl
            · kernel_rfl
            · kernel_rfl
            · exact fun _ _ _ h => h
            · exact hHeld
            · exact hShut
            clear hShut
            intro hShut
            try simp only [Act.put, List.setIfInBounds_toArray, List.set_cons_zero, List.set_cons_succ]
            refine wpAnyN_take_7 (v := ?v30n) ?_ ?_ ?_ ?_ ?_ ?hy30n ?_ ?_ ?_
            case hy30n =>
              refine Or.inl ⟨by rfl, ?_⟩
              intro w hSw
              try dsimp only at hSw
              go_simp
              try with_reducible rfl
            · kernel_rfl
            · kernel_rfl
            · kernel_rfl
            · kernel_rfl
            · exact fun _ _ _ h => h
            · exact hHeld
            · exact hShut
            clear hShut
            intro hShut
            try simp only [Act.put, List.setIfInBounds_toArray, List.set_cons_zero, List.set_cons_succ]
            refine wpAnyN_take_8 (v := ?v31n) ?_ ?_ ?_ ?_ ?_ ?hy31n ?_ ?_ ?_
            case hy31n =>
              refine Or.inl ⟨by rfl, ?_⟩
              intro w hSw
              try dsimp only at hSw
              go_simp
              try with_reducible rfl
            · kernel_rfl
            · kernel_rfl
            · kernel_rfl
            · kernel_rfl
            · exact fun _ _ _ h => h
            · exact hHeld
            · exact hShut
            clear hShut
            intro hShut
            try simp only [Act.put, List.setIfInBounds_toArray, List.set_cons_zero, List.set_cons_succ]
            refine wpAnyN_take_9 (v := ?v32n) ?_ ?_ ?_ ?_ ?_ ?hy32n ?_ ?_ ?_
            case hy32n =>
              refine Or.inl ⟨by rfl, ?_⟩
              intro w hSw
              try dsimp only at hSw
              go_simp
              try with_reducible rfl
            · kernel_rfl
            · kernel_rfl
            · kernel_rfl
            · kernel_rfl
            · exact fun _ _ _ h => h
            · exact hHeld
            · exact hShut
            clear hShut
            intro hShut
            try simp only [Act.put, List.setIfInBounds_toArray, List.set_cons_zero, List.set_cons_succ]
            refine wpAnyN_take_10 (v := ?v33n) ?_ ?_ ?_ ?_ ?_ ?hy33n ?_ ?_ ?_
            case hy33n =>
              refine Or.inl ⟨by rfl, ?_⟩
              intro w hSw
              try dsimp only at hSw
              go_simp
              try with_reducible rfl
            · kernel_rfl
            · kernel_rfl
            · kernel_rfl
            · kernel_rfl
            · exact fun _ _ _ h => h
            · exact hHeld
            · exact hShut
            clear hShut
            intro hShut
            try simp only [Act.put, List.setIfInBounds_toArray, List.set_cons_zero, List.set_cons_succ]
            refine wpAnyN_take_11 (v := ?v34n) ?_ ?_ ?_ ?_ ?_ ?hy34n ?_ ?_ ?_
            case hy34n =>
              refine Or.inl ⟨by rfl, ?_⟩
              intro w hSw
              try dsimp only at hSw
              go_simp
              try with_reducible rfl
            · kernel_rfl
            · kernel_rfl
            · kernel_rfl
            · kernel_rfl
            · exact fun _ _ _ h => h
            · exact hHeld
            · exact hShut
            clear hShut
            intro hShut
            try simp only [Act.put, List.setIfInBounds_toArray, List.set_cons_zero, List.set_cons_succ]
            refine wpAnyN_take_12 (v := ?v35n) ?_ ?_ ?_ ?_ ?_ ?hy35n ?_ ?_ ?_
            case hy35n =>
              refine Or.inl ⟨by rfl, ?_⟩
              intro w hSw
              try dsimp only at hSw
              go_simp
              try with_reducible rfl
            · kernel_rfl
            · kernel_rfl
            · kernel_rfl
            · kernel_rfl
            · exact fun _ _ _ h => h
            · exact hHeld
            · exact hShut
            clear hShut
            intro hShut
            try simp only [Act.put, List.setIfInBounds_toArray, List.set_cons_zero, List.set_cons_succ]
            refine wpAnyN_take_13 (v := ?v36n) ?_ ?_ ?_ ?_ ?_ ?hy36n ?_ ?_ ?_
            case hy36n =>
              refine Or.inl ⟨by rfl, ?_⟩
              intro w hSw
              try dsimp only at hSw
              go_simp
              try with_reducible rfl
            · kernel_rfl
            · kernel_rfl
            · kernel_rfl
            · kernel_rfl
            · exact fun _ _ _ h => h
            · exact hHeld
            · exact hShut
            clear hShut
            intro hShut
            try simp only [Act.put, List.setIfInBounds_toArray, List.set_cons_zero, List.set_cons_succ]
            refine wpAnyN_take_14 (v := ?v37n) ?_ ?_ ?_ ?_ ?_ ?hy37n ?_ ?_ ?_
            case hy37n =>
              refine Or.inl ⟨by rfl, ?_⟩
              intro w hSw
              try dsimp only at hSw
              go_simp
              try with_reducible rfl
            · kernel_rfl
            · kernel_rfl
            · kernel_rfl
            · kernel_rfl
            · exact fun _ _ _ h => h
            · exact hHeld
            · exact hShut
            clear hShut
            intro hShut
            try simp only [Act.put, List.setIfInBounds_toArray, List.set_cons_zero, List.set_cons_succ]
            refine wpAnyN_take_15 (v := ?v38n) ?_ ?_ ?_ ?_ ?_ ?hy38n ?_ ?_ ?_
            case hy38n =>
              refine Or.inl ⟨by rfl, ?_⟩
              intro w hSw
              try dsimp only at hSw
              go_simp
              try with_reducible rfl
            · kernel_rfl
            · kernel_rfl
            · kernel_rfl
            · kernel_rfl
            · exact fun _ _ _ h => h
            · exact hHeld
            · exact hShut
            clear hShut
            intro hShut
            try simp only [Act.put, List.setIfInBounds_toArray, List.set_cons_zero, List.set_cons_succ]
            refine wpAnyN_take_16 (v := ?v39n) ?_ ?_ ?_ ?_ ?_ ?hy39n ?_ ?_ ?_
            case hy39n =>
              refine Or.inl ⟨by rfl, ?_⟩
              intro w hSw
              try dsimp only at hSw
              go_simp
              try with_reducible rfl
            · kernel_rfl
            · kernel_rfl
            · kernel_rfl
            · kernel_rfl
            · exact fun _ _ _ h => h
            · exact hHeld
            · exact hShut
            clear hShut
            intro hShut
            try simp only [Act.put, List.setIfInBounds_toArray, List.set_cons_zero, List.set_cons_succ]
            refine wpAnyN_take_17 (v := ?v40n) ?_ ?_ ?_ ?_ ?_ ?hy40n ?_ ?_ ?_
            case hy40n =>
              refine Or.inl ⟨by rfl, ?_⟩
              intro w hSw
              try dsimp only at hSw
              go_simp
              try with_reducible rfl
            · kernel_rfl
            · kernel_rfl
            · kernel_rfl
            · kernel_rfl
            · exact fun _ _ _ h => h
            · exact hHeld
            · exact hShut
            clear hShut
            intro hShut
            try simp only [Act.put, List.setIfInBounds_toArray, List.set_cons_zero, List.set_cons_succ]
            refine wpAnyN_take_18 (v := ?v41n) ?_ ?_ ?_ ?_ ?_ ?hy41n ?_ ?_ ?_
            case hy41n =>
              refine Or.inl ⟨by rfl, ?_⟩
              intro w hSw
              try dsimp only at hSw
              go_simp
              try with_reducible rfl
            · kernel_rfl
            · kernel_rfl
            · kernel_rfl
            · kernel_rfl
            · exact fun _ _ _ h => h
            · exact hHeld
            · exact hShut
            clear hShut
            intro hShut
            try simp only [Act.put, List.setIfInBounds_toArray, List.set_cons_zero, List.set_cons_succ]
            refine wpAnyN_take_19 (v := ?v42n) ?_ ?_ ?_ ?_ ?_ ?hy42n ?_ ?_ ?_
            case hy42n =>
              refine Or.inl ⟨by rfl, ?_⟩
              intro w hSw
              try dsimp only at hSw
              go_simp
              try with_reducible rfl
            · kernel_rfl
            · kernel_rfl
            · kernel_rfl
            · kernel_rfl
            · exact fun _ _ _ h => h
            · exact hHeld
            · exact hShut
            clear hShut
            intro hShut
            try simp only [Act.put, List.setIfInBounds_toArray, List.set_cons_zero, List.set_cons_succ]

            refine wpAnyN_one_20 (by kernel_rfl) (by exact hShut) (fun K hK => ?_)
            go_simp
            refine hK.out _ _ (fun _ => (by exact hS2q.out _)) (fun hH hS2 => ?_)
            clear hK K hHeld hShut
            have hShut := hS2
            clear hS2
            have hHeld := hH rfl
            clear hH
            try simp only [Act.put, List.setIfInBounds_toArray, List.set_cons_zero, List.set_cons_succ]
            refine wpAnyN_one_21 (by kernel_rfl) (by exact hShut) (fun K hK => ?_)
            go_simp
            refine hK.out _ _ (fun _ => (by exact hS2q.out _)) (fun hH hS2 => ?_)
            clear hK K hHeld hShut
            have hShut := hS2
            clear hS2
            have hHeld := hH rfl
            clear hH
            try simp only [Act.put, List.setIfInBounds_toArray, List.set_cons_zero, List.set_cons_succ]
            refine wpAnyN_one_22 (by kernel_rfl) (by exact hShut) (fun K hK => ?_)
            go_simp
            refine hK.out _ _ (fun h => absurd h (by decide)) (fun _ hS2 => ?_)
            clear hK K hShut
            have hShut := hS2
            clear hS2
            try simp only [Act.put, List.setIfInBounds_toArray, List.set_cons_zero, List.set_cons_succ]
            refine wpAnyN_done (by kernel_rfl) ?_ _
            generalize ((wc.setCell ⟨gr1, b', none⟩ (.int .i64 (m1 : Int))).setCell ⟨gr2', a', none⟩ (.int .i64 (m2 : Int))).drew = wd at *
            rw [← hm1.out] at *
            clear B1 hXs hXn r2 r3 r4 s1 s2 s3 s4 s5 t0 t1 t2 t3 d7 d8
            have B1 := B4
            have hXs := hXs2
            have hXn := hXn2
            clear B4 hXs2 hXn2
            have htk : k % ns < ns := Nat.mod_lt _ (by omega)
            have hts : k % ns < X2.sats.length := by have := hXs.out; omega
            have hBV := B1.out
            go_upto_region 11 with fail
            obtain ⟨gs, hgs, ⟨v, hv⟩, hf, HZ⟩ := hBV.room (k % ns) hts ((q % 1000000001 : Nat) : Int) (by omega) (by omega)
            dsimp only at hgs
            subst hgs
            have c5 : wd.cell? ⟨gx, 5, none⟩ = some (.slice (some ⟨gs, 0, none⟩) X2.sats.length x6) := cell_of_row _ gx 5 _ _ _ hBV.box
            rw [hXs.out] at c5
            have r1 : (k : Int).tmod (ns : Int) = ((k % ns : Nat) : Int) := (Int.ofNat_tmod k ns).symm
            have r2 : (q : Int).tmod 1000000001 = ((q % 1000000001 : Nat) : Int) := (Int.ofNat_tmod q 1000000001).symm
            have r3 : IntKind.u32.wrap ((q % 1000000001 : Nat) : Int) = ((q % 1000000001 : Nat) : Int) := by rw [IntKind.wrap_u32]; omega
            have r4 : IntKind.i64.wrap ((q % 1000000001 : Nat) : Int) = ((q % 1000000001 : Nat) : Int) := IntWalk.i64_in _ (by omega)
            have r0 : ¬ ns = 0 := by omega
            have t0 : (0 : Int) ≤ ((k % ns : Nat) : Int) := by omega
            have t1 : ((k % ns : Nat) : Int) < (ns : Int) := by omega
            replace HZ := Lib.hid HZ
            clear hBV
            generalize k % ns = t at *
            generalize q % 1000000001 = m at *
            refine wp_region_N (fun j => decide (j < 12)) (fun wz => wz.cell? ⟨gx, 5, none⟩ = some (.slice (some ⟨gs, 0, none⟩) ns x6)) (by kernel_rfl) (by exact c5) (fun hShut hHeld => ?_)
            refine wpAnyN_take_0 (v := ?v43n) ?_ ?_ ?_ ?_ ?_ ?hy43n ?_ ?_ ?_
            case hy43n =>
              refine Or.inl ⟨by rfl, ?_⟩
              intro w hSw
              try dsimp only at hSw
              go_simp
              try with_reducible rfl
            · kernel_rfl
            · kernel_rfl
            · kernel_rfl
            · kernel_rfl
            · exact fun _ _ _ h => h
            · exact hHeld
            · exact hShut
            clear hShut
            intro hShut
            try simp only [Act.put, List.setIfInBounds_toArray, List.set_cons_zero, List.set_cons_succ]
            refine wpAnyN_take_1 (v := ?v44n) ?_ ?_ ?_ ?_ ?_ ?hy44n ?_ ?_ ?_
            case hy44n =>
              refine Or.inl ⟨by rfl, ?_⟩
              intro w hSw
              try dsimp only at hSw
              go_simp
              try with_reducible rfl
            · kernel_rfl
            · kernel_rfl
            · kernel_rfl
            · kernel_rfl
            · exact fun _ _ _ h => h
            · exact hHeld
            · exact hShut
            clear hShut
            intro hShut
            try simp only [Act.put, List.setIfInBounds_toArray, List.set_cons_zero, List.set_cons_succ]
            refine wpAnyN_take_2 (v := ?v45n) ?_ ?_ ?_ ?_ ?_ ?hy45n ?_ ?_ ?_
            case hy45n =>
              refine Or.inl ⟨by rfl, ?_⟩
              intro w hSw
              try dsimp only at hSw
              go_simp
              try with_reducible rfl
            · kernel_rfl
            · kernel_rfl
            · kernel_rfl
            · kernel_rfl
            · exact fun _ _ _ h => h
            · exact hHeld
            · exact hShut
            clear hShut
            intro hShut
            try simp only [Act.put, List.setIfInBounds_toArray, List.set_cons_zero, List.set_cons_succ]
            refine wpAnyN_take_3 (v := ?v46n) ?_ ?_ ?_ ?_ ?_ ?hy46n ?_ ?_ ?_
            case hy46n =>
              refine Or.inl ⟨by rfl, ?_⟩
              intro w hSw
              try dsimp only at hSw
              go_simp
              try with_reducible rfl
            · kernel_rfl
            · kernel_rfl
            · kernel_rfl
            · kernel_rfl
            · exact fun _ _ _ h => h
            · exact hHeld
            · exact hShut
            clear hShut
            intro hShut
            try simp only [Act.put, List.setIfInBounds_toArray, List.set_cons_zero, List.set_cons_succ]
            refine wpAnyN_take_4 (v := ?v47n) ?_ ?_ ?_ ?_ ?_ ?hy47n ?_ ?_ ?_
            case hy47n =>
              refine Or.inl ⟨by rfl, ?_⟩
              intro w hSw
              try dsimp only at hSw
              go_simp
              try with_reducible rfl
            · kernel_rfl
            · kernel_rfl
            · kernel_rfl
            · kernel_rfl
            · exact fun _ _ _ h => h
            · exact hHeld
            · exact hShut
            clear hShut
            intro hShut
            try simp only [Act.put, List.setIfInBounds_toArray, List.set_cons_zero, List.set_cons_succ]
            refine wpAnyN_take_5 (v := ?v48n) ?_ ?_ ?_ ?_ ?_ ?hy48n ?_ ?_ ?_
            case hy48n =>
              refine Or.inl ⟨by rfl, ?_⟩
              intro w hSw
              try dsimp only at hSw
              go_simp
              try with_reducible rfl
            · kernel_rfl
            · kernel_rfl
            · kernel_rfl
            · kernel_rfl
            · exact fun _ _ _ h => h
            · exact hHeld
            · exact hShut
            clear hShut
            intro hShut
            try simp only [Act.put, List.setIfInBounds_toArray, List.set_cons_zero, List.set_cons_succ]
            refine wpAnyN_take_6 (v := ?v49n) ?_ ?_ ?_ ?_ ?_ ?hy49n ?_ ?_ ?_
            case hy49n =>
              refine Or.inl ⟨by rfl, ?_⟩
              intro w hSw
              try dsimp only at hSw
              go_simp
              try with_reducible rfl
            · kernel_rfl
            · kernel_rfl
            · kernel_rfl
            · kernel_rfl
            · exact fun _ _ _ h => h
            · exact hHeld
            · exact hShut
            clear hShut
            intro hShut
            try simp only [Act.put, List.setIfInBounds_toArray, List.set_cons_zero, List.set_cons_succ]
            refine wpAnyN_take_7 (v := ?v50n) ?_ ?_ ?_ ?_ ?_ ?hy50n ?_ ?_ ?_
            case hy50n =>
              refine Or.inl ⟨by rfl, ?_⟩
              intro w hSw
              try dsimp only at hSw
              go_simp
              try with_reducible rfl
            · kernel_rfl
            · kernel_rfl
            · kernel_rfl
            · kernel_rfl
            · exact fun _ _ _ h => h
            · exact hHeld
            · exact hShut
            clear hShut
            intro hShut
            try simp only [Act.put, List.setIfInBounds_toArray, List.set_cons_zero, List.set_cons_succ]
            refine wpAnyN_take_8 (v := ?v51n) ?_ ?_ ?_ ?_ ?_ ?hy51n ?_ ?_ ?_
            case hy51n =>
              refine Or.inl ⟨by rfl, ?_⟩
              intro w hSw
              try dsimp only at hSw
              go_simp
              try with_reducible rfl
            · kernel_rfl
            · kernel_rfl
            · kernel_rfl
            · kernel_rfl
            · exact fun _ _ _ h => h
            · exact hHeld
            · exact hShut
            clear hShut
            intro hShut
            try simp only [Act.put, List.setIfInBounds_toArray, List.set_cons_zero, List.set_cons_succ]
            refine wpAnyN_take_9 (v := ?v52n) ?_ ?_ ?_ ?_ ?_ ?hy52n ?_ ?_ ?_
            case hy52n =>
              refine Or.inl ⟨by rfl, ?_⟩
              intro w hSw
              try dsimp only at hSw
              go_simp
              try with_reducible rfl
            · kernel_rfl
            · kernel_rfl
            · kernel_rfl
            · kernel_rfl
            · exact fun _ _ _ h => h
            · exact hHeld
            · exact hShut
            clear hShut
            intro hShut
            try simp only [Act.put, List.setIfInBounds_toArray, List.set_cons_zero, List.set_cons_succ]
            refine wpAnyN_take_10 (v := ?v53n) ?_ ?_ ?_ ?_ ?_ ?hy53n ?_ ?_ ?_
            case hy53n =>
              refine Or.inl ⟨by rfl, ?_⟩
              intro w hSw
              try dsimp only at hSw
              go_simp
              try with_reducible rfl
            · kernel_rfl
            · kernel_rfl
            · kernel_rfl
            · kernel_rfl
            · exact fun _ _ _ h => h
            · exact hHeld
            · exact hShut
            clear hShut
            intro hShut
            try simp only [Act.put, List.setIfInBounds_toArray, List.set_cons_zero, List.set_cons_succ]
            refine wpAnyN_take_11 (v := ?v54n) ?_ ?_ ?_ ?_ ?_ ?hy54n ?_ ?_ ?_
            case hy54n =>
              refine Or.inl ⟨by rfl, ?_⟩
              intro w hSw
              try dsimp only at hSw
              go_simp
              try with_reducible rfl
            · kernel_rfl
            · kernel_rfl
            · kernel_rfl
            · kernel_rfl
            · exact fun _ _ _ h => h
            · exact hHeld
            · exact hShut
            clear hShut
            intro hShut
            try simp only [Act.put, List.setIfInBounds_toArray, List.set_cons_zero, List.set_cons_succ]

            refine wpAnyN_one_12 (by kernel_rfl) (by exact hShut) (fun K hK => ?_)
            go_simp
            refine hK.out _ _ (fun h => absurd h (by decide)) (fun _ hS2 => ?_)
            clear hK K hShut
            have hShut := hS2
            clear hS2
            try simp only [Act.put, List.setIfInBounds_toArray, List.set_cons_zero, List.set_cons_succ]
            refine wpAnyN_done (by kernel_rfl) ?_ _
            go_wp2_with fail
            go_roundw
            case rel => exact ⟨k + 1, _, by omega, by omega, by go_num, HZ.out.below ((Below.refl _ _).drew), by show 1 + (X2.sats.set _ _).length + X2.custs.length = nn; rw [List.length_set]; exact hXn.out, by show (X2.sats.set _ _).length = ns; rw [List.length_set]; exact hXs.out⟩
            case measure => simp [intOf]; omega
    · obtain rfl : k = bs.length := by omega
      have hbx := hBK.out.box
      dsimp only [instC] at hbx
      obtain ⟨⟨c0, c1, c2, c3, c4, c5, c6, c7, c8⟩, _⟩ := row9 hbx
      have KX := hBK.out.ok
      have hOn := Lib.hid (On.mk hBK.out.bel hBK.out.le)
      have IXF := Lib.hid hBK.out.is
      replace hbx := Lib.hid hbx
      clear hBK
      go_wp2_with fail
      refine (show_any X ⟨x5, x6, x7, x8, xo, xp, xt, xu⟩ KX _ IXF.out).mono ?_
      rintro e wA ⟨rfl, hbA⟩
      have hOnA := Lib.hid (hOn.out.go hbA)
      have IXA := Lib.hid (IXF.out.below hbA)
      have hbxA := Lib.hid ((hbA.block gx (heap_lt hbx.out)).trans hbx.out)
      clear hbA hOn IXF hbx c0 c1 c2 c3 c4 c5 c6 c7 c8
      go_wp2_with fail
      refine (show_back KX _).mono ?_
      rintro e wB ⟨hbB, ⟨Z, ⟨d1, e1, d2, e2, d3, e3, d4, e4⟩, hr, _, rfl, HJ⟩ | ⟨a', c', hr, _⟩⟩
      rotate_left
      · cases hr
      injection hr with hr
      subst hr
      have hb6 := below_new wB (.cells #[.int .i64 X.fin, .int .i64 X.tm, .int .i64 X.tr, .int .i64 X.bm, .int .i64 X.br, .slice d1 X.sats.length e1, .slice d2 X.custs.length e2, .slice d3 X.cost.length e3, .slice d4 X.time.length e4] 29)
      have hb7 := hbB.trans (hb6.mono hbB.size)
      have hOnB := Lib.hid (hOnA.out.go hb7)
      have IXB := Lib.hid (IXA.out.below hb7)
      have HJB := Lib.hid (HJ.below hb6)
      have hbxB := Lib.hid ((hb7.block gx (heap_lt hbxA.out)).trans hbxA.out)
      have hbyB := Lib.hid (heap_alloc_new wB (.cells #[.int .i64 X.fin, .int .i64 X.tm, .int .i64 X.tr, .int .i64 X.bm, .int .i64 X.br, .slice d1 X.sats.length e1, .slice d2 X.custs.length e2, .slice d3 X.cost.length e3, .slice d4 X.time.length e4] 29))
      clear hbB hb6 hb7 hOnA IXA HJ hbxA
      go_upto_region 14 with fail
      generalize wB.alloc (.cells #[.int .i64 X.fin, .int .i64 X.tm, .int .i64 X.tr, .int .i64 X.bm, .int .i64 X.br, .slice d1 X.sats.length e1, .slice d2 X.custs.length e2, .slice d3 X.cost.length e3, .slice d4 X.time.length e4] 29) = w6 at *
      generalize wB.heap.size = gy at *
      obtain ⟨⟨c0, c1, c2, c3, c4, c5, c6, c7, c8⟩, _⟩ := row9 hbxB.out
      go_wp2_with fail
      refine (check0 X ⟨x5, x6, x7, x8, xo, xp, xt, xu⟩ KX _ IXB.out).mono ?_
      rintro e w7 ⟨rfl, hb7⟩
      have hOn7 := Lib.hid (hOnB.out.go hb7)
      have IX7 := Lib.hid (IXB.out.below hb7)
      have HJ7 := Lib.hid (HJB.out.below hb7)
      have hbx7 := Lib.hid ((hb7.block gx (heap_lt hbxB.out)).trans hbxB.out)
      have hby7 := Lib.hid ((hb7.block gy (heap_lt hbyB.out)).trans hbyB.out)
      clear hb7 hOnB IXB HJB hbxB hbyB c0 c1 c2 c3 c4 c5 c6 c7 c8
      obtain ⟨⟨c0, c1, c2, c3, c4, c5, c6, c7, c8⟩, _⟩ := row9 hbx7.out
      obtain ⟨⟨d0', d1', d2', d3', d4', d5', d6', d7', d8'⟩, _⟩ := row9 hby7.out
      go_wp2_with fail
      refine (same_self X ⟨x5, x6, x7, x8, xo, xp, xt, xu⟩ ⟨d1, e1, d2, e2, d3, e3, d4, e4⟩ _ IX7.out HJ7.out).mono ?_
      rintro e w8 ⟨rfl, hb8⟩
      have hOn8 := Lib.hid (hOn7.out.go hb8)
      clear hb8
      go_wp2_with fail
      go_ret
      exact ⟨rfl, by first | exact hOn8.out.b | (rw [hg.out]; exact hOn8.out.b)⟩
theorem law_ShowBack (w : World) (v : Value) (hv : ∃ (S : SmallD) (h : SmallH), v = .agg (smallC S h) ∧ SmallIs w S h) (a : Option Addr) (len cap : Nat) (zs : List Int) (hr : IsRow .u32 w a len cap zs) :
    Calls Try.prog 10 #[v, .slice a len cap] w fun e w' => e = .returned (.bool true) ∧ Below w.heap.size w w' := by
  obtain ⟨S, h, rfl, H⟩ := hv
  obtain ⟨hE, hl, hm⟩ := elems_of hr
  have := walk_ShowBack w S h H a cap (zs.take len) (by omega) hE
  rwa [hl] at this
end Go.Proofs.Ytljcpgeggbbmfaa
