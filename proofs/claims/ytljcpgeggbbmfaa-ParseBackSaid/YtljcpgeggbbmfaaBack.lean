/-
  The walk of ParseBack (layer 12).
-/
import Derived.Test.YtljcpgeggbbmfaaBackT
import Derived.Test.YtljcpgeggbbmfaaTextW
import Derived.Test.YtljcpgeggbbmfaaCuts
namespace Go.Proofs.Ytljcpgeggbbmfaa
set_option linter.unusedVariables false
set_option linter.unusedSimpArgs false
open Go.RowKit
/-- the gap behind a word. -/
def gapI (gs : List Int) (i : Nat) : ByteArray := gapP (if i < gs.length then (gs.getD i 0).toNat else 0)
theorem back_out (X : InstD) (K : ReadOk X) (ws : List WordD) (hw : texts ws = wordsI X) (h : ws.length ≤ 250) (gs : List Int) (w : World) :
    Calls Try.prog 14 #[.string (tP ws (gapI gs) ws.length)] w (POut (.inl X) w) := by
  obtain ⟨h1, h2, h3⟩ := back_t X ws hw (gapI gs) (fun i => gapP_ok _)
  have := parse_fine _ (by omega) h1 w
  rwa [parseW_back _ K h3] at this
set_option maxHeartbeats 16000000 in
set_option maxRecDepth 100000 in
theorem walk_ParseBack (w : World) (S : SmallD) (h : SmallH) (H : SmallIs w S h) (a : Option Addr) (cap : Nat) (gs : List Int) (hgl : gs.length ≤ 9223372036854775807) (HE : Elems .u8 w a gs) :
    Calls Try.prog 6 #[.agg (smallC S h), .slice a gs.length cap] w fun e w' => e = .returned (.bool true) ∧ Below w.heap.size w w' := by
  replace HE := Lib.hid (fun w' (hb : Below w.heap.size w w') => HE.below hb)
  have K := Lib.hid (make_ok H)
  have HT := Lib.hid (make_text H)
  obtain ⟨sa, sc, ca, cc, oa, oc, ta, tc⟩ := h
  have BW := (Below.refl w.heap.size w).alloc (Nat.le_refl _) (.cells #[Value.int .u8 S.fin, .int .u8 S.tm, .int .u8 S.tr, .int .u8 S.bm, .int .u8 S.br, .slice sa S.sats.length sc, .slice ca S.custs.length cc, .slice oa S.cost.length oc, .slice ta S.time.length tc, .bool S.tight, .bool S.loose] 40)
  replace H := Lib.hid (H.below BW)
  have DD : ∀ j u, #[Value.int .u8 S.fin, .int .u8 S.tm, .int .u8 S.tr, .int .u8 S.bm, .int .u8 S.br, .slice sa S.sats.length sc, .slice ca S.custs.length cc, .slice oa S.cost.length oc, .slice ta S.time.length tc, .bool S.tight, .bool S.loose][j]? = some u → (w.alloc (.cells #[Value.int .u8 S.fin, .int .u8 S.tm, .int .u8 S.tr, .int .u8 S.bm, .int .u8 S.br, .slice sa S.sats.length sc, .slice ca S.custs.length cc, .slice oa S.cost.length oc, .slice ta S.time.length tc, .bool S.tight, .bool S.loose] 40)).cell? ⟨w.heap.size, j, none⟩ = some u := fun j u hu => by rw [World.cell?_alloc_new]; exact hu
  have gA : w.heap.size < (w.alloc (.cells #[Value.int .u8 S.fin, .int .u8 S.tm, .int .u8 S.tr, .int .u8 S.bm, .int .u8 S.br, .slice sa S.sats.length sc, .slice ca S.custs.length cc, .slice oa S.cost.length oc, .slice ta S.time.length tc, .bool S.tight, .bool S.loose] 40)).heap.size := by simp
  replace DD := Lib.hid DD
  replace BW := Lib.hid BW
  go_enter Try.func6, Try.ntmps6
  go_wp2_with fail
  refine (awake12_any _).mono ?_
  rintro e W ⟨rfl, hA⟩
  generalize (w.alloc (.cells #[Value.int .u8 S.fin, .int .u8 S.tm, .int .u8 S.tr, .int .u8 S.bm, .int .u8 S.br, .slice sa S.sats.length sc, .slice ca S.custs.length cc, .slice oa S.cost.length oc, .slice ta S.time.length tc, .bool S.tight, .bool S.loose] 40)) = WA at *
  generalize hg : w.heap.size = g at *
  replace hg := Lib.hid hg
  replace H := Lib.hid (H.out.below hA)
  have d0 : W.cell? ⟨g, 0, none⟩ = some (Value.int .u8 S.fin) := keep_cell hA (DD.out 0 _ rfl)
  have d1 : W.cell? ⟨g, 1, none⟩ = some (.int .u8 S.tm) := keep_cell hA (DD.out 1 _ rfl)
  have d2 : W.cell? ⟨g, 2, none⟩ = some (.int .u8 S.tr) := keep_cell hA (DD.out 2 _ rfl)
  have d3 : W.cell? ⟨g, 3, none⟩ = some (.int .u8 S.bm) := keep_cell hA (DD.out 3 _ rfl)
  have d4 : W.cell? ⟨g, 4, none⟩ = some (.int .u8 S.br) := keep_cell hA (DD.out 4 _ rfl)
  have d5 : W.cell? ⟨g, 5, none⟩ = some (.slice sa S.sats.length sc) := keep_cell hA (DD.out 5 _ rfl)
  have d6 : W.cell? ⟨g, 6, none⟩ = some (.slice ca S.custs.length cc) := keep_cell hA (DD.out 6 _ rfl)
  have d7 : W.cell? ⟨g, 7, none⟩ = some (.slice oa S.cost.length oc) := keep_cell hA (DD.out 7 _ rfl)
  have d8 : W.cell? ⟨g, 8, none⟩ = some (.slice ta S.time.length tc) := keep_cell hA (DD.out 8 _ rfl)
  have d9 : W.cell? ⟨g, 9, none⟩ = some (.bool S.tight) := keep_cell hA (DD.out 9 _ rfl)
  have d10 : W.cell? ⟨g, 10, none⟩ = some (.bool S.loose) := keep_cell hA (DD.out 10 _ rfl)
  have g1 : g < W.heap.size := Nat.lt_of_lt_of_le gA hA.size
  have hW := Lib.hid (BW.out.trans (hA.mono (by have := hg.out; have := gA; omega)))
  clear BW hA gA DD
  have hgs := Lib.hid (HE.out W (by first | exact hW.out | (rw [hg.out]; exact hW.out)))
  clear HE
  by_cases hl : 200 < gs.length
  · have hl2 : (200 : Int) < (gs.length : Int) := by omega
    go_wp2_with fail
    go_ret
    exact ⟨rfl, by first | exact hW.out | (rw [hg.out]; exact hW.out)⟩
  have hl2 : ¬ (200 : Int) < (gs.length : Int) := by omega
  go_wp2_with fail
  refine (make_any S ⟨sa, sc, ca, cc, oa, oc, ta, tc⟩ _ H.out).mono ?_
  rintro e w1 ⟨⟨x5, x6, x7, x8, xo, xp, xt, xu⟩, g7, g8, rfl, hM, hb1⟩
  have IX := hM.make
  have hW1 := (On.mk hW.out (Nat.le_of_lt g1)).go hb1
  have hgs1 := hgs.out.below hb1
  clear d0 d1 d2 d3 d4 d5 d6 d7 d8 d9 d10 hM hb1 hW H g7 g8 hgs
  generalize makeI S = X at *
  have hN := below_new w1 (.cells #[.int .i64 X.fin, .int .i64 X.tm, .int .i64 X.tr, .int .i64 X.bm, .int .i64 X.br, .slice x5 X.sats.length x6, .slice x7 X.custs.length x8, .slice xo X.cost.length xp, .slice xt X.time.length xu] 29)
  replace hW1 := Lib.hid (hW1.go hN)
  replace hgs1 := Lib.hid (hgs1.below hN)
  replace IX := Lib.hid (IX.below hN)
  have hn1 := Lib.hid (heap_alloc_new w1 (.cells #[.int .i64 X.fin, .int .i64 X.tm, .int .i64 X.tr, .int .i64 X.bm, .int .i64 X.br, .slice x5 X.sats.length x6, .slice x7 X.custs.length x8, .slice xo X.cost.length xp, .slice xt X.time.length xu] 29))
  clear hN
  go_upto_region 6 with fail
  generalize w1.alloc (.cells #[.int .i64 X.fin, .int .i64 X.tm, .int .i64 X.tr, .int .i64 X.bm, .int .i64 X.br, .slice x5 X.sats.length x6, .slice x7 X.custs.length x8, .slice xo X.cost.length xp, .slice xt X.time.length xu] 29) = w2 at *
  generalize w1.heap.size = gx at *
  obtain ⟨⟨c0, c1, c2, c3, c4, c5, c6, c7, c8⟩, _⟩ := row9 hn1.out
  go_wp2_with fail
  refine (text12_any X ⟨x5, x6, x7, x8, xo, xp, xt, xu⟩ K.out _ IX.out).mono ?_
  rintro e w3 ⟨rfl, hb3⟩
  have hb3z := hb3
  have h52 := HT.out
  have hwt := texts_I X
  have hok := okAll_I X
  clear hb3 HT c0 c1 c2 c3 c4 c5 c6 c7 c8
  go_wp2_with fail
  refine (twords_ok (textI X) _ (by omega) hok).mono ?_
  rintro e w4 ⟨A, C, rfl, hO, hb4⟩
  have hb5 := hb3z.trans (hb4.mono hb3z.size)
  have hR := Lib.hid (own_rd' hO)
  have hn4 := Lib.hid ((hb5.block gx (heap_lt hn1.out)).trans hn1.out)
  replace hW1 := Lib.hid (hW1.out.go hb5)
  replace hgs1 := Lib.hid (hgs1.out.below hb5)
  replace IX := Lib.hid (IX.out.below hb5)
  have hsh := Lib.hid (word_short hwt)
  have hlen := texts_len hwt
  clear hO hb4 hb5 hok hb3z hn1
  generalize wordsL (textI X) = ws at *
  have wl : ws.length ≤ 250 := by omega
  have hP := Lib.hid (fun w' => back_out X K.out ws hwt wl gs w')
  have hmono := Lib.hid (fun k (hk : k ≤ ws.length) => Nat.le_trans (tP_mono ws (gapI gs) hk) (back_t X ws hwt (gapI gs) (fun i => gapP_ok _)).2.1)
  clear h52 hlen hwt K
  go_wp2_with fail
  go_loopw [8, 30] (fun t j wr => ∃ k : Nat, k ≤ ws.length ∧ j = .int .i64 k ∧ t = .string (tP ws (gapI gs) k) ∧ Below w4.heap.size w4 wr) (fun _ i _ => ws.length - (intOf i).toNat)
  case atStart => exact ⟨0, Nat.zero_le _, rfl, rfl, Below.refl _ _⟩
  case round =>
    obtain ⟨k, hk, rfl, rfl, hb⟩ := hrel
    have k0 : (0 : Int) ≤ (k : Int) := by omega
    by_cases hkl : k < ws.length
    · obtain ⟨b, off, rfl, hc1, hc2⟩ := (hR.out.below hb).word hkl
      have k1 : (k : Int) < (ws.length : Int) := by omega
      have hxs := hsh.out ws[k] (List.getElem_mem hkl)
      have hT : Hid (tP ws (gapI gs) (k + 1) = tP ws (gapI gs) k ++ (ws[k].text ++ gapI gs k)) := Lib.hid (by show tP ws (gapI gs) k ++ (txtP ws k ++ gapI gs k) = _; rw [txtP_in hkl])
      have hts := hmono.out k hk
      generalize ws[k] = x at *
      generalize tP ws (gapI gs) k = T at *
      have hcell : ∀ (ad : Addr) (v : Value), wr.cell? ad = some v → (wr.alloc (.cells #[.string x.text, .int .i64 (x.pos : Int)] 48)).cell? ad = some v := fun ad v hv => keep_cell (below_new _ _) hv
      have y1 : ¬ 9223372036854775807 < x.text.size + 1 := by omega
      have y2 : ¬ 9223372036854775807 < T.size + (x.text.size + 1) := by omega
      have y3 : ¬ 9223372036854775807 < x.text.size + 4 := by omega
      have y4 : ¬ 9223372036854775807 < T.size + (x.text.size + 4) := by omega
      have y5 : ¬ 9223372036854775807 < x.text.size + 9 := by omega
      have y6 : ¬ 9223372036854775807 < T.size + (x.text.size + 9) := by omega
      have hbz := Lib.hid hb
      by_cases hkg : k < gs.length
      · obtain ⟨ad, rfl, hg1, hw⟩ := (hgs1.out.below hb) k hkg
        have hq0 : (0 : Int) ≤ gs.getD k 0 ∧ gs.getD k 0 ≤ 255 := by simpa [Lit.wf, IntKind.min, IntKind.max, IntKind.signed, IntKind.bits] using hw
        obtain ⟨q, hq⟩ : ∃ q : Nat, gs.getD k 0 = (q : Int) := ⟨(gs.getD k 0).toNat, by omega⟩
        rw [hq] at hg1 hq0
        have hg2 := hcell _ _ hg1
        have hG : Hid (gapI gs k = gapP q) := Lib.hid (by unfold gapI; rw [if_pos hkg, hq, Int.toNat_natCast])
        have k3 : (k : Int) < (gs.length : Int) := by omega
        clear hq hw hb hcell
        have hcase : (q : Int) % 4 = 0 ∨ (q : Int) % 4 = 1 ∨ (q : Int) % 4 = 2 ∨ (q : Int) % 4 = 3 := by omega
        have n4 : Hid (∀ r : Int, (q : Int) % 4 = r → (q % 4 : Nat) = r.toNat) := Lib.hid (fun r h => by omega)
        rcases hcase with hc | hc | hc | hc
        all_goals
          have hcn := n4.out _ hc
          have hG3 := hG.out
          unfold gapP at hG3
          rw [hcn] at hG3
          clear hcn
          replace hG3 := Lib.hid hG3
          have hct : (q : Int).tmod 4 = _ := (Int.tmod_eq_emod_of_nonneg hq0.1).trans hc
          go_upto_region 14 with fail
          go_region
          go_wp2_with fail
          go_roundw
          case rel => exact ⟨k + 1, by omega, by go_num, by rw [hT.out, hG3.out]; rfl, (((On.mk hbz.out hbz.out.size).alloc _).alloc _).b.drew⟩
          case measure => simp [intOf]; omega
      · have hG : Hid (gapI gs k = ⟨#[32]⟩) := Lib.hid (by unfold gapI; rw [if_neg hkg]; rfl)
        have k3 : ¬ (k : Int) < (gs.length : Int) := by omega
        clear hb hcell
        go_upto_region 14 with fail
        go_region
        go_wp2_with fail
        go_roundw
        case rel => exact ⟨k + 1, by omega, by go_num, by rw [hT.out, hG.out], (((On.mk hbz.out hbz.out.size).alloc _).alloc _).b.drew⟩
        case measure => simp [intOf]; omega
    · obtain rfl : k = ws.length := by omega
      generalize tP ws (gapI gs) ws.length = T at *
      have hW5 := Lib.hid (hW1.out.go hb)
      have IX5 := Lib.hid (IX.out.below hb)
      have hn5 := Lib.hid ((hb.block gx (heap_lt hn4.out)).trans hn4.out)
      clear hb hR hsh hgs1 hmono hW1 IX hn4
      go_wp2_with fail
      refine (hP.out _).mono ?_
      rintro e w5 ⟨hb5, ⟨Z, ⟨a1, b1, a2, b2, a3, b3, a4, b4⟩, hr, _, rfl, HI⟩ | ⟨a', c', hr, _⟩⟩
      rotate_left
      · cases hr
      injection hr with hr
      subst hr
      have hb6 := below_new w5 (.cells #[.int .i64 X.fin, .int .i64 X.tm, .int .i64 X.tr, .int .i64 X.bm, .int .i64 X.br, .slice a1 X.sats.length b1, .slice a2 X.custs.length b2, .slice a3 X.cost.length b3, .slice a4 X.time.length b4] 29)
      have hb7 := hb5.trans (hb6.mono hb5.size)
      have hW6 := Lib.hid (hW5.out.go hb7)
      have IX6 := Lib.hid (IX5.out.below hb7)
      have HI6 := Lib.hid (HI.below hb6)
      have hn6 := Lib.hid ((hb7.block gx (heap_lt hn5.out)).trans hn5.out)
      have hm6 := Lib.hid (heap_alloc_new w5 (.cells #[.int .i64 X.fin, .int .i64 X.tm, .int .i64 X.tr, .int .i64 X.bm, .int .i64 X.br, .slice a1 X.sats.length b1, .slice a2 X.custs.length b2, .slice a3 X.cost.length b3, .slice a4 X.time.length b4] 29))
      clear hb5 hb6 hb7 hW5 IX5 HI hn5 hP
      go_upto_region 17 with fail
      generalize w5.alloc (.cells #[.int .i64 X.fin, .int .i64 X.tm, .int .i64 X.tr, .int .i64 X.bm, .int .i64 X.br, .slice a1 X.sats.length b1, .slice a2 X.custs.length b2, .slice a3 X.cost.length b3, .slice a4 X.time.length b4] 29) = w6 at *
      generalize w5.heap.size = g5 at *
      obtain ⟨⟨c0, c1, c2, c3, c4, c5, c6, c7, c8⟩, _⟩ := row9 hn6.out
      obtain ⟨⟨d0', d1', d2', d3', d4', d5', d6', d7', d8'⟩, _⟩ := row9 hm6.out
      go_wp2_with fail
      refine (same_self X ⟨x5, x6, x7, x8, xo, xp, xt, xu⟩ ⟨a1, b1, a2, b2, a3, b3, a4, b4⟩ _ IX6.out HI6.out).mono ?_
      rintro e w9 ⟨rfl, hb9⟩
      have hW9 := Lib.hid (hW6.out.go hb9)
      clear hb9
      go_wp2_with fail
      go_ret
      exact ⟨rfl, by first | exact hW9.out.b | (rw [hg.out]; exact hW9.out.b)⟩
theorem law_ParseBack (w : World) (v : Value) (hv : ∃ (S : SmallD) (h : SmallH), v = .agg (smallC S h) ∧ SmallIs w S h) (a : Option Addr) (len cap : Nat) (zs : List Int) (hr : IsRow .u8 w a len cap zs) :
    Calls Try.prog 6 #[v, .slice a len cap] w fun e w' => e = .returned (.bool true) ∧ Below w.heap.size w w' := by
  obtain ⟨S, h, rfl, H⟩ := hv
  obtain ⟨hE, hl, hm⟩ := elems_of hr
  have := walk_ParseBack w S h H a cap (zs.take len) (by omega) hE
  rwa [hl] at this
end Go.Proofs.Ytljcpgeggbbmfaa
