/-
  The walk of ParseSpoilt (layer 12).
-/
import Derived.Test.YtljcpgeggbbmfaaBackT
import Derived.Test.YtljcpgeggbbmfaaTextW
import Derived.Test.YtljcpgeggbbmfaaCuts
namespace Go.Proofs.Ytljcpgeggbbmfaa
set_option linter.unusedVariables false
set_option linter.unusedSimpArgs false
open Go.RowKit
set_option maxHeartbeats 16000000 in
set_option maxRecDepth 100000 in
theorem walk_ParseSpoilt (w : World) (S : SmallD) (h : SmallH) (H : SmallIs w S h) (n : Nat) (hn : n < 65536) (m : Nat) (hm : m < 256) (s : ByteArray) (hs : s.size ≤ 9223372036854775807) :
    Calls Try.prog 5 #[.agg (smallC S h), .int .u16 (n : Int), .int .u8 (m : Int), .string s] w fun e w' => e = .returned (.bool true) ∧ Below w.heap.size w w' := by
  have K := Lib.hid (make_ok H)
  have HT := Lib.hid (make_text H)
  obtain ⟨sa, sc, ca, cc, oa, oc, ta, tc⟩ := h
  have BW := (Below.refl w.heap.size w).alloc (Nat.le_refl _) (.cells #[Value.int .u8 S.fin, .int .u8 S.tm, .int .u8 S.tr, .int .u8 S.bm, .int .u8 S.br, .slice sa S.sats.length sc, .slice ca S.custs.length cc, .slice oa S.cost.length oc, .slice ta S.time.length tc, .bool S.tight, .bool S.loose] 40)
  replace H := Lib.hid (H.below BW)
  have DD : ∀ j u, #[Value.int .u8 S.fin, .int .u8 S.tm, .int .u8 S.tr, .int .u8 S.bm, .int .u8 S.br, .slice sa S.sats.length sc, .slice ca S.custs.length cc, .slice oa S.cost.length oc, .slice ta S.time.length tc, .bool S.tight, .bool S.loose][j]? = some u → (w.alloc (.cells #[Value.int .u8 S.fin, .int .u8 S.tm, .int .u8 S.tr, .int .u8 S.bm, .int .u8 S.br, .slice sa S.sats.length sc, .slice ca S.custs.length cc, .slice oa S.cost.length oc, .slice ta S.time.length tc, .bool S.tight, .bool S.loose] 40)).cell? ⟨w.heap.size, j, none⟩ = some u := fun j u hu => by rw [World.cell?_alloc_new]; exact hu
  have gA : w.heap.size < (w.alloc (.cells #[Value.int .u8 S.fin, .int .u8 S.tm, .int .u8 S.tr, .int .u8 S.bm, .int .u8 S.br, .slice sa S.sats.length sc, .slice ca S.custs.length cc, .slice oa S.cost.length oc, .slice ta S.time.length tc, .bool S.tight, .bool S.loose] 40)).heap.size := by simp
  replace DD := Lib.hid DD
  replace BW := Lib.hid BW
  go_enter Try.func5, Try.ntmps5
  go_wp2_with fail
  refine (awake12_any _).mono ?_
  rintro e W ⟨rfl, hA⟩
  generalize (w.alloc (.cells #[Value.int .u8 S.fin, .int .u8 S.tm, .int .u8 S.tr, .int .u8 S.bm, .int .u8 S.br, .slice sa S.sats.length sc, .slice ca S.custs.length cc, .slice oa S.cost.length oc, .slice ta S.time.length tc, .bool S.tight, .bool S.loose] 40)) = WA at *
  generalize hg : w.heap.size = g at *
  replace hg := Lib.hid hg
  replace H := Lib.hid (H.out.below hA)
  have d0 : W.cell? ⟨g, 0, none⟩ = some (Value.int .u8 S.fin) := keep_cell hA (DD.out 0 _ rfl)
  have d1 : W.cell? ⟨g, 1, none⟩ = some (.int .u8 S.tm) := keep_cell hA (DD.out 1 _ rfl)
  have d2 : W.cell? ⟨g, 2, none⟩ = some (.int .u8 S.tr) := keep_cell hA (DD.out 2 _ rfl)
  have d3 : W.cell? ⟨g, 3, none⟩ = some (.int .u8 S.bm) := keep_cell hA (DD.out 3 _ rfl)
  have d4 : W.cell? ⟨g, 4, none⟩ = some (.int .u8 S.br) := keep_cell hA (DD.out 4 _ rfl)
  have d5 : W.cell? ⟨g, 5, none⟩ = some (.slice sa S.sats.length sc) := keep_cell hA (DD.out 5 _ rfl)
  have d6 : W.cell? ⟨g, 6, none⟩ = some (.slice ca S.custs.length cc) := keep_cell hA (DD.out 6 _ rfl)
  have d7 : W.cell? ⟨g, 7, none⟩ = some (.slice oa S.cost.length oc) := keep_cell hA (DD.out 7 _ rfl)
  have d8 : W.cell? ⟨g, 8, none⟩ = some (.slice ta S.time.length tc) := keep_cell hA (DD.out 8 _ rfl)
  have d9 : W.cell? ⟨g, 9, none⟩ = some (.bool S.tight) := keep_cell hA (DD.out 9 _ rfl)
  have d10 : W.cell? ⟨g, 10, none⟩ = some (.bool S.loose) := keep_cell hA (DD.out 10 _ rfl)
  have g1 : g < W.heap.size := Nat.lt_of_lt_of_le gA hA.size
  have hW := Lib.hid (BW.out.trans (hA.mono (by have := hg.out; have := gA; omega)))
  clear BW hA gA DD
  by_cases hl : 50 < s.size
  · have hl2 : (50 : Int) < (s.size : Int) := by omega
    go_wp2_with fail
    go_ret
    exact ⟨rfl, by first | exact hW.out | (rw [hg.out]; exact hW.out)⟩
  have hl2 : ¬ (50 : Int) < (s.size : Int) := by omega
  go_wp2_with fail
  refine (make_any S ⟨sa, sc, ca, cc, oa, oc, ta, tc⟩ _ H.out).mono ?_
  rintro e w1 ⟨hx, g7, g8, rfl, hM, hb1⟩
  have IX := Lib.hid hM.make
  have hW1 := Lib.hid ((On.mk hW.out (Nat.le_of_lt g1)).go hb1)
  clear d0 d1 d2 d3 d4 d5 d6 d7 d8 d9 d10
  clear hM hb1 hW H g7 g8
  generalize makeI S = X at *
  go_wp2_with fail
  refine (text12_any X hx K.out _ IX.out).mono ?_
  rintro e w2 ⟨rfl, hb2⟩
  have hW2 := Lib.hid (hW1.out.go hb2)
  have h52 := HT.out
  have hwt := texts_I X
  have hok := okAll_I X
  have h0 := (textI_3 X).2
  clear hb2 hW1 IX HT K
  go_wp2_with fail
  refine (twords_ok (textI X) _ (by omega) hok).mono ?_
  rintro e w3 ⟨A, C, rfl, hO, hb3⟩
  have hR := Lib.hid (own_rd' hO)
  have hW3 := Lib.hid (hW2.out.go hb3)
  have hsh := Lib.hid (word_short hwt)
  have hlen := texts_len hwt
  clear hO hb3 hW2 hok hwt
  generalize wordsL (textI X) = ws at *
  have wl : ws.length ≤ 250 := by omega
  have wn : 1 ≤ ws.length := by omega
  clear h0 h52 hlen
  have n0 : ¬ ws = [] := fun e => by rw [e] at wn; simp at wn
  have p1 : IntKind.i64.wrap (n : Int) = (n : Int) := IntWalk.i64_in _ (by omega)
  have p3 : (n : Int).tmod (ws.length : Int) = ((n % ws.length : Nat) : Int) := (Int.ofNat_tmod n _).symm
  generalize n % ws.length = i at *
  go_wp2_with fail
  clear p1 p3
  go_loopw [12, 40] (fun t j wr => ∃ (k : Nat) (T : ByteArray), k ≤ ws.length ∧ j = .int .i64 k ∧ t = .string T ∧ T.size ≤ 100 * k ∧ Below w3.heap.size w3 wr) (fun _ i _ => ws.length - (intOf i).toNat)
  case atStart => exact ⟨0, ⟨#[]⟩, Nat.zero_le _, rfl, rfl, Nat.le_refl _, Below.refl _ _⟩
  case round =>
    obtain ⟨k, T, hk, rfl, rfl, hT, hb⟩ := hrel
    have k0 : (0 : Int) ≤ (k : Int) := by omega
    by_cases hkl : k < ws.length
    · obtain ⟨b, off, rfl, hc1, hc2⟩ := (hR.out.below hb).word hkl
      have k1 : (k : Int) < (ws.length : Int) := by omega
      have hxs := hsh.out ws[k] (List.getElem_mem hkl)
      generalize ws[k] = x at *
      have y1 : ¬ 9223372036854775807 < x.text.size + 1 := by omega
      have y2 : ¬ 9223372036854775807 < T.size + (x.text.size + 1) := by omega
      have y3 : ¬ 9223372036854775807 < s.size + 1 := by omega
      have y4 : ¬ 9223372036854775807 < T.size + (s.size + 1) := by omega
      have y5 : ¬ 9223372036854775807 < T.size + (x.text.size + 1) + (x.text.size + 1) := by omega
      have hbz := Lib.hid hb
      clear hb
      by_cases he : k = i
      · subst he
        have hcase : (m : Int) % 4 = 0 ∨ (m : Int) % 4 = 1 ∨ (m : Int) % 4 = 2 ∨ (m : Int) % 4 = 3 := by omega
        rcases hcase with hc | hc | hc | hc
        all_goals
          go_wp2_with fail
          go_roundw
          case rel => exact ⟨k + 1, _, by omega, by go_num, rfl, by first | omega | (simp only [ByteArray.size_append]; show _ + (_ + 1) ≤ _; omega) | (simp only [ByteArray.size_append]; show _ + (_ + 1) + (_ + 1) ≤ _; omega), hbz.out.alloc hbz.out.size _⟩
          case measure => simp [intOf]; omega
      · have hne : ((k : Int) == (i : Int)) = false := by rw [beq_eq_false_iff_ne]; omega
        go_wp2_with fail
        go_roundw
        case rel => exact ⟨k + 1, _, by omega, by go_num, rfl, by (simp only [ByteArray.size_append]; show _ + (_ + 1) ≤ _; omega), hbz.out.alloc hbz.out.size _⟩
        case measure => simp [intOf]; omega
    · obtain rfl : k = ws.length := by omega
      obtain ⟨r, HP, HR⟩ := both_read T (by omega)
      obtain ⟨Y, a, c, H1⟩ := POut.one (r := r)
      replace HP := Lib.hid HP
      replace HR := Lib.hid HR
      have H2 := Lib.hid H1
      have hW4 := Lib.hid (hW3.out.go hb)
      clear H1 hb hR hsh hW3
      go_wp2_with fail
      refine (HP.out _).mono ?_
      intro e w5 h
      obtain ⟨hb5, ⟨a1, b1, a2, b2, a3, b3, a4, b4⟩, rfl, HI⟩ := H2.out _ _ _ h
      clear h
      have hW5 := Lib.hid ((hW4.out.go hb5).alloc (.cells #[.int .i64 Y.fin, .int .i64 Y.tm, .int .i64 Y.tr, .int .i64 Y.bm, .int .i64 Y.br, .slice a1 Y.sats.length b1, .slice a2 Y.custs.length b2, .slice a3 Y.cost.length b3, .slice a4 Y.time.length b4] 29))
      have HI5 := Lib.hid (HI.below (below_new _ (.cells #[.int .i64 Y.fin, .int .i64 Y.tm, .int .i64 Y.tr, .int .i64 Y.bm, .int .i64 Y.br, .slice a1 Y.sats.length b1, .slice a2 Y.custs.length b2, .slice a3 Y.cost.length b3, .slice a4 Y.time.length b4] 29)))
      have hn5 := Lib.hid (heap_alloc_new w5 (.cells #[.int .i64 Y.fin, .int .i64 Y.tm, .int .i64 Y.tr, .int .i64 Y.bm, .int .i64 Y.br, .slice a1 Y.sats.length b1, .slice a2 Y.custs.length b2, .slice a3 Y.cost.length b3, .slice a4 Y.time.length b4] 29))
      clear hb5 HI hW4
      go_upto_region 19 with fail
      generalize w5.alloc (.cells #[.int .i64 Y.fin, .int .i64 Y.tm, .int .i64 Y.tr, .int .i64 Y.bm, .int .i64 Y.br, .slice a1 Y.sats.length b1, .slice a2 Y.custs.length b2, .slice a3 Y.cost.length b3, .slice a4 Y.time.length b4] 29) = w6 at *
      generalize w5.heap.size = g5 at *
      go_wp2_with fail
      refine (HR.out _).mono ?_
      intro e w7 h
      obtain ⟨hb7, ⟨d1, e1, d2, e2, d3, e3, d4, e4⟩, rfl, HJ⟩ := H2.out _ _ _ h
      clear h HP HR H2
      have hb8 := below_new w7 (.cells #[.int .i64 Y.fin, .int .i64 Y.tm, .int .i64 Y.tr, .int .i64 Y.bm, .int .i64 Y.br, .slice d1 Y.sats.length e1, .slice d2 Y.custs.length e2, .slice d3 Y.cost.length e3, .slice d4 Y.time.length e4] 29)
      have hb9 := hb7.trans (hb8.mono hb7.size)
      have hW8 := Lib.hid (hW5.out.go hb9)
      have HI8 := Lib.hid (HI5.out.below hb9)
      have HJ8 := Lib.hid (HJ.below hb8)
      have hn8 := Lib.hid ((hb9.block g5 (heap_lt hn5.out)).trans hn5.out)
      have hm8 := Lib.hid (heap_alloc_new w7 (.cells #[.int .i64 Y.fin, .int .i64 Y.tm, .int .i64 Y.tr, .int .i64 Y.bm, .int .i64 Y.br, .slice d1 Y.sats.length e1, .slice d2 Y.custs.length e2, .slice d3 Y.cost.length e3, .slice d4 Y.time.length e4] 29))
      clear hb7 hb8 hb9 hW5 HI5 HJ hn5
      go_upto_region 20 with fail
      generalize w7.alloc (.cells #[.int .i64 Y.fin, .int .i64 Y.tm, .int .i64 Y.tr, .int .i64 Y.bm, .int .i64 Y.br, .slice d1 Y.sats.length e1, .slice d2 Y.custs.length e2, .slice d3 Y.cost.length e3, .slice d4 Y.time.length e4] 29) = w8 at *
      generalize w7.heap.size = g7 at *
      obtain ⟨⟨c0, c1, c2, c3, c4, c5, c6, c7, c8⟩, _⟩ := row9 hn8.out
      obtain ⟨⟨d0', d1', d2', d3', d4', d5', d6', d7', d8'⟩, _⟩ := row9 hm8.out
      go_wp2_with fail
      refine (same_self Y ⟨a1, b1, a2, b2, a3, b3, a4, b4⟩ ⟨d1, e1, d2, e2, d3, e3, d4, e4⟩ _ HI8.out HJ8.out).mono ?_
      rintro e w9 ⟨rfl, hb9⟩
      have hW9 := Lib.hid (hW8.out.go hb9)
      clear hb9
      go_wp2_with fail
      go_ret
      exact ⟨rfl, by first | exact hW9.out.b | (rw [hg.out]; exact hW9.out.b)⟩
theorem law_ParseSpoilt (w : World) (v : Value) (hv : ∃ (S : SmallD) (h : SmallH), v = .agg (smallC S h) ∧ SmallIs w S h) (n : Int) (hn : (Lit.int .u16 n).wf = true) (m : Int) (hm : (Lit.int .u8 m).wf = true) (s : ByteArray) (hs : s.size ≤ maxLen) :
    Calls Try.prog 5 #[v, .int .u16 n, .int .u8 m, .string s] w fun e w' => e = .returned (.bool true) ∧ Below w.heap.size w w' := by
  obtain ⟨S, h, rfl, H⟩ := hv
  obtain ⟨k, rfl, hk⟩ := u16_nat hn
  obtain ⟨j, rfl, hj⟩ := u8_nat hm
  exact walk_ParseSpoilt w S h H k hk j hj s hs
end Go.Proofs.Ytljcpgeggbbmfaa
