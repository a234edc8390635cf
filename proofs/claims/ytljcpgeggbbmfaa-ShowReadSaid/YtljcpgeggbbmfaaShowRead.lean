/-
  The walk of ShowRead (layer 13).
-/
import Derived.Test.YtljcpgeggbbmfaaSH
namespace Go.Proofs.Ytljcpgeggbbmfaa
set_option linter.unusedVariables false
set_option linter.unusedSimpArgs false
open Go.RowKit
theorem parse_out (s : ByteArray) (h2 : s.size ≤ 131072) : ∃ r : InstD ⊕ (Int × Int), ∀ w, Calls Try.prog 14 #[.string s] w (POut r w) := by
  rcases bad_or s with hok | ⟨k, hk⟩
  · exact ⟨_, fun w => parse_fine s h2 hok w⟩
  · exact ⟨_, fun w => parse_bad s h2 hk w⟩
set_option maxHeartbeats 16000000 in
set_option maxRecDepth 100000 in
theorem walk_ShowRead (w : World) (s : ByteArray) (hs : s.size ≤ 9223372036854775807) :
    Calls Try.prog 11 #[.string s] w fun e w' => e = .returned (.bool true) ∧ Below w.heap.size w w' := by
  have hA := Lib.hid awake13_any
  by_cases hl : 3000 < s.size
  · have hl2 : (3000 : Int) < (s.size : Int) := by omega
    go_enter Try.func11, Try.ntmps11
    go_wp2_with fail
    refine (hA.out _).mono ?_
    rintro e w1 ⟨rfl, hb⟩
    go_wp2_with fail
    go_ret
    exact ⟨rfl, hb⟩
  have hl2 : ¬ (3000 : Int) < (s.size : Int) := by omega
  obtain ⟨r, HP⟩ := parse_out s (by omega)
  replace HP := Lib.hid HP
  go_enter Try.func11, Try.ntmps11
  go_wp2_with fail
  refine (hA.out _).mono ?_
  rintro e w1 ⟨rfl, hb⟩
  have hW1 := Lib.hid (On.mk hb hb.size)
  clear hb hA
  go_wp2_with fail
  refine (HP.out _).mono ?_
  rintro e w2 ⟨hb2, ⟨X, ⟨a1, b1, a2, b2, a3, b3, a4, b4⟩, hr, K, rfl, HI⟩ | ⟨a, c, hr, hc, rfl⟩⟩
  rotate_left
  · have c0 : (c != 0) = true := by rw [bne_iff_ne]; exact hc
    have hW2 := Lib.hid ((hW1.out.go hb2).alloc (.cells #[.int .i64 0, .int .i64 0, .int .i64 0, .int .i64 0, .int .i64 0, .slice none 0 0, .slice none 0 0, .slice none 0 0, .slice none 0 0] 29))
    clear hb2 HP
    go_wp2_with fail
    go_ret
    exact ⟨rfl, hW2.out.b⟩
  have hW2 := Lib.hid ((hW1.out.go hb2).alloc (.cells #[.int .i64 X.fin, .int .i64 X.tm, .int .i64 X.tr, .int .i64 X.bm, .int .i64 X.br, .slice a1 X.sats.length b1, .slice a2 X.custs.length b2, .slice a3 X.cost.length b3, .slice a4 X.time.length b4] 29))
  have HI2 := Lib.hid (HI.below (below_new w2 (.cells #[.int .i64 X.fin, .int .i64 X.tm, .int .i64 X.tr, .int .i64 X.bm, .int .i64 X.br, .slice a1 X.sats.length b1, .slice a2 X.custs.length b2, .slice a3 X.cost.length b3, .slice a4 X.time.length b4] 29)))
  have hn2 := Lib.hid (heap_alloc_new w2 (.cells #[.int .i64 X.fin, .int .i64 X.tm, .int .i64 X.tr, .int .i64 X.bm, .int .i64 X.br, .slice a1 X.sats.length b1, .slice a2 X.custs.length b2, .slice a3 X.cost.length b3, .slice a4 X.time.length b4] 29))
  have hShow := Lib.hid (fun (h : HdD) (w : World) (H : InstIs w X h) => show_any X h K w H)
  have hBack := Lib.hid (fun w => show_back K w)
  clear hb2 HI HP hW1 K
  go_upto_region 6 with fail
  generalize w2.alloc (.cells #[.int .i64 X.fin, .int .i64 X.tm, .int .i64 X.tr, .int .i64 X.bm, .int .i64 X.br, .slice a1 X.sats.length b1, .slice a2 X.custs.length b2, .slice a3 X.cost.length b3, .slice a4 X.time.length b4] 29) = w3 at *
  generalize w2.heap.size = g2 at *
  obtain ⟨⟨c0, c1, c2, c3, c4, c5, c6, c7, c8⟩, _⟩ := row9 hn2.out
  go_wp2_with fail
  refine (hShow.out ⟨a1, b1, a2, b2, a3, b3, a4, b4⟩ _ HI2.out).mono ?_
  rintro e w4 ⟨rfl, hb4⟩
  have hW4 := Lib.hid (hW2.out.go hb4)
  have HI4 := Lib.hid (HI2.out.below hb4)
  have hn4 := Lib.hid ((hb4.block g2 (heap_lt hn2.out)).trans hn2.out)
  clear hb4 hW2 HI2 hn2 c0 c1 c2 c3 c4 c5 c6 c7 c8
  generalize showTx X = T at *
  go_wp2_with fail
  refine (hBack.out _).mono ?_
  rintro e w5 ⟨hb5, ⟨Z, ⟨d1, e1, d2, e2, d3, e3, d4, e4⟩, hr2, _, rfl, HJ⟩ | ⟨a', c', hr2, _⟩⟩
  rotate_left
  · cases hr2
  injection hr2 with hr2
  subst hr2
  have hb6 := below_new w5 (.cells #[.int .i64 X.fin, .int .i64 X.tm, .int .i64 X.tr, .int .i64 X.bm, .int .i64 X.br, .slice d1 X.sats.length e1, .slice d2 X.custs.length e2, .slice d3 X.cost.length e3, .slice d4 X.time.length e4] 29)
  have hb7 := hb5.trans (hb6.mono hb5.size)
  have hW6 := Lib.hid (hW4.out.go hb7)
  have HI6 := Lib.hid (HI4.out.below hb7)
  have HJ6 := Lib.hid (HJ.below hb6)
  have hn6 := Lib.hid ((hb7.block g2 (heap_lt hn4.out)).trans hn4.out)
  have hm6 := Lib.hid (heap_alloc_new w5 (.cells #[.int .i64 X.fin, .int .i64 X.tm, .int .i64 X.tr, .int .i64 X.bm, .int .i64 X.br, .slice d1 X.sats.length e1, .slice d2 X.custs.length e2, .slice d3 X.cost.length e3, .slice d4 X.time.length e4] 29))
  clear hb5 hb6 hb7 hW4 HI4 HJ hn4 hBack
  go_upto_region 10 with fail
  generalize w5.alloc (.cells #[.int .i64 X.fin, .int .i64 X.tm, .int .i64 X.tr, .int .i64 X.bm, .int .i64 X.br, .slice d1 X.sats.length e1, .slice d2 X.custs.length e2, .slice d3 X.cost.length e3, .slice d4 X.time.length e4] 29) = w6 at *
  generalize w5.heap.size = g5 at *
  obtain ⟨⟨c0, c1, c2, c3, c4, c5, c6, c7, c8⟩, _⟩ := row9 hn6.out
  obtain ⟨⟨d0', d1', d2', d3', d4', d5', d6', d7', d8'⟩, _⟩ := row9 hm6.out
  go_wp2_with fail
  refine (same_self X ⟨a1, b1, a2, b2, a3, b3, a4, b4⟩ ⟨d1, e1, d2, e2, d3, e3, d4, e4⟩ _ HI6.out HJ6.out).mono ?_
  rintro e w7 ⟨rfl, hb7⟩
  have hW7 := Lib.hid (hW6.out.go hb7)
  have HJ7 := Lib.hid (HJ6.out.below hb7)
  have hm7 := Lib.hid ((hb7.block g5 (heap_lt hm6.out)).trans hm6.out)
  clear hb7 hW6 HI6 HJ6 hn6 hm6 c0 c1 c2 c3 c4 c5 c6 c7 c8 d0' d1' d2' d3' d4' d5' d6' d7' d8'
  obtain ⟨⟨d0', d1', d2', d3', d4', d5', d6', d7', d8'⟩, _⟩ := row9 hm7.out
  go_wp2_with fail
  refine (hShow.out ⟨d1, e1, d2, e2, d3, e3, d4, e4⟩ _ HJ7.out).mono ?_
  rintro e w8 ⟨rfl, hb8⟩
  have hW8 := Lib.hid (hW7.out.go hb8)
  clear hb8 hW7
  go_wp2_with fail
  go_ret
  exact ⟨rfl, hW8.out.b⟩
theorem law_ShowRead (w : World) (s : ByteArray) (hs : s.size ≤ maxLen) : Calls Try.prog 11 #[.string s] w fun e w' => e = .returned (.bool true) ∧ Below w.heap.size w w' :=
  walk_ShowRead w s hs
end Go.Proofs.Ytljcpgeggbbmfaa
