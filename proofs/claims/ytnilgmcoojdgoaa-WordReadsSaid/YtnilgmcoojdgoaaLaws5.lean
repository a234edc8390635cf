/-
  The walks of layer 5's statements WordNone, WordSplits.
-/
import Derived.Test.YtnilgmcoojdgoaaAwake5
import Derived.Test.YtnilgmcoojdgoaaReadN
namespace Go.Proofs.Ytnilgmcoojdgoaa
set_option linter.unusedVariables false
set_option linter.unusedSimpArgs false
open Go.RowKit
theorem words_ok (s : ByteArray) (w : World) (h2 : s.size ≤ 131072) (hok : okAll s = true) :
    Calls Try.prog 16 #[.string s] w fun e w' => ∃ A C, e = .returned (.tuple #[.slice A (wordsL s).length C, .int .i64 (-1)]) ∧ w'.ownsRow w.heap.size 31 2 (.slice A (wordsL s).length C) (wordsL s).length ((wordsL s).flatMap wordV) ∧ Below w.heap.size w w' :=
  (words_any s w h2).mono fun e w' h => by
    rcases h with ⟨k, hb, _⟩ | ⟨_, A, C, h1, h3, h4⟩
    · rw [bad_all hb] at hok; cases hok
    · exact ⟨A, C, h1, h3, h4⟩
theorem words_bad (s : ByteArray) (w : World) (h2 : s.size ≤ 131072) {k : Nat} (hk : IsBad s k) :
    Calls Try.prog 16 #[.string s] w fun e w' => e = .returned (.tuple #[.slice none 0 0, .int .i64 (k : Int)]) ∧ Below w.heap.size w w' :=
  (words_any s w h2).mono fun e w' h => by
    rcases h with ⟨j, hb, he, hw⟩ | ⟨hok, _⟩
    · rw [bad_unique hb hk] at he; exact ⟨he, hw⟩
    · rw [bad_all hk] at hok; cases hok
theorem read_bad (s : ByteArray) (f : Value) (w : World) (h2 : s.size ≤ 131072) {k : Nat} (hk : IsBad s k) :
    Calls Try.prog 17 #[.string s, f] w fun e w' => e = .returned (.tuple #[.int .i64 (k : Int), .int .i64 3]) ∧ Below w.heap.size w w' :=
  read_err s f w k 3 (Lib.hid (by decide)) (Lib.hid (fun w' => split_bad s w' h2 hk))
set_option maxHeartbeats 1600000 in
set_option maxRecDepth 100000 in
theorem law_WordNone (w : World) (s : ByteArray) (hs : s.size ≤ maxLen) :
    Calls Try.prog 4 #[.string s] w fun e w' => e = .returned (.bool true) ∧ Below w.heap.size w w' := by
  have hs2 : s.size ≤ 9223372036854775807 := by unfold maxLen at hs; omega
  clear hs
  have hA := Lib.hid awake5_any
  by_cases h2 : 2000 < s.size
  · go_enter Try.func4, Try.ntmps4
    go_wp2_with fail
    refine (hA.out _).mono ?_
    rintro e w1 ⟨rfl, hb1⟩
    go_wp2_with fail
    go_ret
    exact ⟨rfl, hb1⟩
  · rcases bad_or s with hok | ⟨k, hk⟩
    · have hR := Lib.hid (fun w' => read_nil s w' (by omega) hok)
      have hW := Lib.hid (fun w' => words_ok s w' (by omega) hok)
      clear hok
      by_cases h0 : 0 < (wordsL s).length
      · have hE : Hid (nilE (wordsL s) s.size = .returned (.tuple #[.int .i64 ((wordsL s)[0].pos : Int), .int .i64 6])) := Lib.hid (by unfold nilE; rw [if_pos h0, if_pos h0, placeN_in h0])
        have hlen := Lib.hid (wordsL_len s)
        have h0' := Lib.hid h0
        generalize wordsL s = ws at *
        have k1 : (0 : Int) < (ws.length : Int) := by omega
        have k2 : (ws.length : Int) ≤ 2001 := by have := hlen.out; omega
        go_enter Try.func4, Try.ntmps4
        go_wp2_with fail
        refine (hA.out _).mono ?_
        rintro e w1 ⟨rfl, hb1⟩
        replace hb1 := Lib.hid hb1
        go_wp2_with fail
        refine (hR.out _).mono ?_
        rintro e w2 ⟨he, hb2⟩
        rw [hE.out] at he
        subst he
        replace hb2 := Lib.hid hb2
        go_wp2_with fail
        refine (hW.out _).mono ?_
        rintro e w3 ⟨A, C, rfl, hO, hb3⟩
        obtain ⟨b, off, rfl, hc1, hc2⟩ := (own_rd' hO).word h0'.out
        rw [Nat.zero_mul, Nat.add_zero] at hc1 hc2
        replace hb3 := Lib.hid hb3
        replace hO := Lib.hid hO
        generalize (ws[0]'h0) = x at *
        go_wp2_with fail
        go_ret
        exact ⟨rfl, keep_below (keep_below hb1.out hb2.out) hb3.out⟩
      · have hE : Hid (nilE (wordsL s) s.size = .returned (.tuple #[.int .i64 0, .int .i64 0])) := Lib.hid (by unfold nilE; rw [if_neg h0, if_neg h0])
        generalize wordsL s = ws at *
        have k1 : ¬ (0 : Int) < (ws.length : Int) := by omega
        clear h0
        go_enter Try.func4, Try.ntmps4
        go_wp2_with fail
        refine (hA.out _).mono ?_
        rintro e w1 ⟨rfl, hb1⟩
        replace hb1 := Lib.hid hb1
        go_wp2_with fail
        refine (hR.out _).mono ?_
        rintro e w2 ⟨he, hb2⟩
        rw [hE.out] at he
        subst he
        replace hb2 := Lib.hid hb2
        go_wp2_with fail
        refine (hW.out _).mono ?_
        rintro e w3 ⟨A, C, rfl, hO, hb3⟩
        replace hb3 := Lib.hid hb3
        replace hO := Lib.hid hO
        go_wp2_with fail
        go_ret
        exact ⟨rfl, keep_below (keep_below hb1.out hb2.out) hb3.out⟩
    · have hR := Lib.hid (fun w' => read_bad s .nilFunc w' (by omega) hk)
      have hW := Lib.hid (fun w' => words_bad s w' (by omega) hk)
      have k0 : (0 : Int) ≤ (k : Int) := by omega
      clear hk
      go_enter Try.func4, Try.ntmps4
      go_wp2_with fail
      refine (hA.out _).mono ?_
      rintro e w1 ⟨rfl, hb1⟩
      replace hb1 := Lib.hid hb1
      go_wp2_with fail
      refine (hR.out _).mono ?_
      rintro e w2 ⟨rfl, hb2⟩
      replace hb2 := Lib.hid hb2
      go_wp2_with fail
      refine (hW.out _).mono ?_
      rintro e w3 ⟨rfl, hb3⟩
      replace hb3 := Lib.hid hb3
      go_wp2_with fail
      go_ret
      exact ⟨rfl, keep_below (keep_below hb1.out hb2.out) hb3.out⟩
set_option maxHeartbeats 3200000 in
set_option maxRecDepth 100000 in
theorem law_WordSplits (w : World) (s : ByteArray) (hs : s.size ≤ maxLen) :
    Calls Try.prog 3 #[.string s] w fun e w' => e = .returned (.bool true) ∧ Below w.heap.size w w' := by
  have hs2 : s.size ≤ 9223372036854775807 := by unfold maxLen at hs; omega
  clear hs
  have hA := Lib.hid awake5_any
  by_cases h2 : 2000 < s.size
  · go_enter Try.func3, Try.ntmps3
    go_wp2_with fail
    refine (hA.out _).mono ?_
    rintro e w1 ⟨rfl, hb1⟩
    go_wp2_with fail
    go_ret
    exact ⟨rfl, hb1⟩
  · rcases bad_or s with hok | ⟨k, hk⟩
    · have hR := Lib.hid (fun w' => split_ok s w' (by omega) hok)
      have hW := Lib.hid (fun w' => words_ok s w' (by omega) hok)
      have hlen := Lib.hid (wordsL_len s)
      clear hok
      generalize wordsL s = ws at *
      have k2 : (ws.length : Int) ≤ 2001 := by have := hlen.out; omega
      go_enter Try.func3, Try.ntmps3
      go_wp2_with fail
      refine (hA.out _).mono ?_
      rintro e w1 ⟨rfl, hb1⟩
      replace hb1 := Lib.hid hb1
      go_wp2_with fail
      refine (hR.out _).mono ?_
      rintro e w2 ⟨A, C, rfl, hO, hb2⟩
      have hR1 := Lib.hid (own_rd' hO)
      clear hO
      replace hb2 := Lib.hid hb2
      go_wp2_with fail
      refine (hW.out _).mono ?_
      rintro e w3 ⟨A', C', rfl, hO, hb3⟩
      have hR2 := Lib.hid (own_rd' hO)
      clear hO
      replace hR1 := Lib.hid (hR1.out.below hb3)
      have hbb := Lib.hid (keep_below (keep_below hb1.out hb2.out) hb3)
      clear hb3
      go_wp2_with fail
      go_loopw [55] (fun i wr => ∃ k : Nat, k ≤ ws.length ∧ i = .int .i64 k ∧ Below w3.heap.size w3 wr) (fun i _ => ws.length - (intOf i).toNat)
      case atStart => exact ⟨0, Nat.zero_le _, rfl, Below.refl _ _⟩
      case round =>
        obtain ⟨k, hk, rfl, hb⟩ := hrel
        by_cases hkl : k < ws.length
        · obtain ⟨b, off, rfl, hc1, hc2⟩ := (hR1.out.below hb).word hkl
          obtain ⟨b', off', rfl, hc1', hc2'⟩ := (hR2.out.below hb).word hkl
          have k0 : (0 : Int) ≤ (k : Int) := by omega
          have k1 : (k : Int) < (ws.length : Int) := by omega
          generalize ws[k] = x at *
          replace hb := Lib.hid hb
          go_upto_region 14 with fail
          have e1 := keep_cell ((Below.refl _ _).alloc (Nat.le_refl _) (.cells #[.string x.text, .int .i64 (x.pos : Int)] 31)) hc1
          have e2 := keep_cell ((Below.refl _ _).alloc (Nat.le_refl _) (.cells #[.string x.text, .int .i64 (x.pos : Int)] 31)) hc2
          have e3 : (wr.alloc (.cells #[.string x.text, .int .i64 (x.pos : Int)] 31)).cell? ⟨wr.heap.size, 0, none⟩ = some (.string x.text) := by rw [World.cell?_alloc_new]; rfl
          have e4 : (wr.alloc (.cells #[.string x.text, .int .i64 (x.pos : Int)] 31)).cell? ⟨wr.heap.size, 1, none⟩ = some (.int .i64 (x.pos : Int)) := by rw [World.cell?_alloc_new]; rfl
          have hbn := Lib.hid (hb.out.alloc hb.out.size (.cells #[.string x.text, .int .i64 (x.pos : Int)] 31))
          generalize wr.alloc (.cells #[.string x.text, .int .i64 (x.pos : Int)] 31) = W1 at *
          generalize wr.heap.size = g1 at *
          clear hc1 hc2 hc1' hc2'
          go_region
          go_wp2_with fail
          go_roundw
          case rel => exact ⟨k + 1, by omega, by go_num, hbn.out.drew⟩
          case measure => simp [intOf]; omega
        · obtain rfl : k = ws.length := by omega
          replace hb := Lib.hid hb
          go_wp2_with fail
          go_ret
          exact ⟨rfl, keep_below hbb.out hb.out⟩
    · have hR := Lib.hid (fun w' => split_bad s w' (by omega) hk)
      have hW := Lib.hid (fun w' => words_bad s w' (by omega) hk)
      have k0 : (0 : Int) ≤ (k : Int) := by omega
      clear hk
      go_enter Try.func3, Try.ntmps3
      go_wp2_with fail
      refine (hA.out _).mono ?_
      rintro e w1 ⟨rfl, hb1⟩
      replace hb1 := Lib.hid hb1
      go_wp2_with fail
      refine (hR.out _).mono ?_
      rintro e w2 ⟨rfl, hb2⟩
      replace hb2 := Lib.hid hb2
      go_wp2_with fail
      refine (hW.out _).mono ?_
      rintro e w3 ⟨rfl, hb3⟩
      replace hb3 := Lib.hid hb3
      go_wp2_with fail
      go_ret
      exact ⟨rfl, keep_below (keep_below hb1.out hb2.out) hb3.out⟩
end Go.Proofs.Ytnilgmcoojdgoaa
