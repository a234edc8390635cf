/-
  Awake of layer 13; the walk of ShowLines (layer 13).
-/
import Derived.Test.YtljcpgeggbbmfaaLine
namespace Go.Proofs.Ytljcpgeggbbmfaa
set_option linter.unusedVariables false
set_option linter.unusedSimpArgs false
open Go.RowKit
theorem line_new (s R : ByteArray) (ns : List Int) (T : TypeId) (w : World) (hs : s.size ≤ 1000000) (hl : ns.length ≤ 1000000) (hn : ∀ n ∈ ns, I64 n) (hR : (⟨(lineF (L s) ns ++ [10]).toArray⟩ : ByteArray) = R) :
    Calls Try.prog 23 #[.string s, .slice (some ⟨w.heap.size, 0, none⟩) ns.length ns.length] (w.alloc (.cells (i64s ns).toArray T)) fun e w' => e = .returned (.string R) ∧ Below (w.alloc (.cells (i64s ns).toArray T)).heap.size (w.alloc (.cells (i64s ns).toArray T)) w' := by
  rw [← hR]
  exact line_any s _ _ ns _ hs hl (elems_new w T ns hn)
theorem aw_line1 (w : World) :
    Calls Try.prog 23 #[.string ⟨#[98, 105, 107, 101, 115]⟩, .slice (some ⟨w.heap.size, 0, none⟩) 2 2] (w.alloc (.cells #[.int .i64 3, .int .i64 20] 2)) fun e w' => e = .returned (.string ⟨#[98, 105, 107, 101, 115, 32, 51, 32, 50, 48, 10]⟩) ∧ Below (w.alloc (.cells #[.int .i64 3, .int .i64 20] 2)).heap.size (w.alloc (.cells #[.int .i64 3, .int .i64 20] 2)) w' :=
  line_new ⟨#[98, 105, 107, 101, 115]⟩ _ [3, 20] 2 w (by decide) (by decide) (by unfold I64; decide) (by decide +kernel)
theorem aw_line2 (w : World) :
    Calls Try.prog 23 #[.string ⟨#[]⟩, .slice (some ⟨w.heap.size, 0, none⟩) 1 1] (w.alloc (.cells #[.int .i64 7] 2)) fun e w' => e = .returned (.string ⟨#[55, 10]⟩) ∧ Below (w.alloc (.cells #[.int .i64 7] 2)).heap.size (w.alloc (.cells #[.int .i64 7] 2)) w' :=
  line_new ⟨#[]⟩ _ [7] 2 w (by decide) (by decide) (by unfold I64; decide) (by decide +kernel)
set_option maxHeartbeats 4000000 in
theorem awake13_any (w : World) : Calls Try.prog 21 #[] w fun e w' => e = .returned (.bool true) ∧ Below w.heap.size w w' := by
  have h1 := Lib.hid aw_line1
  have h2 := Lib.hid aw_line2
  go_enter Try.func21, Try.ntmps21
  go_wp2_with fail
  refine (h1.out _).mono ?_
  rintro e w1 ⟨rfl, hb1⟩
  have hW1 := Lib.hid ((On.mk (Below.refl w.heap.size w) (Nat.le_refl _)).alloc (.cells #[.int .i64 3, .int .i64 20] 2))
  replace hW1 := Lib.hid (hW1.out.go hb1)
  clear hb1
  go_wp2_with fail
  refine (h2.out _).mono ?_
  rintro e w2 ⟨rfl, hb2⟩
  have hW2 := Lib.hid ((hW1.out.alloc (.cells #[.int .i64 7] 2)).go hb2)
  clear hb2
  go_wp2_with fail
  refine (awake12_any _).mono ?_
  rintro e w3 ⟨rfl, hb3⟩
  have hW3 := Lib.hid (hW2.out.go hb3)
  clear hb3
  go_wp2_with fail
  go_ret
  exact ⟨rfl, hW3.out.b⟩
set_option maxHeartbeats 16000000 in
set_option maxRecDepth 100000 in
theorem walk_ShowLines (w : World) (s : ByteArray) (hs : s.size ≤ 9223372036854775807) (A : Option Addr) (C : Nat) (ns : List Int) (hnl : ns.length ≤ 9223372036854775807) (HE : Elems .i64 w A ns) :
    Calls Try.prog 8 #[.string s, .slice A ns.length C] w fun e w' => e = .returned (.bool true) ∧ Below w.heap.size w w' := by
  have hA := Lib.hid awake13_any
  replace HE := Lib.hid HE
  go_enter Try.func8, Try.ntmps8
  go_wp2_with fail
  refine (hA.out _).mono ?_
  rintro e w1 ⟨rfl, hb1⟩
  have hW1 := Lib.hid (On.mk hb1 hb1.size)
  have hE1 := Lib.hid (HE.out.below hb1)
  clear hb1 HE hA
  by_cases h1 : 200 < s.size
  · have h1' : (200 : Int) < (s.size : Int) := by omega
    go_wp2_with fail
    go_ret
    exact ⟨rfl, hW1.out.b⟩
  by_cases h2 : 40 < ns.length
  · have h1' : ¬ (200 : Int) < (s.size : Int) := by omega
    have h2' : (40 : Int) < (ns.length : Int) := by omega
    go_wp2_with fail
    go_ret
    exact ⟨rfl, hW1.out.b⟩
  have h1' : ¬ (200 : Int) < (s.size : Int) := by omega
  have h2' : ¬ (40 : Int) < (ns.length : Int) := by omega
  have hLine := Lib.hid (fun w' (hb : Below w1.heap.size w1 w') => line_any s A C ns w' (by omega) (by omega) (hE1.out.below hb))
  have hsz := Lib.hid (fun k => lineF_len (ns.take k) (L s))
  go_wp2_with fail
  go_loopw [5, 21] (fun v i wr => ∃ (k : Nat) (T : ByteArray), k ≤ ns.length ∧ i = .int .i64 k ∧ v = .string T ∧ L T = lineF (L s) (ns.take k) ∧ Below w1.heap.size w1 wr) (fun _ i _ => ns.length - (intOf i).toNat)
  case atStart => exact ⟨0, s, Nat.zero_le _, rfl, rfl, rfl, Below.refl _ _⟩
  case round =>
    obtain ⟨k, T, hk, rfl, rfl, hT, hb⟩ := hrel
    have k0 : (0 : Int) ≤ (k : Int) := by omega
    have hlen := hsz.out k
    have htk : (ns.take k).length ≤ ns.length := by rw [List.length_take]; omega
    have hLs : (L s).length = s.size := rfl
    have hTs : T.size = (lineF (L s) (ns.take k)).length := by rw [← hT]; rfl
    have T9 : T.size ≤ 5000 := by omega
    clear hlen htk hTs
    have hbz := Lib.hid hb
    by_cases hkl : k < ns.length
    · obtain ⟨ad, rfl, hc, hw⟩ := (hE1.out.below hb) k hkl
      have k1 : (k : Int) < (ns.length : Int) := by omega
      have hI := Lib.hid (I64_of hw)
      have HS := lineF_snoc (L s) ns hkl
      have hgd : ns.getD k 0 = ns[k] := by rw [List.getD_eq_getElem?_getD, List.getElem?_eq_getElem hkl]; rfl
      rw [← hgd, ← hT] at HS
      replace HS := Lib.hid HS
      have hne : Hid (L T = [] ↔ k = 0 ∧ s = ⟨#[]⟩) := Lib.hid (by
        rw [hT]
        cases k with
        | zero =>
          constructor
          · intro h; exact ⟨rfl, L_eq h⟩
          · intro h; show L s = []; rw [h.2]
        | succ q =>
          rw [lineF_snoc (L s) ns (show q < ns.length by omega)]
          constructor
          · intro h; exact absurd h (stepL_ne _ _)
          · intro h; cases h.1)
      clear hgd hw hb hT
      generalize ns.getD k 0 = n at *
      have hNum := Lib.hid (num12 n hI.out)
      have hz := nT_size n
      have hLn := Lib.hid (L_nT n)
      generalize nT n = N at *
      have y1 : ¬ 9223372036854775807 < T.size + 1 := by omega
      have y2 : ¬ 9223372036854775807 < T.size + 1 + N.size := by omega
      have y3 : ¬ 9223372036854775807 < T.size + N.size := by omega
      have hB : Hid (¬ L T = [] → L ((T ++ ⟨#[32]⟩) ++ N) = stepL (L T) n) := Lib.hid (fun h => by rw [L_cat, L_cat, hLn.out]; unfold stepL; rw [if_neg h])
      have hN : Hid (L T = [] → L (T ++ N) = stepL (L T) n) := Lib.hid (fun h => by rw [L_cat, hLn.out]; unfold stepL; rw [if_pos h, h])
      rcases Nat.eq_zero_or_pos k with hk00 | hkp
      · have hkn : ¬ (0 : Int) < (k : Int) := by omega
        by_cases hse : s = ⟨#[]⟩
        · have hT0 := Lib.hid (hN.out (hne.out.2 ⟨hk00, hse⟩))
          have hse2 : s.toList.isEmpty = true := by rw [ByteArray.toList_eq, hse]; rfl
          clear hse hB hN hne hk00
          go_wp2_with fail
          refine (hNum.out _).mono ?_
          rintro e w9 ⟨rfl, rfl⟩
          go_wp2_with fail
          go_roundw
          case rel => exact ⟨k + 1, _, by omega, by go_num, rfl, by rw [HS.out]; exact hT0.out, hbz.out⟩
          case measure => simp [intOf]; omega
        · have hT0 := Lib.hid (hB.out (fun h => hse (hne.out.1 h).2))
          have hse2 : s.toList.isEmpty = false := by
            rw [ByteArray.toList_eq, Bool.eq_false_iff]
            intro h
            exact hse (L_eq (List.isEmpty_iff.1 h))
          clear hse
          clear hB hN hne hk00
          go_wp2_with fail
          refine (hNum.out _).mono ?_
          rintro e w9 ⟨rfl, rfl⟩
          go_wp2_with fail
          go_roundw
          case rel => exact ⟨k + 1, _, by omega, by go_num, rfl, by rw [HS.out]; exact hT0.out, hbz.out⟩
          case measure => simp [intOf]; omega
      · have hT0 := Lib.hid (hB.out (fun h => by have := (hne.out.1 h).1; omega))
        have hkp2 : (0 : Int) < (k : Int) := by omega
        clear hB hN hne
        go_wp2_with fail
        refine (hNum.out _).mono ?_
        rintro e w9 ⟨rfl, rfl⟩
        go_wp2_with fail
        go_roundw
        case rel => exact ⟨k + 1, _, by omega, by go_num, rfl, by rw [HS.out]; exact hT0.out, hbz.out⟩
        case measure => simp [intOf]; omega
    · obtain rfl : k = ns.length := by omega
      rw [List.take_length] at hT
      have hEq : (⟨(lineF (L s) ns ++ [10]).toArray⟩ : ByteArray) = T ++ ⟨#[10]⟩ := L_eq (by rw [L_cat, hT])
      have hL2 := hLine.out _ hb
      rw [hEq] at hL2
      have hW2 := Lib.hid (hW1.out.go hb)
      have y1 : ¬ 9223372036854775807 < T.size + 1 := by omega
      replace hL2 := Lib.hid hL2
      clear hb hT hEq hLine hE1 hsz hbz
      go_wp2_with fail
      refine hL2.out.mono ?_
      rintro e w3 ⟨rfl, hb3⟩
      have hW3 := Lib.hid (hW2.out.go hb3)
      clear hb3
      go_wp2_with fail
      go_ret
      exact ⟨rfl, hW3.out.b⟩
theorem law_ShowLines (w : World) (s : ByteArray) (hs : s.size ≤ maxLen) (a : Option Addr) (len cap : Nat) (zs : List Int) (hr : IsRow .i64 w a len cap zs) :
    Calls Try.prog 8 #[.string s, .slice a len cap] w fun e w' => e = .returned (.bool true) ∧ Below w.heap.size w w' := by
  obtain ⟨hE, hl, hm⟩ := elems_of hr
  have := walk_ShowLines w s hs a cap (zs.take len) (by omega) hE
  rwa [hl] at this
end Go.Proofs.Ytljcpgeggbbmfaa
