/-
  The walk of the reference's Text (layer 1).
-/
import Derived.Test.YtljcpgeggbbmfaaDig
import Derived.Test.YtljcpgeggbbmfaaRows
namespace Go.Proofs.Ytljcpgeggbbmfaa
set_option linter.unusedVariables false
set_option linter.unusedSimpArgs false
open Go.RowKit
set_option maxHeartbeats 800000 in
set_option maxRecDepth 100000 in
theorem refText_pos (n : Int) (w : World) (hn : I64 n) (h0 : 0 ≤ n) :
    Calls Try.prog 22 #[.int .i64 n] w fun e w' => e = .returned (.string ⟨(textV n).toArray⟩) ∧ w = w' := by
  have hn' := hn.2
  obtain ⟨N, rfl⟩ := Int.eq_ofNat_of_zero_le h0
  clear h0 hn
  go_enter Try.func22, Try.ntmps22
  go_wp2
  go_loop [3, 4] (fun s k => ∃ (f m : Nat) (acc : List UInt8), 1 ≤ f ∧ f + acc.length ≤ 19 ∧ s = .string ⟨acc.toArray⟩ ∧ k = .int .i64 m ∧ m ≤ N ∧ Hid (m < 10 ^ f) ∧ Hid (digF f m ++ acc = digN N)) (fun _ k => (intOf k).toNat)
  case atStart => exact ⟨19, N, [], by omega, by simp, rfl, rfl, Nat.le_refl _, Lib.hid (by omega), Lib.hid (by simp [digN])⟩
  case round =>
    obtain ⟨f, m, acc, hf, ha, rfl, rfl, hm, HM, HD⟩ := hrel
    have hcat := cat_dig m acc
    by_cases hlt : m < 10
    · have hq : ((m : Int) / 10 == 0) = true := by rw [beq_iff_eq]; omega
      have HT := Lib.hid (show textV (N : Int) = dg m :: acc by
        unfold textV; rw [if_neg (by omega), Int.natAbs_natCast, ← HD.out, digF_lo hf hlt]; rfl)
      go_wp2
      go_ret
      exact ⟨by rw [HT.out]; rfl, rfl⟩
    · have hq : ((m : Int) / 10 == 0) = false := by rw [beq_eq_false_iff_ne]; omega
      go_wp2
      go_round
      case rel =>
        obtain ⟨g, rfl⟩ : ∃ g, f = g + 1 := ⟨f - 1, by omega⟩
        have e := HD.out
        rw [digF_hi hlt] at e
        have hp := HM.out
        refine ⟨g, m / 10, dg m :: acc, ?_, ?_, rfl, ?_, ?_, Lib.hid ?_, Lib.hid ?_⟩
        · rcases Nat.eq_zero_or_pos g with hg | hg
          · subst hg; omega
          · exact hg
        · simp; omega
        · go_num
        · omega
        · rw [Nat.pow_succ] at hp; omega
        · rw [← e, List.append_assoc]; rfl
      case measure => simp [intOf]; omega

set_option maxHeartbeats 800000 in
set_option maxRecDepth 100000 in
theorem refText_neg (n : Int) (w : World) (hn : I64 n) (h0 : n < 0) :
    Calls Try.prog 22 #[.int .i64 n] w fun e w' => e = .returned (.string ⟨(textV n).toArray⟩) ∧ w = w' := by
  have hn' := hn.1
  obtain ⟨N, rfl⟩ : ∃ N : Nat, n = -(N : Int) := ⟨n.natAbs, by omega⟩
  have hN : (N : Int) ≤ 9223372036854775808 := by omega
  clear hn hn'
  go_enter Try.func22, Try.ntmps22
  go_wp2
  go_loop [3, 4] (fun s k => ∃ (f m : Nat) (acc : List UInt8), 1 ≤ f ∧ f + acc.length ≤ 19 ∧ s = .string ⟨acc.toArray⟩ ∧ k = .int .i64 (-(m : Int)) ∧ m ≤ N ∧ Hid (m < 10 ^ f) ∧ Hid (digF f m ++ acc = digN N)) (fun _ k => (intOf k).natAbs)
  case atStart => exact ⟨19, N, [], by omega, by simp, rfl, rfl, Nat.le_refl _, Lib.hid (by omega), Lib.hid (by simp [digN])⟩
  case round =>
    obtain ⟨f, m, acc, hf, ha, rfl, rfl, hm, HM, HD⟩ := hrel
    have ed : (-(m : Int)).tdiv 10 = -((m : Int) / 10) := by rw [Int.neg_tdiv, Int.tdiv_eq_ediv_of_nonneg (by omega)]
    have em : (-(m : Int)).tmod 10 = -((m : Int) % 10) := by rw [Int.neg_tmod, Int.tmod_eq_emod_of_nonneg (by omega)]
    by_cases hz : (m : Int) % 10 = 0
    · have hcat : (⟨#[48, 49, 50, 51, 52, 53, 54, 55, 56, 57]⟩ : ByteArray).extract 0 1 ++ (⟨acc.toArray⟩ : ByteArray) = ⟨(dg m :: acc).toArray⟩ := by
        have := cat_dig m acc
        rw [show m % 10 = 0 by omega] at this
        exact this
      by_cases hlt : m < 10
      · have hq : (-((m : Int) / 10) == 0) = true := by rw [beq_iff_eq]; omega
        have HT := Lib.hid (show textV (-(N : Int)) = 45 :: dg m :: acc by
          unfold textV; rw [if_pos (by omega), Int.natAbs_neg, Int.natAbs_natCast, ← HD.out, digF_lo hf hlt]; rfl)
        go_wp2
        go_ret
        exact ⟨by rw [HT.out, ← cat_minus]; rfl, rfl⟩
      · have hq : (-((m : Int) / 10) == 0) = false := by rw [beq_eq_false_iff_ne]; omega
        go_wp2
        go_round
        case rel =>
          obtain ⟨g, rfl⟩ : ∃ g, f = g + 1 := ⟨f - 1, by omega⟩
          have e := HD.out
          rw [digF_hi hlt] at e
          have hp := HM.out
          refine ⟨g, m / 10, dg m :: acc, ?_, ?_, rfl, ?_, ?_, Lib.hid ?_, Lib.hid ?_⟩
          · rcases Nat.eq_zero_or_pos g with hg | hg
            · subst hg; omega
            · exact hg
          · simp; omega
          · go_num
          · omega
          · rw [Nat.pow_succ] at hp; omega
          · rw [← e, List.append_assoc]; rfl
        case measure => simp [intOf]; omega
    · have hcat := cat_dig m acc
      have hz1 : 0 < (m : Int) % 10 := by omega
      by_cases hlt : m < 10
      · have hq : (-((m : Int) / 10) == 0) = true := by rw [beq_iff_eq]; omega
        have HT := Lib.hid (show textV (-(N : Int)) = 45 :: dg m :: acc by
          unfold textV; rw [if_pos (by omega), Int.natAbs_neg, Int.natAbs_natCast, ← HD.out, digF_lo hf hlt]; rfl)
        go_wp2
        go_ret
        exact ⟨by rw [HT.out, ← cat_minus]; rfl, rfl⟩
      · have hq : (-((m : Int) / 10) == 0) = false := by rw [beq_eq_false_iff_ne]; omega
        go_wp2
        go_round
        case rel =>
          obtain ⟨g, rfl⟩ : ∃ g, f = g + 1 := ⟨f - 1, by omega⟩
          have e := HD.out
          rw [digF_hi hlt] at e
          have hp := HM.out
          refine ⟨g, m / 10, dg m :: acc, ?_, ?_, rfl, ?_, ?_, Lib.hid ?_, Lib.hid ?_⟩
          · rcases Nat.eq_zero_or_pos g with hg | hg
            · subst hg; omega
            · exact hg
          · simp; omega
          · go_num
          · omega
          · rw [Nat.pow_succ] at hp; omega
          · rw [← e, List.append_assoc]; rfl
        case measure => simp [intOf]; omega
theorem refText_any (n : Int) (w : World) (hn : I64 n) :
    Calls Try.prog 22 #[.int .i64 n] w fun e w' => e = .returned (.string ⟨(textV n).toArray⟩) ∧ w = w' := by
  rcases Int.lt_or_le n 0 with h | h
  · exact refText_neg n w hn h
  · exact refText_pos n w hn h

/-! The reference's Parse: as whole.Parse, but 'as Text tells it' is asked by Text itself. -/
end Go.Proofs.Ytljcpgeggbbmfaa
