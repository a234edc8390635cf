/-
  The walk of the reference's Parse (layer 1).
-/
import Derived.Test.YtljcpgeggbbmfaaRefText
import Derived.Test.YtljcpgeggbbmfaaCanon
namespace Go.Proofs.Ytljcpgeggbbmfaa
set_option linter.unusedVariables false
set_option linter.unusedSimpArgs false
open Go.RowKit
theorem str_eq (l : List UInt8) (s : ByteArray) : (⟨l.toArray⟩ : ByteArray) = s ↔ l = L s := by
  constructor
  · rintro rfl; rfl
  · intro h; subst h; exact ByteArray.ext (Array.ext' rfl)
set_option maxHeartbeats 800000 in
set_option maxRecDepth 100000 in
theorem refParse_any (s : ByteArray) (w : World) (hs : s.size ≤ 9223372036854775807) :
    Calls Try.prog 64 #[.string s] w fun e w' => ParseEnd (L s) e ∧ w = w' := by
  by_cases h2 : 16 < s.size
  · have HF := Lib.hid (okNum_long (l := L s) h2)
    go_enter Try.func64, Try.ntmps64
    go_wp2
    go_ret2
    exact ⟨parse_f HF.out, rfl⟩
  · clear hs
    have h2 : s.size ≤ 16 := by omega
    go_enter Try.func64, Try.ntmps64
    go_wp2
    go_loop [4, 5] (fun n i => ∃ pos : Nat, pos ≤ s.size ∧ i = .int .i64 pos ∧ Hid (((L s).take pos).all isDig = true) ∧ n = .int .i64 (numN ((L s).take pos))) (fun _ i => s.size - (intOf i).toNat)
    case atStart => exact ⟨0, by omega, rfl, Lib.hid rfl, rfl⟩
    case round =>
      obtain ⟨pos, hp, rfl, HD, rfl⟩ := hrel
      by_cases hlt : pos < s.size
      · have hb : numN ((L s).take pos) < 1000000000000000 := by
          have a := numN_lt _ HD.out
          have b : ((L s).take pos).length ≤ 15 := Nat.le_trans (List.length_take_le _ _) (by omega)
          exact Nat.lt_of_lt_of_le a (pow10_le b)
        have bl : s[pos].toNat < 256 := s[pos].toNat_lt
        by_cases hd : 48 ≤ s[pos].toNat ∧ s[pos].toNat ≤ 57
        · obtain ⟨d1, d2⟩ := hd
          have h8 : IntKind.u8.wrap ((s[pos].toNat : Int) - 48) = (s[pos].toNat : Int) - 48 := by rw [IntKind.wrap_u8]; omega
          go_wp2
          go_round
          case rel =>
            refine ⟨pos + 1, by omega, by go_num, Lib.hid ?_, ?_⟩
            · rw [take_snoc s pos hlt, all_snoc, HD.out, (dig_iff _).2 ⟨d1, d2⟩]; rfl
            · rw [take_snoc s pos hlt, numN_snoc]
              go_num
          case measure => simp [intOf]; omega
        · have hd' : s[pos].toNat < 48 ∨ 57 < s[pos].toNat := by omega
          have HF := Lib.hid (okNum_nd (not_all s pos hlt (dig_f hd')))
          clear hd
          rcases hd' with hd | hd
          all_goals
            go_wp2
            go_ret2
            exact ⟨parse_f HF.out, rfl⟩
      · obtain rfl : pos = s.size := by omega
        rw [take_all] at HD ⊢
        have hb : (numN (L s) : Int) ≤ 9999999999999999 := by
          have a := numN_lt _ HD.out
          have b := pow10_le (k := (L s).length) (n := 16) (by rw [L_length]; exact h2)
          omega
        by_cases hm : numN (L s) ≤ 1000000000000000
        · have hI : I64 (numN (L s) : Int) := by unfold I64; omega
          have HO := Lib.hid (okNum_text HD.out (by rw [L_length]; exact h2) hm)
          by_cases hq : textV (numN (L s) : Int) = L s
          · have HE := Lib.hid (HO.out.2 hq)
            replace hq : (textV (numN (L s) : Int) == s.toList) = true := by rw [ByteArray.toList_eq, beq_iff_eq]; exact hq
            go_wp2_with (go_at_call 22; refine (refText_any _ _ (by assumption)).mono ?_; rintro e w' ⟨rfl, rfl⟩)
            go_ret2
            exact ⟨parse_t HE.out rfl, rfl⟩
          · have HE := Lib.hid (show okNum (L s) = false by
              cases e : okNum (L s) with
              | false => rfl
              | true => exact absurd (HO.out.1 e) hq)
            replace hq : (textV (numN (L s) : Int) == s.toList) = false := by rw [ByteArray.toList_eq, beq_eq_false_iff_ne]; exact hq
            go_wp2_with (go_at_call 22; refine (refText_any _ _ (by assumption)).mono ?_; rintro e w' ⟨rfl, rfl⟩)
            go_ret2
            exact ⟨parse_f HE.out, rfl⟩
        · have HF := Lib.hid (show okNum (L s) = false by
            cases e : okNum (L s) with
            | false => rfl
            | true => exact absurd ((okNum_iff _).1 e).2.2 hm)
          go_wp2
          go_ret2
          exact ⟨parse_f HF.out, rfl⟩
end Go.Proofs.Ytljcpgeggbbmfaa
