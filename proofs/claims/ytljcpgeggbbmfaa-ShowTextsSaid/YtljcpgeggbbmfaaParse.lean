/-
  The walk of whole.Parse (layer 1).
-/
import Derived.Test.YtljcpgeggbbmfaaRows
import Derived.Test.YtljcpgeggbbmfaaNum
import Derived.Laws.RangeAny
import Derived.Deep.Light
namespace Go.Proofs.Ytljcpgeggbbmfaa
set_option linter.unusedVariables false
set_option linter.unusedSimpArgs false
open Go.RowKit
set_option maxHeartbeats 800000 in
theorem parse_main (s : ByteArray) (w : World) (h1 : 0 < s.size) (h2 : s.size ≤ 16) (h : s.size ≤ 1 ∨ s[0].toNat ≠ 48) :
    Calls Try.prog 63 #[.string s] w fun e w' => ParseEnd (L s) e ∧ Below w.heap.size w w' := by
  have hs : ¬ s = ByteArray.empty := by rintro rfl; exact absurd h1 (by decide)
  have hz : ((s.size : Int) == 0) = false := by rw [beq_eq_false_iff_ne]; omega
  have HM := Lib.hid (okNum_main h1 h2 h)
  have hc : s.size ≤ 1 ∨ (1 < s.size ∧ ((s[0].toNat : Int) == 48) = false) := by
    rcases Nat.lt_or_ge 1 s.size with k | k
    · exact .inr ⟨k, by rw [beq_eq_false_iff_ne]; omega⟩
    · exact .inl k
  clear h
  rcases hc with hc | ⟨hc, h48⟩
  all_goals
    go_enter Try.func63, Try.ntmps63
    go_wp2
    go_loopw [4] (fun n w' => ∃ pos : Nat, pos ≤ s.size ∧ w' = w.iter s pos ∧ Hid (((L s).take pos).all isDig = true) ∧ n = .int .i64 (numN ((L s).take pos))) (fun _ w' => s.size - w'.iterPos w.heap.size)
    case atStart => exact ⟨0, by omega, rfl, Lib.hid rfl, rfl⟩
    case round =>
      obtain ⟨pos, hp, rfl, HD, rfl⟩ := hrel
      by_cases hlt : pos < s.size
      · have hb : numN ((L s).take pos) < 1000000000000000 := by
          have a := numN_lt _ HD.out
          have b : ((L s).take pos).length ≤ 15 := Nat.le_trans (List.length_take_le _ _) (by omega)
          exact Nat.lt_of_lt_of_le a (pow10_le b)
        by_cases ha : s[pos].toNat < 128
        · have hnx : ∀ ty, (Instr.next (.pointer (some ⟨w.heap.size, 0, none⟩)) true ty).run Try.prog (w.iter s pos) = _ := fun ty => run_next_ascii w s pos ty hlt ha
          have bl : s[pos].toNat < 256 := s[pos].toNat_lt
          by_cases hd : 48 ≤ s[pos].toNat ∧ s[pos].toNat ≤ 57
          · obtain ⟨d1, d2⟩ := hd
            go_wp2
            go_roundw
            case rel =>
              refine ⟨pos + 1, by omega, rfl, ?_, ?_⟩
              · refine Lib.hid ?_
                rw [take_snoc s pos hlt, all_snoc, HD.out, (dig_iff _).2 ⟨d1, d2⟩]; rfl
              · rw [take_snoc s pos hlt, numN_snoc]
                go_num
            case measure => simp; omega
          · have hd' : s[pos].toNat < 48 ∨ 57 < s[pos].toNat := by omega
            have HF := Lib.hid (okNum_nd (not_all s pos hlt (dig_f hd')))
            clear hd
            rcases hd' with hd | hd
            all_goals
              go_wp2
              go_ret2
              exact ⟨parse_f HF.out, (Below.refl _ _).alloc (Nat.le_refl _) _⟩
        · have h128 := decode_high s pos hlt (by omega)
          have hnx : ∀ ty, (Instr.next (.pointer (some ⟨w.heap.size, 0, none⟩)) true ty).run Try.prog (w.iter s pos) = _ := fun ty => run_next_any w s pos ty hlt
          have hle := decode_le s pos
          have HF := Lib.hid (okNum_nd (not_all s pos hlt (dig_f (.inr (by omega)))))
          go_wp2
          go_ret2
          exact ⟨parse_f HF.out, (Below.refl _ _).alloc (Nat.le_refl _) _⟩
      · obtain rfl : pos = s.size := by omega
        have hnx : ∀ ty, (Instr.next (.pointer (some ⟨w.heap.size, 0, none⟩)) true ty).run Try.prog (w.iter s s.size) = _ := fun ty => run_next_end w s s.size ty hlt
        rw [take_all] at HD ⊢
        have HE := Lib.hid (HM.out HD.out)
        have hb : (numN (L s) : Int) ≤ 9999999999999999 := by
          have a := numN_lt _ HD.out
          have b := pow10_le (k := (L s).length) (n := 16) (by rw [L_length]; exact h2)
          omega
        by_cases hm : numN (L s) ≤ 1000000000000000
        · go_wp2
          go_ret2
          exact ⟨parse_t (by rw [HE.out]; exact decide_eq_true hm) rfl, (Below.refl _ _).alloc (Nat.le_refl _) _⟩
        · go_wp2
          go_ret2
          exact ⟨parse_f (by rw [HE.out]; exact decide_eq_false hm), (Below.refl _ _).alloc (Nat.le_refl _) _⟩

set_option maxHeartbeats 800000 in
theorem parse_any (s : ByteArray) (w : World) (hs : s.size ≤ 9223372036854775807) :
    Calls Try.prog 63 #[.string s] w fun e w' => ParseEnd (L s) e ∧ Below w.heap.size w w' := by
  by_cases h0 : s = ByteArray.empty
  · subst h0
    go_enter Try.func63, Try.ntmps63
    go_wp2
    go_ret2
    exact ⟨parse_f (by decide), Below.refl _ _⟩
  · have h1 : 0 < s.size := by
      rcases Nat.eq_zero_or_pos s.size with h | h
      · exact absurd (ByteArray.ext (Array.ext' (List.eq_nil_of_length_eq_zero h))) h0
      · exact h
    have hz : ((s.size : Int) == 0) = false := by rw [beq_eq_false_iff_ne]; omega
    by_cases h2 : 16 < s.size
    · have HF := Lib.hid (okNum_long (l := L s) h2)
      go_enter Try.func63, Try.ntmps63
      go_wp2
      go_ret2
      exact ⟨parse_f HF.out, Below.refl _ _⟩
    · by_cases h3 : 1 < s.size ∧ s[0].toNat = 48
      · obtain ⟨h4, h5⟩ := h3
        have HF := Lib.hid (okNum_zero h4 h5)
        have h6 : ((s[0].toNat : Int) == 48) = true := by rw [beq_iff_eq]; omega
        clear h5
        go_enter Try.func63, Try.ntmps63
        go_wp2
        go_ret2
        exact ⟨parse_f HF.out, Below.refl _ _⟩
      · exact parse_main s w h1 (by omega) (by omega)
end Go.Proofs.Ytljcpgeggbbmfaa
