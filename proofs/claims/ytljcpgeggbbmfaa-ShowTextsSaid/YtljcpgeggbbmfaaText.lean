/-
  The walk of whole.Text (layer 1).
-/
import Derived.Test.YtljcpgeggbbmfaaSize
import Derived.Test.YtljcpgeggbbmfaaDig
namespace Go.Proofs.Ytljcpgeggbbmfaa
set_option linter.unusedVariables false
set_option linter.unusedSimpArgs false
open Go.RowKit
theorem arr20 : Try.prog.arrayLen 119 = 20 := by kernel_rfl
theorem elem20 : Try.prog.elem 119 = 5 := by kernel_rfl
theorem und20 : Try.prog.underlying 119 = some (.array (Try.prog.arrayLen 119) (Try.prog.elem 119)) := by kernel_rfl
theorem size8 (w : World) : (sizeOf 5).run Try.prog w = .ok 1 w := by kernel_rfl
theorem sl20 (W : World) (b k : Nat) (x : Int) (hx : x = k) (hk : k < 20) :
    (Instr.sliceAt 119 (.pointer (some ⟨b, 0, none⟩)) (some (.int .i64 x)) none none).run Try.prog W = .ok (.slice (some ⟨b, k, none⟩) (20 - k) (20 - k)) W := by
  subst hx
  rw [run_sliceAt_array_l W 119 _ und20 .i64 k (by omega) (by rw [arr20]; omega), elem20, size8, arr20]
  simp only [Result.andThen, slicedAt, Int.toNat_natCast, if_neg (show ¬ 20 = k by omega), Nat.mul_one]
  unfold Addr.add
  by_cases h : k = 0 <;> simp [h]
theorem back_str (w : World) (acc : List UInt8) (k cap : Nat) (hk : k + acc.length = 20) :
    (convert 38 9 (.slice (some ⟨w.heap.size, k, none⟩) (20 - k) cap)).run Try.prog (w.alloc (.cells (cellsA acc) 119)) = .ok (.string ⟨acc.toArray⟩) (w.alloc (.cells (cellsA acc) 119)) := by
  have h := run_convert_bytes_back (P := Try.prog) (w.alloc (.cells (cellsA acc) 119)) 38 9 5 ⟨w.heap.size, k, none⟩ cap acc Try.underlying38 Try.underlying5 Try.underlying9 (fun j hj => by
    have e : (⟨w.heap.size, k, none⟩ : Addr).add j = ⟨w.heap.size, k + j, none⟩ := by
      unfold Addr.add; by_cases hz : j = 0 <;> simp [hz]
    rw [e, World.cell?_alloc_new, cellsA_get k j hk hj]
    simp [B8, hj])
  rw [show 20 - k = acc.length by omega]
  exact h
set_option maxHeartbeats 8000000 in
set_option maxRecDepth 100000 in
theorem text_any (n : Int) (w : World) (hn : I64 n) :
    Calls Try.prog 48 #[.int .i64 n] w fun e w' => e = .returned (.string ⟨(textV n).toArray⟩) ∧ Below w.heap.size w w' := by
  go_enter Try.func48, Try.ntmps48
  go_wp2_with (first | (go_at_call 65; refine (size_any _ _ (by assumption)).mono ?_; rintro e w' ⟨rfl, rfl⟩) )
  go_loopw [4, 5] (fun i u w' => ∃ (f m : Nat) (acc : List UInt8), 1 ≤ f ∧ f + acc.length = 19 ∧ i = .int .i64 ((f : Int) + 1) ∧ u = .int .u64 m ∧ Hid (m < 10 ^ f) ∧ Hid (digF f m ++ acc = digN (sizeN n)) ∧ w' = w.alloc (.cells (cellsA acc) 119)) (fun i _ _ => (intOf i).toNat)
  case atStart => exact ⟨19, sizeN n, [], by omega, rfl, rfl, rfl, Lib.hid (by have := sizeN_lt hn; omega), Lib.hid (by simp [digN]), rfl⟩
  case round =>
    obtain ⟨f, m, acc, hf, ha, rfl, rfl, HM, HD, rfl⟩ := hrel
    have hf1 : (f : Int) ≤ 19 := by omega
    have hm : m < 18446744073709551616 := by
      have h1 := HM.out
      have h2 := pow10_le (k := f) (n := 19) (by omega)
      omega
    obtain ⟨v0, hv⟩ := cellsA_some (acc := acc) (by omega) f (by omega)
    have hset : (cellsA acc).setIfInBounds f (Value.int .u8 (48 + (m : Int) % 10)) = cellsA (dg m :: acc) := by
      rw [← cellsA_set (dg m) f ha]; unfold B8; rw [dg_toNat]; rfl
    have h8 : IntKind.u8.wrap (48 + (m : Int) % 10) = 48 + (m : Int) % 10 := by rw [IntKind.wrap_u8]; omega
    by_cases hlt : m < 10
    · obtain ⟨v1, hv1⟩ := cellsA_some (acc := dg m :: acc) (by simp; omega) (f - 1) (by omega)
      have hset1 : (cellsA (dg m :: acc)).setIfInBounds (f - 1) (Value.int .u8 45) = cellsA (45 :: dg m :: acc) := by
        rw [← cellsA_set 45 (f - 1) (by simp; omega)]; rfl
      by_cases h0 : n < 0
      · have hsl := fun W => sl20 W w.heap.size (f - 1) (f - 1) (by omega) (by omega)
        have hbk := back_str w (45 :: dg m :: acc) (f - 1) (20 - (f - 1)) (by simp; omega)
        have HT := Lib.hid (show textV n = 45 :: dg m :: acc by
          unfold textV; rw [if_pos h0, show n.natAbs = sizeN n from rfl, ← HD.out, digF_lo hf hlt]; rfl)
        go_wp2
        go_ret
        exact ⟨by rw [HT.out]; rfl, (Below.refl _ _).alloc (Nat.le_refl _) _⟩
      · have hsl := fun W => sl20 W w.heap.size f f rfl (by omega)
        have hbk := back_str w (dg m :: acc) f (20 - f) (by simp; omega)
        have HT := Lib.hid (show textV n = dg m :: acc by
          unfold textV; rw [if_neg (by omega), show n.natAbs = sizeN n from rfl, ← HD.out, digF_lo hf hlt]; rfl)
        go_wp2
        go_ret
        exact ⟨by rw [HT.out]; rfl, (Below.refl _ _).alloc (Nat.le_refl _) _⟩
    · go_wp2
      go_roundw
      case rel =>
        obtain ⟨g, rfl⟩ : ∃ g, f = g + 1 := ⟨f - 1, by omega⟩
        have e := HD.out
        rw [digF_hi hlt] at e
        have hp := HM.out
        refine ⟨g, m / 10, dg m :: acc, ?_, ?_, ?_, ?_, Lib.hid ?_, Lib.hid ?_, rfl⟩
        · rcases Nat.eq_zero_or_pos g with hg | hg
          · subst hg; omega
          · exact hg
        · simp; omega
        · go_num
        · go_num
        · rw [Nat.pow_succ] at hp; omega
        · rw [← e, List.append_assoc]; rfl
      case measure => simp [intOf]
end Go.Proofs.Ytljcpgeggbbmfaa
