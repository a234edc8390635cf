/-
  The walk of WordLong (layer 5).
-/
import Derived.Test.YtnilgmcoojdgoaaLaws5
namespace Go.Proofs.Ytnilgmcoojdgoaa
set_option linter.unusedVariables false
set_option linter.unusedSimpArgs false
open Go.RowKit
theorem u8_natL {x : Int} (h : (Lit.int .u8 x).wf = true) : ∃ n : Nat, x = (n : Int) ∧ n < 256 := by
  have h2 : (0 : Int) ≤ x ∧ x ≤ 255 := by simpa [Lit.wf, IntKind.min, IntKind.max, IntKind.signed, IntKind.bits] using h
  exact ⟨x.toNat, by omega, by omega⟩
/-- n bytes 'a'. -/
def aStr (n : Nat) : ByteArray := ⟨(List.replicate n (97 : UInt8)).toArray⟩
theorem aStr_size (n : Nat) : (aStr n).size = n := by show ((List.replicate n (97 : UInt8)).toArray).size = n; simp
theorem aStr_bX (n k : Nat) (h : k < n) : bX (aStr n) k = 97 := by
  rw [bX_in _ (by rw [aStr_size]; exact h)]
  have : (aStr n)[k]'(by rw [aStr_size]; exact h) = 97 := by
    show ((List.replicate n (97 : UInt8)).toArray)[k]'(by simpa using h) = 97
    simp
  rw [this]; rfl
theorem aStr_st (n : Nat) : ∀ k, k < n → stN (aStr n) (k + 1) = ⟨[], some 0, false⟩
  | 0, h => by
    show stepS _ 0 (bX (aStr n) 0) (stN (aStr n) 0) = _
    rw [aStr_bX n 0 h]; rfl
  | k + 1, h => by
    show stepS _ (k + 1) (bX (aStr n) (k + 1)) (stN (aStr n) (k + 1)) = _
    rw [aStr_bX n (k + 1) h, aStr_st n k (by omega)]; rfl
theorem aStr_ok (n : Nat) : ∀ k, k ≤ n → okTo (aStr n) k = true
  | 0, _ => rfl
  | k + 1, h => by
    show (okTo (aStr n) k && okB (bX (aStr n) k)) = true
    rw [aStr_ok n k (by omega), aStr_bX n k (by omega)]; rfl
theorem aStr_all (n : Nat) : okAll (aStr n) = true := aStr_ok n _ (by rw [aStr_size]; exact Nat.le_refl _)
theorem aStr_words (n : Nat) (h : 1 ≤ n) : wordsL (aStr n) = [⟨(aStr n).extract 0 n, 0⟩] := by
  obtain ⟨m, rfl⟩ : ∃ m, n = m + 1 := ⟨n - 1, by omega⟩
  unfold wordsL
  rw [aStr_size]
  show (stepS _ (m + 1) (bX (aStr (m + 1)) (m + 1)) (stN (aStr (m + 1)) (m + 1))).out = _
  rw [bX_end _ (by rw [aStr_size]; exact Nat.lt_irrefl _), aStr_st (m + 1) m (by omega)]; rfl
theorem aStr_cut (n : Nat) : ((aStr n).extract 0 n).size = n := by rw [ByteArray.size_extract, aStr_size]; omega
theorem info_u8 : (Try.prog.info? 5).map (fun i => (i.zero, i.size, i.bytes)) = some (some (.int .u8 0), 1, 1) := by kernel_rfl
/-- n bytes, the first k of which are 'a'. -/
def aRow (n k : Nat) : Array Value := ((List.range n).map (fun q => Value.int .u8 (if q < k then 97 else 0))).toArray
theorem aRow_zero (n : Nat) : madeCells #[.int .u8 0] n = aRow n 0 := by
  unfold aRow madeCells
  apply Array.ext'
  apply List.ext_getElem?
  intro q
  by_cases hq : q < n
  · simp [hq, Nat.mod_one]
  · simp [hq]
theorem aRow_get (n k j : Nat) (h : j < n) : (aRow n k)[j]? = some (.int .u8 (if j < k then 97 else 0)) := by
  unfold aRow; simp [h]
theorem aRow_set (n k : Nat) (h : k < n) : (aRow n k).setIfInBounds k (.int .u8 97) = aRow n (k + 1) := by
  unfold aRow
  apply Array.ext'
  apply List.ext_getElem?
  intro q
  simp only [List.setIfInBounds_toArray, List.getElem?_set, List.length_map, List.length_range, List.getElem?_map]
  by_cases hqn : q < n
  · by_cases h1 : k = q
    · subst h1; simp [hqn]
    · rw [if_neg h1]
      simp [hqn]
      by_cases h2 : q < k
      · simp [h2, show q < k + 1 by omega]
      · simp [h2, show ¬ q < k + 1 by omega]
  · have h1 : ¬ k = q := by omega
    simp [hqn, h1]
theorem back_a (w : World) (n cap : Nat) :
    (convert 41 9 (.slice (some ⟨w.heap.size, 0, none⟩) n cap)).run Try.prog (w.alloc (.cells (aRow n n) 5)) = .ok (.string (aStr n)) (w.alloc (.cells (aRow n n) 5)) := by
  have h := run_convert_bytes_back (P := Try.prog) (w.alloc (.cells (aRow n n) 5)) 41 9 5 ⟨w.heap.size, 0, none⟩ cap (List.replicate n 97) Try.underlying41 Try.underlying5 Try.underlying9 (fun j hj => by
    have hj2 : j < n := by simpa using hj
    have e : (⟨w.heap.size, 0, none⟩ : Addr).add j = ⟨w.heap.size, j, none⟩ := by
      unfold Addr.add; by_cases hz : j = 0 <;> simp [hz]
    rw [e, World.cell?_alloc_new, aRow_get n n j hj2, if_pos hj2]
    simp)
  simpa [aStr] using h
/-- the same in a later world. -/
theorem back_a' (w w' : World) (b n cap : Nat) (h : w'.heap[b]? = some (.cells (aRow n n) 5 (0, 0))) :
    (convert 41 9 (.slice (some ⟨b, 0, none⟩) n cap)).run Try.prog w' = .ok (.string (aStr n)) w' := by
  have h := run_convert_bytes_back (P := Try.prog) w' 41 9 5 ⟨b, 0, none⟩ cap (List.replicate n 97) Try.underlying41 Try.underlying5 Try.underlying9 (fun j hj => by
    have hj2 : j < n := by simpa using hj
    have e : (⟨b, 0, none⟩ : Addr).add j = ⟨b, j, none⟩ := by
      unfold Addr.add; by_cases hz : j = 0 <;> simp [hz]
    rw [e, cell_of_row w' b j _ _ _ h, aRow_get n n j hj2, if_pos hj2]
    simp)
  simpa [aStr] using h
set_option maxHeartbeats 8000000 in
set_option maxRecDepth 100000 in
theorem walk_WordLong (w : World) (m : Nat) (hm : m < 256) :
    Calls Try.prog 6 #[.int .u8 (m : Int)] w fun e w' => e = .returned (.bool true) ∧ Below w.heap.size w w' := by
  have hA := Lib.hid awake5_any
  obtain ⟨n, hn⟩ : ∃ n : Nat, n = 131072 + m % 3 := ⟨_, rfl⟩
  have he : 131072 + (m : Int) % 3 = (n : Int) := by omega
  have hlo : (131072 : Int) ≤ (n : Int) := by omega
  have hhi : (n : Int) ≤ 131074 := by omega
  have hmk0 := fun (W : World) => run_make_row' (P := Try.prog) 41 5 (.int .u8 0) 1 Try.underlying41 info_u8 rfl .i64 .i64 n (by omega) (by omega) W
  have hmk : ∀ (W : World), (Instr.makeSlice 41 (.int .i64 (n : Int)) (.int .i64 (n : Int))).run Try.prog W = .ok (.slice (some ⟨W.heap.size, 0, none⟩) n n) (W.alloc (.cells (aRow n 0) 5)) := fun W => by rw [hmk0 W, aRow_zero]
  clear hmk0
  have hcase := Lib.hid hn
  clear hn
  go_enter Try.func6, Try.ntmps6
  go_wp2_with fail
  refine (hA.out _).mono ?_
  rintro e w1 ⟨rfl, hb1⟩
  replace hb1 := Lib.hid hb1
  go_wp2_with fail
  clear hmk
  go_loopw [19] (fun i wr => ∃ k : Nat, k ≤ n ∧ i = .int .i64 k ∧ wr = w1.alloc (.cells (aRow n k) 5)) (fun i _ => n - (intOf i).toNat)
  case atStart => exact ⟨0, Nat.zero_le _, rfl, rfl⟩
  case round =>
    obtain ⟨k, hk, rfl, rfl⟩ := hrel
    by_cases hkl : k < n
    · have k0 : (0 : Int) ≤ (k : Int) := by omega
      have k1 : (k : Int) < (n : Int) := by omega
      have hget := aRow_get n k k hkl
      have hset := aRow_set n k hkl
      go_wp2_with fail
      go_roundw
      case rel => exact ⟨k + 1, by omega, by go_num, rfl⟩
      case measure => simp [intOf]; omega
    · obtain rfl : k = n := by omega
      have hbk := back_a w1 k k
      have hblk := Lib.hid (heap_alloc_new w1 (.cells (aRow k k) 5))
      have hbz := Lib.hid (hb1.out.alloc hb1.out.size (.cells (aRow k k) 5))
      have hsz := Lib.hid (aStr_size k)
      by_cases h0 : 0 < (m : Int) % 3
      · have hSp := Lib.hid (fun w' => split_long (aStr k) w' (by rw [aStr_size]; have := hcase.out; omega) (by rw [aStr_size]; omega))
        have hRd := Lib.hid (fun w' => read_err (aStr k) .nilFunc w' 0 4 (Lib.hid (by decide)) hSp)
        go_wp2_with fail
        refine (hSp.out _).mono ?_
        rintro e w2 ⟨rfl, hb2⟩
        have hbk2 := back_a' w1 w2 w1.heap.size k k ((hb2.block _ (heap_lt hblk.out)).trans hblk.out)
        have hbb := Lib.hid (keep_below hbz.out hb2)
        clear hbk hb2
        go_wp2_with fail
        refine (hRd.out _).mono ?_
        rintro e w3 ⟨rfl, hb3⟩
        replace hb3 := Lib.hid hb3
        clear hbk2
        go_wp2_with fail
        go_ret
        exact ⟨rfl, keep_below hbb.out hb3.out⟩
      · have hSp := Lib.hid (fun w' => split_ok (aStr k) w' (by rw [aStr_size]; have := hcase.out; omega) (aStr_all k))
        have hRd := Lib.hid (fun w' => read_nil (aStr k) w' (by rw [aStr_size]; have := hcase.out; omega) (aStr_all k))
        rw [aStr_words k (by omega)] at hSp hRd
        have hE : Hid (nilE [⟨(aStr k).extract 0 k, 0⟩] (aStr k).size = .returned (.tuple #[.int .i64 0, .int .i64 6])) := Lib.hid rfl
        have hcut := aStr_cut k
        generalize (aStr k).extract 0 k = t at *
        go_wp2_with fail
        refine (hSp.out _).mono ?_
        rintro e w2 ⟨A, C, rfl, hO, hb2⟩
        obtain ⟨b, off, rfl, hc1, hc2⟩ := (own_rd' hO).word (k := 0) (Nat.succ_pos 0)
        have hbk2 := back_a' w1 w2 w1.heap.size k k ((hb2.block _ (heap_lt hblk.out)).trans hblk.out)
        have hbb := Lib.hid (keep_below hbz.out hb2)
        clear hbk hb2 hO
        rw [Nat.zero_mul, Nat.add_zero] at hc1 hc2
        have hc3 : w2.cell? ⟨b, off, none⟩ = some (.string t) := hc1
        clear hc1 hc2
        go_wp2_with fail
        refine (hRd.out _).mono ?_
        rintro e w3 ⟨he3, hb3⟩
        rw [hE.out] at he3
        subst he3
        replace hc3 := keep_cell hb3 hc3
        replace hb3 := Lib.hid hb3
        clear hbk2
        go_wp2_with fail
        go_ret
        exact ⟨rfl, keep_below hbb.out hb3.out⟩
theorem law_WordLong (w : World) (m : Int) (hm : (Lit.int .u8 m).wf = true) :
    Calls Try.prog 6 #[.int .u8 m] w fun e w' => e = .returned (.bool true) ∧ Below w.heap.size w w' := by
  obtain ⟨m', rfl, hm'⟩ := u8_natL hm
  exact walk_WordLong w m' hm'
end Go.Proofs.Ytnilgmcoojdgoaa
