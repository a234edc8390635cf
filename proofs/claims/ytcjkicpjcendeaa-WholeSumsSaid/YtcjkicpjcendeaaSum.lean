/-
  The walk of whole.Sum, and of the statement WholeSums.
-/
import Derived.Test.YtcjkicpjcendeaaMem
import Derived.Test.YtcjkicpjcendeaaAwake1
namespace Go.Proofs.Ytcjkicpjcendeaa
open Go.RowKit
def sumStep (acc : Option Int) (n : Int) : Option Int := match acc with
  | some s => if fits (s + n) then some (s + n) else none
  | none => none
/-- all numbers, added from the left; none, if one of the sums is no number of 64 bits. -/
def sumO (l : List Int) : Option Int := l.foldl sumStep (some 0)
theorem sumO_snoc (l : List Int) (n : Int) : sumO (l ++ [n]) = sumStep (sumO l) n := by unfold sumO; rw [List.foldl_append]; rfl
theorem sumO_none (l : List Int) : ∀ t, l.foldl sumStep none = t → t = none := by
  induction l with
  | nil => intro t h; exact h.symm
  | cons n l ih => intro t h; exact ih t h
theorem sumO_stop {zs : List Int} {k : Nat} (h : sumO (zs.take k) = none) : sumO zs = none := by
  have e : zs = zs.take k ++ zs.drop k := (List.take_append_drop k zs).symm
  rw [e]; unfold sumO at *; rw [List.foldl_append, h]
  exact sumO_none _ _ rfl
theorem I64_sumO {l : List Int} {s : Int} (h : sumO l = some s) : I64 s := by
  rcases List.eq_nil_or_concat l with rfl | ⟨l', n, rfl⟩
  · injection h with h; subst h; unfold I64; omega
  · rw [List.concat_eq_append, sumO_snoc] at h
    unfold sumStep at h
    split at h
    · split at h
      · rename_i hf
        injection h with h; subst h
        exact (fits_iff _).1 hf
      · cases h
    · cases h
def sumV (l : List Int) : Int := (sumO l).getD 0
def SumEnd (l : List Int) (e : Ending) : Prop := e = .returned (.tuple #[.int .i64 (sumV l), .bool (sumO l).isSome])
theorem add_yes (a b : Int) (w : World) (ha : I64 a) (hb : I64 b) (hf : fits (a + b) = true) :
    Calls Try.prog 24 #[.int .i64 a, .int .i64 b] w fun e w' => e = .returned (.tuple #[.int .i64 (a + b), .bool true]) ∧ w = w' :=
  (add_any a b w ha hb).mono fun e w' ⟨h, hw⟩ => ⟨by rw [h, cutV_t ((fits_iff _).1 hf), hf], hw⟩
theorem add_no (a b : Int) (w : World) (ha : I64 a) (hb : I64 b) (hf : fits (a + b) = false) :
    Calls Try.prog 24 #[.int .i64 a, .int .i64 b] w fun e w' => e = .returned (.tuple #[.int .i64 0, .bool false]) ∧ w = w' :=
  (add_any a b w ha hb).mono fun e w' ⟨h, hw⟩ => ⟨by rw [h, cutV_f (fun h' => by rw [fits_t h'] at hf; cases hf), hf], hw⟩
theorem refAdd_yes (a b : Int) (w : World) (ha : I64 a) (hb : I64 b) (hf : fits (a + b) = true) :
    Calls Try.prog 25 #[.int .i64 a, .int .i64 b] w fun e w' => e = .returned (.tuple #[.int .i64 (a + b), .bool true]) ∧ w = w' :=
  (refAdd_any a b w ha hb).mono fun e w' ⟨h, hw⟩ => ⟨by rw [h, cutV_t ((fits_iff _).1 hf), hf], hw⟩
theorem refAdd_no (a b : Int) (w : World) (ha : I64 a) (hb : I64 b) (hf : fits (a + b) = false) :
    Calls Try.prog 25 #[.int .i64 a, .int .i64 b] w fun e w' => e = .returned (.tuple #[.int .i64 0, .bool false]) ∧ w = w' :=
  (refAdd_any a b w ha hb).mono fun e w' ⟨h, hw⟩ => ⟨by rw [h, cutV_f (fun h' => by rw [fits_t h'] at hf; cases hf), hf], hw⟩

set_option maxHeartbeats 800000 in
theorem sum_any (a : Option Addr) (len cap : Nat) (zs : List Int) (w : World) (hl : zs.length = len) (hm : len ≤ 9223372036854775807) (hz : Elems .i64 w a zs) :
    Calls Try.prog 31 #[.slice a len cap] w fun e w' => SumEnd zs e ∧ w = w' := by
  subst hl
  have HZ := Lib.hid hz
  clear hz
  go_enter Try.func31, Try.ntmps31
  go_wp2
  go_loop [4, 10] (fun s i => ∃ (k : Nat) (t : Int), k ≤ zs.length ∧ i = .int .i64 k ∧ s = .int .i64 t ∧ Hid (sumO (zs.take k) = some t)) (fun _ i => zs.length - (intOf i).toNat)
  case atStart => exact ⟨0, 0, Nat.zero_le _, rfl, rfl, Lib.hid rfl⟩
  case round =>
    obtain ⟨k, t, hk, rfl, rfl, HS⟩ := hrel
    by_cases hlt : k < zs.length
    · obtain ⟨x, rfl, hc, hw⟩ := HZ.out k hlt
      have hI := I64_of hw
      have hT := I64_sumO HS.out
      have HN := Lib.hid (takeI_snoc zs k hlt)
      generalize zs.getD k 0 = n at *
      clear hw
      obtain ⟨b, hf⟩ : ∃ b, fits (t + n) = b := ⟨_, rfl⟩
      cases b with
      | true =>
        go_wp2_with (go_at_call 24; refine (add_yes _ _ _ (by assumption) (by assumption) (by assumption)).mono ?_; rintro e w2 ⟨rfl, rfl⟩)
        go_round
        case rel =>
          refine ⟨k + 1, t + n, by omega, by go_num, rfl, Lib.hid ?_⟩
          rw [HN.out, sumO_snoc, HS.out]; show (if fits (t + n) then _ else _) = _; rw [hf]; rfl
        case measure => simp [intOf]; omega
      | false =>
        have HE := Lib.hid (sumO_stop (zs := zs) (k := k + 1) (by rw [HN.out, sumO_snoc, HS.out]; show (if fits (t + n) then _ else _) = _; rw [hf]; rfl))
        go_wp2_with (go_at_call 24; refine (add_no _ _ _ (by assumption) (by assumption) (by assumption)).mono ?_; rintro e w2 ⟨rfl, rfl⟩)
        go_ret2
        exact ⟨by unfold SumEnd sumV; rw [HE.out]; rfl, rfl⟩
    · obtain rfl : k = zs.length := by omega
      rw [List.take_length] at HS
      go_wp2
      go_ret2
      exact ⟨by unfold SumEnd sumV; rw [HS.out]; rfl, rfl⟩

theorem cat_none {zs : List Int} {k : Nat} (h : k < zs.length) (hs : sumO (zs.take k) = none) : sumO (zs.take (k + 1)) = none := by
  rw [takeI_snoc zs k h, sumO_snoc, hs]; rfl
set_option maxHeartbeats 800000 in
theorem law_WholeSums (w : World) (a : Option Addr) (len cap : Nat) (zs : List Int) (hr : IsRow .i64 w a len cap zs) :
    Calls Try.prog 10 #[.slice a len cap] w fun e w' => e = .returned (.bool true) ∧ Below w.heap.size w w' := by
  obtain ⟨hz, hl, hm⟩ := elems_of hr
  clear hr
  generalize zs.take len = ys at *
  subst hl
  by_cases h60 : 60 < ys.length
  · go_enter Try.func10, Try.ntmps10
    go_wp2_with (first | (go_at_call 23; refine (awake1_any _).mono ?_; rintro e w1 ⟨rfl, hb1⟩))
    go_ret
    exact ⟨rfl, hb1⟩
  · have HZ0 := Lib.hid hz
    clear hz
    go_enter Try.func10, Try.ntmps10
    go_wp2_with (first | (go_at_call 23; refine (awake1_any _).mono ?_; rintro e w1 ⟨rfl, hb1⟩))
    have HZ := Lib.hid (HZ0.out.below hb1)
    go_loop [3, 4, 16] (fun s b i => ∃ (k : Nat), k ≤ ys.length ∧ i = .int .i64 k ∧ s = .int .i64 (sumV (ys.take k)) ∧ b = .bool (sumO (ys.take k)).isSome) (fun _ _ i => ys.length - (intOf i).toNat)
    case atStart => exact ⟨0, Nat.zero_le _, rfl, rfl, rfl⟩
    case round =>
      obtain ⟨k, hk, rfl, rfl, rfl⟩ := hrel
      by_cases hlt : k < ys.length
      · obtain ⟨x, rfl, hc, hw⟩ := HZ.out k hlt
        have hI := I64_of hw
        have HN := Lib.hid (takeI_snoc ys k hlt)
        generalize hn : ys.getD k 0 = n at *
        clear hw hn
        cases hs : sumO (ys.take k) with
        | none =>
          have HS := Lib.hid hs
          have hv : sumV (ys.take k) = 0 := by unfold sumV; rw [hs]; rfl
          rw [hv]
          simp only [Option.isSome_none]
          clear hs hv
          go_wp2
          go_round
          case rel =>
            have e : sumO (ys.take (k + 1)) = none := cat_none hlt HS.out
            exact ⟨k + 1, by omega, by go_num, by unfold sumV; rw [e]; rfl, by rw [e]; rfl⟩
          case measure => simp [intOf]; omega
        | some t =>
          have HS := Lib.hid hs
          have hT := I64_sumO hs
          have hv : sumV (ys.take k) = t := by unfold sumV; rw [hs]; rfl
          rw [hv]
          simp only [Option.isSome_some]
          clear hs hv
          obtain ⟨b, hf⟩ : ∃ b, fits (t + n) = b := ⟨_, rfl⟩
          cases b with
          | true =>
            go_wp2_with (go_at_call 25; refine (refAdd_yes _ _ _ (by assumption) (by assumption) (by assumption)).mono ?_; rintro e w2 ⟨rfl, rfl⟩)
            go_round
            case rel =>
              have e : sumO (ys.take (k + 1)) = some (t + n) := by rw [HN.out, sumO_snoc, HS.out]; show (if fits (t + n) then _ else _) = _; rw [hf]; rfl
              exact ⟨k + 1, by omega, by go_num, by unfold sumV; rw [e]; rfl, by rw [e]; rfl⟩
            case measure => simp [intOf]; omega
          | false =>
            go_wp2_with (go_at_call 25; refine (refAdd_no _ _ _ (by assumption) (by assumption) (by assumption)).mono ?_; rintro e w2 ⟨rfl, rfl⟩)
            go_round
            case rel =>
              have e : sumO (ys.take (k + 1)) = none := by rw [HN.out, sumO_snoc, HS.out]; show (if fits (t + n) then _ else _) = _; rw [hf]; rfl
              exact ⟨k + 1, by omega, by go_num, by unfold sumV; rw [e]; rfl, by rw [e]; rfl⟩
            case measure => simp [intOf]; omega
      · obtain rfl : k = ys.length := by omega
        rw [List.take_length]
        go_wp2_with (go_at_call 31; refine (sum_any _ _ _ ys _ rfl (by assumption) HZ.out).mono ?_; rintro e w2 ⟨hc, rfl⟩; unfold SumEnd at hc; subst hc)
        go_ret
        exact ⟨rfl, hb1⟩
end Go.Proofs.Ytcjkicpjcendeaa
