/-
  The walks of Same, the program's and the law's (layer 11): rows of numbers.
-/
import Derived.Test.YtljcpgeggbbmfaaEqual
namespace Go.Proofs.Ytljcpgeggbbmfaa
set_option linter.unusedVariables false
set_option linter.unusedSimpArgs false
open Go.RowKit
theorem Rows2.drewN {w : World} {A : Option Addr} {ls : List (List Int)} (h : Rows2 w A ls) (n : Nat) : Rows2 (w.drewN n) A ls := h
theorem Rd.drewN {w : World} {A : Option Addr} {xs : List Value} (h : Rd w A xs) (n : Nat) : Rd (w.drewN n) A xs := h
theorem eqInts_is (A B : Option Addr) (CA CB : Nat) (xs ys : List Int) (b : Bool) (hb : Hid (decide (xs = ys) = b)) (w : World) (hx : xs.length ≤ 9223372036854775807) (hy : ys.length ≤ 9223372036854775807) (RA : Rd w A (i64s xs)) (RB : Rd w B (i64s ys)) :
    Calls Try.prog 44 #[.slice A xs.length CA, .slice B ys.length CB] w fun e w' => e = .returned (.bool b) ∧ ∃ nq, w' = w.drewN nq :=
  (eqInts_any A B CA CB xs ys w hx hy RA RB).mono fun e w' ⟨he, hw⟩ => ⟨by rw [he, hb.out], hw⟩
set_option maxHeartbeats 1600000 in
theorem same1_any (A B : Option Addr) (CA CB : Nat) (xs ys : List (List Int)) (w : World) (hx : xs.length ≤ 9223372036854775807) (hy : ys.length ≤ 9223372036854775807) (RA : Rows2 w A xs) (RB : Rows2 w B ys) :
    Calls Try.prog 43 #[.slice A xs.length CA, .slice B ys.length CB] w (EqEnd (xs = ys) w) := by
  replace RA := Lib.hid RA
  replace RB := Lib.hid RB
  by_cases hl : xs.length = ys.length
  · have hne : ((xs.length : Int) != (ys.length : Int)) = false := by rw [bne_eq_false_iff_eq]; omega
    go_enter Try.func43, Try.ntmps43
    go_wp2_with fail
    go_loopw [13] (fun i wr => ∃ k nq : Nat, k ≤ xs.length ∧ i = .int .i64 k ∧ Hid (xs.take k = ys.take k) ∧ wr = w.drewN nq) (fun i _ => xs.length - (intOf i).toNat)
    case atStart => exact ⟨0, 0, Nat.zero_le _, rfl, Lib.hid (by simp), rfl⟩
    case round =>
      obtain ⟨k, nq, hk, rfl, hs, hwr⟩ := hrel
      by_cases hkl : k < xs.length
      · have RA' : Rows2 wr A xs := by rw [hwr]; exact RA.out.drewN nq
        have RB' : Rows2 wr B ys := by rw [hwr]; exact RB.out.drewN nq
        replace hwr := Lib.hid hwr
        have hkl2 : k < ys.length := by omega
        obtain ⟨b, off, a1, c1, rfl, hc, hm1, R1⟩ := RA'.row hkl
        obtain ⟨b', off', a2, c2, rfl, hc', hm2, R2⟩ := RB'.row hkl2
        clear RA' RB'
        have e1 := Lib.hid (take_snocG xs hkl)
        have e2 := Lib.hid (take_snocG ys hkl2)
        have hall := Lib.hid (show xs[k] ≠ ys[k] → ¬ xs = ys from fun hn he => hn (by subst he; rfl))
        have k0 : (0 : Int) ≤ (k : Int) := by omega
        have k1 : (k : Int) < (xs.length : Int) := by omega
        have k2 : (k : Int) < (ys.length : Int) := by omega
        generalize xs[k] = x at *
        generalize ys[k] = y at *
        have HQ := fun (bo : Bool) (hb : Hid (decide (x = y) = bo)) (n : Nat) => eqInts_is a1 a2 c1 c2 x y bo hb (wr.drewN n) hm1 hm2 (R1.drewN n) (R2.drewN n)
        replace HQ := Lib.hid HQ
        clear R1 R2
        by_cases hxy : x = y
        · have hb := Lib.hid (decide_eq_true hxy)
          have e3 := Lib.hid (show xs.take (k + 1) = ys.take (k + 1) by rw [e1.out, e2.out, hs.out, hxy])
          clear hxy e1 e2 hall
          go_wp2_with fail
          go_quiet ((go_at_call 44; exact Calls.quiet_of (HQ.out true hb _)))
          go_wp2_with fail
          go_roundw
          case rel => exact ⟨k + 1, _, by omega, by go_num, e3, by rw [hwr.out]; exact World.drewN_drewN _ _ _⟩
          case measure => simp [intOf]; omega
        · have hb := Lib.hid (decide_eq_false hxy)
          have hd := Lib.hid (hall.out hxy)
          clear hall hxy
          go_wp2_with fail
          go_quiet ((go_at_call 44; exact Calls.quiet_of (HQ.out false hb _)))
          go_wp2_with fail
          go_ret
          exact ⟨ret_bool (decide_eq_false hd.out).symm, _, by rw [hwr.out]; exact World.drewN_drewN _ _ _⟩
      · obtain rfl : k = xs.length := by omega
        replace hwr := Lib.hid hwr
        have hd := hs.out
        rw [List.take_length, hl, List.take_length] at hd
        replace hd := Lib.hid hd
        clear hs
        go_wp2_with fail
        go_ret
        exact ⟨ret_bool (decide_eq_true hd.out).symm, _, hwr.out⟩
  · have hne : ((xs.length : Int) != (ys.length : Int)) = true := by rw [bne_iff_ne]; omega
    have hd := Lib.hid (show ¬ xs = ys from fun e => hl (by rw [e]))
    go_enter Try.func43, Try.ntmps43
    go_wp2_with fail
    go_ret
    exact ⟨ret_bool (decide_eq_false hd.out).symm, 0, rfl⟩
end Go.Proofs.Ytljcpgeggbbmfaa
