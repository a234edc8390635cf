/-
  The walks of Gap, and of layer 2's statements RealCools and RealRatios.
-/
import Derived.Test.YtbhifhnpcafpjaaLaws2
namespace Go.Proofs.Ytbhifhnpcafpjaa
set_option linter.unusedVariables false
set_option linter.unusedSimpArgs false
open Go.RowKit
theorem nan_quo (r y : Nat) (h : kindN r = 6) : floatBits .quo .f64 r y = none := by
  have hr := kind_cases r
  have hi : infR = 9218868437227405312 := rfl
  have e : Ieee.double.read r = .nan (below r) (rung r - infR) := by rw [read_d, if_neg (by omega), if_neg (by omega), if_neg (by omega)]
  show ((Ieee.double.read r).quotient _ (Ieee.double.read y)).map _ = none
  rw [e]; rfl
def gapV (x y : Nat) : Option Nat := (floatBits .sub .f64 x y).bind fun u => floatBits .quo .f64 u y
set_option maxHeartbeats 400000 in
theorem gap_any (a b : Int) (w : World) :
    Calls Try.prog 22 #[.int .i64 a, .int .i64 b] w (FEnd (gapV (floatOfInt .f64 a) (floatOfInt .f64 b)) w) := by
  have c1 := fun (w : World) => run_convert_int_float (P := Try.prog) w 2 26 .i64 .f64 a (by kernel_rfl) Try.underlying26
  have c2 := fun (w : World) => run_convert_int_float (P := Try.prog) w 2 26 .i64 .f64 b (by kernel_rfl) Try.underlying26
  generalize floatOfInt .f64 a = x at *
  generalize floatOfInt .f64 b = y at *
  cases h : floatBits .sub .f64 x y with
  | some u =>
    have hr := fun (w : World) => run_float_arith (P := Try.prog) w .sub 26 .f64 x y u h
    have hg : Hid (gapV x y = floatBits .quo .f64 u y) := Lib.hid (by unfold gapV; rw [h]; rfl)
    clear h
    cases h : floatBits .quo .f64 u y with
    | some r =>
      have hq := fun (w : World) => run_float_arith (P := Try.prog) w .quo 26 .f64 u y r h
      have hv : FV (gapV x y) r := ⟨bits_lt h, .inl (hg.out.trans h)⟩
      replace hv := Lib.hid hv
      clear h
      go_enter Try.func22, Try.ntmps22
      go_wp2
      go_ret
      exact ⟨r, rfl, hv.out, Below.refl _ _⟩
    | none =>
      have hq := fun (w : World) => run_nan .quo 26 u y (by simp) h w
      replace hg := Lib.hid (hg.out.trans h)
      clear h
      go_enter Try.func22, Try.ntmps22
      go_wp2
      go_ret
      exact ⟨_, rfl, ⟨(nanW_kind u y w).2, .inr ⟨hg.out, (nanW_kind u y w).1⟩⟩, (Below.refl _ _).drew⟩
  | none =>
    have hr := fun (w : World) => run_nan .sub 26 x y (by simp) h w
    have hg : Hid (gapV x y = none) := Lib.hid (by unfold gapV; rw [h]; rfl)
    have hk := nanW_kind x y w
    have hn := nan_quo (nanW x y w) y hk.1
    have hq := fun (w' : World) => run_nan .quo 26 (nanW x y w) y (by simp) hn w'
    clear h hn hk
    go_enter Try.func22, Try.ntmps22
    go_wp2
    go_ret
    exact ⟨_, rfl, ⟨(nanW_kind _ y _).2, .inr ⟨hg.out, (nanW_kind _ y _).1⟩⟩, (Below.refl _ _).drew.drew⟩
theorem same_true (a b : Nat) (o : Option Nat) (ha : Hid (FV o a)) (hb : Hid (FV o b)) (w : World) :
    Calls Try.prog 19 #[.float .f64 a, .float .f64 b] w fun e w' => e = .returned (.bool true) ∧ w = w' :=
  (same_any a b ha.out.1 hb.out.1 w).mono fun e w' ⟨he, hw⟩ => ⟨by rw [he, ha.out.same hb.out]; exact ret_bool (by simp), hw⟩
theorem FV.nan (x y : Nat) (w : World) : FV none (nanW x y w) := ⟨(nanW_kind x y w).2, .inr ⟨rfl, (nanW_kind x y w).1⟩⟩
set_option maxHeartbeats 800000 in
theorem law_RealCools (w : World) (x : Int) (hx : (Lit.int .u64 x).wf = true) (y : Int) (hy : (Lit.int .u64 y).wf = true) :
    Calls Try.prog 7 #[.int .u64 x, .int .u64 y] w fun e w' => e = .returned (.bool true) ∧ Below w.heap.size w w' := by
  obtain ⟨a, rfl, ha⟩ := u64_nat hx
  obtain ⟨b, rfl, hb⟩ := u64_nat hy
  clear hx hy
  have hc := fun w => cool_any a b w
  cases h : floatBits .mul .f64 a b with
  | some r =>
    rw [h] at hc
    have hr := fun (w : World) => run_float_arith (P := Try.prog) w .mul 26 .f64 a b r h
    have hv : Hid (FV (some r) r) := Lib.hid ⟨bits_lt h, .inl rfl⟩
    replace hc := Lib.hid hc
    clear h
    go_enter Try.func7, Try.ntmps7
    go_wp2_with (first | (go_at_call 11; refine (awake2_any _).mono ?_; rintro e w1 ⟨rfl, hb1⟩) | (go_at_call 13; refine (of02_any _ _).mono ?_; rintro e w' ⟨rfl, rfl⟩) | (go_at_call 20; refine (hc.out _).mono ?_; rintro e w2 ⟨q, rfl, hq, hb2⟩; replace hq := Lib.hid hq) | (go_at_call 19; refine (same_true _ _ _ hq hv _).mono ?_; rintro e w' ⟨rfl, rfl⟩))
    go_ret
    exact ⟨rfl, keepB hb1 hb2⟩
  | none =>
    rw [h] at hc
    have hr := fun (w : World) => run_nan .mul 26 a b (by simp) h w
    replace hc := Lib.hid hc
    clear h
    go_enter Try.func7, Try.ntmps7
    go_wp2_with (first | (go_at_call 11; refine (awake2_any _).mono ?_; rintro e w1 ⟨rfl, hb1⟩) | (go_at_call 13; refine (of02_any _ _).mono ?_; rintro e w' ⟨rfl, rfl⟩) | (go_at_call 20; refine (hc.out _).mono ?_; rintro e w2 ⟨q, rfl, hq, hb2⟩; replace hq := Lib.hid hq) | (go_at_call 19; refine (same_true _ _ _ hq (Lib.hid (FV.nan _ _ _)) _).mono ?_; rintro e w' ⟨rfl, rfl⟩))
    go_ret
    exact ⟨rfl, (keepB hb1 hb2).drew⟩
set_option maxHeartbeats 1600000 in
theorem law_RealRatios (w : World) (a : Int) (ha : (Lit.int .i64 a).wf = true) (b : Int) (hb : (Lit.int .i64 b).wf = true) :
    Calls Try.prog 8 #[.int .i64 a, .int .i64 b] w fun e w' => e = .returned (.bool true) ∧ Below w.heap.size w w' := by
  clear ha hb
  have c1 := fun (w : World) => run_convert_int_float (P := Try.prog) w 2 26 .i64 .f64 a (by kernel_rfl) Try.underlying26
  have c2 := fun (w : World) => run_convert_int_float (P := Try.prog) w 2 26 .i64 .f64 b (by kernel_rfl) Try.underlying26
  have hR := fun w => ratio_any a b w
  have hG := fun w => gap_any a b w
  generalize floatOfInt .f64 a = x at *
  generalize floatOfInt .f64 b = y at *
  cases h : floatBits .sub .f64 x y with
  | some u =>
    have hr := fun (w : World) => run_float_arith (P := Try.prog) w .sub 26 .f64 x y u h
    have hg : gapV x y = floatBits .quo .f64 u y := by unfold gapV; rw [h]; rfl
    rw [hg] at hG
    clear h hg
    cases h1 : floatBits .quo .f64 x y with
    | some r1 =>
      rw [h1] at hR
      replace hR := Lib.hid hR
      have k1 := fun (w : World) => run_float_arith (P := Try.prog) w .quo 26 .f64 x y r1 h1
      have hv1 : Hid (FV (some r1) r1) := Lib.hid ⟨bits_lt h1, .inl rfl⟩
      clear h1
      cases h2 : floatBits .quo .f64 u y with
      | some r2 =>
        rw [h2] at hG
        replace hG := Lib.hid hG
        have k2 := fun (w : World) => run_float_arith (P := Try.prog) w .quo 26 .f64 u y r2 h2
        have hv2 : Hid (FV (some r2) r2) := Lib.hid ⟨bits_lt h2, .inl rfl⟩
        clear h2
        go_enter Try.func8, Try.ntmps8
        go_wp2_with fail
        refine (awake2_any _).mono ?_
        rintro e w1 ⟨rfl, hb1⟩
        replace hb1 := Lib.hid hb1
        go_wp2_with fail
        refine (hR.out _).mono ?_
        rintro e w2 ⟨q1, rfl, hq1, hb2⟩
        replace hq1 := Lib.hid hq1
        replace hb2 := Lib.hid hb2
        go_wp2_with fail
        refine (same_true _ _ _ hq1 hv1 _).mono ?_
        rintro e w' ⟨rfl, rfl⟩
        go_wp2_with fail
        refine (hG.out _).mono ?_
        rintro e w3 ⟨q2, rfl, hq2, hb3⟩
        replace hq2 := Lib.hid hq2
        replace hb3 := Lib.hid hb3
        go_wp2_with fail
        refine (same_true _ _ _ hq2 hv2 _).mono ?_
        rintro e w' ⟨rfl, rfl⟩
        go_wp2_with fail
        go_ret
        exact ⟨rfl, keepB (keepB hb1.out hb2.out) hb3.out⟩
      | none =>
        rw [h2] at hG
        replace hG := Lib.hid hG
        have k2 := fun (w : World) => run_nan .quo 26 u y (by simp) h2 w
        clear h2
        go_enter Try.func8, Try.ntmps8
        go_wp2_with fail
        refine (awake2_any _).mono ?_
        rintro e w1 ⟨rfl, hb1⟩
        replace hb1 := Lib.hid hb1
        go_wp2_with fail
        refine (hR.out _).mono ?_
        rintro e w2 ⟨q1, rfl, hq1, hb2⟩
        replace hq1 := Lib.hid hq1
        replace hb2 := Lib.hid hb2
        go_wp2_with fail
        refine (same_true _ _ _ hq1 hv1 _).mono ?_
        rintro e w' ⟨rfl, rfl⟩
        go_wp2_with fail
        refine (hG.out _).mono ?_
        rintro e w3 ⟨q2, rfl, hq2, hb3⟩
        replace hq2 := Lib.hid hq2
        replace hb3 := Lib.hid hb3
        go_wp2_with fail
        refine (same_true _ _ _ hq2 (Lib.hid (FV.nan _ _ _)) _).mono ?_
        rintro e w' ⟨rfl, rfl⟩
        go_wp2_with fail
        go_ret
        exact ⟨rfl, (keepB (keepB hb1.out hb2.out) hb3.out).drew⟩
    | none =>
      rw [h1] at hR
      replace hR := Lib.hid hR
      have k1 := fun (w : World) => run_nan .quo 26 x y (by simp) h1 w
      clear h1
      cases h2 : floatBits .quo .f64 u y with
      | some r2 =>
        rw [h2] at hG
        replace hG := Lib.hid hG
        have k2 := fun (w : World) => run_float_arith (P := Try.prog) w .quo 26 .f64 u y r2 h2
        have hv2 : Hid (FV (some r2) r2) := Lib.hid ⟨bits_lt h2, .inl rfl⟩
        clear h2
        go_enter Try.func8, Try.ntmps8
        go_wp2_with fail
        refine (awake2_any _).mono ?_
        rintro e w1 ⟨rfl, hb1⟩
        replace hb1 := Lib.hid hb1
        go_wp2_with fail
        refine (hR.out _).mono ?_
        rintro e w2 ⟨q1, rfl, hq1, hb2⟩
        replace hq1 := Lib.hid hq1
        replace hb2 := Lib.hid hb2
        go_wp2_with fail
        refine (same_true _ _ _ hq1 (Lib.hid (FV.nan _ _ _)) _).mono ?_
        rintro e w' ⟨rfl, rfl⟩
        go_wp2_with fail
        refine (hG.out _).mono ?_
        rintro e w3 ⟨q2, rfl, hq2, hb3⟩
        replace hq2 := Lib.hid hq2
        replace hb3 := Lib.hid hb3
        go_wp2_with fail
        refine (same_true _ _ _ hq2 hv2 _).mono ?_
        rintro e w' ⟨rfl, rfl⟩
        go_wp2_with fail
        go_ret
        exact ⟨rfl, keepB (keepB hb1.out hb2.out).drew hb3.out⟩
      | none =>
        rw [h2] at hG
        replace hG := Lib.hid hG
        have k2 := fun (w : World) => run_nan .quo 26 u y (by simp) h2 w
        clear h2
        go_enter Try.func8, Try.ntmps8
        go_wp2_with fail
        refine (awake2_any _).mono ?_
        rintro e w1 ⟨rfl, hb1⟩
        replace hb1 := Lib.hid hb1
        go_wp2_with fail
        refine (hR.out _).mono ?_
        rintro e w2 ⟨q1, rfl, hq1, hb2⟩
        replace hq1 := Lib.hid hq1
        replace hb2 := Lib.hid hb2
        go_wp2_with fail
        refine (same_true _ _ _ hq1 (Lib.hid (FV.nan _ _ _)) _).mono ?_
        rintro e w' ⟨rfl, rfl⟩
        go_wp2_with fail
        refine (hG.out _).mono ?_
        rintro e w3 ⟨q2, rfl, hq2, hb3⟩
        replace hq2 := Lib.hid hq2
        replace hb3 := Lib.hid hb3
        go_wp2_with fail
        refine (same_true _ _ _ hq2 (Lib.hid (FV.nan _ _ _)) _).mono ?_
        rintro e w' ⟨rfl, rfl⟩
        go_wp2_with fail
        go_ret
        exact ⟨rfl, (keepB (keepB hb1.out hb2.out).drew hb3.out).drew⟩
  | none =>
    have hr := fun (w : World) => run_nan .sub 26 x y (by simp) h w
    have hg : gapV x y = none := by unfold gapV; rw [h]; rfl
    rw [hg] at hG
    replace hG := Lib.hid hG
    have k2 := fun (w w' : World) => run_nan .quo 26 (nanW x y w) y (by simp) (nan_quo _ y (nanW_kind x y w).1) w'
    clear h hg
    cases h1 : floatBits .quo .f64 x y with
    | some r1 =>
      rw [h1] at hR
      replace hR := Lib.hid hR
      have k1 := fun (w : World) => run_float_arith (P := Try.prog) w .quo 26 .f64 x y r1 h1
      have hv1 : Hid (FV (some r1) r1) := Lib.hid ⟨bits_lt h1, .inl rfl⟩
      clear h1
      go_enter Try.func8, Try.ntmps8
      go_wp2_with fail
      refine (awake2_any _).mono ?_
      rintro e w1 ⟨rfl, hb1⟩
      replace hb1 := Lib.hid hb1
      go_wp2_with fail
      refine (hR.out _).mono ?_
      rintro e w2 ⟨q1, rfl, hq1, hb2⟩
      replace hq1 := Lib.hid hq1
      replace hb2 := Lib.hid hb2
      go_wp2_with fail
      refine (same_true _ _ _ hq1 hv1 _).mono ?_
      rintro e w' ⟨rfl, rfl⟩
      go_wp2_with fail
      refine (hG.out _).mono ?_
      rintro e w3 ⟨q2, rfl, hq2, hb3⟩
      replace hq2 := Lib.hid hq2
      replace hb3 := Lib.hid hb3
      go_wp2_with fail
      refine (same_true _ _ _ hq2 (Lib.hid (FV.nan _ _ _)) _).mono ?_
      rintro e w' ⟨rfl, rfl⟩
      go_wp2_with fail
      go_ret
      exact ⟨rfl, (keepB (keepB hb1.out.drew hb2.out) hb3.out).drew⟩
    | none =>
      rw [h1] at hR
      replace hR := Lib.hid hR
      have k1 := fun (w : World) => run_nan .quo 26 x y (by simp) h1 w
      clear h1
      go_enter Try.func8, Try.ntmps8
      go_wp2_with fail
      refine (awake2_any _).mono ?_
      rintro e w1 ⟨rfl, hb1⟩
      replace hb1 := Lib.hid hb1
      go_wp2_with fail
      refine (hR.out _).mono ?_
      rintro e w2 ⟨q1, rfl, hq1, hb2⟩
      replace hq1 := Lib.hid hq1
      replace hb2 := Lib.hid hb2
      go_wp2_with fail
      refine (same_true _ _ _ hq1 (Lib.hid (FV.nan _ _ _)) _).mono ?_
      rintro e w' ⟨rfl, rfl⟩
      go_wp2_with fail
      refine (hG.out _).mono ?_
      rintro e w3 ⟨q2, rfl, hq2, hb3⟩
      replace hq2 := Lib.hid hq2
      replace hb3 := Lib.hid hb3
      go_wp2_with fail
      refine (same_true _ _ _ hq2 (Lib.hid (FV.nan _ _ _)) _).mono ?_
      rintro e w' ⟨rfl, rfl⟩
      go_wp2_with fail
      go_ret
      exact ⟨rfl, (keepB (keepB hb1.out.drew hb2.out).drew hb3.out).drew⟩
end Go.Proofs.Ytbhifhnpcafpjaa
