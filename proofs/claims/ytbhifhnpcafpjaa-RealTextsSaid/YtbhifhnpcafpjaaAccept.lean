/-
  The walks of Accept, the program's and the reference's (layer 2).
-/
import Derived.Test.YtbhifhnpcafpjaaReal2
import Derived.Test.YtbhifhnpcafpjaaFlt2
namespace Go.Proofs.Ytbhifhnpcafpjaa
set_option linter.unusedVariables false
set_option linter.unusedSimpArgs false
open Go.RowKit
theorem kindOf_is (b : Nat) (k : Int) (hk : Hid (kindN b = k)) (hb : b < 18446744073709551616) (w : World) :
    Calls Try.prog 12 #[.float .f64 b] w fun e w' => e = .returned (.int .i64 k) ∧ w = w' := by rw [← hk.out]; exact kindOf_any b hb w
theorem kind_is (b : Nat) (k : Int) (hk : Hid (kindN b = k)) (hb : b < 18446744073709551616) (w : World) :
    Calls Try.prog 14 #[.float .f64 b] w fun e w' => e = .returned (.int .i64 k) ∧ w = w' := by rw [← hk.out]; exact kind_any b w hb
def AccEnd (c : Int) (h : Nat) (d : Int) (w : World) (e : Ending) (w' : World) : Prop := e = .returned (.bool (acceptB c h d)) ∧ Below w.heap.size w w'
theorem order_nan_lt (r C : Nat) (h : kindN r = 6) : (FloatKind.f64.format.order r C == some Ordering.lt) = false := by
  have hr := kind_cases r
  have : FloatKind.f64.format.order r C = none := order_nan r C (.inl (by have hi : infR = 9218868437227405312 := rfl; omega))
  rw [this]; rfl
set_option maxHeartbeats 800000 in
theorem accept_any (c : Int) (h : Nat) (d : Int) (hh : h < 18446744073709551616) (w : World) :
    Calls Try.prog 15 #[.int .i64 c, .float .f64 h, .int .u32 d] w (AccEnd c h d w) := by
  have r0 := kind_range h
  by_cases k5 : kindN h = 5
  · have hr := Lib.hid (acceptB_above (c := c) (d := d) k5)
    have hk := Lib.hid k5
    clear k5 r0
    go_enter Try.func15, Try.ntmps15
    go_wp2_with (go_at_call 12; refine (kindOf_is h 5 hk hh _).mono ?_; rintro e w' ⟨rfl, rfl⟩)
    go_ret
    exact ⟨ret_bool hr.out.symm, Below.refl _ _⟩
  · by_cases k4 : kindN h = 4
    · by_cases hc : 0 < c
      · obtain ⟨q, o, hq, ho, hv⟩ := acceptV_steps c h d k4
        have c1 := fun (w : World) => run_convert_int_float (P := Try.prog) w 2 26 .i64 .f64 c (by kernel_rfl) Try.underlying26
        have c2 := fun (w : World) => run_convert_int_float (P := Try.prog) w 30 26 .u32 .f64 d (by kernel_rfl) Try.underlying26
        have s1 := fun (w : World) => run_float_arith (P := Try.prog) w .quo 26 .f64 _ _ _ hq
        have s2 := fun (w : World) => run_float_arith (P := Try.prog) w .add 26 .f64 _ _ _ ho
        have hk := Lib.hid k4
        cases hm : floatBits .mul .f64 (floatOfInt .f64 d) o with
        | some x =>
          have s3 := fun (w : World) => run_float_arith (P := Try.prog) w .mul 26 .f64 _ _ _ hm
          have hr := Lib.hid (acceptB_some k4 hc (hv.trans hm))
          clear hq ho hv hm k4 k5 r0
          generalize floatOfInt .f64 c = fc at *
          generalize floatOfInt .f64 d = fd at *
          go_enter Try.func15, Try.ntmps15
          go_wp2_with (go_at_call 12; refine (kindOf_is h 4 hk hh _).mono ?_; rintro e w' ⟨rfl, rfl⟩)
          go_ret
          exact ⟨ret_bool hr.out.symm, Below.refl _ _⟩
        | none =>
          have s3 := fun (w : World) => run_nan .mul 26 _ _ (by simp) hm w
          have hr := Lib.hid (acceptB_none k4 hc (hv.trans hm))
          clear hq ho hv hm k4 k5 r0
          generalize floatOfInt .f64 c = fc at *
          generalize floatOfInt .f64 d = fd at *
          have hn := order_nan_lt (nanW fd o w) 4751297606875873280 (nanW_kind fd o w).1
          go_enter Try.func15, Try.ntmps15
          go_wp2_with (go_at_call 12; refine (kindOf_is h 4 hk hh _).mono ?_; rintro e w' ⟨rfl, rfl⟩)
          go_ret
          exact ⟨ret_bool hr.out.symm, (Below.refl _ _).drew⟩
      · have hr := Lib.hid (acceptB_rest (c := c) (d := d) k5 (fun x => hc x.2))
        have hk := Lib.hid k4
        have hc' : c ≤ 0 := by omega
        clear k4 k5 r0 hc
        go_enter Try.func15, Try.ntmps15
        go_wp2_with (go_at_call 12; refine (kindOf_is h 4 hk hh _).mono ?_; rintro e w' ⟨rfl, rfl⟩)
        go_ret
        exact ⟨ret_bool (by rw [hr.out, decide_eq_true hc']), Below.refl _ _⟩
    · have hr := Lib.hid (acceptB_rest (c := c) (d := d) k5 (fun x => k4 x.1))
      have e5 : (kindN h == 5) = false := by rw [beq_eq_false_iff_ne]; exact k5
      have e4 : (kindN h == 4) = false := by rw [beq_eq_false_iff_ne]; exact k4
      clear k4 k5 r0
      go_enter Try.func15, Try.ntmps15
      go_wp2_with (go_at_call 12; refine (kindOf_any h hh _).mono ?_; rintro e w' ⟨rfl, rfl⟩)
      all_goals
        go_ret
        exact ⟨ret_bool (by rw [hr.out]), Below.refl _ _⟩
set_option maxHeartbeats 800000 in
theorem refAccept_any (c : Int) (h : Nat) (d : Int) (hh : h < 18446744073709551616) (w : World) :
    Calls Try.prog 16 #[.int .i64 c, .float .f64 h, .int .u32 d] w (AccEnd c h d w) := by
  have r0 := kind_range h
  by_cases k5 : kindN h = 5
  · have hr := Lib.hid (acceptB_above (c := c) (d := d) k5)
    have hk := Lib.hid k5
    clear k5 r0
    go_enter Try.func16, Try.ntmps16
    go_wp2_with (go_at_call 14; refine (kind_is h 5 hk hh _).mono ?_; rintro e w' ⟨rfl, rfl⟩)
    go_ret
    exact ⟨ret_bool hr.out.symm, Below.refl _ _⟩
  · have e5 : (kindN h == 5) = false := by rw [beq_eq_false_iff_ne]; exact k5
    by_cases hc : 0 < c
    · by_cases k4 : kindN h = 4
      · obtain ⟨q, o, hq, ho, hv⟩ := acceptV_steps c h d k4
        have c1 := fun (w : World) => run_convert_int_float (P := Try.prog) w 2 26 .i64 .f64 c (by kernel_rfl) Try.underlying26
        have c2 := fun (w : World) => run_convert_int_float (P := Try.prog) w 30 26 .u32 .f64 d (by kernel_rfl) Try.underlying26
        have s1 := fun (w : World) => run_float_arith (P := Try.prog) w .quo 26 .f64 _ _ _ hq
        have s2 := fun (w : World) => run_float_arith (P := Try.prog) w .add 26 .f64 _ _ _ ho
        have hk := Lib.hid k4
        cases hm : floatBits .mul .f64 (floatOfInt .f64 d) o with
        | some x =>
          have s3 := fun (w : World) => run_float_arith (P := Try.prog) w .mul 26 .f64 _ _ _ hm
          have hr := Lib.hid (acceptB_some k4 hc (hv.trans hm))
          have hx := bits_lt hm
          clear hq ho hv hm k4 k5 r0 e5
          generalize floatOfInt .f64 c = fc at *
          generalize floatOfInt .f64 d = fd at *
          go_enter Try.func16, Try.ntmps16
          go_wp2_with fail
          refine (kind_is h 4 hk hh _).mono ?_
          rintro e w' ⟨rfl, rfl⟩
          go_wp2_with fail
          by_cases k6 : kindN x = 6
          · refine (kind_is x 6 (Lib.hid k6) hx _).mono ?_
            rintro e w' ⟨rfl, rfl⟩
            have hn := order_nan_lt x 4751297606875873280 k6
            replace hn := Lib.hid hn
            clear k6
            go_wp2_with fail
            go_ret
            exact ⟨ret_bool (by rw [hr.out]; exact hn.out.symm), Below.refl _ _⟩
          · have e6 : (kindN x != 6) = true := by rw [bne_iff_ne]; exact k6
            refine (kind_any x _ hx).mono ?_
            rintro e w' ⟨rfl, rfl⟩
            go_wp2_with fail
            go_ret
            exact ⟨ret_bool hr.out.symm, Below.refl _ _⟩
        | none =>
          have s3 := fun (w : World) => run_nan .mul 26 _ _ (by simp) hm w
          have hr := Lib.hid (acceptB_none k4 hc (hv.trans hm))
          clear hq ho hv hm k4 k5 r0 e5
          generalize floatOfInt .f64 c = fc at *
          generalize floatOfInt .f64 d = fd at *
          go_enter Try.func16, Try.ntmps16
          go_wp2_with fail
          refine (kind_is h 4 hk hh _).mono ?_
          rintro e w' ⟨rfl, rfl⟩
          go_wp2_with fail
          refine (kind_is (nanW fd o w) 6 (Lib.hid (nanW_kind fd o w).1) (nanW_kind fd o w).2 _).mono ?_
          rintro e w' ⟨rfl, rfl⟩
          go_wp2_with fail
          go_ret
          exact ⟨ret_bool hr.out.symm, (Below.refl _ _).drew⟩
      · have hr := Lib.hid (acceptB_rest (c := c) (d := d) k5 (fun x => k4 x.1))
        have e4 : (kindN h != 4) = true := by rw [bne_iff_ne]; exact k4
        clear k4 k5 r0
        go_enter Try.func16, Try.ntmps16
        go_wp2_with (go_at_call 14; refine (kind_any h _ hh).mono ?_; rintro e w' ⟨rfl, rfl⟩)
        go_ret
        exact ⟨ret_bool (by rw [hr.out, decide_eq_false (by omega)]), Below.refl _ _⟩
    · have hr := Lib.hid (acceptB_rest (c := c) (d := d) k5 (fun x => hc x.2))
      have hc' : c ≤ 0 := by omega
      clear k5 r0 hc
      go_enter Try.func16, Try.ntmps16
      go_wp2_with (go_at_call 14; refine (kind_any h _ hh).mono ?_; rintro e w' ⟨rfl, rfl⟩)
      go_ret
      exact ⟨ret_bool (by rw [hr.out, decide_eq_true hc']), Below.refl _ _⟩
end Go.Proofs.Ytbhifhnpcafpjaa
