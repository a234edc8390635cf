/-
  The walks of layer 2's statement RealTexts: the program's and the reference's text of a float.
-/
import Derived.Test.YtbhifhnpcafpjaaLaws2
import Derived.Test.YtbhifhnpcafpjaaFltT
import Derived.Test.YtbhifhnpcafpjaaRefText
namespace Go.Proofs.Ytbhifhnpcafpjaa
set_option linter.unusedVariables false
set_option linter.unusedSimpArgs false
open Go.RowKit
/-- y is a float without its sign; s says whether it had one. -/
structure AbsF (b y : Nat) (s : Bool) : Prop where
  neg : s = true → Op.unary .neg (.float .f64 b) = pure (.float .f64 y) ∧ kindN b ≤ 2
  pos : s = false → y = b ∧ 3 ≤ kindN b ∧ kindN b ≤ 5
  lt : y < 18446744073709551616
  le : y ≤ infR
theorem abs_of (b : Nat) (hb : b < 18446744073709551616) (hk : kindN b ≠ 6) : ∃ s, AbsF b (rung b) s := by
  have hc := kind_cases b
  have hi : infR = 9218868437227405312 := rfl
  have hr : rung b ≤ infR := by omega
  cases hs : below b with
  | true =>
    obtain ⟨n1, n2, n3⟩ := neg_float b hb
    refine ⟨true, fun _ => ⟨?_, ?_⟩, (fun h => by cases h), by omega, hr⟩
    · have e : Op.negFloat .f64 b = rung b := by
        have hx := below_iff (Op.negFloat .f64 b) n1
        rw [n3, hs] at hx
        have hn : ¬ (Op.negFloat .f64 b / 9223372036854775808 = 1) := fun h => by have := hx.2 h; cases this
        have : rung (Op.negFloat .f64 b) = Op.negFloat .f64 b := by unfold rung; omega
        rw [← this, n2]
      show pure (Value.float .f64 (Op.negFloat .f64 b)) = _
      rw [e]
    · revert hk
      unfold kindN
      rw [hs]
      simp only [if_true]
      intro hk
      (repeat' split) <;> first | omega | (exfalso; simp_all)
  | false =>
    refine ⟨false, fun h => (by cases h), fun _ => ⟨?_, ?_, by have := kind_range b; omega⟩, by omega, hr⟩
    · have hx := below_iff b hb
      rw [hs] at hx
      have hn : ¬ (b / 9223372036854775808 = 1) := fun h => by have := hx.2 h; cases this
      unfold rung; omega
    · unfold kindN
      rw [hs]
      simp only [Bool.false_eq_true, if_false]
      (repeat' split) <;> omega
def sgn (s : Bool) : ByteArray := if s then ⟨#[45]⟩ else ⟨#[]⟩
def great (k : Int) : ByteArray := if k = 5 then ⟨#[101, 110, 100, 108, 101, 115, 115]⟩ else ⟨#[103, 114, 101, 97, 116]⟩
set_option maxHeartbeats 800000 in
theorem text_none (b : Nat) (hb : b < 18446744073709551616) (hk : Hid (kindN b = 6)) (w : World) :
    Calls Try.prog 17 #[.float .f64 b] w fun e w' => e = .returned (.string ⟨#[110, 111, 110, 101]⟩) ∧ w = w' := by
  go_enter Try.func17, Try.ntmps17
  go_wp2_with fail
  refine (kindOf_is b 6 hk hb _).mono ?_
  rintro e w' ⟨rfl, rfl⟩
  go_wp2_with fail
  go_ret
  exact ⟨rfl, rfl⟩
set_option maxHeartbeats 800000 in
theorem refText_none (b : Nat) (hb : b < 18446744073709551616) (hk : Hid (kindN b = 6)) (w : World) :
    Calls Try.prog 18 #[.float .f64 b] w fun e w' => e = .returned (.string ⟨#[110, 111, 110, 101]⟩) ∧ w = w' := by
  go_enter Try.func18, Try.ntmps18
  go_wp2_with fail
  refine (kind_is b 6 hk hb _).mono ?_
  rintro e w' ⟨rfl, rfl⟩
  go_wp2_with fail
  go_ret
  exact ⟨rfl, rfl⟩
set_option maxHeartbeats 1600000 in
theorem text_big (b y : Nat) (s : Bool) (k k2 : Int) (hb : b < 18446744073709551616) (ha : Hid (AbsF b y s)) (hk : Hid (kindN b = k)) (hk2 : Hid (kindN y = k2)) (h45 : k2 = 4 ∨ k2 = 5)
    (hge : (FloatKind.f64.format.order y 4831355200913801216 == some Ordering.gt || FloatKind.f64.format.order y 4831355200913801216 == some Ordering.eq) = true) (w : World) :
    Calls Try.prog 17 #[.float .f64 b] w fun e w' => e = .returned (.string (sgn s ++ great k2)) ∧ w = w' := by
  have hy := ha.out.lt
  cases s with
  | true =>
    obtain ⟨he, hk0⟩ := ha.out.neg rfl
    rw [hk.out] at hk0
    have e6 : (k == 6) = false := by rw [beq_eq_false_iff_ne]; omega
    have e3 : decide (k ≤ 2) = true := decide_eq_true hk0
    rcases h45 with rfl | rfl
    all_goals
      go_enter Try.func17, Try.ntmps17
      go_wp2_with fail
      refine (kindOf_is b k hk hb _).mono ?_
      rintro e w' ⟨rfl, rfl⟩
      go_wp2_with fail
      refine (kindOf_is y _ hk2 hy _).mono ?_
      rintro e w' ⟨rfl, rfl⟩
      go_wp2_with fail
      go_ret
      exact ⟨rfl, rfl⟩
  | false =>
    obtain ⟨rfl, k1, k3⟩ := ha.out.pos rfl
    rw [hk.out] at k1 k3
    have e6 : (k == 6) = false := by rw [beq_eq_false_iff_ne]; omega
    have e3 : decide (k ≤ 2) = false := decide_eq_false (by omega)
    rcases h45 with rfl | rfl
    all_goals
      go_enter Try.func17, Try.ntmps17
      go_wp2_with fail
      refine (kindOf_is y k hk hb _).mono ?_
      rintro e w' ⟨rfl, rfl⟩
      go_wp2_with fail
      refine (kindOf_is y _ hk2 hy _).mono ?_
      rintro e w' ⟨rfl, rfl⟩
      go_wp2_with fail
      go_ret
      exact ⟨rfl, rfl⟩
set_option maxHeartbeats 1600000 in
theorem refText_big (b y : Nat) (s : Bool) (k k2 : Int) (hb : b < 18446744073709551616) (ha : Hid (AbsF b y s)) (hk : Hid (kindN b = k)) (hk2 : Hid (kindN y = k2)) (h45 : k2 = 4 ∨ k2 = 5)
    (hge : (FloatKind.f64.format.order y 4831355200913801216 == some Ordering.gt || FloatKind.f64.format.order y 4831355200913801216 == some Ordering.eq) = true) (w : World) :
    Calls Try.prog 18 #[.float .f64 b] w fun e w' => e = .returned (.string (sgn s ++ great k2)) ∧ w = w' := by
  have hy := ha.out.lt
  cases s with
  | true =>
    obtain ⟨he, hk0⟩ := ha.out.neg rfl
    rw [hk.out] at hk0
    have e6 : (k == 6) = false := by rw [beq_eq_false_iff_ne]; omega
    have e3 : decide (k < 3) = true := decide_eq_true (by omega)
    rcases h45 with rfl | rfl
    all_goals
      go_enter Try.func18, Try.ntmps18
      go_wp2_with fail
      refine (kind_is b k hk hb _).mono ?_
      rintro e w' ⟨rfl, rfl⟩
      go_wp2_with fail
      refine (kind_is y _ hk2 hy _).mono ?_
      rintro e w' ⟨rfl, rfl⟩
      go_wp2_with fail
      go_ret
      exact ⟨rfl, rfl⟩
  | false =>
    obtain ⟨rfl, k1, k3⟩ := ha.out.pos rfl
    rw [hk.out] at k1 k3
    have e6 : (k == 6) = false := by rw [beq_eq_false_iff_ne]; omega
    have e3 : decide (k < 3) = false := decide_eq_false (by omega)
    rcases h45 with rfl | rfl
    all_goals
      go_enter Try.func18, Try.ntmps18
      go_wp2_with fail
      refine (kind_is y k hk hb _).mono ?_
      rintro e w' ⟨rfl, rfl⟩
      go_wp2_with fail
      refine (kind_is y _ hk2 hy _).mono ?_
      rintro e w' ⟨rfl, rfl⟩
      go_wp2_with fail
      go_ret
      exact ⟨rfl, rfl⟩
theorem refText_str (n : Int) (w : World) (s : ByteArray) (hs : Hid (s = ⟨(textV n).toArray⟩)) (hn : I64 n) :
    Calls Try.prog 31 #[.int .i64 n] w fun e w' => e = .returned (.string s) ∧ w = w' := by
  rw [hs.out]; exact refText_any n w hn
theorem cons_str (l : List UInt8) : (⟨#[48]⟩ : ByteArray) ++ ⟨l.toArray⟩ = ⟨(48 :: l).toArray⟩ := by
  apply ByteArray.ext
  simp [ByteArray.data_append]
set_option maxHeartbeats 3200000 in
theorem text_num (b y r : Nat) (s : Bool) (k n : Int) (hb : b < 18446744073709551616) (ha : Hid (AbsF b y s)) (hk : Hid (kindN b = k)) (hk6 : k ≠ 6)
    (hge : (FloatKind.f64.format.order y 4831355200913801216 == some Ordering.gt || FloatKind.f64.format.order y 4831355200913801216 == some Ordering.eq) = false)
    (hm : floatBits .mul .f64 y 4652007308841189376 = some r) (hi : floatToIntVal .f64 r .i64 = some n) (h0 : 0 ≤ n) (h1 : n ≤ 1000000000000000000) (S T : ByteArray) (hS : Hid (S = ⟨(textV (n / 1000)).toArray⟩)) (hT : Hid (T = ⟨(textV (1000 + n % 1000)).toArray⟩)) (hT1 : 1 ≤ T.size) (hT2 : T.size ≤ 100) (hS2 : S.size ≤ 100) (w : World) :
    Calls Try.prog 17 #[.float .f64 b] w fun e w' => e = .returned (.string (sgn s ++ S ++ ⟨#[46]⟩ ++ T.extract 1 T.size)) ∧ Below w.heap.size w w' := by
  have s1 := fun (w : World) => run_float_arith (P := Try.prog) w .mul 26 .f64 _ _ _ hm
  have s2 := fun (w : World) => run_convert_float_int (P := Try.prog) w 26 2 .f64 .i64 r n (by kernel_rfl) Try.underlying2 hi
  have i1 : I64 (1000 + n % 1000) := by unfold I64; omega
  have i2 : I64 (n / 1000) := by unfold I64; omega
  replace i1 := Lib.hid i1
  replace i2 := Lib.hid i2
  clear hm hi
  have e6 : (k == 6) = false := by rw [beq_eq_false_iff_ne]; exact hk6
  cases s with
  | true =>
    obtain ⟨he, hk0⟩ := ha.out.neg rfl
    rw [hk.out] at hk0
    have e3 : decide (k ≤ 2) = true := decide_eq_true hk0
    clear hk6
    go_enter Try.func17, Try.ntmps17
    go_wp2_with fail
    refine (kindOf_is b k hk hb _).mono ?_
    rintro e w' ⟨rfl, rfl⟩
    go_wp2_with fail
    refine (text_str _ _ T hT i1.out).mono ?_
    rintro e w1 ⟨rfl, hb1⟩
    have hb0 := Lib.hid hb1
    clear hb1 s1 s2 hge
    have dq : IntKind.i64.wrap (n.tdiv 1000) = n / 1000 := by
      rw [Int.tdiv_eq_ediv_of_nonneg h0]; exact IntWalk.i64_in _ (by omega)
    go_wp2_with fail
    go_region_with (go_at_call 30; refine (text_str _ _ S hS i2.out).mono ?_; rintro e w2 ⟨rfl, hb2⟩)
    all_goals
      go_wp2_with fail
      go_ret
      exact ⟨rfl, keepB hb0.out.drew hb2⟩
  | false =>
    obtain ⟨rfl, k1, k3⟩ := ha.out.pos rfl
    rw [hk.out] at k1 k3
    have e3 : decide (k ≤ 2) = false := decide_eq_false (by omega)
    clear hk6
    go_enter Try.func17, Try.ntmps17
    go_wp2_with fail
    refine (kindOf_is y k hk hb _).mono ?_
    rintro e w' ⟨rfl, rfl⟩
    go_wp2_with fail
    refine (text_str _ _ T hT i1.out).mono ?_
    rintro e w1 ⟨rfl, hb1⟩
    have hb0 := Lib.hid hb1
    clear hb1 s1 s2 hge
    have dq : IntKind.i64.wrap (n.tdiv 1000) = n / 1000 := by
      rw [Int.tdiv_eq_ediv_of_nonneg h0]; exact IntWalk.i64_in _ (by omega)
    go_wp2_with fail
    go_region_with (go_at_call 30; refine (text_str _ _ S hS i2.out).mono ?_; rintro e w2 ⟨rfl, hb2⟩)
    all_goals
      go_wp2_with fail
      go_ret
      exact ⟨rfl, keepB hb0.out.drew hb2⟩
set_option maxHeartbeats 3200000 in
theorem refText_num (b y r : Nat) (s : Bool) (k n : Int) (hb : b < 18446744073709551616) (ha : Hid (AbsF b y s)) (hk : Hid (kindN b = k)) (hk6 : k ≠ 6) (he5 : (kindN y == 5) = false)
    (hge : (FloatKind.f64.format.order y 4831355200913801216 == some Ordering.gt || FloatKind.f64.format.order y 4831355200913801216 == some Ordering.eq) = false)
    (hm : floatBits .mul .f64 y 4652007308841189376 = some r) (hi : floatToIntVal .f64 r .i64 = some n) (h0 : 0 ≤ n) (h1 : n ≤ 1000000000000000000) (S Q : ByteArray) (ql Pl : List UInt8) (hS : Hid (S = ⟨(textV (n / 1000)).toArray⟩)) (hQ : Hid (Q = ⟨(textV (n % 1000)).toArray⟩)) (hQ2 : Hid (Q = ⟨ql.toArray⟩)) (hql : Hid (pad3 ql = Pl)) (hql3 : ql.length ≤ 3) (hS2 : S.size ≤ 100) (w : World) :
    Calls Try.prog 18 #[.float .f64 b] w fun e w' => e = .returned (.string (sgn s ++ S ++ ⟨#[46]⟩ ++ ⟨Pl.toArray⟩)) ∧ w = w' := by
  have hy := ha.out.lt
  have s1 := fun (w : World) => run_float_arith (P := Try.prog) w .mul 26 .f64 _ _ _ hm
  have s2 := fun (w : World) => run_convert_float_int (P := Try.prog) w 26 2 .f64 .i64 r n (by kernel_rfl) Try.underlying2 hi
  have i1 : I64 (n % 1000) := by unfold I64; omega
  have i2 : I64 (n / 1000) := by unfold I64; omega
  replace i1 := Lib.hid i1
  replace i2 := Lib.hid i2
  clear hm hi
  have e6 : (k == 6) = false := by rw [beq_eq_false_iff_ne]; exact hk6
  cases s with
  | true =>
    obtain ⟨he, hk0⟩ := ha.out.neg rfl
    rw [hk.out] at hk0
    have e3 : decide (k < 3) = true := decide_eq_true (by omega)
    clear hk6
    go_enter Try.func18, Try.ntmps18
    go_wp2_with fail
    refine (kind_is b k hk hb _).mono ?_
    rintro e w' ⟨rfl, rfl⟩
    go_wp2_with fail
    refine (kind_any y _ hy).mono ?_
    rintro e w' ⟨rfl, rfl⟩
    go_wp2_with fail
    refine (refText_str _ _ Q hQ i1.out).mono ?_
    rintro e w' ⟨rfl, rfl⟩
    clear s1 s2 hge he5
    go_wp2_with fail
    go_loop [6] (fun t => ∃ l : List UInt8, t = .string ⟨l.toArray⟩ ∧ Hid (pad3 l = Pl) ∧ l.length ≤ 3) (fun t => match t with | .string t => 3 - t.size | _ => 0)
    case atStart => exact ⟨ql, by rw [hQ2.out], hql.out, hql3⟩
    case round =>
      obtain ⟨l, rfl, hp, hl3⟩ := hrel
      by_cases hl : l.length < 3
      · have hp2 := Lib.hid ((pad3_more l hl).trans hp.out)
        have hsz : (⟨l.toArray⟩ : ByteArray).size = l.length := rfl
        go_wp2_with fail
        go_round
        case rel => exact ⟨48 :: l, by rw [cons_str], hp2, by simp; omega⟩
        case measure => (first | (simp only [cons_str]; show 3 - (48 :: l).length < 3 - l.length; rw [List.length_cons]; omega) | (simp [ByteArray.size_append]; omega))
      · have hp2 := Lib.hid ((pad3_full l (by omega)).symm.trans hp.out)
        have hsz : (⟨l.toArray⟩ : ByteArray).size = l.length := rfl
        go_wp2_with fail
        refine (refText_str _ _ S hS i2.out).mono ?_
        rintro e w' ⟨rfl, rfl⟩
        go_wp2_with fail
        go_ret
        exact ⟨by rw [hp2.out]; rfl, rfl⟩
  | false =>
    obtain ⟨rfl, k1, k3⟩ := ha.out.pos rfl
    rw [hk.out] at k1 k3
    have e3 : decide (k < 3) = false := decide_eq_false (by omega)
    clear hk6
    go_enter Try.func18, Try.ntmps18
    go_wp2_with fail
    refine (kind_is y k hk hb _).mono ?_
    rintro e w' ⟨rfl, rfl⟩
    go_wp2_with fail
    refine (kind_any y _ hy).mono ?_
    rintro e w' ⟨rfl, rfl⟩
    go_wp2_with fail
    refine (refText_str _ _ Q hQ i1.out).mono ?_
    rintro e w' ⟨rfl, rfl⟩
    clear s1 s2 hge he5
    go_wp2_with fail
    go_loop [6] (fun t => ∃ l : List UInt8, t = .string ⟨l.toArray⟩ ∧ Hid (pad3 l = Pl) ∧ l.length ≤ 3) (fun t => match t with | .string t => 3 - t.size | _ => 0)
    case atStart => exact ⟨ql, by rw [hQ2.out], hql.out, hql3⟩
    case round =>
      obtain ⟨l, rfl, hp, hl3⟩ := hrel
      by_cases hl : l.length < 3
      · have hp2 := Lib.hid ((pad3_more l hl).trans hp.out)
        have hsz : (⟨l.toArray⟩ : ByteArray).size = l.length := rfl
        go_wp2_with fail
        go_round
        case rel => exact ⟨48 :: l, by rw [cons_str], hp2, by simp; omega⟩
        case measure => (first | (simp only [cons_str]; show 3 - (48 :: l).length < 3 - l.length; rw [List.length_cons]; omega) | (simp [ByteArray.size_append]; omega))
      · have hp2 := Lib.hid ((pad3_full l (by omega)).symm.trans hp.out)
        have hsz : (⟨l.toArray⟩ : ByteArray).size = l.length := rfl
        go_wp2_with fail
        refine (refText_str _ _ S hS i2.out).mono ?_
        rintro e w' ⟨rfl, rfl⟩
        go_wp2_with fail
        go_ret
        exact ⟨by rw [hp2.out]; rfl, rfl⟩
theorem ge_pos (x C : Nat) (hx : x ≤ infR) (hC : C ≤ infR) : (FloatKind.f64.format.order x C == some Ordering.gt || FloatKind.f64.format.order x C == some Ordering.eq) = decide (C ≤ x) := by
  obtain ⟨e1, e2⟩ := pos_rung hx
  obtain ⟨e3, e4⟩ := pos_rung hC
  have h : FloatKind.f64.format.order x C = some (compare (x : Int) (C : Int)) := by
    have := order_any x C
    rw [if_neg (by omega)] at this
    unfold posZ at this
    rw [e1, e2, e3, e4] at this
    exact this
  rw [h, cmp_gt, cmp_eq, Bool.eq_iff_iff]
  simp only [Bool.or_eq_true, decide_eq_true_eq]
  omega
theorem kind_pos (y : Nat) (h : y ≤ infR) (h0 : 0 < y) : kindN y = if y = infR then 5 else 4 := by
  obtain ⟨e1, e2⟩ := pos_rung h
  unfold kindN
  rw [e1, e2, if_neg (by omega)]
  simp only [Bool.false_eq_true, if_false]
  by_cases hh : y = infR
  · rw [if_pos hh, if_pos hh]
  · rw [if_neg hh, if_neg hh, if_neg (by omega)]
theorem kind_not5 (y : Nat) (h : y < infR) : kindN y ≠ 5 := by
  obtain ⟨e1, e2⟩ := pos_rung (Nat.le_of_lt h)
  have := kind_cases y
  have hi : infR = 9218868437227405312 := rfl
  omega
theorem ext_one (l : List UInt8) : (⟨l.toArray⟩ : ByteArray).extract 1 (⟨l.toArray⟩ : ByteArray).size = ⟨(l.drop 1).toArray⟩ := by
  apply ByteArray.ext
  have hs : (⟨l.toArray⟩ : ByteArray).size = l.length := rfl
  simp [ByteArray.data_extract, hs]
  exact List.take_of_length_le (by simp)
def TextEnd (s : ByteArray) (w : World) (e : Ending) (w' : World) : Prop := e = .returned (.string s) ∧ Below w.heap.size w w'
/-- BOTH TEXTS are the same. -/
theorem texts_same (b : Nat) (hb : b < 18446744073709551616) : ∃ s : ByteArray, (∀ w, Calls Try.prog 17 #[.float .f64 b] w (TextEnd s w)) ∧ ∀ w, Calls Try.prog 18 #[.float .f64 b] w (TextEnd s w) := by
  have same : ∀ {f : FuncId} {s : ByteArray} {w : World}, (Calls Try.prog f #[.float .f64 b] w fun e w' => e = .returned (.string s) ∧ w = w') → Calls Try.prog f #[.float .f64 b] w (TextEnd s w) := fun h => h.mono fun e w' ⟨he, hw⟩ => ⟨he, by subst hw; exact Below.refl _ _⟩
  by_cases h6 : kindN b = 6
  · exact ⟨_, fun w => same (text_none b hb (Lib.hid h6) w), fun w => same (refText_none b hb (Lib.hid h6) w)⟩
  · obtain ⟨s, ha⟩ := abs_of b hb h6
    have hle := ha.le
    have hi : infR = 9218868437227405312 := rfl
    generalize rung b = y at *
    have hg := ge_pos y 4831355200913801216 hle (by decide)
    by_cases hy : 4831355200913801216 ≤ y
    · rw [decide_eq_true hy] at hg
      have hk := kind_pos y hle (by omega)
      have h45 : kindN y = 4 ∨ kindN y = 5 := by rw [hk]; split <;> simp
      exact ⟨_, fun w => same (text_big b y s (kindN b) (kindN y) hb (Lib.hid ha) (Lib.hid rfl) (Lib.hid rfl) h45 hg w), fun w => same (refText_big b y s (kindN b) (kindN y) hb (Lib.hid ha) (Lib.hid rfl) (Lib.hid rfl) h45 hg w)⟩
    · rw [decide_eq_false hy] at hg
      obtain ⟨r, n, hm, hn, n0, n1⟩ := milli y (by omega)
      obtain ⟨q, hq, hql⟩ : ∃ q : Nat, n % 1000 = (q : Int) ∧ q < 1000 := ⟨(n % 1000).toNat, by omega, by omega⟩
      obtain ⟨p1, p2, p3, p4⟩ := pad3_thousand q hql
      rw [← hq] at p1 p2 p3 p4
      have hST : (⟨(textV (1000 + n % 1000)).toArray⟩ : ByteArray).size = (textV (1000 + n % 1000)).length := rfl
      have hSS : (⟨(textV (n / 1000)).toArray⟩ : ByteArray).size = (textV (n / 1000)).length := rfl
      have hS2 : (textV (n / 1000)).length ≤ 100 := by
        unfold textV
        have := digF_len 19 (n / 1000).natAbs
        split
        · unfold digN; rw [List.length_cons]; omega
        · unfold digN; omega
      have he := ext_one (textV (1000 + n % 1000))
      rw [p1] at he
      have e5 : (kindN y == 5) = false := by rw [beq_eq_false_iff_ne]; exact kind_not5 y (by omega)
      refine ⟨sgn s ++ ⟨(textV (n / 1000)).toArray⟩ ++ ⟨#[46]⟩ ++ ⟨(pad3 (textV (n % 1000))).toArray⟩, fun w => ?_, fun w => ?_⟩
      · have h := text_num b y r s (kindN b) n hb (Lib.hid ha) (Lib.hid rfl) h6 hg hm hn n0 n1 _ _ (Lib.hid rfl) (Lib.hid rfl) (by omega) (by omega) (by omega) w
        rw [he] at h
        exact h
      · exact same (refText_num b y r s (kindN b) n hb (Lib.hid ha) (Lib.hid rfl) h6 e5 hg hm hn n0 n1 _ _ (textV (n % 1000)) _ (Lib.hid rfl) (Lib.hid rfl) (Lib.hid rfl) (Lib.hid rfl) p4 (by omega) w)
set_option maxHeartbeats 800000 in
theorem law_RealTexts (w : World) (x : Int) (hx : (Lit.int .u64 x).wf = true) :
    Calls Try.prog 6 #[.int .u64 x] w fun e w' => e = .returned (.bool true) ∧ Below w.heap.size w w' := by
  obtain ⟨b, rfl, hb⟩ := u64_nat hx
  clear hx
  obtain ⟨s, h1, h2⟩ := texts_same b hb
  replace h1 := Lib.hid h1
  replace h2 := Lib.hid h2
  go_enter Try.func6, Try.ntmps6
  go_wp2_with fail
  refine (awake2_any _).mono ?_
  rintro e w1 ⟨rfl, hb1⟩
  replace hb1 := Lib.hid hb1
  go_wp2_with (go_at_call 13; refine (of02_any _ _).mono ?_; rintro e w' ⟨rfl, rfl⟩)
  refine (h1.out _).mono ?_
  rintro e w2 ⟨rfl, hb2⟩
  replace hb2 := Lib.hid (keepB hb1.out hb2)
  go_wp2_with (go_at_call 13; refine (of02_any _ _).mono ?_; rintro e w' ⟨rfl, rfl⟩)
  refine (h2.out _).mono ?_
  rintro e w3 ⟨rfl, hb3⟩
  replace hb3 := Lib.hid (keepB hb2.out hb3)
  go_wp2_with fail
  go_ret
  exact ⟨ret_bool (by simp), hb3.out⟩
end Go.Proofs.Ytbhifhnpcafpjaa
