/-
  The walks of layer 2's arithmetic: Cool, Ratio, Gap, Accept.
-/
import Derived.Test.YtbhifhnpcafpjaaReal
import Derived.Below
namespace Go.Proofs.Ytbhifhnpcafpjaa
set_option linter.unusedVariables false
set_option linter.unusedSimpArgs false
open Go.RowKit
/-- the bits of a NaN that an operation leaves at a world. -/
def nanW (x y : Nat) (w : World) : Nat := Question.cut (.nanBits .f64 x y) (w.tape w.drawn (.nanBits .f64 x y))
theorem nanW_kind (x y : Nat) (w : World) : kindN (nanW x y w) = 6 ∧ nanW x y w < 18446744073709551616 := by
  have h : ∃ t : Nat, nanW x y w = (t % 2) * 9223372036854775808 + 9218868437227405312 + 1 + (t / 2) % 4503599627370495 := ⟨_, rfl⟩
  obtain ⟨t, h⟩ := h
  rw [h]
  have hr : rung (t % 2 * 9223372036854775808 + 9218868437227405312 + 1 + t / 2 % 4503599627370495) = 9218868437227405312 + 1 + t / 2 % 4503599627370495 := by unfold rung; omega
  refine ⟨?_, by omega⟩
  unfold kindN
  rw [hr, show infR = 9218868437227405312 from rfl, if_pos (by omega)]
theorem run_nan (op : BinOp) (t : TypeId) (x y : Nat) (hop : op = .add ∨ op = .sub ∨ op = .mul ∨ op = .quo) (h : floatBits op .f64 x y = none) (w : World) :
    (binOp op t (.float .f64 x) (.float .f64 y)).run Try.prog w = .ok (.float .f64 (nanW x y w)) w.drew := by
  rcases hop with rfl | rfl | rfl | rfl
  all_goals
    unfold floatBits at h
    simp [binOp, Op.floatArith, h]
    rfl
/-- what a float word is, if the exact result is o ('none': no number). -/
def FV (o : Option Nat) (r : Nat) : Prop := r < 18446744073709551616 ∧ (o = some r ∨ (o = none ∧ kindN r = 6))
theorem FV.same {o : Option Nat} {r s : Nat} (h : FV o r) (k : FV o s) : placeI r = placeI s := by
  rcases h.2 with h | ⟨h, hr⟩ <;> rcases k.2 with k | ⟨k, hs⟩
  · rw [h] at k; injection k with k; rw [k]
  · rw [h] at k; cases k
  · rw [h] at k; cases k
  · have := kind_cases r
    have := kind_cases s
    omega
theorem bits_lt {op : BinOp} {x y r : Nat} (h : floatBits op .f64 x y = some r) : r < 18446744073709551616 := by
  have := floatBits_wf h
  simpa [Lit.wf] using this
def FEnd (o : Option Nat) (w : World) (e : Ending) (w' : World) : Prop := ∃ r, e = .returned (.float .f64 r) ∧ FV o r ∧ Below w.heap.size w w'
set_option maxHeartbeats 400000 in
theorem cool_any (x y : Nat) (w : World) :
    Calls Try.prog 20 #[.float .f64 x, .float .f64 y] w (FEnd (floatBits .mul .f64 x y) w) := by
  cases h : floatBits .mul .f64 x y with
  | some r =>
    have hr := fun (w : World) => run_float_arith (P := Try.prog) w .mul 26 .f64 x y r h
    have hv : FV (some r) r := ⟨bits_lt h, .inl rfl⟩
    replace hv := Lib.hid hv
    clear h
    go_enter Try.func20, Try.ntmps20
    go_wp2
    go_ret
    exact ⟨r, rfl, hv.out, Below.refl _ _⟩
  | none =>
    have hr := fun (w : World) => run_nan .mul 26 x y (by simp) h w
    clear h
    go_enter Try.func20, Try.ntmps20
    go_wp2
    go_ret
    exact ⟨_, rfl, ⟨(nanW_kind x y w).2, .inr ⟨rfl, (nanW_kind x y w).1⟩⟩, (Below.refl _ _).drew⟩
set_option maxHeartbeats 400000 in
theorem ratio_any (a b : Int) (w : World) :
    Calls Try.prog 21 #[.int .i64 a, .int .i64 b] w (FEnd (floatBits .quo .f64 (floatOfInt .f64 a) (floatOfInt .f64 b)) w) := by
  have c1 := fun (w : World) => run_convert_int_float (P := Try.prog) w 2 26 .i64 .f64 a (by kernel_rfl) Try.underlying26
  have c2 := fun (w : World) => run_convert_int_float (P := Try.prog) w 2 26 .i64 .f64 b (by kernel_rfl) Try.underlying26
  generalize floatOfInt .f64 a = x at *
  generalize floatOfInt .f64 b = y at *
  cases h : floatBits .quo .f64 x y with
  | some r =>
    have hr := fun (w : World) => run_float_arith (P := Try.prog) w .quo 26 .f64 x y r h
    have hv : FV (some r) r := ⟨bits_lt h, .inl rfl⟩
    replace hv := Lib.hid hv
    clear h
    go_enter Try.func21, Try.ntmps21
    go_wp2
    go_ret
    exact ⟨r, rfl, hv.out, Below.refl _ _⟩
  | none =>
    have hr := fun (w : World) => run_nan .quo 26 x y (by simp) h w
    clear h
    go_enter Try.func21, Try.ntmps21
    go_wp2
    go_ret
    exact ⟨_, rfl, ⟨(nanW_kind x y w).2, .inr ⟨rfl, (nanW_kind x y w).1⟩⟩, (Below.refl _ _).drew⟩
end Go.Proofs.Ytbhifhnpcafpjaa
