/-
  Plain facts on numbers that the walks of layer 1 lean on: no program in sight.
-/
import Derived.WalkKit
import Derived.WalkSpells
import Derived.WalkLawsBesides
import Derived.Lib.Hide
namespace Go.Proofs.Ytljcpgeggbbmfaa
set_option linter.unusedVariables false
set_option linter.unusedSimpArgs false
open Go.RowKit

/-- a number of 64 bits. -/
def I64 (n : Int) : Prop := -9223372036854775808 ≤ n ∧ n ≤ 9223372036854775807
theorem I64_iff (n : Int) : I64 n ↔ (-9223372036854775808 ≤ n ∧ n ≤ 9223372036854775807) := Iff.rfl
theorem I64_of {n : Int} (h : (Lit.int .i64 n).wf = true) : I64 n := by
  simp only [Lit.wf, IntKind.min, IntKind.max, IntKind.signed, IntKind.bits, Bool.and_eq_true, decide_eq_true_eq, if_true] at h
  unfold I64; omega
theorem wf_of {n : Int} (h : I64 n) : (Lit.int .i64 n).wf = true := by
  simp only [Lit.wf, IntKind.min, IntKind.max, IntKind.signed, IntKind.bits, Bool.and_eq_true, decide_eq_true_eq, if_true]
  unfold I64 at h; omega
theorem I64_wrap (n : Int) : I64 (wrap64 n) := by unfold I64 wrap64; omega
theorem wrap_of {n : Int} (h : I64 n) : wrap64 n = n := by unfold I64 at h; unfold wrap64; omega
def fits (n : Int) : Bool := decide (-9223372036854775808 ≤ n ∧ n ≤ 9223372036854775807)
theorem fits_iff (n : Int) : fits n = true ↔ I64 n := by unfold fits; simp [I64]
theorem fits_t {n : Int} (h : I64 n) : fits n = true := (fits_iff n).2 h
theorem fits_f {n : Int} (h : ¬ I64 n) : fits n = false := by
  cases e : fits n with
  | false => rfl
  | true => exact absurd ((fits_iff n).1 e) h
/-- the number, or 0 if it is none of 64 bits. -/
def cutV (n : Int) : Int := if fits n then n else 0
theorem cutV_t {n : Int} (h : I64 n) : cutV n = n := by unfold cutV; rw [fits_t h]; rfl
theorem cutV_f {n : Int} (h : ¬ I64 n) : cutV n = 0 := by unfold cutV; rw [fits_f h]; rfl
theorem I64_cutV (n : Int) : I64 (cutV n) := by
  by_cases h : I64 n
  · rw [cutV_t h]; exact h
  · rw [cutV_f h]; unfold I64; omega
def CutEnd (n : Int) (e : Ending) : Prop := e = .returned (.tuple #[.int .i64 (cutV n), .bool (fits n)])
theorem cut_t {n v : Int} (h : I64 n) (hv : v = n) : CutEnd n (.returned (.tuple #[.int .i64 v, .bool true])) := by
  unfold CutEnd; rw [cutV_t h, fits_t h, hv]
theorem cut_f {n : Int} (h : ¬ I64 n) : CutEnd n (.returned (.tuple #[.int .i64 0, .bool false])) := by
  unfold CutEnd; rw [cutV_f h, fits_f h]

theorem ret_int {k : IntKind} {a b : Int} (h : a = b) : Ending.returned (.int k a) = .returned (.int k b) := by rw [h]
theorem ret_bool {a b : Bool} (h : a = b) : Ending.returned (.bool a) = .returned (.bool b) := by rw [h]
theorem ofInt_nat (a : Int) : (BitVec.ofInt 64 a).toNat = (a % 18446744073709551616).toNat := by
  rw [BitVec.toNat_ofInt]; rfl
theorem and_low (a : Int) : bits .and .i64 a 4294967295 = a % 4294967296 := by
  show IntKind.i64.wrap ((BitVec.ofInt 64 a &&& BitVec.ofInt 64 4294967295).toNat : Int) = _
  rw [BitVec.toNat_and, ofInt_nat, ofInt_nat]
  have h1 : ((4294967295 : Int) % 18446744073709551616).toNat = 2 ^ 32 - 1 := by decide
  rw [h1, Nat.and_two_pow_sub_one_eq_mod, IntKind.wrap_i64]
  omega
end Go.Proofs.Ytljcpgeggbbmfaa
