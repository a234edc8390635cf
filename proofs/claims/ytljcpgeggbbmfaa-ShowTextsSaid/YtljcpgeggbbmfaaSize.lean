/-
  The walk of whole.size (layer 1).
-/
import Derived.Test.YtljcpgeggbbmfaaRows
import Derived.Test.YtljcpgeggbbmfaaPlain
namespace Go.Proofs.Ytljcpgeggbbmfaa
set_option linter.unusedVariables false
set_option linter.unusedSimpArgs false
open Go.RowKit
/-- a number without its sign. -/
def sizeN (a : Int) : Nat := a.natAbs
theorem sizeN_lt {a : Int} (h : I64 a) : sizeN a ≤ 9223372036854775808 := by unfold I64 at h; unfold sizeN; omega
set_option maxHeartbeats 400000 in
theorem size_any (a : Int) (w : World) (ha : I64 a) :
    Calls Try.prog 65 #[.int .i64 a] w fun e w' => e = .returned (.int .u64 (sizeN a)) ∧ w = w' := by
  go_enter Try.func65, Try.ntmps65
  go_wp2
  all_goals go_ret
  all_goals refine ⟨ret_int ?_, rfl⟩
  all_goals unfold I64 at ha
  all_goals (try simp only [IntKind.wrap_u64]); unfold sizeN; omega

end Go.Proofs.Ytljcpgeggbbmfaa
