/-
  The walk of Customer (layer 11).
-/
import Derived.Test.YtljcpgeggbbmfaaCheck
namespace Go.Proofs.Ytljcpgeggbbmfaa
set_option linter.unusedVariables false
set_option linter.unusedSimpArgs false
open Go.RowKit
set_option maxHeartbeats 400000 in
theorem customer_any (c : Int) (w : World) (X : InstD) (h : HdD) (hl : X.sats.length ≤ 1000000) :
    Calls Try.prog 56 #[.agg (instC X h), .int .i64 c] w fun e w' => e = .returned (.int .i64 (wrap64 (1 + (X.sats.length : Int) + c))) ∧ Below w.heap.size w w' := by
  dsimp only [instC]
  go_enter Try.func56, Try.ntmps56
  go_wp2
  go_ret
  exact ⟨rfl, (Below.refl _ _).alloc (Nat.le_refl _) _⟩
end Go.Proofs.Ytljcpgeggbbmfaa
