/-
  The walks of the statements of layer 1: WholeAdds, WholeMuls, WholeCeils, WholeParses, WholeTexts.
-/
import Derived.Test.YtcjkicpjcendeaaAwake1
import Derived.Test.YtcjkicpjcendeaaRefParse
import Derived.Test.YtcjkicpjcendeaaText
namespace Go.Proofs.Ytcjkicpjcendeaa
open Go.RowKit
def CutV (n : Int) (e : Ending) (w w' : World) : Prop := e = .returned (.tuple #[.int .i64 (cutV n), .bool (fits n)]) ∧ w = w'
set_option maxHeartbeats 800000 in
theorem law_WholeAdds (w : World) (a : Int) (ha : (Lit.int .i64 a).wf = true) (b : Int) (hb : (Lit.int .i64 b).wf = true) :
    Calls Try.prog 6 #[.int .i64 a, .int .i64 b] w fun e w' => e = .returned (.bool true) ∧ Below w.heap.size w w' := by
  have Ha := I64_of ha
  have Hb := I64_of hb
  clear ha hb
  go_enter Try.func6, Try.ntmps6
  go_wp2_with (first | (go_at_call 23; refine (awake1_any _).mono ?_; rintro e w1 ⟨rfl, hb1⟩) | (go_at_call 24; refine (add_any _ _ _ (by assumption) (by assumption)).mono ?_; rintro e w2 ⟨hc, rfl⟩; unfold CutEnd at hc; subst hc) | (go_at_call 25; refine (refAdd_any _ _ _ (by assumption) (by assumption)).mono ?_; rintro e w2 ⟨hc, rfl⟩; unfold CutEnd at hc; subst hc))
  go_ret
  exact ⟨rfl, hb1⟩
set_option maxHeartbeats 800000 in
theorem law_WholeMuls (w : World) (a : Int) (ha : (Lit.int .i64 a).wf = true) (b : Int) (hb : (Lit.int .i64 b).wf = true) :
    Calls Try.prog 7 #[.int .i64 a, .int .i64 b] w fun e w' => e = .returned (.bool true) ∧ Below w.heap.size w w' := by
  have Ha := I64_of ha
  have Hb := I64_of hb
  clear ha hb
  go_enter Try.func7, Try.ntmps7
  go_wp2_with (first | (go_at_call 23; refine (awake1_any _).mono ?_; rintro e w1 ⟨rfl, hb1⟩) | (go_at_call 26; refine (mul_any _ _ _ (by assumption) (by assumption)).mono ?_; rintro e w2 ⟨hc, rfl⟩; unfold CutEnd at hc; subst hc) | (go_at_call 27; refine (refMul_any _ _ _ (by assumption) (by assumption)).mono ?_; rintro e w2 ⟨hc, rfl⟩; unfold CutEnd at hc; subst hc))
  go_ret
  exact ⟨rfl, hb1⟩
end Go.Proofs.Ytcjkicpjcendeaa
