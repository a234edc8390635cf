/-
  The walk of wharfagelaw11.Code where there aren't as many things as may be.
-/
import Derived.Test.YtljcpgeggbbmfaaCheck
namespace Go.Proofs.Ytljcpgeggbbmfaa
set_option linter.unusedVariables false
set_option linter.unusedSimpArgs false
open Go.RowKit
set_option maxHeartbeats 3200000 in
set_option maxRecDepth 100000 in
theorem code_count (X : InstD) (h : HdD) (w : World) (ls : X.sats.length ≤ 1000000) (lc : X.custs.length ≤ 1000000) (hc : countB X = false) :
    Calls Try.prog 15 #[.agg (instC X h)] w fun e w' => e = .returned (.int .i64 (codeI X)) ∧ Below w.heap.size w w' := by
  have HC : Hid (codeI X = 9) := Lib.hid (by unfold codeI; rw [hc]; rfl)
  have HF : Hid (1 ≤ X.tm → X.tm ≤ 60 → 1 ≤ X.bm → X.bm ≤ 60 → 1 ≤ X.sats.length → X.sats.length ≤ 12 → 1 ≤ X.custs.length → X.custs.length ≤ 48 → False) := Lib.hid (fun a b c d e f g h => by
    unfold countB manyB at hc
    rw [decide_eq_true a, decide_eq_true b, decide_eq_true c, decide_eq_true d, decide_eq_true (by omega), decide_eq_true (by omega), decide_eq_true (by omega), decide_eq_true (by omega)] at hc
    cases hc)
  clear hc
  unfold instC
  by_cases h1 : 1 ≤ X.tm
  · by_cases h2 : X.tm ≤ 60
    · by_cases h3 : 1 ≤ X.bm
      · by_cases h4 : X.bm ≤ 60
        · by_cases h5 : 1 ≤ X.sats.length
          · by_cases h6 : X.sats.length ≤ 12
            · by_cases h7 : 1 ≤ X.custs.length
              · have h8 : ¬ X.custs.length ≤ 48 := fun h8 => HF.out h1 h2 h3 h4 h5 h6 h7 h8
                clear HF
                go_enter Try.func15, Try.ntmps15
                go_wp2
                go_ret
                exact ⟨ret_int HC.out.symm, (Below.refl _ _).alloc (Nat.le_refl _) _⟩
              · clear HF
                go_enter Try.func15, Try.ntmps15
                go_wp2
                go_ret
                exact ⟨ret_int HC.out.symm, (Below.refl _ _).alloc (Nat.le_refl _) _⟩
            · clear HF
              go_enter Try.func15, Try.ntmps15
              go_wp2
              go_ret
              exact ⟨ret_int HC.out.symm, (Below.refl _ _).alloc (Nat.le_refl _) _⟩
          · clear HF
            go_enter Try.func15, Try.ntmps15
            go_wp2
            go_ret
            exact ⟨ret_int HC.out.symm, (Below.refl _ _).alloc (Nat.le_refl _) _⟩
        · clear HF
          go_enter Try.func15, Try.ntmps15
          go_wp2
          go_ret
          exact ⟨ret_int HC.out.symm, (Below.refl _ _).alloc (Nat.le_refl _) _⟩
      · clear HF
        go_enter Try.func15, Try.ntmps15
        go_wp2
        go_ret
        exact ⟨ret_int HC.out.symm, (Below.refl _ _).alloc (Nat.le_refl _) _⟩
    · clear HF
      go_enter Try.func15, Try.ntmps15
      go_wp2
      go_ret
      exact ⟨ret_int HC.out.symm, (Below.refl _ _).alloc (Nat.le_refl _) _⟩
  · clear HF
    go_enter Try.func15, Try.ntmps15
    go_wp2
    go_ret
    exact ⟨ret_int HC.out.symm, (Below.refl _ _).alloc (Nat.le_refl _) _⟩
end Go.Proofs.Ytljcpgeggbbmfaa
