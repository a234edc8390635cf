/-
  Layer 11's Awake returns true; Code at any instance.
-/
import Derived.Test.YtljcpgeggbbmfaaAwake
import Derived.Test.YtljcpgeggbbmfaaOpen
import Derived.Test.YtljcpgeggbbmfaaCode2
import Derived.Test.YtljcpgeggbbmfaaCode
import Derived.Test.YtljcpgeggbbmfaaCust
import Derived.IntWalk
namespace Go.Proofs.Ytljcpgeggbbmfaa
set_option linter.unusedVariables false
set_option linter.unusedSimpArgs false
open Go.RowKit
/-- Awake's first instance. -/
def X0 : InstD := ⟨0, 0, 0, 0, 0, [⟨0, 0⟩, ⟨0, 0⟩], [], [], []⟩
theorem aw_customer (A : Option Addr) (w : World) :
    Calls Try.prog 56 #[.agg #[.int .i64 0, .int .i64 0, .int .i64 0, .int .i64 0, .int .i64 0, .slice A 2 2, .slice none 0 0, .slice none 0 0, .slice none 0 0], .int .i64 1] w fun e w' => e = .returned (.int .i64 4) ∧ Below w.heap.size w w' :=
  (customer_any 1 w X0 ⟨A, 2, none, 0, none, 0, none, 0⟩ (by decide)).mono fun e w' ⟨he, hb⟩ => ⟨by rw [he]; exact ret_int (by simp [X0, wrap64]), hb⟩
theorem aw_check (A : Option Addr) (w : World) :
    Calls Try.prog 27 #[.agg #[.int .i64 0, .int .i64 0, .int .i64 0, .int .i64 0, .int .i64 0, .slice A 2 2, .slice none 0 0, .slice none 0 0, .slice none 0 0]] w fun e w' => e = .returned (.int .i64 9) ∧ Below w.heap.size w w' :=
  (check_count X0 ⟨A, 2, none, 0, none, 0, none, 0⟩ w (by decide) (by decide) (by decide)).mono fun e w' ⟨he, hb⟩ => ⟨by rw [he]; exact ret_int (by decide), hb⟩
theorem aw_check2 (h : HdD) (w : World) (H : InstIs w (makeI S0) h) :
    Calls Try.prog 27 #[.agg (instC (makeI S0) h)] w fun e w' => e = .returned (.int .i64 0) ∧ Below w.heap.size w w' :=
  (check_any (makeI S0) h w H (by have := (make_len S0).1; omega) (by have := (make_len S0).2.1; omega)).mono fun e w' ⟨he, hb⟩ => ⟨by rw [he, code_zero], hb⟩
set_option maxHeartbeats 1600000 in
theorem awake_any (w : World) : Calls Try.prog 28 #[] w fun e w' => e = .returned (.bool true) ∧ Below w.heap.size w w' := by
  have hmk : ∀ w : World, (Instr.makeSlice 25 (.int .i64 2) (.int .i64 2)).run Try.prog w = .ok (.slice (some ⟨w.heap.size, 0, none⟩) 2 2) (w.alloc (.cells #[.int .i64 0, .int .i64 0, .int .i64 0, .int .i64 0] 62)) := fun _ => by kernel_rfl
  have d : ∀ j u, #[Value.int .i64 0, .int .i64 0, .int .i64 0, .int .i64 0, .int .i64 0, .slice (some ⟨w.heap.size, 0, none⟩) 2 2, .slice none 0 0, .slice none 0 0, .slice none 0 0][j]? = some u → ((w.alloc (.cells #[.int .i64 0, .int .i64 0, .int .i64 0, .int .i64 0] 62)).alloc (.cells #[.int .i64 0, .int .i64 0, .int .i64 0, .int .i64 0, .int .i64 0, .slice (some ⟨w.heap.size, 0, none⟩) 2 2, .slice none 0 0, .slice none 0 0, .slice none 0 0] 29)).cell? ⟨w.heap.size + 1, j, none⟩ = some u := by
    intro j u hu
    rw [show w.heap.size + 1 = (w.alloc (.cells #[.int .i64 0, .int .i64 0, .int .i64 0, .int .i64 0] 62)).heap.size by simp, World.cell?_alloc_new]
    exact hu
  have hb0 := ((Below.refl w.heap.size w).alloc (Nat.le_refl _) (.cells #[.int .i64 0, .int .i64 0, .int .i64 0, .int .i64 0] 62)).alloc (by simp) (.cells #[.int .i64 0, .int .i64 0, .int .i64 0, .int .i64 0, .int .i64 0, .slice (some ⟨w.heap.size, 0, none⟩) 2 2, .slice none 0 0, .slice none 0 0, .slice none 0 0] 29)
  replace d := Lib.hid d
  go_enter Try.func28, Try.ntmps28
  go_wp2_with fail
  refine (aw_customer _ _).mono ?_
  rintro e w1 ⟨rfl, hb1⟩
  generalize (w.alloc (.cells #[.int .i64 0, .int .i64 0, .int .i64 0, .int .i64 0] 62)).alloc (.cells #[.int .i64 0, .int .i64 0, .int .i64 0, .int .i64 0, .int .i64 0, .slice (some ⟨w.heap.size, 0, none⟩) 2 2, .slice none 0 0, .slice none 0 0, .slice none 0 0] 29) = W at *
  replace hb0 := Lib.hid hb0
  have e0 := keep_cell hb1 (d.out 0 _ rfl)
  have e1 := keep_cell hb1 (d.out 1 _ rfl)
  have e2 := keep_cell hb1 (d.out 2 _ rfl)
  have e3 := keep_cell hb1 (d.out 3 _ rfl)
  have e4 := keep_cell hb1 (d.out 4 _ rfl)
  have e5 := keep_cell hb1 (d.out 5 _ rfl)
  have e6 := keep_cell hb1 (d.out 6 _ rfl)
  have e7 := keep_cell hb1 (d.out 7 _ rfl)
  have e8 := keep_cell hb1 (d.out 8 _ rfl)
  replace hb1 := Lib.hid hb1
  go_wp2_with fail
  refine (aw_check _ _).mono ?_
  rintro e w2 ⟨rfl, hb2⟩
  replace hb2 := Lib.hid hb2
  clear e0 e1 e2 e3 e4 e5 e6 e7 e8
  go_wp2_with fail
  refine (one_any _).mono ?_
  rintro e w3 ⟨h, rfl, hI, hb3⟩
  replace hb3 := Lib.hid hb3
  replace hI := Lib.hid hI
  go_wp2_with fail
  refine (aw_check2 h _ hI.out).mono ?_
  rintro e w4 ⟨rfl, hb4⟩
  replace hb4 := Lib.hid hb4
  go_wp2_with fail
  go_ret
  exact ⟨rfl, keep_below (keep_below (keep_below (keep_below hb0.out hb1.out) hb2.out) hb3.out) hb4.out⟩
theorem code_any (X : InstD) (h : HdD) (w : World) (H : InstIs w X h) (ls : X.sats.length ≤ 1000000) (lc : X.custs.length ≤ 1000000) :
    Calls Try.prog 15 #[.agg (instC X h)] w fun e w' => e = .returned (.int .i64 (codeI X)) ∧ Below w.heap.size w w' := by
  cases hc : countB X with
  | false => exact code_count X h w ls lc hc
  | true => exact code_main X h w H hc
end Go.Proofs.Ytljcpgeggbbmfaa
