/-
  The walk of word.Read (layer 5): its deferred closure; a nil function; any function.
-/
import Derived.Test.YtljcpgeggbbmfaaReader
import Derived.Defers
import Derived.Recover
namespace Go.Proofs.Ytljcpgeggbbmfaa
set_option linter.unusedVariables false
set_option linter.unusedSimpArgs false
open Go.RowKit
theorem frame20 (p q v : Value) : #[p, q] ++ ((Array.replicate 18 undef).setIfInBounds 3 v).setIfInBounds 0 v = #[p, q, v, undef, undef, v, undef, undef, undef, undef, undef, undef, undef, undef, undef, undef, undef, undef, undef, undef] := by
  apply Array.ext'
  simp [List.replicate, List.set]
/-- what may have turned: the blocks that 'may' names; new ones may have come. -/
structure Chg (may : Nat → Prop) (w w' : World) : Prop where
  os : w'.os = w.os
  tape : w'.tape = w.tape
  output : w'.output = w.output
  size : w.heap.size ≤ w'.heap.size
  block : ∀ k, k < w.heap.size → ¬ may k → w'.heap[k]? = w.heap[k]?
theorem Chg.refl (may : Nat → Prop) (w : World) : Chg may w w := ⟨rfl, rfl, rfl, Nat.le_refl _, fun _ _ _ => rfl⟩
theorem Chg.trans {may : Nat → Prop} {w w' w'' : World} (h : Chg may w w') (h2 : Chg may w' w'') : Chg may w w'' :=
  ⟨h2.os.trans h.os, h2.tape.trans h.tape, h2.output.trans h.output, Nat.le_trans h.size h2.size, fun k hk hm => (h2.block k (Nat.lt_of_lt_of_le hk h.size) hm).trans (h.block k hk hm)⟩
theorem Chg.mono {may may' : Nat → Prop} {w w' : World} (h : Chg may w w') (hm : ∀ k, k < w.heap.size → may k → may' k) : Chg may' w w' := ⟨h.os, h.tape, h.output, h.size, fun k hk hn => h.block k hk (fun hk2 => hn (hm k hk hk2))⟩
theorem Chg.below {may : Nat → Prop} {w w' : World} (h : Below w.heap.size w w') : Chg may w w' := ⟨h.os, h.tape, h.output, h.size, fun k hk _ => h.block k hk⟩
theorem Chg.grown {may : Nat → Prop} {w w' : World} {g : Nat} (h : w.grownBy w' (some g)) (hg : may g) : Chg may w w' := ⟨h.os, h.tape, h.output, h.size, fun k hk hn => h.block k hk (fun e => hn (by injection e with e; rw [e]; exact hg))⟩
theorem Chg.to_below {may : Nat → Prop} {w w' : World} (h : Chg may w w') {B : Nat} (hm : ∀ k, k < B → ¬ may k) (hB : B ≤ w.heap.size) : Below B w w' := ⟨h.os, h.tape, h.output, h.size, fun k hk => h.block k (by omega) (hm k hk)⟩
theorem Chg.drewN {may : Nat → Prop} (w : World) (q : Nat) : Chg may w (w.drewN q) := ⟨rfl, rfl, rfl, Nat.le_refl _, fun _ _ _ => rfl⟩
/-- the deferred closure, in a frame that returns: it turns nothing. -/
theorem catch_idle (p q : Addr) (w : World) :
    CallsD Try.prog 59 #[.pointer (some p), .pointer (some q)] .returning w fun e u' w' => e = .returned (.tuple #[]) ∧ u' = .returning ∧ w' = w := by
  refine callsD_of_wpS Try.func59 rfl fun c₀ cs hu => ?_
  have hz : ∀ w : World, (binOp BinOp.neq 20 .nilIface .nilIface).run Try.prog w = .ok (.bool false) w := fun _ => by kernel_rfl
  apply wpS_seq
  apply wpS_region
  simp [wpOpsS, go_sem, recoverD, hu, Try.ntmps59, Exit.thenS]
  rw [frame20]
  refine wpS_of_wp ?_
  go_wp2
  cases c₀
  simp_all [bodyPostS, results, Try.results59]
set_option maxHeartbeats 1600000 in
set_option maxRecDepth 100000 in
/-- in a frame that panics with a fault: it is caught, the results are laid. -/
theorem catch_fault (bp bq : Nat) (x y a c : Int) (older : List PanicEntry) (w : World) (hp : w.cell? ⟨bp, 0, none⟩ = some (.int .i64 x)) (hpz : w.frozen? ⟨bp, 0, none⟩ = false) (hq : w.cell? ⟨bq, 0, none⟩ = some (.int .i64 y)) (hqz : w.frozen? ⟨bq, 0, none⟩ = false) (hne : ¬ bp = bq) :
    CallsD Try.prog 59 #[.pointer (some ⟨bp, 0, none⟩), .pointer (some ⟨bq, 0, none⟩)] (.panicking ({ v := faultV a c, recovered := false } :: older)) w fun e u' w' =>
      e = .returned (.tuple #[]) ∧ u' = .panicking ({ v := faultV a c, recovered := true } :: older) ∧ w'.cell? ⟨bp, 0, none⟩ = some (.int .i64 a) ∧ w'.cell? ⟨bq, 0, none⟩ = some (.int .i64 c) ∧ Chg (fun k => k = bp ∨ k = bq) w w' := by
  refine callsD_of_wpS Try.func59 rfl fun c₀ cs hu => ?_
  have hne2 : ¬ bq = bp := fun e => hne e.symm
  have hta : ∀ w : World, (Instr.typeAssert (.iface 111 (.agg #[.int .i64 a, .int .i64 c])) 20 111 true).run Try.prog w = .ok (.tuple #[.agg #[.int .i64 a, .int .i64 c], .bool true]) w := fun _ => by kernel_rfl
  have sp : bp < w.heap.size := lt_of_cell hp
  have sq : bq < w.heap.size := lt_of_cell hq
  have np : ¬ bp = w.heap.size := by omega
  have nq : ¬ bq = w.heap.size := by omega
  unfold faultV at *
  apply wpS_seq
  apply wpS_region
  simp [wpOpsS, go_sem, recoverD, hu, Try.ntmps59, Exit.thenS]
  rw [frame20]
  refine wpS_of_wp ?_
  go_wp2_with fail
  have hp1 := keep_cell ((Below.refl _ _).alloc (Nat.le_refl _) (.cells #[.int .i64 a, .int .i64 c] 111)) hp
  have hq1 := keep_cell ((Below.refl _ _).alloc (Nat.le_refl _) (.cells #[.int .i64 a, .int .i64 c] 111)) hq
  have fp1 : (w.alloc (.cells #[.int .i64 a, .int .i64 c] 111)).frozen? ⟨bp, 0, none⟩ = false := (World.frozen?_of_block (a := ⟨bp, 0, none⟩) (Below.heap_alloc w _ bp sp)).trans hpz
  have fq1 : (w.alloc (.cells #[.int .i64 a, .int .i64 c] 111)).frozen? ⟨bq, 0, none⟩ = false := (World.frozen?_of_block (a := ⟨bq, 0, none⟩) (Below.heap_alloc w _ bq sq)).trans hqz
  have n0 : (w.alloc (.cells #[.int .i64 a, .int .i64 c] 111)).cell? ⟨w.heap.size, 0, none⟩ = some (.int .i64 a) := by rw [World.cell?_alloc_new]; rfl
  have n1 : (w.alloc (.cells #[.int .i64 a, .int .i64 c] 111)).cell? ⟨w.heap.size, 1, none⟩ = some (.int .i64 c) := by rw [World.cell?_alloc_new]; rfl
  generalize hW1 : w.alloc (.cells #[.int .i64 a, .int .i64 c] 111) = W1 at *
  generalize hg : w.heap.size = g at *
  have np2 : ¬ g = bp := fun e => np e.symm
  have nq2 : ¬ g = bq := fun e => nq e.symm
  replace hW1 := Lib.hid hW1
  replace hg := Lib.hid hg
  clear hp hq hpz hqz sp sq
  go_region
  have hE : Chg (fun k => k = bp ∨ k = bq) w ((W1.setCell ⟨bp, 0, none⟩ (.int .i64 a)).setCell ⟨bq, 0, none⟩ (.int .i64 c)).drew := by
    have h0 : Chg (fun k => k = bp ∨ k = bq) w W1 := by rw [← hW1.out]; exact Chg.below ((Below.refl _ _).alloc (Nat.le_refl _) _)
    have h1 := h0.trans (Chg.grown (grown_set W1 ⟨bp, 0, none⟩ (.int .i64 a)) (.inl rfl))
    have h2 := h1.trans (Chg.grown (grown_set _ ⟨bq, 0, none⟩ (.int .i64 c)) (.inr rfl))
    exact ⟨h2.os, h2.tape, h2.output, h2.size, h2.block⟩
  have r0 : ((W1.setCell ⟨bp, 0, none⟩ (.int .i64 a)).setCell ⟨bq, 0, none⟩ (.int .i64 c)).drew.cell? ⟨bp, 0, none⟩ = some (.int .i64 a) := by simp [go_sem, hp1, hq1, hne]
  have r1 : ((W1.setCell ⟨bp, 0, none⟩ (.int .i64 a)).setCell ⟨bq, 0, none⟩ (.int .i64 c)).drew.cell? ⟨bq, 0, none⟩ = some (.int .i64 c) := by simp [go_sem, hp1, hq1, hne2]
  refine ⟨rfl, _, rfl, .tuple #[], ?_, rfl, rfl, r0, r1, hE⟩
  simp [results, Try.results59]
end Go.Proofs.Ytljcpgeggbbmfaa
