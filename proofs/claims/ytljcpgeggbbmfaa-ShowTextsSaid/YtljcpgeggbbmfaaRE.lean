/-
  The walks of word.Read (layer 5).
-/
import Derived.Test.YtljcpgeggbbmfaaReader
import Derived.Defers
import Derived.Recover
namespace Go.Proofs.Ytljcpgeggbbmfaa
set_option linter.unusedVariables false
set_option linter.unusedSimpArgs false
open Go.RowKit
theorem frame20 (p q v : Value) : #[p, q] ++ ((Array.replicate 18 undef).setIfInBounds 3 v).setIfInBounds 0 v = #[p, q, v, undef, undef, v, undef, undef, undef, undef, undef, undef, undef, undef, undef, undef, undef, undef, undef, undef] := by
  apply Array.ext'
  simp [List.replicate, List.set]
/-- what may have turned: the blocks that 'may' names; new ones may have come. -/
structure Chg (may : Nat → Prop) (w w' : World) : Prop where
  os : w'.os = w.os
  tape : w'.tape = w.tape
  output : w'.output = w.output
  size : w.heap.size ≤ w'.heap.size
  block : ∀ k, k < w.heap.size → ¬ may k → w'.heap[k]? = w.heap[k]?
theorem Chg.refl (may : Nat → Prop) (w : World) : Chg may w w := ⟨rfl, rfl, rfl, Nat.le_refl _, fun _ _ _ => rfl⟩
theorem Chg.trans {may : Nat → Prop} {w w' w'' : World} (h : Chg may w w') (h2 : Chg may w' w'') : Chg may w w'' :=
  ⟨h2.os.trans h.os, h2.tape.trans h.tape, h2.output.trans h.output, Nat.le_trans h.size h2.size, fun k hk hm => (h2.block k (Nat.lt_of_lt_of_le hk h.size) hm).trans (h.block k hk hm)⟩
theorem Chg.mono {may may' : Nat → Prop} {w w' : World} (h : Chg may w w') (hm : ∀ k, k < w.heap.size → may k → may' k) : Chg may' w w' := ⟨h.os, h.tape, h.output, h.size, fun k hk hn => h.block k hk (fun hk2 => hn (hm k hk hk2))⟩
theorem Chg.below {may : Nat → Prop} {w w' : World} (h : Below w.heap.size w w') : Chg may w w' := ⟨h.os, h.tape, h.output, h.size, fun k hk _ => h.block k hk⟩
theorem Chg.grown {may : Nat → Prop} {w w' : World} {g : Nat} (h : w.grownBy w' (some g)) (hg : may g) : Chg may w w' := ⟨h.os, h.tape, h.output, h.size, fun k hk hn => h.block k hk (fun e => hn (by injection e with e; rw [e]; exact hg))⟩
theorem Chg.to_below {may : Nat → Prop} {w w' : World} (h : Chg may w w') {B : Nat} (hm : ∀ k, k < B → ¬ may k) (hB : B ≤ w.heap.size) : Below B w w' := ⟨h.os, h.tape, h.output, h.size, fun k hk => h.block k (by omega) (hm k hk)⟩
theorem Chg.drewN {may : Nat → Prop} (w : World) (q : Nat) : Chg may w (w.drewN q) := ⟨rfl, rfl, rfl, Nat.le_refl _, fun _ _ _ => rfl⟩
/-- the deferred closure, in a frame that returns: it turns nothing. -/
theorem catch_idle (p q : Addr) (w : World) :
    CallsD Try.prog 59 #[.pointer (some p), .pointer (some q)] .returning w fun e u' w' => e = .returned (.tuple #[]) ∧ u' = .returning ∧ w' = w := by
  refine callsD_of_wpS Try.func59 rfl fun c₀ cs hu => ?_
  have hz : ∀ w : World, (binOp BinOp.neq 20 .nilIface .nilIface).run Try.prog w = .ok (.bool false) w := fun _ => by kernel_rfl
  apply wpS_seq
  apply wpS_region
  simp [wpOpsS, go_sem, recoverD, hu, Try.ntmps59, Exit.thenS]
  rw [frame20]
  refine wpS_of_wp ?_
  go_wp2
  cases c₀
  simp_all [bodyPostS, results, Try.results59]
set_option maxHeartbeats 1600000 in
set_option maxRecDepth 100000 in
/-- in a frame that panics with a fault: it is caught, the results are laid. -/
theorem catch_fault (bp bq : Nat) (x y a c : Int) (older : List PanicEntry) (w : World) (hp : w.cell? ⟨bp, 0, none⟩ = some (.int .i64 x)) (hpz : w.frozen? ⟨bp, 0, none⟩ = false) (hq : w.cell? ⟨bq, 0, none⟩ = some (.int .i64 y)) (hqz : w.frozen? ⟨bq, 0, none⟩ = false) (hne : ¬ bp = bq) :
    CallsD Try.prog 59 #[.pointer (some ⟨bp, 0, none⟩), .pointer (some ⟨bq, 0, none⟩)] (.panicking ({ v := faultV a c, recovered := false } :: older)) w fun e u' w' =>
      e = .returned (.tuple #[]) ∧ u' = .panicking ({ v := faultV a c, recovered := true } :: older) ∧ w'.cell? ⟨bp, 0, none⟩ = some (.int .i64 a) ∧ w'.cell? ⟨bq, 0, none⟩ = some (.int .i64 c) ∧ Chg (fun k => k = bp ∨ k = bq) w w' := by
  refine callsD_of_wpS Try.func59 rfl fun c₀ cs hu => ?_
  have hne2 : ¬ bq = bp := fun e => hne e.symm
  have hta : ∀ w : World, (Instr.typeAssert (.iface 111 (.agg #[.int .i64 a, .int .i64 c])) 20 111 true).run Try.prog w = .ok (.tuple #[.agg #[.int .i64 a, .int .i64 c], .bool true]) w := fun _ => by kernel_rfl
  have sp : bp < w.heap.size := lt_of_cell hp
  have sq : bq < w.heap.size := lt_of_cell hq
  have np : ¬ bp = w.heap.size := by omega
  have nq : ¬ bq = w.heap.size := by omega
  unfold faultV at *
  apply wpS_seq
  apply wpS_region
  simp [wpOpsS, go_sem, recoverD, hu, Try.ntmps59, Exit.thenS]
  rw [frame20]
  refine wpS_of_wp ?_
  go_wp2_with fail
  have hp1 := keep_cell ((Below.refl _ _).alloc (Nat.le_refl _) (.cells #[.int .i64 a, .int .i64 c] 111)) hp
  have hq1 := keep_cell ((Below.refl _ _).alloc (Nat.le_refl _) (.cells #[.int .i64 a, .int .i64 c] 111)) hq
  have fp1 : (w.alloc (.cells #[.int .i64 a, .int .i64 c] 111)).frozen? ⟨bp, 0, none⟩ = false := (World.frozen?_of_block (a := ⟨bp, 0, none⟩) (Below.heap_alloc w _ bp sp)).trans hpz
  have fq1 : (w.alloc (.cells #[.int .i64 a, .int .i64 c] 111)).frozen? ⟨bq, 0, none⟩ = false := (World.frozen?_of_block (a := ⟨bq, 0, none⟩) (Below.heap_alloc w _ bq sq)).trans hqz
  have n0 : (w.alloc (.cells #[.int .i64 a, .int .i64 c] 111)).cell? ⟨w.heap.size, 0, none⟩ = some (.int .i64 a) := by rw [World.cell?_alloc_new]; rfl
  have n1 : (w.alloc (.cells #[.int .i64 a, .int .i64 c] 111)).cell? ⟨w.heap.size, 1, none⟩ = some (.int .i64 c) := by rw [World.cell?_alloc_new]; rfl
  generalize hW1 : w.alloc (.cells #[.int .i64 a, .int .i64 c] 111) = W1 at *
  generalize hg : w.heap.size = g at *
  have np2 : ¬ g = bp := fun e => np e.symm
  have nq2 : ¬ g = bq := fun e => nq e.symm
  replace hW1 := Lib.hid hW1
  replace hg := Lib.hid hg
  clear hp hq hpz hqz sp sq
  go_region
  have hE : Chg (fun k => k = bp ∨ k = bq) w ((W1.setCell ⟨bp, 0, none⟩ (.int .i64 a)).setCell ⟨bq, 0, none⟩ (.int .i64 c)).drew := by
    have h0 : Chg (fun k => k = bp ∨ k = bq) w W1 := by rw [← hW1.out]; exact Chg.below ((Below.refl _ _).alloc (Nat.le_refl _) _)
    have h1 := h0.trans (Chg.grown (grown_set W1 ⟨bp, 0, none⟩ (.int .i64 a)) (.inl rfl))
    have h2 := h1.trans (Chg.grown (grown_set _ ⟨bq, 0, none⟩ (.int .i64 c)) (.inr rfl))
    exact ⟨h2.os, h2.tape, h2.output, h2.size, h2.block⟩
  have r0 : ((W1.setCell ⟨bp, 0, none⟩ (.int .i64 a)).setCell ⟨bq, 0, none⟩ (.int .i64 c)).drew.cell? ⟨bp, 0, none⟩ = some (.int .i64 a) := by simp [go_sem, hp1, hq1, hne]
  have r1 : ((W1.setCell ⟨bp, 0, none⟩ (.int .i64 a)).setCell ⟨bq, 0, none⟩ (.int .i64 c)).drew.cell? ⟨bq, 0, none⟩ = some (.int .i64 c) := by simp [go_sem, hp1, hq1, hne2]
  refine ⟨rfl, _, rfl, .tuple #[], ?_, rfl, rfl, r0, r1, hE⟩
  simp [results, Try.results59]
end Go.Proofs.Ytljcpgeggbbmfaa
namespace Go.Proofs.Ytljcpgeggbbmfaa
set_option linter.unusedVariables false
set_option linter.unusedSimpArgs false
open Go.RowKit
theorem box_cell {w : World} {b : Nat} {v : Value} {t : TypeId} (h : w.heap[b]? = some (.cells #[v] t (0, 0))) : w.cell? ⟨b, 0, none⟩ = some v := cell_of_row w b 0 _ _ _ h
theorem box_frozen {w : World} {b : Nat} {v : Value} {t : TypeId} (h : w.heap[b]? = some (.cells #[v] t (0, 0))) : w.frozen? ⟨b, 0, none⟩ = false := frozen_of_row w b 0 _ _ h
theorem two_news (w : World) (t1 t2 : TypeId) (u v : Value) : ((w.alloc (.cells #[u] t1)).alloc (.cells #[v] t2)).heap[w.heap.size]? = some (.cells #[u] t1 (0, 0)) ∧ ((w.alloc (.cells #[u] t1)).alloc (.cells #[v] t2)).heap[w.heap.size + 1]? = some (.cells #[v] t2 (0, 0)) := by
  refine ⟨(Below.heap_alloc _ _ _ (by simp)).trans (heap_alloc_new w _), ?_⟩
  have e := heap_alloc_new (w.alloc (.cells #[u] t1)) (.cells #[v] t2)
  rw [World.size_alloc] at e
  exact e
theorem two_set {w : World} {g : Nat} {t1 t2 : TypeId} {u1 u2 : Value} (v1 v2 : Value) (h1 : w.heap[g]? = some (.cells #[u1] t1 (0, 0))) (h2 : w.heap[g + 1]? = some (.cells #[u2] t2 (0, 0))) :
    ((w.setCell ⟨g, 0, none⟩ v1).setCell ⟨g + 1, 0, none⟩ v2).heap[g]? = some (.cells #[v1] t1 (0, 0)) ∧ ((w.setCell ⟨g, 0, none⟩ v1).setCell ⟨g + 1, 0, none⟩ v2).heap[g + 1]? = some (.cells #[v2] t2 (0, 0)) ∧
    Chg (fun k => k = g ∨ k = g + 1) w ((w.setCell ⟨g, 0, none⟩ v1).setCell ⟨g + 1, 0, none⟩ v2) := by
  refine ⟨(heap_setCell_other _ ⟨g + 1, 0, none⟩ g _ (by show g ≠ g + 1; omega)).trans (heap_set w g 0 _ _ v1 h1), heap_set _ (g + 1) 0 _ _ v2 ((heap_setCell_other w ⟨g, 0, none⟩ (g + 1) _ (by show g + 1 ≠ g; omega)).trans h2), ?_⟩
  exact (Chg.grown (grown_set w ⟨g, 0, none⟩ v1) (.inl rfl)).trans (Chg.grown (grown_set _ ⟨g + 1, 0, none⟩ v2) (.inr rfl))
set_option maxHeartbeats 3200000 in
set_option maxRecDepth 100000 in
theorem read_err (s : ByteArray) (f : Value) (w : World) (a c : Int) (hc : Hid (c ≠ 0))
    (hS : Hid (∀ w' : World, Calls Try.prog 58 #[.string s] w' fun e w2 => e = .returned (.tuple #[.slice none 0 0, .int .i64 a, .int .i64 c]) ∧ Below w'.heap.size w' w2)) :
    Calls Try.prog 29 #[.string s, f] w fun e w' => e = .returned (.tuple #[.int .i64 a, .int .i64 c]) ∧ Below w.heap.size w w' := by
  have hmf : ∀ (fn : Fn) (first cap : Array Value) (w : World), (Instr.makeFunc fn first cap).run Try.prog w = .ok (.func fn first cap) w := fun _ _ _ _ => rfl
  have hb0 : Below w.heap.size w ((w.alloc (.cells #[.int .i64 0] 3)).alloc (.cells #[.int .i64 0] 30)) := ((Below.refl _ _).alloc (Nat.le_refl _) _).alloc (by simp) _
  replace hb0 := Lib.hid hb0
  have hne : (c != 0) = true := by rw [bne_iff_ne]; exact hc.out
  go_enter_defers Try.func29, Try.ntmps29
  go_wp2_with fail
  refine (hS.out _).mono ?_
  rintro e w2 ⟨rfl, hb⟩
  obtain ⟨b1, b2⟩ := two_news w 3 30 (.int .i64 0) (.int .i64 0)
  generalize ((w.alloc (.cells #[.int .i64 0] 3)).alloc (.cells #[.int .i64 0] 30)) = W at *
  replace b1 := (hb.block _ (heap_lt b1)).trans b1
  replace b2 := (hb.block _ (heap_lt b2)).trans b2
  have hb1 := Lib.hid (hb0.out.trans (hb.mono hb0.out.size))
  generalize hg : w.heap.size = g at *
  have c1 := box_cell b1
  have c2 := box_cell b2
  have f1 := box_frozen b1
  have f2 := box_frozen b2
  have hgs := heap_lt b2
  replace hg := Lib.hid hg
  obtain ⟨d1, d2, d3⟩ := two_set (.int .i64 a) (.int .i64 c) b1 b2
  clear b1 b2 hb
  go_upto_region 3 with fail
  generalize hW3 : ((w2.setCell ⟨g, 0, none⟩ (.int .i64 a)).setCell ⟨g + 1, 0, none⟩ (.int .i64 c)) = W3 at *
  obtain ⟨e1, e2, e3⟩ := two_set (.int .i64 a) (.int .i64 c) d1 d2
  have hE : Below w.heap.size w ((W3.setCell ⟨g, 0, none⟩ (.int .i64 a)).setCell ⟨g + 1, 0, none⟩ (.int .i64 c)).drew := by
    have hgs2 : g ≤ w2.heap.size := by omega
    have h0 := hb1.out.trans ((d3.trans e3).to_below (B := g) (fun k hk => by omega) hgs2)
    rw [hg.out]
    exact ⟨h0.os, h0.tape, h0.output, h0.size, h0.block⟩
  have z1 := box_cell e1
  have z2 := box_cell e2
  clear c1 c2 f1 f2
  have c1 := box_cell d1
  have c2 := box_cell d2
  have f1 := box_frozen d1
  have f2 := box_frozen d2
  clear d1 d2 d3 e1 e2 e3
  go_region
  go_wp2_with fail
  have q1 : ((W3.setCell ⟨g, 0, none⟩ (.int .i64 a)).setCell ⟨g + 1, 0, none⟩ (.int .i64 c)).drew.cell? ⟨g, 0, none⟩ = some (.int .i64 a) := z1
  have q2 : ((W3.setCell ⟨g, 0, none⟩ (.int .i64 a)).setCell ⟨g + 1, 0, none⟩ (.int .i64 c)).drew.cell? ⟨g + 1, 0, none⟩ = some (.int .i64 c) := z2
  generalize ((W3.setCell ⟨g, 0, none⟩ (.int .i64 a)).setCell ⟨g + 1, 0, none⟩ (.int .i64 c)).drew = W5 at *
  simp [bodyPostD, Leaves, results, Try.results29, go_sem, q1, q2, hE]
end Go.Proofs.Ytljcpgeggbbmfaa
namespace Go.Proofs.Ytljcpgeggbbmfaa
set_option linter.unusedVariables false
set_option linter.unusedSimpArgs false
open Go.RowKit
theorem split_ok (s : ByteArray) (w : World) (h2 : s.size ≤ 131072) (hok : okAll s = true) :
    Calls Try.prog 58 #[.string s] w fun e w' => ∃ A C, e = .returned (.tuple #[.slice A (wordsL s).length C, .int .i64 0, .int .i64 0]) ∧ w'.ownsRow w.heap.size 118 2 (.slice A (wordsL s).length C) (wordsL s).length ((wordsL s).flatMap wordV) ∧ Below w.heap.size w w' :=
  (split_any s w (by omega)).mono fun e w' h => by
    rcases h with h | ⟨k, _, hb, _⟩ | ⟨_, _, A, C, h1, h3, h4⟩
    · omega
    · rw [bad_all hb] at hok; cases hok
    · exact ⟨A, C, h1, h3, h4⟩
theorem split_bad (s : ByteArray) (w : World) (h2 : s.size ≤ 131072) {k : Nat} (hk : IsBad s k) :
    Calls Try.prog 58 #[.string s] w fun e w' => e = .returned (.tuple #[.slice none 0 0, .int .i64 (k : Int), .int .i64 3]) ∧ Below w.heap.size w w' :=
  (split_any s w (by omega)).mono fun e w' h => by
    rcases h with h | ⟨j, _, hb, he, hw⟩ | ⟨_, hok, _⟩
    · omega
    · rw [bad_unique hb hk] at he; exact ⟨he, hw⟩
    · rw [bad_all hk] at hok; cases hok
theorem split_long (s : ByteArray) (w : World) (h2 : 131072 < s.size) (hs : s.size ≤ 9223372036854775807) :
    Calls Try.prog 58 #[.string s] w fun e w' => e = .returned (.tuple #[.slice none 0 0, .int .i64 0, .int .i64 4]) ∧ Below w.heap.size w w' :=
  (split_any s w hs).mono fun e w' h => by
    rcases h with h | ⟨j, h, _⟩ | ⟨h, _⟩
    · exact ⟨h.2.1, h.2.2⟩
    · omega
    · omega
/-- what a function that is handed a reader may leave. -/
def DoEnd (may : Nat → Prop) (Rok : Nat → World → Prop) (Rerr : Int → Int → World → Prop) (s : ByteArray) (w1 : World) (p : Nat) (A : Option Addr) (C : Nat) (e : Ending) (w2 : World) : Prop :=
  Chg (fun k => k = p ∨ may k) w1 w2 ∧ ((∃ i, e = .returned (.tuple #[]) ∧ RdrIs w2 p A C (wordsL s) i s.size ∧ Rok i w2) ∨ (∃ a c, e = PanEnd a c ∧ Rerr a c w2))
/-- what Read leaves then. -/
def ReadEnd (may : Nat → Prop) (Rok : Nat → World → Prop) (Rerr : Int → Int → World → Prop) (s : ByteArray) (w : World) (e : Ending) (w3 : World) : Prop :=
  Chg (fun k => may k ∨ w.heap.size ≤ k) w w3 ∧
  ((∃ i, Rok i w3 ∧ e = .returned (.tuple #[.int .i64 (if i < (wordsL s).length then (placeN (wordsL s) i s.size : Int) else 0), .int .i64 (if i < (wordsL s).length then 6 else 0)])) ∨
   (∃ a c, Rerr a c w3 ∧ e = .returned (.tuple #[.int .i64 a, .int .i64 c])))
end Go.Proofs.Ytljcpgeggbbmfaa
