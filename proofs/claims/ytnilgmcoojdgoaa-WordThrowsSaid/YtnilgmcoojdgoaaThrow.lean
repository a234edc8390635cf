/-
  The walks of WordThrows (layer 5): what else is thrown within is thrown on.
-/
import Derived.Test.YtnilgmcoojdgoaaLaws5
namespace Go.Proofs.Ytnilgmcoojdgoaa
set_option linter.unusedVariables false
set_option linter.unusedSimpArgs false
open Go.RowKit
/-- a number, as it is thrown. -/
def numV (n : Int) : Value := .iface 2 (.int .i64 n)
def Thrown (n : Int) : Ending := .panicked [{ v := numV n, recovered := false }]
set_option maxHeartbeats 1600000 in
theorem thrower_any (r : Value) (q : Nat) (n : Int) (w : World) (h : w.cell? ⟨q, 0, none⟩ = some (.int .i64 n)) :
    Calls Try.prog 20 #[r, .pointer (some ⟨q, 0, none⟩)] w fun e w' => e = Thrown n ∧ w' = w := by
  go_enter Try.func20, Try.ntmps20
  go_wp2_with fail
  exact ⟨rfl, rfl, rfl⟩
set_option maxHeartbeats 1600000 in
set_option maxRecDepth 100000 in
/-- Read's deferred closure where a number is thrown: it is thrown anew. -/
theorem catch_other (p q : Addr) (n : Int) (older : List PanicEntry) (w : World) :
    CallsD Try.prog 38 #[.pointer (some p), .pointer (some q)] (.panicking ({ v := numV n, recovered := false } :: older)) w fun e u' w' =>
      e = Thrown n ∧ u' = .panicking ({ v := numV n, recovered := true } :: older) ∧ Below w.heap.size w w' := by
  refine callsD_of_wpS Try.func38 rfl fun c₀ cs hu => ?_
  have hta : ∀ w : World, (Instr.typeAssert (.iface 2 (.int .i64 n)) 20 79 true).run Try.prog w = .ok (.tuple #[.agg #[.int .i64 0, .int .i64 0], .bool false]) w := fun _ => by kernel_rfl
  unfold Thrown numV at *
  apply wpS_seq
  apply wpS_region
  simp [wpOpsS, go_sem, recoverD, hu, Try.ntmps38, Exit.thenS]
  rw [frame20]
  refine wpS_of_wp ?_
  go_wp2_with fail
  exact ⟨rfl, _, rfl, rfl, rfl, (Below.refl _ _).alloc (Nat.le_refl _) _⟩
set_option maxHeartbeats 8000000 in
set_option maxRecDepth 100000 in
theorem read_throws (q : Nat) (n : Int) (s : ByteArray) (w : World) (h2 : s.size ≤ 131072) (hok : okAll s = true) (hq : w.cell? ⟨q, 0, none⟩ = some (.int .i64 n)) :
    Calls Try.prog 17 #[.string s, .func (.func 20) #[] #[.pointer (some ⟨q, 0, none⟩)]] w fun e w' => e = .panicked [{ v := numV n, recovered := false }, { v := numV n, recovered := true }] ∧ Below w.heap.size w w' := by
  have hmf : ∀ (fn : Fn) (first cap : Array Value) (w : World), (Instr.makeFunc fn first cap).run Try.prog w = .ok (.func fn first cap) w := fun _ _ _ _ => rfl
  have hfn : ∀ w : World, (binOp BinOp.neq 39 (.func (.func 20) #[] #[.pointer (some ⟨q, 0, none⟩)]) .nilFunc).run Try.prog w = .ok (.bool true) w := fun _ => by kernel_rfl
  have hS := Lib.hid (fun w' => split_ok s w' h2 hok)
  have hb0 : Below w.heap.size w ((w.alloc (.cells #[.int .i64 0] 3)).alloc (.cells #[.int .i64 0] 24)) := ((Below.refl _ _).alloc (Nat.le_refl _) _).alloc (by simp) _
  replace hb0 := Lib.hid hb0
  have hwl := Lib.hid (wordsL_len s)
  go_enter_defers Try.func17, Try.ntmps17
  go_wp2_with fail
  refine (hS.out _).mono ?_
  rintro e w2 ⟨A, C, rfl, hO, hb⟩
  obtain ⟨b1, b2⟩ := two_news w 3 24 (.int .i64 0) (.int .i64 0)
  have hWs : ((w.alloc (.cells #[.int .i64 0] 3)).alloc (.cells #[.int .i64 0] 24)).heap.size = w.heap.size + 2 := by simp
  generalize ((w.alloc (.cells #[.int .i64 0] 3)).alloc (.cells #[.int .i64 0] 24)) = W at *
  replace b1 := (hb.block _ (heap_lt b1)).trans b1
  replace b2 := (hb.block _ (heap_lt b2)).trans b2
  have hb1 := Lib.hid (hb0.out.trans (hb.mono hb0.out.size))
  generalize hg : w.heap.size = g at *
  have c1 := box_cell b1
  have c2 := box_cell b2
  have f1 := box_frozen b1
  have f2 := box_frozen b2
  have hgs := heap_lt b2
  replace hg := Lib.hid hg
  obtain ⟨d1, d2, d3⟩ := two_set (.int .i64 0) (.int .i64 0) b1 b2
  have hO3 := own_set (own_set hO (by omega : g < W.heap.size) 0 (.int .i64 0)) (by omega : g + 1 < W.heap.size) 0 (.int .i64 0)
  have hB3 := hb1.out.trans (d3.to_below (B := g) (fun k hk => by omega) (by omega))
  replace d1 := Lib.hid d1
  replace d2 := Lib.hid d2
  replace d3 := Lib.hid d3
  replace hO3 := Lib.hid hO3
  replace hB3 := Lib.hid hB3
  clear b1 b2 hb hO
  go_upto_region 5 with fail
  generalize hW3 : ((w2.setCell ⟨g, 0, none⟩ (.int .i64 0)).setCell ⟨g + 1, 0, none⟩ (.int .i64 0)) = W3 at *
  have hs3 := heap_lt d2.out
  replace hW3 := Lib.hid hW3
  clear c1 c2 f1 f2 hgs
  have hR4 : RdrIs (W3.alloc (.cells #[.slice A (wordsL s).length C, .int .i64 0, .int .i64 (s.size : Int)] 82)) W3.heap.size A C (wordsL s) 0 s.size :=
    ⟨heap_alloc_new W3 _, (own_rd' hO3.out).below ((Below.refl _ _).alloc (Nat.le_refl _) _), fun a ha => (own_lt hO3.out (g := a.block) (by rw [ha]; rfl)).2, Nat.zero_le _, by have := hwl.out; omega⟩
  have hB4 := hB3.out.alloc (by omega) (.cells #[.slice A (wordsL s).length C, .int .i64 0, .int .i64 (s.size : Int)] 82)
  have z1 := (Below.heap_alloc W3 (.cells #[.slice A (wordsL s).length C, .int .i64 0, .int .i64 (s.size : Int)] 82) g (by omega)).trans d1.out
  have z2 := (Below.heap_alloc W3 (.cells #[.slice A (wordsL s).length C, .int .i64 0, .int .i64 (s.size : Int)] 82) (g + 1) hs3).trans d2.out
  replace hR4 := Lib.hid hR4
  replace hB4 := Lib.hid hB4
  replace z1 := Lib.hid z1
  replace z2 := Lib.hid z2
  go_upto_region 7 with fail
  generalize hW4 : W3.alloc (.cells #[.slice A (wordsL s).length C, .int .i64 0, .int .i64 (s.size : Int)] 82) = W4 at *
  generalize hp : W3.heap.size = p at *
  have hpl : g + 2 ≤ p := by omega
  clear hW3 hW4 hO3 hB3 d1 d2 d3 hb1 hb0
  have hq4 : W4.cell? ⟨q, 0, none⟩ = some (.int .i64 n) := keep_cell (by rw [hg.out]; exact hB4.out) hq
  go_wp2_with fail
  refine (thrower_any _ q n _ hq4).mono ?_
  rintro e w5 ⟨rfl, rfl⟩
  unfold Thrown
  go_wp2_with fail
  refine leaves_cons (f := 38) (args := #[.pointer (some ⟨g, 0, none⟩), .pointer (some ⟨g + 1, 0, none⟩)]) (by simp) (by simp [go_sem]) ?_
  refine (catch_other ⟨g, 0, none⟩ ⟨g + 1, 0, none⟩ n [] _).mono ?_
  rintro e u' w8 ⟨rfl, rfl, hb8⟩
  have hend : Below w.heap.size w w8 := by rw [hg.out]; exact hB4.out.trans (hb8.mono (by have := heap_lt z2.out; omega))
  simp [Thrown, Leaves, raised, hend]
set_option maxHeartbeats 1600000 in
theorem throws1_any (a q : Nat) (n : Int) (s : ByteArray) (w : World) (h2 : s.size ≤ 131072) (hok : okAll s = true) (ha : w.cell? ⟨a, 0, none⟩ = some (.string s)) (hq : w.cell? ⟨q, 0, none⟩ = some (.int .i64 n)) :
    Calls Try.prog 19 #[.pointer (some ⟨a, 0, none⟩), .pointer (some ⟨q, 0, none⟩)] w fun e w' => e = .panicked [{ v := numV n, recovered := false }, { v := numV n, recovered := true }] ∧ Below w.heap.size w w' := by
  have hmf : ∀ (fn : Fn) (first cap : Array Value) (w : World), (Instr.makeFunc fn first cap).run Try.prog w = .ok (.func fn first cap) w := fun _ _ _ _ => rfl
  have hR := Lib.hid (read_throws q n s w h2 hok hq)
  go_enter Try.func19, Try.ntmps19
  go_wp2_with fail
  refine hR.out.mono ?_
  rintro e w2 ⟨rfl, hb⟩
  go_wp2_with fail
  exact ⟨rfl, rfl, hb⟩
set_option maxHeartbeats 1600000 in
set_option maxRecDepth 100000 in
/-- thrown's deferred closure, where a number is thrown. -/
theorem catch_num (bp : Nat) (n : Int) (older : List PanicEntry) (w : World) (h1 : w.heap[bp]? = some (.cells #[.int .i64 0] 2 (0, 0))) (h2 : w.heap[bp + 1]? = some (.cells #[.bool false] 4 (0, 0))) :
    CallsD Try.prog 40 #[.pointer (some ⟨bp, 0, none⟩), .pointer (some ⟨bp + 1, 0, none⟩)] (.panicking ({ v := numV n, recovered := false } :: older)) w fun e u' w' =>
      e = .returned (.tuple #[]) ∧ u' = .panicking ({ v := numV n, recovered := true } :: older) ∧ w' = (w.setCell ⟨bp, 0, none⟩ (.int .i64 n)).setCell ⟨bp + 1, 0, none⟩ (.bool true) := by
  refine callsD_of_wpS Try.func40 rfl fun c₀ cs hu => ?_
  have hta : ∀ w : World, (Instr.typeAssert (.iface 2 (.int .i64 n)) 20 2 true).run Try.prog w = .ok (.tuple #[.int .i64 n, .bool true]) w := fun _ => by kernel_rfl
  have c1 := box_cell h1
  have c2 := box_cell h2
  have f1 := box_frozen h1
  have f2 := box_frozen h2
  unfold numV at *
  apply wpS_region
  simp [wpOpsS, go_sem, recoverD, hu, Try.ntmps40, hta, c1, c2, f1, f2]
  refine ⟨rfl, _, rfl, .tuple #[], ?_, rfl, rfl, rfl⟩
  simp [results, Try.results40]
set_option maxHeartbeats 1600000 in
set_option maxRecDepth 100000 in
theorem thrown_any (a q : Nat) (n : Int) (s : ByteArray) (w : World) (h2 : s.size ≤ 131072) (hok : okAll s = true) (ha : w.cell? ⟨a, 0, none⟩ = some (.string s)) (hq : w.cell? ⟨q, 0, none⟩ = some (.int .i64 n)) :
    Calls Try.prog 18 #[.func (.func 19) #[] #[.pointer (some ⟨a, 0, none⟩), .pointer (some ⟨q, 0, none⟩)]] w fun e w' => e = .returned (.tuple #[.int .i64 n, .bool true]) ∧ Below w.heap.size w w' := by
  have hmf : ∀ (fn : Fn) (first cap : Array Value) (w : World), (Instr.makeFunc fn first cap).run Try.prog w = .ok (.func fn first cap) w := fun _ _ _ _ => rfl
  have hb0 : Below w.heap.size w ((w.alloc (.cells #[.int .i64 0] 2)).alloc (.cells #[.bool false] 4)) := ((Below.refl _ _).alloc (Nat.le_refl _) _).alloc (by simp) _
  obtain ⟨b1, b2⟩ := two_news w 2 4 (.int .i64 0) (.bool false)
  have hT := Lib.hid (throws1_any a q n s _ h2 hok (keep_cell hb0 ha) (keep_cell hb0 hq))
  replace hb0 := Lib.hid hb0
  replace b1 := Lib.hid b1
  replace b2 := Lib.hid b2
  go_enter_defers Try.func18, Try.ntmps18
  go_wp2_with fail
  refine hT.out.mono ?_
  rintro e w2 ⟨rfl, hb⟩
  have d1 := (hb.block _ (heap_lt b1.out)).trans b1.out
  have d2 := (hb.block _ (heap_lt b2.out)).trans b2.out
  have hbb := hb0.out.trans (hb.mono hb0.out.size)
  generalize hg : w.heap.size = g at *
  replace d1 := Lib.hid d1
  replace d2 := Lib.hid d2
  replace hbb := Lib.hid hbb
  replace hg := Lib.hid hg
  clear hb
  go_wp2_with fail
  refine leaves_cons (f := 40) (args := #[.pointer (some ⟨g, 0, none⟩), .pointer (some ⟨g + 1, 0, none⟩)]) (by simp) (by simp [go_sem]) ?_
  refine (catch_num g n _ _ d1.out d2.out).mono ?_
  rintro e u' w8 ⟨rfl, rfl, rfl⟩
  obtain ⟨v1, v2, hC⟩ := two_set (.int .i64 n) (.bool true) d1.out d2.out
  have v3 := box_cell v1
  have v4 := box_cell v2
  have hend : Below w.heap.size w ((w2.setCell ⟨g, 0, none⟩ (.int .i64 n)).setCell ⟨g + 1, 0, none⟩ (.bool true)) := by
    rw [hg.out]
    have := heap_lt d2.out
    exact hbb.out.trans (hC.to_below (fun k hk => by omega) (by omega))
  generalize ((w2.setCell ⟨g, 0, none⟩ (.int .i64 n)).setCell ⟨g + 1, 0, none⟩ (.bool true)) = W9 at *
  simp [Leaves, settle, results, Try.results18, go_sem, v3, v4, hend]
set_option maxHeartbeats 1600000 in
set_option maxRecDepth 100000 in
theorem law_WordThrows (w : World) (s : ByteArray) (hs : s.size ≤ maxLen) (n : Int) (hn : (Lit.int .i64 n).wf = true) :
    Calls Try.prog 5 #[.string s, .int .i64 n] w fun e w' => e = .returned (.bool true) ∧ Below w.heap.size w w' := by
  have hs2 : s.size ≤ 9223372036854775807 := by unfold maxLen at hs; omega
  clear hs
  have hmf : ∀ (fn : Fn) (first cap : Array Value) (w : World), (Instr.makeFunc fn first cap).run Try.prog w = .ok (.func fn first cap) w := fun _ _ _ _ => rfl
  have hA := Lib.hid awake5_any
  have hb0 : Below w.heap.size w ((w.alloc (.cells #[.string s] 9)).alloc (.cells #[.int .i64 n] 2)) := ((Below.refl _ _).alloc (Nat.le_refl _) _).alloc (by simp) _
  obtain ⟨b1, b2⟩ := two_news w 9 2 (.string s) (.int .i64 n)
  replace hb0 := Lib.hid hb0
  replace b1 := Lib.hid (box_cell b1)
  replace b2 := Lib.hid (box_cell b2)
  go_enter Try.func5, Try.ntmps5
  go_wp2_with fail
  refine (hA.out _).mono ?_
  rintro e w1 ⟨rfl, hb1⟩
  have d1 := keep_cell hb1 b1.out
  have d2 := keep_cell hb1 b2.out
  have hbb := Lib.hid (hb0.out.trans (hb1.mono hb0.out.size))
  clear hb1 b1 b2 hb0
  by_cases h2 : 200 < s.size
  · go_wp2_with fail
    go_ret
    exact ⟨rfl, hbb.out⟩
  · rcases bad_or s with hok | ⟨k, hk⟩
    · have hW := Lib.hid (fun w' => words_ok s w' (by omega) hok)
      have hT := Lib.hid (fun w' => thrown_any w.heap.size (w.heap.size + 1) n s w' (by omega) hok)
      clear hok
      go_wp2_with fail
      refine (hW.out _).mono ?_
      rintro e w3 ⟨A, C, rfl, hO, hb3⟩
      have e1 := keep_cell hb3 d1
      have e2 := keep_cell hb3 d2
      have hbs := Lib.hid (hbb.out.trans (hb3.mono hbb.out.size))
      clear hb3 d1 d2 hO
      go_wp2_with fail
      refine (hT.out _ e1 e2).mono ?_
      rintro e w4 ⟨rfl, hb4⟩
      have e3 := keep_cell hb4 e2
      have hbt := Lib.hid (hbs.out.trans (hb4.mono hbs.out.size))
      clear hb4 e1 e2
      go_wp2_with fail
      go_ret
      exact ⟨rfl, hbt.out⟩
    · have hW := Lib.hid (fun w' => words_bad s w' (by omega) hk)
      have k0 : (0 : Int) ≤ (k : Int) := by omega
      clear hk
      go_wp2_with fail
      refine (hW.out _).mono ?_
      rintro e w3 ⟨rfl, hb3⟩
      have hbs := Lib.hid (hbb.out.trans (hb3.mono hbb.out.size))
      clear hb3
      go_wp2_with fail
      go_ret
      exact ⟨rfl, hbs.out⟩
end Go.Proofs.Ytnilgmcoojdgoaa
