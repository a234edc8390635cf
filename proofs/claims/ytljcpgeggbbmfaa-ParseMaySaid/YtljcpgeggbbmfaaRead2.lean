/-
  The walk of word.Read with no function (layer 5).
-/
import Derived.Test.YtljcpgeggbbmfaaRead
namespace Go.Proofs.Ytljcpgeggbbmfaa
set_option linter.unusedVariables false
set_option linter.unusedSimpArgs false
open Go.RowKit
theorem box_cell {w : World} {b : Nat} {v : Value} {t : TypeId} (h : w.heap[b]? = some (.cells #[v] t (0, 0))) : w.cell? ⟨b, 0, none⟩ = some v := cell_of_row w b 0 _ _ _ h
theorem box_frozen {w : World} {b : Nat} {v : Value} {t : TypeId} (h : w.heap[b]? = some (.cells #[v] t (0, 0))) : w.frozen? ⟨b, 0, none⟩ = false := frozen_of_row w b 0 _ _ h
theorem two_news (w : World) (t1 t2 : TypeId) (u v : Value) : ((w.alloc (.cells #[u] t1)).alloc (.cells #[v] t2)).heap[w.heap.size]? = some (.cells #[u] t1 (0, 0)) ∧ ((w.alloc (.cells #[u] t1)).alloc (.cells #[v] t2)).heap[w.heap.size + 1]? = some (.cells #[v] t2 (0, 0)) := by
  refine ⟨(Below.heap_alloc _ _ _ (by simp)).trans (heap_alloc_new w _), ?_⟩
  have e := heap_alloc_new (w.alloc (.cells #[u] t1)) (.cells #[v] t2)
  rw [World.size_alloc] at e
  exact e
theorem two_set {w : World} {g : Nat} {t1 t2 : TypeId} {u1 u2 : Value} (v1 v2 : Value) (h1 : w.heap[g]? = some (.cells #[u1] t1 (0, 0))) (h2 : w.heap[g + 1]? = some (.cells #[u2] t2 (0, 0))) :
    ((w.setCell ⟨g, 0, none⟩ v1).setCell ⟨g + 1, 0, none⟩ v2).heap[g]? = some (.cells #[v1] t1 (0, 0)) ∧ ((w.setCell ⟨g, 0, none⟩ v1).setCell ⟨g + 1, 0, none⟩ v2).heap[g + 1]? = some (.cells #[v2] t2 (0, 0)) ∧
    Chg (fun k => k = g ∨ k = g + 1) w ((w.setCell ⟨g, 0, none⟩ v1).setCell ⟨g + 1, 0, none⟩ v2) := by
  refine ⟨(heap_setCell_other _ ⟨g + 1, 0, none⟩ g _ (by show g ≠ g + 1; omega)).trans (heap_set w g 0 _ _ v1 h1), heap_set _ (g + 1) 0 _ _ v2 ((heap_setCell_other w ⟨g, 0, none⟩ (g + 1) _ (by show g + 1 ≠ g; omega)).trans h2), ?_⟩
  exact (Chg.grown (grown_set w ⟨g, 0, none⟩ v1) (.inl rfl)).trans (Chg.grown (grown_set _ ⟨g + 1, 0, none⟩ v2) (.inr rfl))
set_option maxHeartbeats 3200000 in
set_option maxRecDepth 100000 in
theorem read_err (s : ByteArray) (f : Value) (w : World) (a c : Int) (hc : Hid (c ≠ 0))
    (hS : Hid (∀ w' : World, Calls Try.prog 58 #[.string s] w' fun e w2 => e = .returned (.tuple #[.slice none 0 0, .int .i64 a, .int .i64 c]) ∧ Below w'.heap.size w' w2)) :
    Calls Try.prog 29 #[.string s, f] w fun e w' => e = .returned (.tuple #[.int .i64 a, .int .i64 c]) ∧ Below w.heap.size w w' := by
  have hmf : ∀ (fn : Fn) (first cap : Array Value) (w : World), (Instr.makeFunc fn first cap).run Try.prog w = .ok (.func fn first cap) w := fun _ _ _ _ => rfl
  have hb0 : Below w.heap.size w ((w.alloc (.cells #[.int .i64 0] 3)).alloc (.cells #[.int .i64 0] 30)) := ((Below.refl _ _).alloc (Nat.le_refl _) _).alloc (by simp) _
  replace hb0 := Lib.hid hb0
  have hne : (c != 0) = true := by rw [bne_iff_ne]; exact hc.out
  go_enter_defers Try.func29, Try.ntmps29
  go_wp2_with fail
  refine (hS.out _).mono ?_
  rintro e w2 ⟨rfl, hb⟩
  obtain ⟨b1, b2⟩ := two_news w 3 30 (.int .i64 0) (.int .i64 0)
  generalize ((w.alloc (.cells #[.int .i64 0] 3)).alloc (.cells #[.int .i64 0] 30)) = W at *
  replace b1 := (hb.block _ (heap_lt b1)).trans b1
  replace b2 := (hb.block _ (heap_lt b2)).trans b2
  have hb1 := Lib.hid (hb0.out.trans (hb.mono hb0.out.size))
  generalize hg : w.heap.size = g at *
  have c1 := box_cell b1
  have c2 := box_cell b2
  have f1 := box_frozen b1
  have f2 := box_frozen b2
  have hgs := heap_lt b2
  replace hg := Lib.hid hg
  obtain ⟨d1, d2, d3⟩ := two_set (.int .i64 a) (.int .i64 c) b1 b2
  clear b1 b2 hb
  go_upto_region 3 with fail
  generalize hW3 : ((w2.setCell ⟨g, 0, none⟩ (.int .i64 a)).setCell ⟨g + 1, 0, none⟩ (.int .i64 c)) = W3 at *
  obtain ⟨e1, e2, e3⟩ := two_set (.int .i64 a) (.int .i64 c) d1 d2
  have hE : Below w.heap.size w ((W3.setCell ⟨g, 0, none⟩ (.int .i64 a)).setCell ⟨g + 1, 0, none⟩ (.int .i64 c)).drew := by
    have hgs2 : g ≤ w2.heap.size := by omega
    have h0 := hb1.out.trans ((d3.trans e3).to_below (B := g) (fun k hk => by omega) hgs2)
    rw [hg.out]
    exact ⟨h0.os, h0.tape, h0.output, h0.size, h0.block⟩
  have z1 := box_cell e1
  have z2 := box_cell e2
  clear c1 c2 f1 f2
  have c1 := box_cell d1
  have c2 := box_cell d2
  have f1 := box_frozen d1
  have f2 := box_frozen d2
  clear d1 d2 d3 e1 e2 e3
  go_region
  go_wp2_with fail
  have q1 : ((W3.setCell ⟨g, 0, none⟩ (.int .i64 a)).setCell ⟨g + 1, 0, none⟩ (.int .i64 c)).drew.cell? ⟨g, 0, none⟩ = some (.int .i64 a) := z1
  have q2 : ((W3.setCell ⟨g, 0, none⟩ (.int .i64 a)).setCell ⟨g + 1, 0, none⟩ (.int .i64 c)).drew.cell? ⟨g + 1, 0, none⟩ = some (.int .i64 c) := z2
  generalize ((W3.setCell ⟨g, 0, none⟩ (.int .i64 a)).setCell ⟨g + 1, 0, none⟩ (.int .i64 c)).drew = W5 at *
  simp [bodyPostD, Leaves, results, Try.results29, go_sem, q1, q2, hE]
end Go.Proofs.Ytljcpgeggbbmfaa
