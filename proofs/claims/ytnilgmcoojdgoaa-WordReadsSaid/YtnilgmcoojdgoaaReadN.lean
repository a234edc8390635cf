/-
  The contract of word.Read with no function (layer 5).
-/
import Derived.Test.YtnilgmcoojdgoaaRead3
namespace Go.Proofs.Ytnilgmcoojdgoaa
set_option linter.unusedVariables false
set_option linter.unusedSimpArgs false
open Go.RowKit
/-- what Read leaves where nothing is done with the words. -/
def nilE (ws : List WordD) (n : Nat) : Ending := .returned (.tuple #[.int .i64 (if 0 < ws.length then (placeN ws 0 n : Int) else 0), .int .i64 (if 0 < ws.length then 6 else 0)])
set_option maxHeartbeats 8000000 in
set_option maxRecDepth 100000 in
theorem read_nil (s : ByteArray) (w : World) (h2 : s.size ≤ 131072) (hok : okAll s = true) :
    Calls Try.prog 17 #[.string s, .nilFunc] w fun e w' => e = nilE (wordsL s) s.size ∧ Below w.heap.size w w' := by
  have hmf : ∀ (fn : Fn) (first cap : Array Value) (w : World), (Instr.makeFunc fn first cap).run Try.prog w = .ok (.func fn first cap) w := fun _ _ _ _ => rfl
  have hfn : ∀ w : World, (binOp BinOp.neq 39 .nilFunc .nilFunc).run Try.prog w = .ok (.bool false) w := fun _ => by kernel_rfl
  have hS := Lib.hid (fun w' => split_ok s w' h2 hok)
  have hb0 : Below w.heap.size w ((w.alloc (.cells #[.int .i64 0] 3)).alloc (.cells #[.int .i64 0] 24)) := ((Below.refl _ _).alloc (Nat.le_refl _) _).alloc (by simp) _
  replace hb0 := Lib.hid hb0
  have hwl := Lib.hid (wordsL_len s)
  go_enter_defers Try.func17, Try.ntmps17
  go_wp2_with fail
  refine (hS.out _).mono ?_
  rintro e w2 ⟨A, C, rfl, hO, hb⟩
  obtain ⟨b1, b2⟩ := two_news w 3 24 (.int .i64 0) (.int .i64 0)
  have hWs : ((w.alloc (.cells #[.int .i64 0] 3)).alloc (.cells #[.int .i64 0] 24)).heap.size = w.heap.size + 2 := by simp
  generalize ((w.alloc (.cells #[.int .i64 0] 3)).alloc (.cells #[.int .i64 0] 24)) = W at *
  replace b1 := (hb.block _ (heap_lt b1)).trans b1
  replace b2 := (hb.block _ (heap_lt b2)).trans b2
  have hb1 := Lib.hid (hb0.out.trans (hb.mono hb0.out.size))
  generalize hg : w.heap.size = g at *
  have c1 := box_cell b1
  have c2 := box_cell b2
  have f1 := box_frozen b1
  have f2 := box_frozen b2
  have hgs := heap_lt b2
  replace hg := Lib.hid hg
  obtain ⟨d1, d2, d3⟩ := two_set (.int .i64 0) (.int .i64 0) b1 b2
  have hO3 := own_set (own_set hO (by omega : g < W.heap.size) 0 (.int .i64 0)) (by omega : g + 1 < W.heap.size) 0 (.int .i64 0)
  have hB3 := hb1.out.trans (d3.to_below (B := g) (fun k hk => by omega) (by omega))
  replace d1 := Lib.hid d1
  replace d2 := Lib.hid d2
  replace d3 := Lib.hid d3
  replace hO3 := Lib.hid hO3
  replace hB3 := Lib.hid hB3
  clear b1 b2 hb hO
  go_upto_region 5 with fail
  generalize hW3 : ((w2.setCell ⟨g, 0, none⟩ (.int .i64 0)).setCell ⟨g + 1, 0, none⟩ (.int .i64 0)) = W3 at *
  have hs3 := heap_lt d2.out
  replace hW3 := Lib.hid hW3
  clear c1 c2 f1 f2 hgs
  have hR4 : RdrIs (W3.alloc (.cells #[.slice A (wordsL s).length C, .int .i64 0, .int .i64 (s.size : Int)] 82)) W3.heap.size A C (wordsL s) 0 s.size :=
    ⟨heap_alloc_new W3 _, (own_rd' hO3.out).below ((Below.refl _ _).alloc (Nat.le_refl _) _), fun a ha => (own_lt hO3.out (g := a.block) (by rw [ha]; rfl)).2, Nat.zero_le _, by have := hwl.out; omega⟩
  have hB4 := hB3.out.alloc (by omega) (.cells #[.slice A (wordsL s).length C, .int .i64 0, .int .i64 (s.size : Int)] 82)
  have z1 := (Below.heap_alloc W3 (.cells #[.slice A (wordsL s).length C, .int .i64 0, .int .i64 (s.size : Int)] 82) g (by omega)).trans d1.out
  have z2 := (Below.heap_alloc W3 (.cells #[.slice A (wordsL s).length C, .int .i64 0, .int .i64 (s.size : Int)] 82) (g + 1) hs3).trans d2.out
  replace hR4 := Lib.hid hR4
  replace hB4 := Lib.hid hB4
  replace z1 := Lib.hid z1
  replace z2 := Lib.hid z2
  go_upto_region 8 with fail
  generalize hW4 : W3.alloc (.cells #[.slice A (wordsL s).length C, .int .i64 0, .int .i64 (s.size : Int)] 82) = W4 at *
  generalize hp : W3.heap.size = p at *
  have hpl : g + 2 ≤ p := by omega
  clear hW3 hW4 hO3 hB3 d1 d2 d3 hb1 hb0
  have hCw : Chg (fun k => w.heap.size ≤ k) w W4 := Chg.mono (Chg.below (may := fun _ => False) (by rw [hg.out]; exact hB4.out)) (fun k _ h => h.elim)
  replace hCw := Lib.hid hCw
  have n1 : ¬ g = g + 1 := by omega
  have fin : ∀ w8 : World, Chg (fun k => k = g ∨ k = g + 1) W4 w8 → Below w.heap.size w w8 := fun w8 h8 => (hCw.out.trans (h8.mono (fun k _ h => by have := hg.out; omega))).to_below (fun k hk => by omega) (Nat.le_refl _)
  replace fin := Lib.hid fin
  by_cases hmore : 0 < (wordsL s).length
  · have hbm := Lib.hid (decide_eq_true hmore)
    have hpl2 := Lib.hid hmore
    clear hmore
    go_wp2_with fail
    refine (more_any p A C (wordsL s) 0 s.size true hbm _ hR4.out).mono ?_
    rintro e w6 ⟨rfl, q6, rfl⟩
    go_wp2_with fail
    refine (fail_any p A C (wordsL s) 0 s.size 6 _ (hR4.out.drewN q6)).mono ?_
    rintro e w7 ⟨rfl, q7, rfl⟩
    unfold PanEnd
    go_wp2_with fail
    refine leaves_cons (f := 38) (args := #[.pointer (some ⟨g, 0, none⟩), .pointer (some ⟨g + 1, 0, none⟩)]) (by simp) (by simp [go_sem]) ?_
    refine (catch_fault g (g + 1) 0 0 _ _ [] _ (by exact box_cell z1.out) (by exact box_frozen z1.out) (by exact box_cell z2.out) (by exact box_frozen z2.out) n1).mono ?_
    rintro e u' w8 ⟨rfl, rfl, v1, v2, hC8⟩
    have hend : Ending.returned (.tuple #[.int .i64 (placeN (wordsL s) 0 s.size : Int), .int .i64 6]) = nilE (wordsL s) s.size ∧ Below w.heap.size w w8 := ⟨by unfold nilE; rw [if_pos hpl2.out, if_pos hpl2.out], fin.out w8 ((Chg.drewN W4 _).trans hC8)⟩
    simp [Leaves, settle, results, Try.results17, go_sem, v1, v2, hend]
  · have hbm := Lib.hid (decide_eq_false hmore)
    have hpl2 := Lib.hid hmore
    clear hmore
    have x1 := box_cell z1.out
    have x2 := box_cell z2.out
    have x3 := box_frozen z1.out
    have x4 := box_frozen z2.out
    go_wp2_with fail
    refine (more_any p A C (wordsL s) 0 s.size false hbm _ hR4.out).mono ?_
    rintro e w6 ⟨rfl, q6, rfl⟩
    go_wp2_with fail
    refine leaves_cons (f := 38) (args := #[.pointer (some ⟨g, 0, none⟩), .pointer (some ⟨g + 1, 0, none⟩)]) (by simp) (by simp [go_sem]) ?_
    refine (catch_idle ⟨g, 0, none⟩ ⟨g + 1, 0, none⟩ _).mono ?_
    rintro e u' w8 ⟨rfl, rfl, rfl⟩
    obtain ⟨v1, v2, hC8⟩ := two_set (w := W4.drewN q6) (.int .i64 0) (.int .i64 0) z1.out z2.out
    have hend : Ending.returned (.tuple #[.int .i64 0, .int .i64 0]) = nilE (wordsL s) s.size ∧ Below w.heap.size w (((W4.drewN q6).setCell ⟨g, 0, none⟩ (.int .i64 0)).setCell ⟨g + 1, 0, none⟩ (.int .i64 0)) := ⟨by unfold nilE; rw [if_neg hpl2.out, if_neg hpl2.out], fin.out _ ((Chg.drewN W4 q6).trans hC8)⟩
    have v3 := box_cell v1
    have v4 := box_cell v2
    generalize (((W4.drewN q6).setCell ⟨g, 0, none⟩ (.int .i64 0)).setCell ⟨g + 1, 0, none⟩ (.int .i64 0)) = W9 at *
    simp [Leaves, settle, results, Try.results17, go_sem, v3, v4, hend]
end Go.Proofs.Ytnilgmcoojdgoaa
