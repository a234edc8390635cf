/-
  The contract of word.Read at a function (layer 5): wharfage/parse.Parse$1.
-/
import Derived.Test.YtljcpgeggbbmfaaPars4
namespace Go.Proofs.Ytljcpgeggbbmfaa
set_option linter.unusedVariables false
set_option linter.unusedSimpArgs false
open Go.RowKit
set_option maxHeartbeats 8000000 in
set_option maxRecDepth 100000 in
theorem read_parse (bx : Nat) (s : ByteArray) (w : World) (h2 : s.size ≤ 131072) (hok : okAll s = true) (may : Nat → Prop) (hmay : ∀ k, may k → k < w.heap.size) (Rok : Nat → World → Prop) (Rerr : Int → Int → World → Prop)
    (hRok : ∀ i w2 w3, Rok i w2 → Chg (fun k => k = w.heap.size ∨ k = w.heap.size + 1) w2 w3 → Rok i w3) (hRerr : ∀ a c w2 w3, Rerr a c w2 → Chg (fun k => k = w.heap.size ∨ k = w.heap.size + 1) w2 w3 → Rerr a c w3)
    (hdo : ∀ (w1 : World) (p : Nat) (A : Option Addr) (C : Nat), Below w.heap.size w w1 → w.heap.size + 2 ≤ p → RdrIs w1 p A C (wordsL s) 0 s.size → Calls Try.prog 30 #[.pointer (some ⟨p, 0, none⟩), .pointer (some ⟨bx, 0, none⟩)] w1 (DoEnd may Rok Rerr s w1 p A C)) :
    Calls Try.prog 29 #[.string s, .func (.func 30) #[] #[.pointer (some ⟨bx, 0, none⟩)]] w (ReadEnd may Rok Rerr s w) := by
  have hmf : ∀ (fn : Fn) (first cap : Array Value) (w : World), (Instr.makeFunc fn first cap).run Try.prog w = .ok (.func fn first cap) w := fun _ _ _ _ => rfl
  have hfn : ∀ w : World, (binOp BinOp.neq 78 (.func (.func 30) #[] #[.pointer (some ⟨bx, 0, none⟩)]) .nilFunc).run Try.prog w = .ok (.bool true) w := fun _ => by kernel_rfl
  have hS := Lib.hid (fun w' => split_ok s w' h2 hok)
  have hb0 : Below w.heap.size w ((w.alloc (.cells #[.int .i64 0] 3)).alloc (.cells #[.int .i64 0] 30)) := ((Below.refl _ _).alloc (Nat.le_refl _) _).alloc (by simp) _
  replace hb0 := Lib.hid hb0
  replace hdo := Lib.hid hdo
  replace hRok := Lib.hid hRok
  replace hRerr := Lib.hid hRerr
  replace hmay := Lib.hid hmay
  have hwl := Lib.hid (wordsL_len s)
  go_enter_defers Try.func29, Try.ntmps29
  go_wp2_with fail
  refine (hS.out _).mono ?_
  rintro e w2 ⟨A, C, rfl, hO, hb⟩
  obtain ⟨b1, b2⟩ := two_news w 3 30 (.int .i64 0) (.int .i64 0)
  have hWs : ((w.alloc (.cells #[.int .i64 0] 3)).alloc (.cells #[.int .i64 0] 30)).heap.size = w.heap.size + 2 := by simp
  generalize ((w.alloc (.cells #[.int .i64 0] 3)).alloc (.cells #[.int .i64 0] 30)) = W at *
  replace b1 := (hb.block _ (heap_lt b1)).trans b1
  replace b2 := (hb.block _ (heap_lt b2)).trans b2
  have hb1 := Lib.hid (hb0.out.trans (hb.mono hb0.out.size))
  generalize hg : w.heap.size = g at *
  have c1 := box_cell b1
  have c2 := box_cell b2
  have f1 := box_frozen b1
  have f2 := box_frozen b2
  have hgs := heap_lt b2
  replace hg := Lib.hid hg
  obtain ⟨d1, d2, d3⟩ := two_set (.int .i64 0) (.int .i64 0) b1 b2
  have hO3 := own_set (own_set hO (by omega : g < W.heap.size) 0 (.int .i64 0)) (by omega : g + 1 < W.heap.size) 0 (.int .i64 0)
  have hB3 := hb1.out.trans (d3.to_below (B := g) (fun k hk => by omega) (by omega))
  replace d1 := Lib.hid d1
  replace d2 := Lib.hid d2
  replace d3 := Lib.hid d3
  replace hO3 := Lib.hid hO3
  replace hB3 := Lib.hid hB3
  clear b1 b2 hb hO
  go_upto_region 5 with fail
  generalize hW3 : ((w2.setCell ⟨g, 0, none⟩ (.int .i64 0)).setCell ⟨g + 1, 0, none⟩ (.int .i64 0)) = W3 at *
  have hs3 := heap_lt d2.out
  replace hW3 := Lib.hid hW3
  clear c1 c2 f1 f2 hgs
  have hR4 : RdrIs (W3.alloc (.cells #[.slice A (wordsL s).length C, .int .i64 0, .int .i64 (s.size : Int)] 114)) W3.heap.size A C (wordsL s) 0 s.size :=
    ⟨heap_alloc_new W3 _, (own_rd' hO3.out).below ((Below.refl _ _).alloc (Nat.le_refl _) _), fun a ha => (own_lt hO3.out (g := a.block) (by rw [ha]; rfl)).2, Nat.zero_le _, by have := hwl.out; omega⟩
  have hB4 := hB3.out.alloc (by omega) (.cells #[.slice A (wordsL s).length C, .int .i64 0, .int .i64 (s.size : Int)] 114)
  have z1 := (Below.heap_alloc W3 (.cells #[.slice A (wordsL s).length C, .int .i64 0, .int .i64 (s.size : Int)] 114) g (by omega)).trans d1.out
  have z2 := (Below.heap_alloc W3 (.cells #[.slice A (wordsL s).length C, .int .i64 0, .int .i64 (s.size : Int)] 114) (g + 1) hs3).trans d2.out
  replace hR4 := Lib.hid hR4
  replace hB4 := Lib.hid hB4
  replace z1 := Lib.hid z1
  replace z2 := Lib.hid z2
  go_upto_region 7 with fail
  generalize hW4 : W3.alloc (.cells #[.slice A (wordsL s).length C, .int .i64 0, .int .i64 (s.size : Int)] 114) = W4 at *
  generalize hp : W3.heap.size = p at *
  have hpl : g + 2 ≤ p := by omega
  clear hW3 hW4 hO3 hB3 d1 d2 d3 hb1 hb0
  go_wp2_with fail
  refine (hdo.out W4 p A C hB4.out hpl hR4.out).mono ?_
  rintro e w5 ⟨hC5, ⟨i, rfl, R5, hk5⟩ | ⟨a, c, rfl, hk5⟩⟩
  all_goals
    have hmg : ∀ k, may k → k < g := hmay.out
    have y1 := (hC5.block g (by have := heap_lt z1.out; exact this) (fun h => by rcases h with h | h; omega; have := hmg _ h; omega)).trans z1.out
    have y2 := (hC5.block (g + 1) (by have := heap_lt z2.out; exact this) (fun h => by rcases h with h | h; omega; have := hmg _ h; omega)).trans z2.out
    have hCw : Chg (fun k => may k ∨ w.heap.size ≤ k) w w5 := (Chg.mono (Chg.below (may := fun _ => False) (by rw [hg.out]; exact hB4.out)) (fun k _ h => h.elim)).trans (hC5.mono (fun k _ h => by rcases h with h | h; exact .inr (by rw [hg.out]; omega); exact .inl h))
    replace hCw := Lib.hid hCw
    have n1 : ¬ g = g + 1 := by omega
  · by_cases hmore : i < (wordsL s).length
    · have hbm := Lib.hid (decide_eq_true hmore)
      have hpl2 := Lib.hid hmore
      clear hmore
      replace y1 := Lib.hid y1
      replace y2 := Lib.hid y2
      go_wp2_with fail
      refine (more_any p A C (wordsL s) i s.size true hbm _ R5).mono ?_
      rintro e w6 ⟨rfl, q6, rfl⟩
      go_wp2_with fail
      refine (fail_any p A C (wordsL s) i s.size 6 _ (R5.drewN q6)).mono ?_
      rintro e w7 ⟨rfl, q7, rfl⟩
      unfold PanEnd
      go_wp2_with fail
      refine leaves_cons (f := 59) (args := #[.pointer (some ⟨g, 0, none⟩), .pointer (some ⟨g + 1, 0, none⟩)]) (by simp) (by simp [go_sem]) ?_
      refine (catch_fault g (g + 1) 0 0 _ _ [] _ (by exact box_cell y1.out) (by exact box_frozen y1.out) (by exact box_cell y2.out) (by exact box_frozen y2.out) n1).mono ?_
      rintro e u' w8 ⟨rfl, rfl, v1, v2, hC8⟩
      have hend : ReadEnd may Rok Rerr s w (.returned (.tuple #[.int .i64 (placeN (wordsL s) i s.size : Int), .int .i64 6])) w8 := by
        have h8 : Chg (fun k => k = g ∨ k = g + 1) w5 w8 := (Chg.drewN w5 _).trans hC8
        refine ⟨hCw.out.trans (h8.mono (fun k _ h => .inr (by have := hg.out; omega))), .inl ⟨i, hRok.out i w5 w8 hk5 h8, ?_⟩⟩
        rw [if_pos hpl2.out, if_pos hpl2.out]
      simp [Leaves, settle, results, Try.results29, go_sem, v1, v2, hend]
    · have hbm := Lib.hid (decide_eq_false hmore)
      have hpl2 := Lib.hid hmore
      clear hmore
      replace y1 := Lib.hid y1
      replace y2 := Lib.hid y2
      have x1 := box_cell y1.out
      have x2 := box_cell y2.out
      have x3 := box_frozen y1.out
      have x4 := box_frozen y2.out
      go_wp2_with fail
      refine (more_any p A C (wordsL s) i s.size false hbm _ R5).mono ?_
      rintro e w6 ⟨rfl, q6, rfl⟩
      go_wp2_with fail
      refine leaves_cons (f := 59) (args := #[.pointer (some ⟨g, 0, none⟩), .pointer (some ⟨g + 1, 0, none⟩)]) (by simp) (by simp [go_sem]) ?_
      refine (catch_idle ⟨g, 0, none⟩ ⟨g + 1, 0, none⟩ _).mono ?_
      rintro e u' w8 ⟨rfl, rfl, rfl⟩
      obtain ⟨v1, v2, hC8⟩ := two_set (w := w5.drewN q6) (.int .i64 0) (.int .i64 0) y1.out y2.out
      have hend : ReadEnd may Rok Rerr s w (.returned (.tuple #[.int .i64 0, .int .i64 0])) (((w5.drewN q6).setCell ⟨g, 0, none⟩ (.int .i64 0)).setCell ⟨g + 1, 0, none⟩ (.int .i64 0)) := by
        have h8 : Chg (fun k => k = g ∨ k = g + 1) w5 _ := (Chg.drewN w5 q6).trans hC8
        refine ⟨hCw.out.trans (h8.mono (fun k _ h => .inr (by have := hg.out; omega))), .inl ⟨i, hRok.out i w5 _ hk5 h8, ?_⟩⟩
        rw [if_neg hpl2.out, if_neg hpl2.out]
      have v3 := box_cell v1
      have v4 := box_cell v2
      generalize (((w5.drewN q6).setCell ⟨g, 0, none⟩ (.int .i64 0)).setCell ⟨g + 1, 0, none⟩ (.int .i64 0)) = W9 at *
      simp [Leaves, settle, results, Try.results29, go_sem, v3, v4, hend]
  · unfold PanEnd
    replace y1 := Lib.hid y1
    replace y2 := Lib.hid y2
    go_wp2_with fail
    refine leaves_cons (f := 59) (args := #[.pointer (some ⟨g, 0, none⟩), .pointer (some ⟨g + 1, 0, none⟩)]) (by simp) (by simp [go_sem]) ?_
    refine (catch_fault g (g + 1) 0 0 _ _ [] _ (by exact box_cell y1.out) (by exact box_frozen y1.out) (by exact box_cell y2.out) (by exact box_frozen y2.out) n1).mono ?_
    rintro e u' w8 ⟨rfl, rfl, v1, v2, hC8⟩
    have hend : ReadEnd may Rok Rerr s w (.returned (.tuple #[.int .i64 a, .int .i64 c])) w8 := by
      refine ⟨hCw.out.trans (hC8.mono (fun k _ h => .inr (by have := hg.out; omega))), .inr ⟨a, c, hRerr.out a c w5 w8 hk5 hC8, rfl⟩⟩
    simp [Leaves, settle, results, Try.results29, go_sem, v1, v2, hend]
end Go.Proofs.Ytljcpgeggbbmfaa
