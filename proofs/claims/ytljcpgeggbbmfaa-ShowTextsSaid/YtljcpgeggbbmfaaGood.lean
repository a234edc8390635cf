/-
  The flag of wharfagelaw11.Code in memory, and the closure that writes it.
-/
import Derived.Test.YtljcpgeggbbmfaaCheck
namespace Go.Proofs.Ytljcpgeggbbmfaa
set_option linter.unusedVariables false
set_option linter.unusedSimpArgs false
open Go.RowKit
/-- in the world w block g holds the flag b, block g + 1 the two cells c0 and c1; what lies below g is as in W. -/
structure GoodW (W : World) (g : Nat) (c0 c1 : Value) (b : Bool) (w : World) : Prop where
  gs : W.heap.size ≤ g
  below : Below W.heap.size W w
  cell : w.cell? ⟨g, 0, none⟩ = some (.bool b)
  frozen : w.frozen? ⟨g, 0, none⟩ = false
  d0 : w.cell? ⟨g + 1, 0, none⟩ = some c0
  d1 : w.cell? ⟨g + 1, 1, none⟩ = some c1
theorem GoodW.set {W w : World} {g : Nat} {c0 c1 : Value} {b : Bool} (h : GoodW W g c0 c1 b w) (b' : Bool) : GoodW W g c0 c1 b' (w.setCell ⟨g, 0, none⟩ (.bool b')) :=
  ⟨h.gs, h.below.setCell h.gs _, by rw [World.cell?_setCell_same w _ _ h.cell], by rw [World.frozen?_setCell]; exact h.frozen,
    by rw [World.cell?_setCell_other _ _ _ _ (by simp)]; exact h.d0, by rw [World.cell?_setCell_other _ _ _ _ (by simp)]; exact h.d1⟩
theorem GoodW.alloc {W w : World} {g : Nat} {c0 c1 : Value} {b : Bool} (h : GoodW W g c0 c1 b w) (o : Obj) : GoodW W g c0 c1 b (w.alloc o) :=
  have hb := (Below.refl w.heap.size w).alloc (Nat.le_refl _) o
  ⟨h.gs, h.below.alloc h.below.size o, keep_cell hb h.cell, (hb.frozen (p := ⟨g, 0, none⟩) (lt_of_cell h.cell)).trans h.frozen, keep_cell hb h.d0, keep_cell hb h.d1⟩
theorem GoodW.cast {W w : World} {g : Nat} {c0 c1 : Value} {b b' : Bool} (h : GoodW W g c0 c1 b w) (e : b = b') : GoodW W g c0 c1 b' w := e ▸ h
theorem GoodW.new (W : World) (g : Nat) (hg : W.heap.size = g) (c0 c1 : Value) (t u : TypeId) : GoodW W g c0 c1 true ((W.alloc (.cells #[.bool true] t)).alloc (.cells #[c0, c1] u)) := by
  subst hg
  have e : (W.alloc (.cells #[.bool true] t)).heap.size = W.heap.size + 1 := by simp
  have hb := (Below.refl (W.alloc (.cells #[.bool true] t)).heap.size (W.alloc (.cells #[.bool true] t))).alloc (Nat.le_refl _) (.cells #[c0, c1] u)
  have hc : (W.alloc (.cells #[.bool true] t)).cell? ⟨W.heap.size, 0, none⟩ = some (.bool true) := by rw [World.cell?_alloc_new]; rfl
  refine ⟨Nat.le_refl _, ((Below.refl _ _).alloc (Nat.le_refl _) _).alloc (by simp) _, keep_cell hb hc, (hb.frozen (p := ⟨W.heap.size, 0, none⟩) (lt_of_cell hc)).trans (by unfold World.frozen?; rw [heap_alloc_new]; simp), ?_, ?_⟩
  · rw [← e, World.cell?_alloc_new]; rfl
  · rw [← e, World.cell?_alloc_new]; rfl
set_option maxHeartbeats 800000 in
theorem in_any (n l : Int) (b : Bool) (p : Addr) (w : World) (hc : w.cell? p = some (.bool b)) (hf : w.frozen? p = false) :
    Calls Try.prog 38 #[.int .i64 n, .int .i64 l, .pointer (some p)] w fun e w' => e = .returned (.tuple #[]) ∧ w.setCell p (.bool (b && mayB n l)) = w' := by
  cases b
  · go_enter Try.func38, Try.ntmps38
    go_wp2
    go_end0
    exact ⟨rfl, rfl⟩
  · by_cases h1 : l ≤ n
    · by_cases h2 : n ≤ 1000000000
      · have hm : mayB n l = true := by unfold mayB; rw [decide_eq_true h1, decide_eq_true h2]; rfl
        rw [hm]
        go_enter Try.func38, Try.ntmps38
        go_wp2
        go_end0
        exact ⟨rfl, by simp⟩
      · have hm : mayB n l = false := by unfold mayB; rw [decide_eq_false h2]; simp
        have e2 : decide (n ≤ 1000000000) = false := decide_eq_false h2
        rw [hm]
        go_enter Try.func38, Try.ntmps38
        go_wp2
        go_end0
        exact ⟨rfl, by simp⟩
    · have hm : mayB n l = false := by unfold mayB; rw [decide_eq_false h1]; rfl
      rw [hm]
      go_enter Try.func38, Try.ntmps38
      go_wp2
      go_end0
      exact ⟨rfl, by simp⟩
theorem in_good {W w : World} {g : Nat} {c0 c1 : Value} {b : Bool} (n l : Int) (b' : Bool) (h : GoodW W g c0 c1 b w) (hb : (b && mayB n l) = b') :
    Calls Try.prog 38 #[.int .i64 n, .int .i64 l, .pointer (some ⟨g, 0, none⟩)] w fun e w' => e = .returned (.tuple #[]) ∧ GoodW W g c0 c1 b' w' :=
  (in_any n l b _ w h.cell h.frozen).mono fun e w' ⟨he, hw⟩ => ⟨he, by subst hw; subst hb; exact h.set _⟩
theorem in_good2 {W w : World} {g : Nat} {c0 c1 : Value} {b : Bool} (n l : Int) (h : GoodW W g c0 c1 b w) :
    Calls Try.prog 38 #[.int .i64 n, .int .i64 l, .pointer (some ⟨g, 0, none⟩)] w fun e w' => e = .returned (.tuple #[]) ∧ GoodW W g c0 c1 (b && mayB n l) w' ∧ ∀ q v, q.block ≠ g → w.cell? q = some v → w'.cell? q = some v :=
  (in_any n l b _ w h.cell h.frozen).mono fun e w' ⟨he, hw⟩ => ⟨he, by subst hw; exact h.set _, fun q v hq hv => by subst hw; rw [World.cell?_setCell_other _ _ _ _ (fun e => hq (by rw [← e]))]; exact hv⟩
def lenB (m : Nat) (_ : Nat) (r : List Int) : Bool := r.length == m
theorem sqB_eq (ls : List (List Int)) (m : Nat) : sqB ls m = ((ls.length == m) && allAt (lenB m) ls) := by
  unfold sqB
  congr 1
  unfold allAt
  have : ∀ k, k ≤ ls.length → (ls.take k).all (fun r => r.length == m) = allTo (lenB m) ls k := by
    intro k
    induction k with
    | zero => intro _; rfl
    | succ k ih =>
      intro hk
      rw [allTo_succ _ _ (by omega), ← ih (by omega), List.take_succ_eq_append_getElem (by omega), List.all_append]
      simp [lenB]
  have h := this ls.length (Nat.le_refl _)
  rwa [List.take_length] at h
end Go.Proofs.Ytljcpgeggbbmfaa
