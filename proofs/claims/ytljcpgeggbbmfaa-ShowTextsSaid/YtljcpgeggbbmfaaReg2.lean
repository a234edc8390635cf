/-
  A region that draws its order: several operations may come up; and what a region comes to, into a relation.
-/
import Derived.Test.YtljcpgeggbbmfaaRegN
import Derived.Test.YtljcpgeggbbmfaaOwn
namespace Go.Proofs.Ytljcpgeggbbmfaa
set_option linter.unusedVariables false
set_option linter.unusedSimpArgs false
open Go
section
variable {P : Program} {ops : Array Oper} {Q : Exit → Act → World → Prop} {md : Region.Mode} {S : World → Prop} {need : Nat → Bool}
theorem wpAnyN_of_1_4_5 {o0 o1 o2 o3 o4 o5 : Oper} {l : List Oper} {fuel : Nat} {listed : Array Bool} {a : Act} {w : World} (hr : Region.ready md (o0 :: o1 :: o2 :: o3 :: o4 :: o5 :: l).toArray listed = [1, 4, 5]) (hb : ShutBack md (o0 :: o1 :: o2 :: o3 :: o4 :: o5 :: l).toArray listed)
    (h1 : (∀ K' : Act → World → Prop, Shut (∀ a w, (need 1 = true → S w) → ((need 1 = true → S w) → ShutBack md (o0 :: o1 :: o2 :: o3 :: o4 :: o5 :: l).toArray (listed.setIfInBounds 1 true) → wpAnyN P md (o0 :: o1 :: o2 :: o3 :: o4 :: o5 :: l).toArray Q S need fuel (listed.setIfInBounds 1 true) a w) → K' a w) → if Region.wanted o1 (yielded (o0 :: o1 :: o2 :: o3 :: o4 :: o5 :: l).toArray a.tmps) = true then Oper.wp P o1 a w K' Q else K' (a.put o1.dst undef) w))
    (h4 : (∀ K' : Act → World → Prop, Shut (∀ a w, (need 4 = true → S w) → ((need 4 = true → S w) → ShutBack md (o0 :: o1 :: o2 :: o3 :: o4 :: o5 :: l).toArray (listed.setIfInBounds 4 true) → wpAnyN P md (o0 :: o1 :: o2 :: o3 :: o4 :: o5 :: l).toArray Q S need fuel (listed.setIfInBounds 4 true) a w) → K' a w) → if Region.wanted o4 (yielded (o0 :: o1 :: o2 :: o3 :: o4 :: o5 :: l).toArray a.tmps) = true then Oper.wp P o4 a w K' Q else K' (a.put o4.dst undef) w))
    (h5 : (∀ K' : Act → World → Prop, Shut (∀ a w, (need 5 = true → S w) → ((need 5 = true → S w) → ShutBack md (o0 :: o1 :: o2 :: o3 :: o4 :: o5 :: l).toArray (listed.setIfInBounds 5 true) → wpAnyN P md (o0 :: o1 :: o2 :: o3 :: o4 :: o5 :: l).toArray Q S need fuel (listed.setIfInBounds 5 true) a w) → K' a w) → if Region.wanted o5 (yielded (o0 :: o1 :: o2 :: o3 :: o4 :: o5 :: l).toArray a.tmps) = true then Oper.wp P o5 a w K' Q else K' (a.put o5.dst undef) w))
    : wpAnyN P md (o0 :: o1 :: o2 :: o3 :: o4 :: o5 :: l).toArray Q S need (fuel + 1) listed a w := by
  refine ⟨fun h0 => (by rw [hr] at h0; cases h0), fun j hj => ?_⟩
  have hb2 := hb.step hj
  rw [hr] at hj
  simp only [List.mem_cons, List.not_mem_nil, or_false] at hj
  rcases hj with rfl | rfl | rfl
  · exact wpOp_step (o := o1) rfl (fun K' hK => h1 K' (fun a w hS hW => hK a w ⟨hS, hW hS hb2⟩))
  · exact wpOp_step (o := o4) rfl (fun K' hK => h4 K' (fun a w hS hW => hK a w ⟨hS, hW hS hb2⟩))
  · exact wpOp_step (o := o5) rfl (fun K' hK => h5 K' (fun a w hS hW => hK a w ⟨hS, hW hS hb2⟩))
theorem wpAnyN_of_1_4 {o0 o1 o2 o3 o4 : Oper} {l : List Oper} {fuel : Nat} {listed : Array Bool} {a : Act} {w : World} (hr : Region.ready md (o0 :: o1 :: o2 :: o3 :: o4 :: l).toArray listed = [1, 4]) (hb : ShutBack md (o0 :: o1 :: o2 :: o3 :: o4 :: l).toArray listed)
    (h1 : (∀ K' : Act → World → Prop, Shut (∀ a w, (need 1 = true → S w) → ((need 1 = true → S w) → ShutBack md (o0 :: o1 :: o2 :: o3 :: o4 :: l).toArray (listed.setIfInBounds 1 true) → wpAnyN P md (o0 :: o1 :: o2 :: o3 :: o4 :: l).toArray Q S need fuel (listed.setIfInBounds 1 true) a w) → K' a w) → if Region.wanted o1 (yielded (o0 :: o1 :: o2 :: o3 :: o4 :: l).toArray a.tmps) = true then Oper.wp P o1 a w K' Q else K' (a.put o1.dst undef) w))
    (h4 : (∀ K' : Act → World → Prop, Shut (∀ a w, (need 4 = true → S w) → ((need 4 = true → S w) → ShutBack md (o0 :: o1 :: o2 :: o3 :: o4 :: l).toArray (listed.setIfInBounds 4 true) → wpAnyN P md (o0 :: o1 :: o2 :: o3 :: o4 :: l).toArray Q S need fuel (listed.setIfInBounds 4 true) a w) → K' a w) → if Region.wanted o4 (yielded (o0 :: o1 :: o2 :: o3 :: o4 :: l).toArray a.tmps) = true then Oper.wp P o4 a w K' Q else K' (a.put o4.dst undef) w))
    : wpAnyN P md (o0 :: o1 :: o2 :: o3 :: o4 :: l).toArray Q S need (fuel + 1) listed a w := by
  refine ⟨fun h0 => (by rw [hr] at h0; cases h0), fun j hj => ?_⟩
  have hb2 := hb.step hj
  rw [hr] at hj
  simp only [List.mem_cons, List.not_mem_nil, or_false] at hj
  rcases hj with rfl | rfl
  · exact wpOp_step (o := o1) rfl (fun K' hK => h1 K' (fun a w hS hW => hK a w ⟨hS, hW hS hb2⟩))
  · exact wpOp_step (o := o4) rfl (fun K' hK => h4 K' (fun a w hS hW => hK a w ⟨hS, hW hS hb2⟩))
theorem wpAnyN_of_1_5 {o0 o1 o2 o3 o4 o5 : Oper} {l : List Oper} {fuel : Nat} {listed : Array Bool} {a : Act} {w : World} (hr : Region.ready md (o0 :: o1 :: o2 :: o3 :: o4 :: o5 :: l).toArray listed = [1, 5]) (hb : ShutBack md (o0 :: o1 :: o2 :: o3 :: o4 :: o5 :: l).toArray listed)
    (h1 : (∀ K' : Act → World → Prop, Shut (∀ a w, (need 1 = true → S w) → ((need 1 = true → S w) → ShutBack md (o0 :: o1 :: o2 :: o3 :: o4 :: o5 :: l).toArray (listed.setIfInBounds 1 true) → wpAnyN P md (o0 :: o1 :: o2 :: o3 :: o4 :: o5 :: l).toArray Q S need fuel (listed.setIfInBounds 1 true) a w) → K' a w) → if Region.wanted o1 (yielded (o0 :: o1 :: o2 :: o3 :: o4 :: o5 :: l).toArray a.tmps) = true then Oper.wp P o1 a w K' Q else K' (a.put o1.dst undef) w))
    (h5 : (∀ K' : Act → World → Prop, Shut (∀ a w, (need 5 = true → S w) → ((need 5 = true → S w) → ShutBack md (o0 :: o1 :: o2 :: o3 :: o4 :: o5 :: l).toArray (listed.setIfInBounds 5 true) → wpAnyN P md (o0 :: o1 :: o2 :: o3 :: o4 :: o5 :: l).toArray Q S need fuel (listed.setIfInBounds 5 true) a w) → K' a w) → if Region.wanted o5 (yielded (o0 :: o1 :: o2 :: o3 :: o4 :: o5 :: l).toArray a.tmps) = true then Oper.wp P o5 a w K' Q else K' (a.put o5.dst undef) w))
    : wpAnyN P md (o0 :: o1 :: o2 :: o3 :: o4 :: o5 :: l).toArray Q S need (fuel + 1) listed a w := by
  refine ⟨fun h0 => (by rw [hr] at h0; cases h0), fun j hj => ?_⟩
  have hb2 := hb.step hj
  rw [hr] at hj
  simp only [List.mem_cons, List.not_mem_nil, or_false] at hj
  rcases hj with rfl | rfl
  · exact wpOp_step (o := o1) rfl (fun K' hK => h1 K' (fun a w hS hW => hK a w ⟨hS, hW hS hb2⟩))
  · exact wpOp_step (o := o5) rfl (fun K' hK => h5 K' (fun a w hS hW => hK a w ⟨hS, hW hS hb2⟩))
theorem wpAnyN_of_3_4_5 {o0 o1 o2 o3 o4 o5 : Oper} {l : List Oper} {fuel : Nat} {listed : Array Bool} {a : Act} {w : World} (hr : Region.ready md (o0 :: o1 :: o2 :: o3 :: o4 :: o5 :: l).toArray listed = [3, 4, 5]) (hb : ShutBack md (o0 :: o1 :: o2 :: o3 :: o4 :: o5 :: l).toArray listed)
    (h3 : (∀ K' : Act → World → Prop, Shut (∀ a w, (need 3 = true → S w) → ((need 3 = true → S w) → ShutBack md (o0 :: o1 :: o2 :: o3 :: o4 :: o5 :: l).toArray (listed.setIfInBounds 3 true) → wpAnyN P md (o0 :: o1 :: o2 :: o3 :: o4 :: o5 :: l).toArray Q S need fuel (listed.setIfInBounds 3 true) a w) → K' a w) → if Region.wanted o3 (yielded (o0 :: o1 :: o2 :: o3 :: o4 :: o5 :: l).toArray a.tmps) = true then Oper.wp P o3 a w K' Q else K' (a.put o3.dst undef) w))
    (h4 : (∀ K' : Act → World → Prop, Shut (∀ a w, (need 4 = true → S w) → ((need 4 = true → S w) → ShutBack md (o0 :: o1 :: o2 :: o3 :: o4 :: o5 :: l).toArray (listed.setIfInBounds 4 true) → wpAnyN P md (o0 :: o1 :: o2 :: o3 :: o4 :: o5 :: l).toArray Q S need fuel (listed.setIfInBounds 4 true) a w) → K' a w) → if Region.wanted o4 (yielded (o0 :: o1 :: o2 :: o3 :: o4 :: o5 :: l).toArray a.tmps) = true then Oper.wp P o4 a w K' Q else K' (a.put o4.dst undef) w))
    (h5 : (∀ K' : Act → World → Prop, Shut (∀ a w, (need 5 = true → S w) → ((need 5 = true → S w) → ShutBack md (o0 :: o1 :: o2 :: o3 :: o4 :: o5 :: l).toArray (listed.setIfInBounds 5 true) → wpAnyN P md (o0 :: o1 :: o2 :: o3 :: o4 :: o5 :: l).toArray Q S need fuel (listed.setIfInBounds 5 true) a w) → K' a w) → if Region.wanted o5 (yielded (o0 :: o1 :: o2 :: o3 :: o4 :: o5 :: l).toArray a.tmps) = true then Oper.wp P o5 a w K' Q else K' (a.put o5.dst undef) w))
    : wpAnyN P md (o0 :: o1 :: o2 :: o3 :: o4 :: o5 :: l).toArray Q S need (fuel + 1) listed a w := by
  refine ⟨fun h0 => (by rw [hr] at h0; cases h0), fun j hj => ?_⟩
  have hb2 := hb.step hj
  rw [hr] at hj
  simp only [List.mem_cons, List.not_mem_nil, or_false] at hj
  rcases hj with rfl | rfl | rfl
  · exact wpOp_step (o := o3) rfl (fun K' hK => h3 K' (fun a w hS hW => hK a w ⟨hS, hW hS hb2⟩))
  · exact wpOp_step (o := o4) rfl (fun K' hK => h4 K' (fun a w hS hW => hK a w ⟨hS, hW hS hb2⟩))
  · exact wpOp_step (o := o5) rfl (fun K' hK => h5 K' (fun a w hS hW => hK a w ⟨hS, hW hS hb2⟩))
theorem wpAnyN_of_3_4 {o0 o1 o2 o3 o4 : Oper} {l : List Oper} {fuel : Nat} {listed : Array Bool} {a : Act} {w : World} (hr : Region.ready md (o0 :: o1 :: o2 :: o3 :: o4 :: l).toArray listed = [3, 4]) (hb : ShutBack md (o0 :: o1 :: o2 :: o3 :: o4 :: l).toArray listed)
    (h3 : (∀ K' : Act → World → Prop, Shut (∀ a w, (need 3 = true → S w) → ((need 3 = true → S w) → ShutBack md (o0 :: o1 :: o2 :: o3 :: o4 :: l).toArray (listed.setIfInBounds 3 true) → wpAnyN P md (o0 :: o1 :: o2 :: o3 :: o4 :: l).toArray Q S need fuel (listed.setIfInBounds 3 true) a w) → K' a w) → if Region.wanted o3 (yielded (o0 :: o1 :: o2 :: o3 :: o4 :: l).toArray a.tmps) = true then Oper.wp P o3 a w K' Q else K' (a.put o3.dst undef) w))
    (h4 : (∀ K' : Act → World → Prop, Shut (∀ a w, (need 4 = true → S w) → ((need 4 = true → S w) → ShutBack md (o0 :: o1 :: o2 :: o3 :: o4 :: l).toArray (listed.setIfInBounds 4 true) → wpAnyN P md (o0 :: o1 :: o2 :: o3 :: o4 :: l).toArray Q S need fuel (listed.setIfInBounds 4 true) a w) → K' a w) → if Region.wanted o4 (yielded (o0 :: o1 :: o2 :: o3 :: o4 :: l).toArray a.tmps) = true then Oper.wp P o4 a w K' Q else K' (a.put o4.dst undef) w))
    : wpAnyN P md (o0 :: o1 :: o2 :: o3 :: o4 :: l).toArray Q S need (fuel + 1) listed a w := by
  refine ⟨fun h0 => (by rw [hr] at h0; cases h0), fun j hj => ?_⟩
  have hb2 := hb.step hj
  rw [hr] at hj
  simp only [List.mem_cons, List.not_mem_nil, or_false] at hj
  rcases hj with rfl | rfl
  · exact wpOp_step (o := o3) rfl (fun K' hK => h3 K' (fun a w hS hW => hK a w ⟨hS, hW hS hb2⟩))
  · exact wpOp_step (o := o4) rfl (fun K' hK => h4 K' (fun a w hS hW => hK a w ⟨hS, hW hS hb2⟩))
theorem wpAnyN_of_3_5 {o0 o1 o2 o3 o4 o5 : Oper} {l : List Oper} {fuel : Nat} {listed : Array Bool} {a : Act} {w : World} (hr : Region.ready md (o0 :: o1 :: o2 :: o3 :: o4 :: o5 :: l).toArray listed = [3, 5]) (hb : ShutBack md (o0 :: o1 :: o2 :: o3 :: o4 :: o5 :: l).toArray listed)
    (h3 : (∀ K' : Act → World → Prop, Shut (∀ a w, (need 3 = true → S w) → ((need 3 = true → S w) → ShutBack md (o0 :: o1 :: o2 :: o3 :: o4 :: o5 :: l).toArray (listed.setIfInBounds 3 true) → wpAnyN P md (o0 :: o1 :: o2 :: o3 :: o4 :: o5 :: l).toArray Q S need fuel (listed.setIfInBounds 3 true) a w) → K' a w) → if Region.wanted o3 (yielded (o0 :: o1 :: o2 :: o3 :: o4 :: o5 :: l).toArray a.tmps) = true then Oper.wp P o3 a w K' Q else K' (a.put o3.dst undef) w))
    (h5 : (∀ K' : Act → World → Prop, Shut (∀ a w, (need 5 = true → S w) → ((need 5 = true → S w) → ShutBack md (o0 :: o1 :: o2 :: o3 :: o4 :: o5 :: l).toArray (listed.setIfInBounds 5 true) → wpAnyN P md (o0 :: o1 :: o2 :: o3 :: o4 :: o5 :: l).toArray Q S need fuel (listed.setIfInBounds 5 true) a w) → K' a w) → if Region.wanted o5 (yielded (o0 :: o1 :: o2 :: o3 :: o4 :: o5 :: l).toArray a.tmps) = true then Oper.wp P o5 a w K' Q else K' (a.put o5.dst undef) w))
    : wpAnyN P md (o0 :: o1 :: o2 :: o3 :: o4 :: o5 :: l).toArray Q S need (fuel + 1) listed a w := by
  refine ⟨fun h0 => (by rw [hr] at h0; cases h0), fun j hj => ?_⟩
  have hb2 := hb.step hj
  rw [hr] at hj
  simp only [List.mem_cons, List.not_mem_nil, or_false] at hj
  rcases hj with rfl | rfl
  · exact wpOp_step (o := o3) rfl (fun K' hK => h3 K' (fun a w hS hW => hK a w ⟨hS, hW hS hb2⟩))
  · exact wpOp_step (o := o5) rfl (fun K' hK => h5 K' (fun a w hS hW => hK a w ⟨hS, hW hS hb2⟩))
theorem wpAnyN_of_4_5 {o0 o1 o2 o3 o4 o5 : Oper} {l : List Oper} {fuel : Nat} {listed : Array Bool} {a : Act} {w : World} (hr : Region.ready md (o0 :: o1 :: o2 :: o3 :: o4 :: o5 :: l).toArray listed = [4, 5]) (hb : ShutBack md (o0 :: o1 :: o2 :: o3 :: o4 :: o5 :: l).toArray listed)
    (h4 : (∀ K' : Act → World → Prop, Shut (∀ a w, (need 4 = true → S w) → ((need 4 = true → S w) → ShutBack md (o0 :: o1 :: o2 :: o3 :: o4 :: o5 :: l).toArray (listed.setIfInBounds 4 true) → wpAnyN P md (o0 :: o1 :: o2 :: o3 :: o4 :: o5 :: l).toArray Q S need fuel (listed.setIfInBounds 4 true) a w) → K' a w) → if Region.wanted o4 (yielded (o0 :: o1 :: o2 :: o3 :: o4 :: o5 :: l).toArray a.tmps) = true then Oper.wp P o4 a w K' Q else K' (a.put o4.dst undef) w))
    (h5 : (∀ K' : Act → World → Prop, Shut (∀ a w, (need 5 = true → S w) → ((need 5 = true → S w) → ShutBack md (o0 :: o1 :: o2 :: o3 :: o4 :: o5 :: l).toArray (listed.setIfInBounds 5 true) → wpAnyN P md (o0 :: o1 :: o2 :: o3 :: o4 :: o5 :: l).toArray Q S need fuel (listed.setIfInBounds 5 true) a w) → K' a w) → if Region.wanted o5 (yielded (o0 :: o1 :: o2 :: o3 :: o4 :: o5 :: l).toArray a.tmps) = true then Oper.wp P o5 a w K' Q else K' (a.put o5.dst undef) w))
    : wpAnyN P md (o0 :: o1 :: o2 :: o3 :: o4 :: o5 :: l).toArray Q S need (fuel + 1) listed a w := by
  refine ⟨fun h0 => (by rw [hr] at h0; cases h0), fun j hj => ?_⟩
  have hb2 := hb.step hj
  rw [hr] at hj
  simp only [List.mem_cons, List.not_mem_nil, or_false] at hj
  rcases hj with rfl | rfl
  · exact wpOp_step (o := o4) rfl (fun K' hK => h4 K' (fun a w hS hW => hK a w ⟨hS, hW hS hb2⟩))
  · exact wpOp_step (o := o5) rfl (fun K' hK => h5 K' (fun a w hS hW => hK a w ⟨hS, hW hS hb2⟩))
end
/-- a region, into a relation. -/
theorem wp_region_into {P : Program} {ops : Array Oper} {Q : Exit → Act → World → Prop} {id : Nat} {a : Act} {w : World} (R : Act → Act → World → Prop) (hq : ∀ a' w', R a a' w' → Q .normal a' w')
    (h : (Code.region id ops true).wp P (fun e a' w' => match e with | .normal => R a a' w' | _ => False) a w) : (Code.region id ops true).wp P Q a w :=
  Code.wp_mono (fun e a' w' hr => by cases e <;> first | exact hq a' w' hr | exact hr.elim) h
theorem set9 (w : World) (g : Nat) (T : TypeId) (c0 c1 c2 c3 c4 c5 c6 c7 c8 d0 d1 d2 d3 d4 d5 d6 d7 d8 : Value) (h : w.heap[g]? = some (.cells #[c0, c1, c2, c3, c4, c5, c6, c7, c8] T (0, 0))) :
    (w.setCells g 0 [d0, d1, d2, d3, d4, d5, d6, d7, d8]).heap[g]? = some (.cells #[d0, d1, d2, d3, d4, d5, d6, d7, d8] T (0, 0)) ∧ w.grownBy (w.setCells g 0 [d0, d1, d2, d3, d4, d5, d6, d7, d8]) (some g) := by
  have h0 : (w.setCell ⟨g, 0, none⟩ d0).heap[g]? = some (.cells #[d0, c1, c2, c3, c4, c5, c6, c7, c8] T (0, 0)) := heap_set _ g 0 _ _ d0 h
  have g0 := grown_set w ⟨g, 0, none⟩ d0
  have h1 : ((w.setCell ⟨g, 0, none⟩ d0).setCell ⟨g, 1, none⟩ d1).heap[g]? = some (.cells #[d0, d1, c2, c3, c4, c5, c6, c7, c8] T (0, 0)) := heap_set _ g 1 _ _ d1 h0
  have g1 := grown_set (w.setCell ⟨g, 0, none⟩ d0) ⟨g, 1, none⟩ d1
  have h2 : (((w.setCell ⟨g, 0, none⟩ d0).setCell ⟨g, 1, none⟩ d1).setCell ⟨g, 2, none⟩ d2).heap[g]? = some (.cells #[d0, d1, d2, c3, c4, c5, c6, c7, c8] T (0, 0)) := heap_set _ g 2 _ _ d2 h1
  have g2 := grown_set ((w.setCell ⟨g, 0, none⟩ d0).setCell ⟨g, 1, none⟩ d1) ⟨g, 2, none⟩ d2
  have h3 : ((((w.setCell ⟨g, 0, none⟩ d0).setCell ⟨g, 1, none⟩ d1).setCell ⟨g, 2, none⟩ d2).setCell ⟨g, 3, none⟩ d3).heap[g]? = some (.cells #[d0, d1, d2, d3, c4, c5, c6, c7, c8] T (0, 0)) := heap_set _ g 3 _ _ d3 h2
  have g3 := grown_set (((w.setCell ⟨g, 0, none⟩ d0).setCell ⟨g, 1, none⟩ d1).setCell ⟨g, 2, none⟩ d2) ⟨g, 3, none⟩ d3
  have h4 : (((((w.setCell ⟨g, 0, none⟩ d0).setCell ⟨g, 1, none⟩ d1).setCell ⟨g, 2, none⟩ d2).setCell ⟨g, 3, none⟩ d3).setCell ⟨g, 4, none⟩ d4).heap[g]? = some (.cells #[d0, d1, d2, d3, d4, c5, c6, c7, c8] T (0, 0)) := heap_set _ g 4 _ _ d4 h3
  have g4 := grown_set ((((w.setCell ⟨g, 0, none⟩ d0).setCell ⟨g, 1, none⟩ d1).setCell ⟨g, 2, none⟩ d2).setCell ⟨g, 3, none⟩ d3) ⟨g, 4, none⟩ d4
  have h5 : ((((((w.setCell ⟨g, 0, none⟩ d0).setCell ⟨g, 1, none⟩ d1).setCell ⟨g, 2, none⟩ d2).setCell ⟨g, 3, none⟩ d3).setCell ⟨g, 4, none⟩ d4).setCell ⟨g, 5, none⟩ d5).heap[g]? = some (.cells #[d0, d1, d2, d3, d4, d5, c6, c7, c8] T (0, 0)) := heap_set _ g 5 _ _ d5 h4
  have g5 := grown_set (((((w.setCell ⟨g, 0, none⟩ d0).setCell ⟨g, 1, none⟩ d1).setCell ⟨g, 2, none⟩ d2).setCell ⟨g, 3, none⟩ d3).setCell ⟨g, 4, none⟩ d4) ⟨g, 5, none⟩ d5
  have h6 : (((((((w.setCell ⟨g, 0, none⟩ d0).setCell ⟨g, 1, none⟩ d1).setCell ⟨g, 2, none⟩ d2).setCell ⟨g, 3, none⟩ d3).setCell ⟨g, 4, none⟩ d4).setCell ⟨g, 5, none⟩ d5).setCell ⟨g, 6, none⟩ d6).heap[g]? = some (.cells #[d0, d1, d2, d3, d4, d5, d6, c7, c8] T (0, 0)) := heap_set _ g 6 _ _ d6 h5
  have g6 := grown_set ((((((w.setCell ⟨g, 0, none⟩ d0).setCell ⟨g, 1, none⟩ d1).setCell ⟨g, 2, none⟩ d2).setCell ⟨g, 3, none⟩ d3).setCell ⟨g, 4, none⟩ d4).setCell ⟨g, 5, none⟩ d5) ⟨g, 6, none⟩ d6
  have h7 : ((((((((w.setCell ⟨g, 0, none⟩ d0).setCell ⟨g, 1, none⟩ d1).setCell ⟨g, 2, none⟩ d2).setCell ⟨g, 3, none⟩ d3).setCell ⟨g, 4, none⟩ d4).setCell ⟨g, 5, none⟩ d5).setCell ⟨g, 6, none⟩ d6).setCell ⟨g, 7, none⟩ d7).heap[g]? = some (.cells #[d0, d1, d2, d3, d4, d5, d6, d7, c8] T (0, 0)) := heap_set _ g 7 _ _ d7 h6
  have g7 := grown_set (((((((w.setCell ⟨g, 0, none⟩ d0).setCell ⟨g, 1, none⟩ d1).setCell ⟨g, 2, none⟩ d2).setCell ⟨g, 3, none⟩ d3).setCell ⟨g, 4, none⟩ d4).setCell ⟨g, 5, none⟩ d5).setCell ⟨g, 6, none⟩ d6) ⟨g, 7, none⟩ d7
  have h8 : (((((((((w.setCell ⟨g, 0, none⟩ d0).setCell ⟨g, 1, none⟩ d1).setCell ⟨g, 2, none⟩ d2).setCell ⟨g, 3, none⟩ d3).setCell ⟨g, 4, none⟩ d4).setCell ⟨g, 5, none⟩ d5).setCell ⟨g, 6, none⟩ d6).setCell ⟨g, 7, none⟩ d7).setCell ⟨g, 8, none⟩ d8).heap[g]? = some (.cells #[d0, d1, d2, d3, d4, d5, d6, d7, d8] T (0, 0)) := heap_set _ g 8 _ _ d8 h7
  have g8 := grown_set ((((((((w.setCell ⟨g, 0, none⟩ d0).setCell ⟨g, 1, none⟩ d1).setCell ⟨g, 2, none⟩ d2).setCell ⟨g, 3, none⟩ d3).setCell ⟨g, 4, none⟩ d4).setCell ⟨g, 5, none⟩ d5).setCell ⟨g, 6, none⟩ d6).setCell ⟨g, 7, none⟩ d7) ⟨g, 8, none⟩ d8
  have e : w.setCells g 0 [d0, d1, d2, d3, d4, d5, d6, d7, d8] = (((((((((w.setCell ⟨g, 0, none⟩ d0).setCell ⟨g, 1, none⟩ d1).setCell ⟨g, 2, none⟩ d2).setCell ⟨g, 3, none⟩ d3).setCell ⟨g, 4, none⟩ d4).setCell ⟨g, 5, none⟩ d5).setCell ⟨g, 6, none⟩ d6).setCell ⟨g, 7, none⟩ d7).setCell ⟨g, 8, none⟩ d8) := rfl
  rw [e]
  exact ⟨h8, (grown_trans1 (grown_trans1 (grown_trans1 (grown_trans1 (grown_trans1 (grown_trans1 (grown_trans1 (grown_trans1 g0 g1) g2) g3) g4) g5) g6) g7) g8)⟩
theorem there9 {w : World} {g : Nat} {T : TypeId} {cs : Array Value} (h : w.heap[g]? = some (.cells cs T (0, 0))) : w.there g 0 cs.size := fun j hj => by
  rw [Nat.zero_add]
  exact ⟨by rw [cell_of_row w g j cs T (0, 0) h, Array.getElem?_eq_getElem hj]; rfl, frozen_of_row w g j cs T h⟩
end Go.Proofs.Ytljcpgeggbbmfaa
