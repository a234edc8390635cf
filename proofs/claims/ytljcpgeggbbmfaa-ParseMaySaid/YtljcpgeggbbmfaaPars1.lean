/-
  The walks of what reads an instance: a fleet, a satellite, a customer (layer 12).
-/
import Derived.Test.YtljcpgeggbbmfaaPars
namespace Go.Proofs.Ytljcpgeggbbmfaa
set_option linter.unusedVariables false
set_option linter.unusedSimpArgs false
open Go.RowKit
/-- what a step of a reader leaves: a value, or the fault thrown; in memory only the reader's block has turned. -/
def StepEnd {α : Type} (w : World) (p : Nat) (A : Option Addr) (C : Nat) (ws : List WordD) (n : Nat) (val : α → Value) (r : PR α) (e : Ending) (w' : World) : Prop :=
  w.grownBy w' (some p) ∧ ((∃ x j, r = .inl (x, j) ∧ e = .returned (val x) ∧ RdrIs w' p A C ws j n) ∨ (∃ a c, r = .inr (a, c) ∧ e = PanEnd a c))
theorem must_any (p : Nat) (A : Option Addr) (C : Nat) (ws : List WordD) (i n : Nat) (t : ByteArray) (w : World) (R : RdrIs w p A C ws i n) :
    Calls Try.prog 31 #[.pointer (some ⟨p, 0, none⟩), .string t] w (StepEnd w p A C ws n (fun _ : Unit => .tuple #[]) (mustP ws n t i)) := by
  cases h : isB ws i t
  · exact (must_no p A C ws i n t w R h).mono fun e w' ⟨he, q, hq⟩ => ⟨by rw [hq]; exact grown_drewN _ _ _, .inr ⟨_, _, by unfold mustP; rw [h]; rfl, he⟩⟩
  · exact (must_yes p A C ws i n t w R h).mono fun e w' ⟨he, hR, hG⟩ => ⟨hG, .inl ⟨(), i + 1, by unfold mustP; rw [h]; rfl, he, hR⟩⟩
theorem num_any (p : Nat) (A : Option Addr) (C : Nat) (ws : List WordD) (i n : Nat) (lo hi : Int) (hsz : Hid (∀ x ∈ ws, x.text.size ≤ 9223372036854775807)) (w : World) (R : RdrIs w p A C ws i n) :
    Calls Try.prog 32 #[.pointer (some ⟨p, 0, none⟩), .int .i64 lo, .int .i64 hi] w (StepEnd w p A C ws n (fun v : Int => .int .i64 v) (numP ws n lo hi i)) := by
  by_cases h : i < ws.length
  · refine (num_some p A C ws i n lo hi w R h (hsz.out _ (List.getElem_mem h))).mono fun e w' ⟨he, hR, hG⟩ => ⟨hG, ?_⟩
    unfold numE at he hR
    unfold numP
    rw [dif_pos h]
    split at he
    · rename_i h1
      rw [if_pos h1] at hR ⊢
      split at he
      · rename_i h2
        rw [if_pos h2] at hR ⊢
        exact .inr ⟨_, _, rfl, he⟩
      · rename_i h2
        rw [if_neg h2] at hR ⊢
        exact .inl ⟨_, _, rfl, he, hR⟩
    · rename_i h1
      rw [if_neg h1] at hR ⊢
      exact .inr ⟨_, _, rfl, he⟩
  · exact (num_none p A C ws i n lo hi w R h).mono fun e w' ⟨he, q, hq⟩ => ⟨by rw [hq]; exact grown_drewN _ _ _, .inr ⟨_, _, by unfold numP; rw [dif_neg h], he⟩⟩
theorem grown_alloc (w : World) (o : Obj) (p : Nat) : w.grownBy (w.alloc o) (some p) := below_grown ((Below.refl _ _).alloc (Nat.le_refl _) o) p
/-- a block made since, turned. -/
theorem grown_setNew {w w' : World} {p : Nat} (h : w.grownBy w' (some p)) {a : Addr} (ha : w.heap.size ≤ a.block) (u : Value) : w.grownBy (w'.setCell a u) (some p) :=
  ⟨h.os, h.tape, h.output, by simpa [World.setCell] using h.size, fun k hk hne => (Below.heap_setCell w' a u k (by omega)).trans (h.block k hk hne)⟩
theorem RdrIs.setNew {w : World} {p : Nat} {A : Option Addr} {C : Nat} {ws : List WordD} {i n : Nat} (h : RdrIs w p A C ws i n) {a : Addr} (ha : p < a.block) (u : Value) : RdrIs (w.setCell a u) p A C ws i n :=
  ⟨(Below.heap_setCell w a u p (by omega)).trans h.blk, fun hne => by
    obtain ⟨b, off, e, hc⟩ := h.rd hne
    have hlt : b < p := h.lt _ e
    exact ⟨b, off, e, fun q u' hu => (World.cell?_of_block (Below.heap_setCell w a u b (by omega))).trans (hc q u' hu)⟩, h.lt, h.hi, h.le⟩
theorem row2 {w : World} {g : Nat} {u v : Value} {T : TypeId} (h : w.heap[g]? = some (.cells #[u, v] T (0, 0))) : w.cell? ⟨g, 0, none⟩ = some u ∧ w.cell? ⟨g, 1, none⟩ = some v ∧ w.frozen? ⟨g, 0, none⟩ = false ∧ w.frozen? ⟨g, 1, none⟩ = false :=
  ⟨cell_of_row w g 0 _ _ _ h, cell_of_row w g 1 _ _ _ h, frozen_of_row w g 0 _ _ h, frozen_of_row w g 1 _ _ h⟩
theorem row2_set {w : World} {g : Nat} {u v a b : Value} {T : TypeId} (h : w.heap[g]? = some (.cells #[u, v] T (0, 0))) : ((w.setCell ⟨g, 0, none⟩ a).setCell ⟨g, 1, none⟩ b).heap[g]? = some (.cells #[a, b] T (0, 0)) :=
  heap_set _ g 1 _ _ b (heap_set w g 0 _ _ a h)
theorem row4 {w : World} {g : Nat} {u v x y : Value} {T : TypeId} (h : w.heap[g]? = some (.cells #[u, v, x, y] T (0, 0))) : w.cell? ⟨g, 0, none⟩ = some u ∧ w.cell? ⟨g, 1, none⟩ = some v ∧ w.cell? ⟨g, 2, none⟩ = some x ∧ w.cell? ⟨g, 3, none⟩ = some y ∧ w.frozen? ⟨g, 0, none⟩ = false ∧ w.frozen? ⟨g, 1, none⟩ = false ∧ w.frozen? ⟨g, 2, none⟩ = false ∧ w.frozen? ⟨g, 3, none⟩ = false :=
  ⟨cell_of_row w g 0 _ _ _ h, cell_of_row w g 1 _ _ _ h, cell_of_row w g 2 _ _ _ h, cell_of_row w g 3 _ _ _ h, frozen_of_row w g 0 _ _ h, frozen_of_row w g 1 _ _ h, frozen_of_row w g 2 _ _ h, frozen_of_row w g 3 _ _ h⟩
theorem row4_set {w : World} {g : Nat} {u v x y a b c d : Value} {T : TypeId} (h : w.heap[g]? = some (.cells #[u, v, x, y] T (0, 0))) : ((((w.setCell ⟨g, 0, none⟩ a).setCell ⟨g, 1, none⟩ b).setCell ⟨g, 2, none⟩ c).setCell ⟨g, 3, none⟩ d).heap[g]? = some (.cells #[a, b, c, d] T (0, 0)) :=
  heap_set _ g 3 _ _ d (heap_set _ g 2 _ _ c (heap_set _ g 1 _ _ b (heap_set w g 0 _ _ a h)))
theorem row_kept {w w' : World} {g p : Nat} {o : Obj} (h : w.heap[g]? = some o) (hg : w.grownBy w' (some p)) (hne : g ≠ p) : w'.heap[g]? = some o := (hg.block g (heap_lt h) (fun e => hne (Option.some.inj e))).trans h
theorem rdr_kept {w : World} {p : Nat} {A : Option Addr} {C : Nat} {ws : List WordD} {i n g : Nat} (h : RdrIs w p A C ws i n) (hg : p < g) (j : Nat) (u : Value) : RdrIs (w.setCell ⟨g, j, none⟩ u) p A C ws i n := h.setNew (show p < (⟨g, j, none⟩ : Addr).block from hg) u
set_option maxHeartbeats 8000000 in
set_option maxRecDepth 100000 in
theorem fleet_any (p : Nat) (A : Option Addr) (C : Nat) (ws : List WordD) (i n : Nat) (t : ByteArray) (hsz : Hid (∀ x ∈ ws, x.text.size ≤ 9223372036854775807)) (w : World) (R : RdrIs w p A C ws i n) :
    Calls Try.prog 33 #[.pointer (some ⟨p, 0, none⟩), .string t] w (StepEnd w p A C ws n (fun x : Int × Int => .agg #[.int .i64 x.1, .int .i64 x.2]) (fleetP ws n t i)) := by
  have hp := heap_lt R.blk
  have R0 := Lib.hid (R.below ((Below.refl _ _).alloc (Nat.le_refl _) (.cells #[.int .i64 0, .int .i64 0] 24)))
  have G0 := Lib.hid (grown_alloc w (.cells #[.int .i64 0, .int .i64 0] 24) p)
  have B := Lib.hid (heap_alloc_new w (.cells #[.int .i64 0, .int .i64 0] 24))
  have hne : w.heap.size ≠ p := by omega
  clear R
  go_enter Try.func33, Try.ntmps33
  go_wp2_with fail
  refine (must_any p A C ws i n t _ R0.out).mono ?_
  rintro e w1 ⟨hG, ⟨x1, j1, hr1, rfl, hR⟩ | ⟨a, c, hr1, rfl⟩⟩
  rotate_left
  · have hG2 := Lib.hid (grown_trans1 G0.out hG)
    replace hr1 := Lib.hid hr1
    clear hG
    unfold PanEnd
    go_wp2_with fail
    exact ⟨rfl, hG2.out, .inr ⟨a, c, by unfold fleetP; rw [hr1.out]; rfl, rfl⟩⟩
  replace B := Lib.hid (row_kept B.out hG hne)
  have G1 := Lib.hid (grown_trans1 G0.out hG)
  have R1 := Lib.hid hR
  replace hr1 := Lib.hid hr1
  clear hG hR G0 R0
  go_wp2_with fail
  refine (num_any p A C ws j1 n 1 60 hsz _ R1.out).mono ?_
  rintro e w2 ⟨hG, ⟨x2, j2, hr2, rfl, hR⟩ | ⟨a, c, hr2, rfl⟩⟩
  rotate_left
  · have hG2 := Lib.hid (grown_trans1 G1.out hG)
    replace hr2 := Lib.hid hr2
    clear hG
    unfold PanEnd
    go_wp2_with fail
    exact ⟨rfl, hG2.out, .inr ⟨a, c, by unfold fleetP; rw [hr1.out, bindP_inl, hr2.out]; rfl, rfl⟩⟩
  replace B := Lib.hid (row_kept B.out hG hne)
  have G2 := Lib.hid (grown_trans1 G1.out hG)
  have R2 := Lib.hid hR
  replace hr2 := Lib.hid hr2
  clear hG hR G1 R1
  go_wp2_with fail
  refine (num_any p A C ws j2 n 0 1000000000 hsz _ R2.out).mono ?_
  rintro e w3 ⟨hG, ⟨x3, j3, hr3, rfl, hR⟩ | ⟨a, c, hr3, rfl⟩⟩
  rotate_left
  · have hG2 := Lib.hid (grown_trans1 G2.out hG)
    replace hr3 := Lib.hid hr3
    clear hG
    unfold PanEnd
    go_wp2_with fail
    exact ⟨rfl, hG2.out, .inr ⟨a, c, by unfold fleetP; rw [hr1.out, bindP_inl, hr2.out, bindP_inl, hr3.out]; rfl, rfl⟩⟩
  replace B := Lib.hid (row_kept B.out hG hne)
  have G3 := Lib.hid (grown_trans1 G2.out hG)
  have R3 := Lib.hid hR
  replace hr3 := Lib.hid hr3
  clear hG hR G2 R2
  obtain ⟨c0, c1, f0, f1⟩ := row2 B.out
  have B4 := Lib.hid (row2_set (a := .int .i64 x2) (b := .int .i64 x3) B.out)
  have R4 := Lib.hid (rdr_kept (rdr_kept R3.out (show p < w.heap.size from hp) 0 (.int .i64 x2)) (show p < w.heap.size from hp) 1 (.int .i64 x3))
  have G4 := Lib.hid (grown_setNew (grown_setNew G3.out (a := ⟨w.heap.size, 0, none⟩) (Nat.le_refl _) (.int .i64 x2)) (a := ⟨w.heap.size, 1, none⟩) (Nat.le_refl _) (.int .i64 x3))
  clear B
  go_wp2_with fail
  clear c0 c1 f0 f1
  generalize ((w3.setCell ⟨w.heap.size, 0, none⟩ (.int .i64 x2)).setCell ⟨w.heap.size, 1, none⟩ (.int .i64 x3)) = W4 at *
  obtain ⟨c0, c1, _, _⟩ := row2 B4.out
  exact bodyPost_ret (v := .agg #[.int .i64 x2, .int .i64 x3]) (by simp [results, Try.results33, go_sem, c0, c1]) rfl ⟨G4.out, .inl ⟨(x2, x3), j3, by unfold fleetP; rw [hr1.out, bindP_inl, hr2.out, bindP_inl, hr3.out, bindP_inl], rfl, R4.out⟩⟩
set_option maxHeartbeats 8000000 in
set_option maxRecDepth 100000 in
theorem sat_any (p : Nat) (A : Option Addr) (C : Nat) (ws : List WordD) (i n : Nat) (hsz : Hid (∀ x ∈ ws, x.text.size ≤ 9223372036854775807)) (w : World) (R : RdrIs w p A C ws i n) :
    Calls Try.prog 34 #[.pointer (some ⟨p, 0, none⟩)] w (StepEnd w p A C ws n (fun x : SatD => .agg #[.int .i64 x.room, .int .i64 x.hold]) (satP ws n i)) := by
  have hp := heap_lt R.blk
  have R0 := Lib.hid (R.below ((Below.refl _ _).alloc (Nat.le_refl _) (.cells #[.int .i64 0, .int .i64 0] 62)))
  have G0 := Lib.hid (grown_alloc w (.cells #[.int .i64 0, .int .i64 0] 62) p)
  have B := Lib.hid (heap_alloc_new w (.cells #[.int .i64 0, .int .i64 0] 62))
  have hne : w.heap.size ≠ p := by omega
  clear R
  go_enter Try.func34, Try.ntmps34
  go_wp2_with fail
  refine (num_any p A C ws i n 0 1000000000 hsz _ R0.out).mono ?_
  rintro e w1 ⟨hG, ⟨x1, j1, hr1, rfl, hR⟩ | ⟨a, c, hr1, rfl⟩⟩
  rotate_left
  · have hG2 := Lib.hid (grown_trans1 G0.out hG)
    replace hr1 := Lib.hid hr1
    clear hG
    unfold PanEnd
    go_wp2_with fail
    exact ⟨rfl, hG2.out, .inr ⟨a, c, by unfold satP; rw [hr1.out]; rfl, rfl⟩⟩
  replace B := Lib.hid (row_kept B.out hG hne)
  have G1 := Lib.hid (grown_trans1 G0.out hG)
  have R1 := Lib.hid hR
  replace hr1 := Lib.hid hr1
  clear hG hR G0 R0
  go_wp2_with fail
  refine (num_any p A C ws j1 n 0 1000000000 hsz _ R1.out).mono ?_
  rintro e w2 ⟨hG, ⟨x2, j2, hr2, rfl, hR⟩ | ⟨a, c, hr2, rfl⟩⟩
  rotate_left
  · have hG2 := Lib.hid (grown_trans1 G1.out hG)
    replace hr2 := Lib.hid hr2
    clear hG
    unfold PanEnd
    go_wp2_with fail
    exact ⟨rfl, hG2.out, .inr ⟨a, c, by unfold satP; rw [hr1.out, bindP_inl, hr2.out]; rfl, rfl⟩⟩
  replace B := Lib.hid (row_kept B.out hG hne)
  have G2 := Lib.hid (grown_trans1 G1.out hG)
  have R2 := Lib.hid hR
  replace hr2 := Lib.hid hr2
  clear hG hR G1 R1
  obtain ⟨c0, c1, f0, f1⟩ := row2 B.out
  have B4 := Lib.hid (row2_set (a := .int .i64 x1) (b := .int .i64 x2) B.out)
  have R4 := Lib.hid (rdr_kept (rdr_kept R2.out (show p < w.heap.size from hp) 0 (.int .i64 x1)) (show p < w.heap.size from hp) 1 (.int .i64 x2))
  have G4 := Lib.hid (grown_setNew (grown_setNew G2.out (a := ⟨w.heap.size, 0, none⟩) (Nat.le_refl _) (.int .i64 x1)) (a := ⟨w.heap.size, 1, none⟩) (Nat.le_refl _) (.int .i64 x2))
  clear B
  go_wp2_with fail
  clear c0 c1 f0 f1
  generalize ((w2.setCell ⟨w.heap.size, 0, none⟩ (.int .i64 x1)).setCell ⟨w.heap.size, 1, none⟩ (.int .i64 x2)) = W4 at *
  obtain ⟨c0, c1, _, _⟩ := row2 B4.out
  exact bodyPost_ret (v := .agg #[.int .i64 x1, .int .i64 x2]) (by simp [results, Try.results34, go_sem, c0, c1]) rfl ⟨G4.out, .inl ⟨⟨x1, x2⟩, j2, by unfold satP; rw [hr1.out, bindP_inl, hr2.out, bindP_inl], rfl, R4.out⟩⟩
set_option maxHeartbeats 8000000 in
set_option maxRecDepth 100000 in
theorem cust_any (p : Nat) (A : Option Addr) (C : Nat) (ws : List WordD) (i n : Nat) (hsz : Hid (∀ x ∈ ws, x.text.size ≤ 9223372036854775807)) (w : World) (R : RdrIs w p A C ws i n) :
    Calls Try.prog 35 #[.pointer (some ⟨p, 0, none⟩)] w (StepEnd w p A C ws n (fun x : CustD => .agg #[.int .i64 x.load, .int .i64 x.opn, .int .i64 x.close, .int .i64 x.stay]) (custP ws n i)) := by
  have hp := heap_lt R.blk
  have hb0 : Below w.heap.size w ((w.alloc (.cells #[.int .i64 0, .int .i64 0, .int .i64 0, .int .i64 0] 66)).alloc (.cells #[.int .i64 0, .int .i64 0, .int .i64 0, .int .i64 0] 66)) := ((Below.refl _ _).alloc (Nat.le_refl _) _).alloc (by simp) _
  have R0 := Lib.hid (R.below hb0)
  have G0 := Lib.hid (below_grown hb0 p)
  have B := Lib.hid ((Below.heap_alloc (w.alloc (.cells #[.int .i64 0, .int .i64 0, .int .i64 0, .int .i64 0] 66)) (.cells #[.int .i64 0, .int .i64 0, .int .i64 0, .int .i64 0] 66) w.heap.size (by simp)).trans (heap_alloc_new w (.cells #[.int .i64 0, .int .i64 0, .int .i64 0, .int .i64 0] 66)))
  have D : Hid (((w.alloc (.cells #[.int .i64 0, .int .i64 0, .int .i64 0, .int .i64 0] 66)).alloc (.cells #[.int .i64 0, .int .i64 0, .int .i64 0, .int .i64 0] 66)).heap[w.heap.size + 1]? = some (.cells #[.int .i64 0, .int .i64 0, .int .i64 0, .int .i64 0] 66)) := Lib.hid (by have := heap_alloc_new (w.alloc (.cells #[.int .i64 0, .int .i64 0, .int .i64 0, .int .i64 0] 66)) (.cells #[.int .i64 0, .int .i64 0, .int .i64 0, .int .i64 0] 66); rwa [show (w.alloc (.cells #[.int .i64 0, .int .i64 0, .int .i64 0, .int .i64 0] 66)).heap.size = w.heap.size + 1 by simp] at this)
  have hne : w.heap.size ≠ p := by omega
  have hne2 : w.heap.size + 1 ≠ p := by omega
  clear R hb0
  go_enter Try.func35, Try.ntmps35
  go_wp2_with fail
  refine (num_any p A C ws i n 1 1000000000 hsz _ R0.out).mono ?_
  rintro e w1 ⟨hG, ⟨x1, j1, hr1, rfl, hR⟩ | ⟨a, c, hr1, rfl⟩⟩
  rotate_left
  · have hG2 := Lib.hid (grown_trans1 G0.out hG)
    replace hr1 := Lib.hid hr1
    clear hG
    unfold PanEnd
    go_wp2_with fail
    exact ⟨rfl, hG2.out, .inr ⟨a, c, by unfold custP; rw [hr1.out]; rfl, rfl⟩⟩
  replace B := Lib.hid (row_kept B.out hG hne)
  replace D := Lib.hid (row_kept D.out hG hne2)
  have G1 := Lib.hid (grown_trans1 G0.out hG)
  have R1 := Lib.hid hR
  replace hr1 := Lib.hid hr1
  clear hG hR G0 R0
  obtain ⟨d0, d1, d2, d3, e0, e1, e2, e3⟩ := row4 D.out
  have D2 := Lib.hid (heap_set w1 (w.heap.size + 1) 0 _ _ (.int .i64 x1) D.out)
  have B2 := Lib.hid ((Below.heap_setCell w1 ⟨w.heap.size + 1, 0, none⟩ (.int .i64 x1) w.heap.size (show w.heap.size ≠ w.heap.size + 1 by omega)).trans B.out)
  have R2x := Lib.hid (rdr_kept R1.out (show p < w.heap.size + 1 by omega) 0 (.int .i64 x1))
  have G2x := Lib.hid (grown_setNew G1.out (a := ⟨w.heap.size + 1, 0, none⟩) (by show w.heap.size ≤ w.heap.size + 1; omega) (.int .i64 x1))
  clear B D R1 G1
  go_wp2_with fail
  clear d0 d1 d2 d3 e0 e1 e2 e3
  generalize w1.setCell ⟨w.heap.size + 1, 0, none⟩ (.int .i64 x1) = v1 at *
  have D : Hid (v1.heap[w.heap.size + 1]? = some (.cells #[.int .i64 x1, .int .i64 0, .int .i64 0, .int .i64 0] 66 (0, 0))) := Lib.hid D2.out
  have B := B2
  have R1 := R2x
  have G1 := G2x
  clear D2 B2 R2x G2x
  refine (num_any p A C ws j1 n 0 1000000000 hsz _ R1.out).mono ?_
  rintro e w2 ⟨hG, ⟨x2, j2, hr2, rfl, hR⟩ | ⟨a, c, hr2, rfl⟩⟩
  rotate_left
  · have hG2 := Lib.hid (grown_trans1 G1.out hG)
    replace hr2 := Lib.hid hr2
    clear hG
    unfold PanEnd
    go_wp2_with fail
    exact ⟨rfl, hG2.out, .inr ⟨a, c, by unfold custP; rw [hr1.out, bindP_inl, hr2.out]; rfl, rfl⟩⟩
  replace B := Lib.hid (row_kept B.out hG hne)
  replace D := Lib.hid (row_kept D.out hG hne2)
  have G2 := Lib.hid (grown_trans1 G1.out hG)
  have R2 := Lib.hid hR
  replace hr2 := Lib.hid hr2
  clear hG hR G1 R1
  obtain ⟨d0, d1, d2, d3, e0, e1, e2, e3⟩ := row4 D.out
  have D2 := Lib.hid (heap_set w2 (w.heap.size + 1) 1 _ _ (.int .i64 x2) D.out)
  have B2 := Lib.hid ((Below.heap_setCell w2 ⟨w.heap.size + 1, 1, none⟩ (.int .i64 x2) w.heap.size (show w.heap.size ≠ w.heap.size + 1 by omega)).trans B.out)
  have R2x := Lib.hid (rdr_kept R2.out (show p < w.heap.size + 1 by omega) 1 (.int .i64 x2))
  have G2x := Lib.hid (grown_setNew G2.out (a := ⟨w.heap.size + 1, 1, none⟩) (by show w.heap.size ≤ w.heap.size + 1; omega) (.int .i64 x2))
  clear B D R2 G2
  go_upto_region 4 with fail
  clear d0 d1 d2 d3 e0 e1 e2 e3
  generalize w2.setCell ⟨w.heap.size + 1, 1, none⟩ (.int .i64 x2) = v2 at *
  have D : Hid (v2.heap[w.heap.size + 1]? = some (.cells #[.int .i64 x1, .int .i64 x2, .int .i64 0, .int .i64 0] 66 (0, 0))) := Lib.hid D2.out
  have B := B2
  have R2 := R2x
  have G2 := G2x
  clear D2 B2 R2x G2x
  obtain ⟨d0, d1, d2, d3, e0, e1, e2, e3⟩ := row4 D.out
  go_wp2_with fail
  clear d0 d1 d2 d3 e0 e1 e2 e3
  refine (num_any p A C ws j2 n x2 1000000000 hsz _ R2.out).mono ?_
  rintro e w3 ⟨hG, ⟨x3, j3, hr3, rfl, hR⟩ | ⟨a, c, hr3, rfl⟩⟩
  rotate_left
  · have hG2 := Lib.hid (grown_trans1 G2.out hG)
    replace hr3 := Lib.hid hr3
    clear hG
    unfold PanEnd
    go_wp2_with fail
    exact ⟨rfl, hG2.out, .inr ⟨a, c, by unfold custP; rw [hr1.out, bindP_inl, hr2.out, bindP_inl, hr3.out]; rfl, rfl⟩⟩
  replace B := Lib.hid (row_kept B.out hG hne)
  replace D := Lib.hid (row_kept D.out hG hne2)
  have G3 := Lib.hid (grown_trans1 G2.out hG)
  have R3 := Lib.hid hR
  replace hr3 := Lib.hid hr3
  clear hG hR G2 R2
  obtain ⟨d0, d1, d2, d3, e0, e1, e2, e3⟩ := row4 D.out
  have D2 := Lib.hid (heap_set w3 (w.heap.size + 1) 2 _ _ (.int .i64 x3) D.out)
  have B2 := Lib.hid ((Below.heap_setCell w3 ⟨w.heap.size + 1, 2, none⟩ (.int .i64 x3) w.heap.size (show w.heap.size ≠ w.heap.size + 1 by omega)).trans B.out)
  have R2x := Lib.hid (rdr_kept R3.out (show p < w.heap.size + 1 by omega) 2 (.int .i64 x3))
  have G2x := Lib.hid (grown_setNew G3.out (a := ⟨w.heap.size + 1, 2, none⟩) (by show w.heap.size ≤ w.heap.size + 1; omega) (.int .i64 x3))
  clear B D R3 G3
  go_wp2_with fail
  clear d0 d1 d2 d3 e0 e1 e2 e3
  generalize w3.setCell ⟨w.heap.size + 1, 2, none⟩ (.int .i64 x3) = v3 at *
  have D : Hid (v3.heap[w.heap.size + 1]? = some (.cells #[.int .i64 x1, .int .i64 x2, .int .i64 x3, .int .i64 0] 66 (0, 0))) := Lib.hid D2.out
  have B := B2
  have R3 := R2x
  have G3 := G2x
  clear D2 B2 R2x G2x
  refine (num_any p A C ws j3 n 0 1000000000 hsz _ R3.out).mono ?_
  rintro e w4 ⟨hG, ⟨x4, j4, hr4, rfl, hR⟩ | ⟨a, c, hr4, rfl⟩⟩
  rotate_left
  · have hG2 := Lib.hid (grown_trans1 G3.out hG)
    replace hr4 := Lib.hid hr4
    clear hG
    unfold PanEnd
    go_wp2_with fail
    exact ⟨rfl, hG2.out, .inr ⟨a, c, by unfold custP; rw [hr1.out, bindP_inl, hr2.out, bindP_inl, hr3.out, bindP_inl, hr4.out]; rfl, rfl⟩⟩
  replace B := Lib.hid (row_kept B.out hG hne)
  replace D := Lib.hid (row_kept D.out hG hne2)
  have G4 := Lib.hid (grown_trans1 G3.out hG)
  have R4 := Lib.hid hR
  replace hr4 := Lib.hid hr4
  clear hG hR G3 R3
  obtain ⟨d0, d1, d2, d3, e0, e1, e2, e3⟩ := row4 D.out
  have D2 := Lib.hid (heap_set w4 (w.heap.size + 1) 3 _ _ (.int .i64 x4) D.out)
  have B2 := Lib.hid ((Below.heap_setCell w4 ⟨w.heap.size + 1, 3, none⟩ (.int .i64 x4) w.heap.size (show w.heap.size ≠ w.heap.size + 1 by omega)).trans B.out)
  have R2x := Lib.hid (rdr_kept R4.out (show p < w.heap.size + 1 by omega) 3 (.int .i64 x4))
  have G2x := Lib.hid (grown_setNew G4.out (a := ⟨w.heap.size + 1, 3, none⟩) (by show w.heap.size ≤ w.heap.size + 1; omega) (.int .i64 x4))
  clear B D R4 G4
  go_upto_region 6 with fail
  clear d0 d1 d2 d3 e0 e1 e2 e3
  generalize w4.setCell ⟨w.heap.size + 1, 3, none⟩ (.int .i64 x4) = v4 at *
  have D : Hid (v4.heap[w.heap.size + 1]? = some (.cells #[.int .i64 x1, .int .i64 x2, .int .i64 x3, .int .i64 x4] 66 (0, 0))) := Lib.hid D2.out
  have B := B2
  have R4 := R2x
  have G4 := G2x
  clear D2 B2 R2x G2x
  obtain ⟨d0, d1, d2, d3, e0, e1, e2, e3⟩ := row4 D.out
  obtain ⟨c0, c1, c2, c3, f0, f1, f2, f3⟩ := row4 B.out
  have hgp : p < w.heap.size := hp
  have B4 := Lib.hid (row4_set (a := .int .i64 x1) (b := .int .i64 x2) (c := .int .i64 x3) (d := .int .i64 x4) B.out)
  have R5 := Lib.hid (rdr_kept (rdr_kept (rdr_kept (rdr_kept R4.out hgp 0 (.int .i64 x1)) hgp 1 (.int .i64 x2)) hgp 2 (.int .i64 x3)) hgp 3 (.int .i64 x4))
  have G5 := Lib.hid (grown_setNew (grown_setNew (grown_setNew (grown_setNew G4.out (a := ⟨w.heap.size, 0, none⟩) (Nat.le_refl _) (.int .i64 x1)) (a := ⟨w.heap.size, 1, none⟩) (Nat.le_refl _) (.int .i64 x2)) (a := ⟨w.heap.size, 2, none⟩) (Nat.le_refl _) (.int .i64 x3)) (a := ⟨w.heap.size, 3, none⟩) (Nat.le_refl _) (.int .i64 x4))
  clear B D
  go_wp2_with fail
  clear c0 c1 c2 c3 f0 f1 f2 f3 d0 d1 d2 d3 e0 e1 e2 e3
  generalize ((((v4.setCell ⟨w.heap.size, 0, none⟩ (.int .i64 x1)).setCell ⟨w.heap.size, 1, none⟩ (.int .i64 x2)).setCell ⟨w.heap.size, 2, none⟩ (.int .i64 x3)).setCell ⟨w.heap.size, 3, none⟩ (.int .i64 x4)) = W4 at *
  obtain ⟨c0, c1, c2, c3, _, _, _, _⟩ := row4 B4.out
  exact bodyPost_ret (v := .agg #[.int .i64 x1, .int .i64 x2, .int .i64 x3, .int .i64 x4]) (by simp [results, Try.results35, go_sem, c0, c1, c2, c3]) rfl ⟨G5.out, .inl ⟨⟨x1, x2, x3, x4⟩, j4, by unfold custP; rw [hr1.out, bindP_inl, hr2.out, bindP_inl, hr3.out, bindP_inl, hr4.out, bindP_inl], rfl, R5.out⟩⟩
end Go.Proofs.Ytljcpgeggbbmfaa
