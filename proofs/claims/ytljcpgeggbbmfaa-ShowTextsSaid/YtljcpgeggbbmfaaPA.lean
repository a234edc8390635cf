/-
  Parse: a reader's steps in plain Lean, and the walks (layer 12).
-/
import Derived.Test.YtljcpgeggbbmfaaReader
import Derived.Test.YtljcpgeggbbmfaaRowsO
import Derived.Test.YtljcpgeggbbmfaaRE
import Derived.Test.YtljcpgeggbbmfaaRegN
import Derived.Test.YtljcpgeggbbmfaaReg2
import Derived.Test.YtljcpgeggbbmfaaMakeOk
import Derived.Test.YtljcpgeggbbmfaaAwake3
import Derived.Test.YtljcpgeggbbmfaaSame5
namespace Go.Proofs.Ytljcpgeggbbmfaa
set_option linter.unusedVariables false
set_option linter.unusedSimpArgs false
open Go.RowKit
/-- a value, and where the reader stands then; or the fault: where, and why. -/
abbrev PR (α : Type) := (α × Nat) ⊕ (Int × Int)
def bindP {α β : Type} (x : PR α) (f : α → Nat → PR β) : PR β := match x with | .inl (a, i) => f a i | .inr e => .inr e
theorem bindP_inl {α β : Type} (a : α) (i : Nat) (f : α → Nat → PR β) : bindP (.inl (a, i)) f = f a i := rfl
theorem bindP_inr {α β : Type} (e : Int × Int) (f : α → Nat → PR β) : bindP (.inr e) f = .inr e := rfl
theorem bindP_ok {α β : Type} {x : PR α} {f : α → Nat → PR β} {b : β} {j : Nat} (h : bindP x f = .inl (b, j)) : ∃ a i, x = .inl (a, i) ∧ f a i = .inl (b, j) := by
  match x, h with
  | .inl (a, i), h => exact ⟨a, i, rfl, h⟩
  | .inr e, h => cases h
def mustP (ws : List WordD) (n : Nat) (t : ByteArray) (i : Nat) : PR Unit := if isB ws i t then .inl ((), i + 1) else .inr ((placeN ws i n : Int), 5)
def numP (ws : List WordD) (n : Nat) (lo hi : Int) (i : Nat) : PR Int :=
  if h : i < ws.length then
    (if okNum (L ws[i].text) then (if parseV (L ws[i].text) < lo ∨ hi < parseV (L ws[i].text) then .inr ((placeN ws i n : Int), 2) else .inl (parseV (L ws[i].text), i + 1)) else .inr ((placeN ws i n : Int), 3))
  else .inr ((placeN ws i n : Int), 3)
/-- m steps, of the numbers k, k + 1, .. -/
def upP {α : Type} (f : Nat → Nat → PR α) : Nat → Nat → Nat → PR (List α)
  | 0, _, i => .inl ([], i)
  | m + 1, k, i => bindP (f k i) fun x i => bindP (upP f m (k + 1) i) fun xs i => .inl (x :: xs, i)
def fleetP (ws : List WordD) (n : Nat) (t : ByteArray) (i : Nat) : PR (Int × Int) :=
  bindP (mustP ws n t i) fun _ i => bindP (numP ws n 1 60 i) fun m i => bindP (numP ws n 0 1000000000 i) fun r i => .inl ((m, r), i)
def satP (ws : List WordD) (n : Nat) (i : Nat) : PR SatD :=
  bindP (numP ws n 0 1000000000 i) fun r i => bindP (numP ws n 0 1000000000 i) fun h i => .inl (⟨r, h⟩, i)
def custP (ws : List WordD) (n : Nat) (i : Nat) : PR CustD :=
  bindP (numP ws n 1 1000000000 i) fun l i => bindP (numP ws n 0 1000000000 i) fun o i => bindP (numP ws n o 1000000000 i) fun c i => bindP (numP ws n 0 1000000000 i) fun s i => .inl (⟨l, o, c, s⟩, i)
def cellP (ws : List WordD) (n : Nat) (r k : Nat) (i : Nat) : PR Int := numP ws n 0 (if r = k then 0 else 1000000000) i
def rowP (ws : List WordD) (n : Nat) (m r : Nat) (i : Nat) : PR (List Int) := upP (cellP ws n r) m 0 i
def matP (ws : List WordD) (n : Nat) (t : ByteArray) (m : Nat) (i : Nat) : PR (List (List Int)) :=
  bindP (mustP ws n t i) fun _ i => upP (rowP ws n m) m 0 i
def sWharfage : ByteArray := ⟨#[119, 104, 97, 114, 102, 97, 103, 101]⟩
def sTrucks : ByteArray := ⟨#[116, 114, 117, 99, 107, 115]⟩
def sBikes : ByteArray := ⟨#[98, 105, 107, 101, 115]⟩
def sSats : ByteArray := ⟨#[115, 97, 116, 101, 108, 108, 105, 116, 101, 115]⟩
def sCusts : ByteArray := ⟨#[99, 117, 115, 116, 111, 109, 101, 114, 115]⟩
def sCost : ByteArray := ⟨#[99, 111, 115, 116]⟩
def sTime : ByteArray := ⟨#[116, 105, 109, 101]⟩
def sEnd : ByteArray := ⟨#[101, 110, 100]⟩
/-- behind the customers. -/
def instP4 (ws : List WordD) (n : Nat) (fin : Int) (t b : Int × Int) (sats : List SatD) (custs : List CustD) (i : Nat) : PR InstD :=
  bindP (matP ws n sCost (1 + sats.length + custs.length) i) fun co i => bindP (matP ws n sTime (1 + sats.length + custs.length) i) fun ti i =>
    bindP (mustP ws n sEnd i) fun _ i => .inl (⟨fin, t.1, t.2, b.1, b.2, sats, custs, co, ti⟩, i)
def instP3 (ws : List WordD) (n : Nat) (fin : Int) (t b : Int × Int) (sats : List SatD) (i : Nat) : PR InstD :=
  bindP (mustP ws n sCusts i) fun _ i => bindP (numP ws n 1 48 i) fun m i => bindP (upP (fun _ => custP ws n) m.toNat 0 i) fun cs i => instP4 ws n fin t b sats cs i
def instP2 (ws : List WordD) (n : Nat) (fin : Int) (t b : Int × Int) (i : Nat) : PR InstD :=
  bindP (mustP ws n sSats i) fun _ i => bindP (numP ws n 1 12 i) fun m i => bindP (upP (fun _ => satP ws n) m.toNat 0 i) fun ss i => instP3 ws n fin t b ss i
def instP (ws : List WordD) (n : Nat) : PR InstD :=
  bindP (mustP ws n sWharfage 0) fun _ i => bindP (numP ws n 0 1000000000 i) fun fin i => bindP (fleetP ws n sTrucks i) fun t i => bindP (fleetP ws n sBikes i) fun b i => instP2 ws n fin t b i
theorem upP_ok {α : Type} {f : Nat → Nat → PR α} : ∀ (m k i : Nat) {xs : List α} {j : Nat}, upP f m k i = .inl (xs, j) → xs.length = m
  | 0, k, i, xs, j, h => by injection h with h; injection h with h _; subst h; rfl
  | m + 1, k, i, xs, j, h => by
    obtain ⟨x, i1, h1, h2⟩ := bindP_ok h
    obtain ⟨ys, i2, h3, h4⟩ := bindP_ok h2
    injection h4 with h4
    injection h4 with h4 _
    subst h4
    rw [List.length_cons, upP_ok m (k + 1) i1 h3]
theorem upP_all {α : Type} {f : Nat → Nat → PR α} {Q : Nat → α → Prop} (hf : ∀ k i x j, f k i = .inl (x, j) → Q k x) : ∀ (m k i : Nat) {xs : List α} {j : Nat}, upP f m k i = .inl (xs, j) → ∀ (q : Nat) (x : α), xs[q]? = some x → Q (k + q) x
  | 0, k, i, xs, j, h => by injection h with h; injection h with h _; subst h; intro q x hx; simp at hx
  | m + 1, k, i, xs, j, h => by
    obtain ⟨x, i1, h1, h2⟩ := bindP_ok h
    obtain ⟨ys, i2, h3, h4⟩ := bindP_ok h2
    injection h4 with h4
    injection h4 with h4 _
    subst h4
    intro q y hy
    cases q with
    | zero => simp at hy; subst hy; exact hf k i x i1 h1
    | succ q =>
      have := upP_all hf m (k + 1) i1 h3 q y (by simpa using hy)
      rw [show k + (q + 1) = k + 1 + q by omega]; exact this
theorem upP_go {α : Type} {f : Nat → Nat → PR α} {m k i : Nat} {x : α} {j : Nat} (hx : f k i = .inl (x, j)) (done : List α) :
    bindP (upP f (m + 1) k i) (fun xs j => .inl (done ++ xs, j)) = bindP (upP f m (k + 1) j) (fun xs j => .inl ((done ++ [x]) ++ xs, j)) := by
  show bindP (bindP (f k i) fun x i => bindP (upP f m (k + 1) i) fun xs i => .inl (x :: xs, i)) _ = _
  rw [hx, bindP_inl]
  cases upP f m (k + 1) j with
  | inl a => obtain ⟨xs, q⟩ := a; show Sum.inl (done ++ x :: xs, q) = Sum.inl ((done ++ [x]) ++ xs, q); simp
  | inr e => rfl
theorem upP_bad {α β : Type} {f : Nat → Nat → PR α} {m k i : Nat} {e : Int × Int} (hx : f k i = .inr e) (g : List α → Nat → PR β) : bindP (upP f (m + 1) k i) g = .inr e := by
  show bindP (bindP (f k i) fun x i => bindP (upP f m (k + 1) i) fun xs i => .inl (x :: xs, i)) _ = _
  rw [hx]; rfl
theorem upP_end {α : Type} {f : Nat → Nat → PR α} {k i : Nat} (done : List α) : bindP (upP f 0 k i) (fun xs j => .inl (done ++ xs, j)) = .inl (done, i) := by
  show Sum.inl (done ++ [], i) = _; rw [List.append_nil]
theorem bindP_eta {α : Type} (x : PR (List α)) : bindP x (fun xs j => .inl ([] ++ xs, j)) = x := by
  match x with
  | .inl (a, i) => rfl
  | .inr e => rfl
theorem numP_ok {ws : List WordD} {n : Nat} {lo hi : Int} {i : Nat} {v : Int} {j : Nat} (h : numP ws n lo hi i = .inl (v, j)) : lo ≤ v ∧ v ≤ hi ∧ j = i + 1 ∧ i < ws.length := by
  unfold numP at h
  split at h
  · split at h
    · split at h
      · cases h
      · injection h with h; injection h with h1 h2; subst h1; subst h2; exact ⟨by omega, by omega, rfl, by assumption⟩
    · cases h
  · cases h
theorem mustP_ok {ws : List WordD} {n : Nat} {t : ByteArray} {i : Nat} {u : Unit} {j : Nat} (h : mustP ws n t i = .inl (u, j)) : j = i + 1 ∧ isB ws i t = true := by
  unfold mustP at h
  split at h
  · injection h with h; injection h with h1 h2; exact ⟨h2.symm, by assumption⟩
  · cases h
end Go.Proofs.Ytljcpgeggbbmfaa
namespace Go.Proofs.Ytljcpgeggbbmfaa
set_option linter.unusedVariables false
set_option linter.unusedSimpArgs false
open Go.RowKit
/-- what a step of a reader leaves: a value, or the fault thrown; in memory only the reader's block has turned. -/
def StepEnd {α : Type} (w : World) (p : Nat) (A : Option Addr) (C : Nat) (ws : List WordD) (n : Nat) (val : α → Value) (r : PR α) (e : Ending) (w' : World) : Prop :=
  w.grownBy w' (some p) ∧ ((∃ x j, r = .inl (x, j) ∧ e = .returned (val x) ∧ RdrIs w' p A C ws j n) ∨ (∃ a c, r = .inr (a, c) ∧ e = PanEnd a c))
theorem must_any (p : Nat) (A : Option Addr) (C : Nat) (ws : List WordD) (i n : Nat) (t : ByteArray) (w : World) (R : RdrIs w p A C ws i n) :
    Calls Try.prog 31 #[.pointer (some ⟨p, 0, none⟩), .string t] w (StepEnd w p A C ws n (fun _ : Unit => .tuple #[]) (mustP ws n t i)) := by
  cases h : isB ws i t
  · exact (must_no p A C ws i n t w R h).mono fun e w' ⟨he, q, hq⟩ => ⟨by rw [hq]; exact grown_drewN _ _ _, .inr ⟨_, _, by unfold mustP; rw [h]; rfl, he⟩⟩
  · exact (must_yes p A C ws i n t w R h).mono fun e w' ⟨he, hR, hG⟩ => ⟨hG, .inl ⟨(), i + 1, by unfold mustP; rw [h]; rfl, he, hR⟩⟩
theorem num_any (p : Nat) (A : Option Addr) (C : Nat) (ws : List WordD) (i n : Nat) (lo hi : Int) (hsz : Hid (∀ x ∈ ws, x.text.size ≤ 9223372036854775807)) (w : World) (R : RdrIs w p A C ws i n) :
    Calls Try.prog 32 #[.pointer (some ⟨p, 0, none⟩), .int .i64 lo, .int .i64 hi] w (StepEnd w p A C ws n (fun v : Int => .int .i64 v) (numP ws n lo hi i)) := by
  by_cases h : i < ws.length
  · refine (num_some p A C ws i n lo hi w R h (hsz.out _ (List.getElem_mem h))).mono fun e w' ⟨he, hR, hG⟩ => ⟨hG, ?_⟩
    unfold numE at he hR
    unfold numP
    rw [dif_pos h]
    split at he
    · rename_i h1
      rw [if_pos h1] at hR ⊢
      split at he
      · rename_i h2
        rw [if_pos h2] at hR ⊢
        exact .inr ⟨_, _, rfl, he⟩
      · rename_i h2
        rw [if_neg h2] at hR ⊢
        exact .inl ⟨_, _, rfl, he, hR⟩
    · rename_i h1
      rw [if_neg h1] at hR ⊢
      exact .inr ⟨_, _, rfl, he⟩
  · exact (num_none p A C ws i n lo hi w R h).mono fun e w' ⟨he, q, hq⟩ => ⟨by rw [hq]; exact grown_drewN _ _ _, .inr ⟨_, _, by unfold numP; rw [dif_neg h], he⟩⟩
theorem grown_alloc (w : World) (o : Obj) (p : Nat) : w.grownBy (w.alloc o) (some p) := below_grown ((Below.refl _ _).alloc (Nat.le_refl _) o) p
/-- a block made since, turned. -/
theorem grown_setNew {w w' : World} {p : Nat} (h : w.grownBy w' (some p)) {a : Addr} (ha : w.heap.size ≤ a.block) (u : Value) : w.grownBy (w'.setCell a u) (some p) :=
  ⟨h.os, h.tape, h.output, by simpa [World.setCell] using h.size, fun k hk hne => (Below.heap_setCell w' a u k (by omega)).trans (h.block k hk hne)⟩
theorem RdrIs.setNew {w : World} {p : Nat} {A : Option Addr} {C : Nat} {ws : List WordD} {i n : Nat} (h : RdrIs w p A C ws i n) {a : Addr} (ha : p < a.block) (u : Value) : RdrIs (w.setCell a u) p A C ws i n :=
  ⟨(Below.heap_setCell w a u p (by omega)).trans h.blk, fun hne => by
    obtain ⟨b, off, e, hc⟩ := h.rd hne
    have hlt : b < p := h.lt _ e
    exact ⟨b, off, e, fun q u' hu => (World.cell?_of_block (Below.heap_setCell w a u b (by omega))).trans (hc q u' hu)⟩, h.lt, h.hi, h.le⟩
theorem row2 {w : World} {g : Nat} {u v : Value} {T : TypeId} (h : w.heap[g]? = some (.cells #[u, v] T (0, 0))) : w.cell? ⟨g, 0, none⟩ = some u ∧ w.cell? ⟨g, 1, none⟩ = some v ∧ w.frozen? ⟨g, 0, none⟩ = false ∧ w.frozen? ⟨g, 1, none⟩ = false :=
  ⟨cell_of_row w g 0 _ _ _ h, cell_of_row w g 1 _ _ _ h, frozen_of_row w g 0 _ _ h, frozen_of_row w g 1 _ _ h⟩
theorem row2_set {w : World} {g : Nat} {u v a b : Value} {T : TypeId} (h : w.heap[g]? = some (.cells #[u, v] T (0, 0))) : ((w.setCell ⟨g, 0, none⟩ a).setCell ⟨g, 1, none⟩ b).heap[g]? = some (.cells #[a, b] T (0, 0)) :=
  heap_set _ g 1 _ _ b (heap_set w g 0 _ _ a h)
theorem row4 {w : World} {g : Nat} {u v x y : Value} {T : TypeId} (h : w.heap[g]? = some (.cells #[u, v, x, y] T (0, 0))) : w.cell? ⟨g, 0, none⟩ = some u ∧ w.cell? ⟨g, 1, none⟩ = some v ∧ w.cell? ⟨g, 2, none⟩ = some x ∧ w.cell? ⟨g, 3, none⟩ = some y ∧ w.frozen? ⟨g, 0, none⟩ = false ∧ w.frozen? ⟨g, 1, none⟩ = false ∧ w.frozen? ⟨g, 2, none⟩ = false ∧ w.frozen? ⟨g, 3, none⟩ = false :=
  ⟨cell_of_row w g 0 _ _ _ h, cell_of_row w g 1 _ _ _ h, cell_of_row w g 2 _ _ _ h, cell_of_row w g 3 _ _ _ h, frozen_of_row w g 0 _ _ h, frozen_of_row w g 1 _ _ h, frozen_of_row w g 2 _ _ h, frozen_of_row w g 3 _ _ h⟩
theorem row4_set {w : World} {g : Nat} {u v x y a b c d : Value} {T : TypeId} (h : w.heap[g]? = some (.cells #[u, v, x, y] T (0, 0))) : ((((w.setCell ⟨g, 0, none⟩ a).setCell ⟨g, 1, none⟩ b).setCell ⟨g, 2, none⟩ c).setCell ⟨g, 3, none⟩ d).heap[g]? = some (.cells #[a, b, c, d] T (0, 0)) :=
  heap_set _ g 3 _ _ d (heap_set _ g 2 _ _ c (heap_set _ g 1 _ _ b (heap_set w g 0 _ _ a h)))
theorem row_kept {w w' : World} {g p : Nat} {o : Obj} (h : w.heap[g]? = some o) (hg : w.grownBy w' (some p)) (hne : g ≠ p) : w'.heap[g]? = some o := (hg.block g (heap_lt h) (fun e => hne (Option.some.inj e))).trans h
theorem rdr_kept {w : World} {p : Nat} {A : Option Addr} {C : Nat} {ws : List WordD} {i n g : Nat} (h : RdrIs w p A C ws i n) (hg : p < g) (j : Nat) (u : Value) : RdrIs (w.setCell ⟨g, j, none⟩ u) p A C ws i n := h.setNew (show p < (⟨g, j, none⟩ : Addr).block from hg) u
set_option maxHeartbeats 8000000 in
set_option maxRecDepth 100000 in
theorem fleet_any (p : Nat) (A : Option Addr) (C : Nat) (ws : List WordD) (i n : Nat) (t : ByteArray) (hsz : Hid (∀ x ∈ ws, x.text.size ≤ 9223372036854775807)) (w : World) (R : RdrIs w p A C ws i n) :
    Calls Try.prog 33 #[.pointer (some ⟨p, 0, none⟩), .string t] w (StepEnd w p A C ws n (fun x : Int × Int => .agg #[.int .i64 x.1, .int .i64 x.2]) (fleetP ws n t i)) := by
  have hp := heap_lt R.blk
  have R0 := Lib.hid (R.below ((Below.refl _ _).alloc (Nat.le_refl _) (.cells #[.int .i64 0, .int .i64 0] 24)))
  have G0 := Lib.hid (grown_alloc w (.cells #[.int .i64 0, .int .i64 0] 24) p)
  have B := Lib.hid (heap_alloc_new w (.cells #[.int .i64 0, .int .i64 0] 24))
  have hne : w.heap.size ≠ p := by omega
  clear R
  go_enter Try.func33, Try.ntmps33
  go_wp2_with fail
  refine (must_any p A C ws i n t _ R0.out).mono ?_
  rintro e w1 ⟨hG, ⟨x1, j1, hr1, rfl, hR⟩ | ⟨a, c, hr1, rfl⟩⟩
  rotate_left
  · have hG2 := Lib.hid (grown_trans1 G0.out hG)
    replace hr1 := Lib.hid hr1
    clear hG
    unfold PanEnd
    go_wp2_with fail
    exact ⟨rfl, hG2.out, .inr ⟨a, c, by unfold fleetP; rw [hr1.out]; rfl, rfl⟩⟩
  replace B := Lib.hid (row_kept B.out hG hne)
  have G1 := Lib.hid (grown_trans1 G0.out hG)
  have R1 := Lib.hid hR
  replace hr1 := Lib.hid hr1
  clear hG hR G0 R0
  go_wp2_with fail
  refine (num_any p A C ws j1 n 1 60 hsz _ R1.out).mono ?_
  rintro e w2 ⟨hG, ⟨x2, j2, hr2, rfl, hR⟩ | ⟨a, c, hr2, rfl⟩⟩
  rotate_left
  · have hG2 := Lib.hid (grown_trans1 G1.out hG)
    replace hr2 := Lib.hid hr2
    clear hG
    unfold PanEnd
    go_wp2_with fail
    exact ⟨rfl, hG2.out, .inr ⟨a, c, by unfold fleetP; rw [hr1.out, bindP_inl, hr2.out]; rfl, rfl⟩⟩
  replace B := Lib.hid (row_kept B.out hG hne)
  have G2 := Lib.hid (grown_trans1 G1.out hG)
  have R2 := Lib.hid hR
  replace hr2 := Lib.hid hr2
  clear hG hR G1 R1
  go_wp2_with fail
  refine (num_any p A C ws j2 n 0 1000000000 hsz _ R2.out).mono ?_
  rintro e w3 ⟨hG, ⟨x3, j3, hr3, rfl, hR⟩ | ⟨a, c, hr3, rfl⟩⟩
  rotate_left
  · have hG2 := Lib.hid (grown_trans1 G2.out hG)
    replace hr3 := Lib.hid hr3
    clear hG
    unfold PanEnd
    go_wp2_with fail
    exact ⟨rfl, hG2.out, .inr ⟨a, c, by unfold fleetP; rw [hr1.out, bindP_inl, hr2.out, bindP_inl, hr3.out]; rfl, rfl⟩⟩
  replace B := Lib.hid (row_kept B.out hG hne)
  have G3 := Lib.hid (grown_trans1 G2.out hG)
  have R3 := Lib.hid hR
  replace hr3 := Lib.hid hr3
  clear hG hR G2 R2
  obtain ⟨c0, c1, f0, f1⟩ := row2 B.out
  have B4 := Lib.hid (row2_set (a := .int .i64 x2) (b := .int .i64 x3) B.out)
  have R4 := Lib.hid (rdr_kept (rdr_kept R3.out (show p < w.heap.size from hp) 0 (.int .i64 x2)) (show p < w.heap.size from hp) 1 (.int .i64 x3))
  have G4 := Lib.hid (grown_setNew (grown_setNew G3.out (a := ⟨w.heap.size, 0, none⟩) (Nat.le_refl _) (.int .i64 x2)) (a := ⟨w.heap.size, 1, none⟩) (Nat.le_refl _) (.int .i64 x3))
  clear B
  go_wp2_with fail
  clear c0 c1 f0 f1
  generalize ((w3.setCell ⟨w.heap.size, 0, none⟩ (.int .i64 x2)).setCell ⟨w.heap.size, 1, none⟩ (.int .i64 x3)) = W4 at *
  obtain ⟨c0, c1, _, _⟩ := row2 B4.out
  exact bodyPost_ret (v := .agg #[.int .i64 x2, .int .i64 x3]) (by simp [results, Try.results33, go_sem, c0, c1]) rfl ⟨G4.out, .inl ⟨(x2, x3), j3, by unfold fleetP; rw [hr1.out, bindP_inl, hr2.out, bindP_inl, hr3.out, bindP_inl], rfl, R4.out⟩⟩
set_option maxHeartbeats 8000000 in
set_option maxRecDepth 100000 in
theorem sat_any (p : Nat) (A : Option Addr) (C : Nat) (ws : List WordD) (i n : Nat) (hsz : Hid (∀ x ∈ ws, x.text.size ≤ 9223372036854775807)) (w : World) (R : RdrIs w p A C ws i n) :
    Calls Try.prog 34 #[.pointer (some ⟨p, 0, none⟩)] w (StepEnd w p A C ws n (fun x : SatD => .agg #[.int .i64 x.room, .int .i64 x.hold]) (satP ws n i)) := by
  have hp := heap_lt R.blk
  have R0 := Lib.hid (R.below ((Below.refl _ _).alloc (Nat.le_refl _) (.cells #[.int .i64 0, .int .i64 0] 62)))
  have G0 := Lib.hid (grown_alloc w (.cells #[.int .i64 0, .int .i64 0] 62) p)
  have B := Lib.hid (heap_alloc_new w (.cells #[.int .i64 0, .int .i64 0] 62))
  have hne : w.heap.size ≠ p := by omega
  clear R
  go_enter Try.func34, Try.ntmps34
  go_wp2_with fail
  refine (num_any p A C ws i n 0 1000000000 hsz _ R0.out).mono ?_
  rintro e w1 ⟨hG, ⟨x1, j1, hr1, rfl, hR⟩ | ⟨a, c, hr1, rfl⟩⟩
  rotate_left
  · have hG2 := Lib.hid (grown_trans1 G0.out hG)
    replace hr1 := Lib.hid hr1
    clear hG
    unfold PanEnd
    go_wp2_with fail
    exact ⟨rfl, hG2.out, .inr ⟨a, c, by unfold satP; rw [hr1.out]; rfl, rfl⟩⟩
  replace B := Lib.hid (row_kept B.out hG hne)
  have G1 := Lib.hid (grown_trans1 G0.out hG)
  have R1 := Lib.hid hR
  replace hr1 := Lib.hid hr1
  clear hG hR G0 R0
  go_wp2_with fail
  refine (num_any p A C ws j1 n 0 1000000000 hsz _ R1.out).mono ?_
  rintro e w2 ⟨hG, ⟨x2, j2, hr2, rfl, hR⟩ | ⟨a, c, hr2, rfl⟩⟩
  rotate_left
  · have hG2 := Lib.hid (grown_trans1 G1.out hG)
    replace hr2 := Lib.hid hr2
    clear hG
    unfold PanEnd
    go_wp2_with fail
    exact ⟨rfl, hG2.out, .inr ⟨a, c, by unfold satP; rw [hr1.out, bindP_inl, hr2.out]; rfl, rfl⟩⟩
  replace B := Lib.hid (row_kept B.out hG hne)
  have G2 := Lib.hid (grown_trans1 G1.out hG)
  have R2 := Lib.hid hR
  replace hr2 := Lib.hid hr2
  clear hG hR G1 R1
  obtain ⟨c0, c1, f0, f1⟩ := row2 B.out
  have B4 := Lib.hid (row2_set (a := .int .i64 x1) (b := .int .i64 x2) B.out)
  have R4 := Lib.hid (rdr_kept (rdr_kept R2.out (show p < w.heap.size from hp) 0 (.int .i64 x1)) (show p < w.heap.size from hp) 1 (.int .i64 x2))
  have G4 := Lib.hid (grown_setNew (grown_setNew G2.out (a := ⟨w.heap.size, 0, none⟩) (Nat.le_refl _) (.int .i64 x1)) (a := ⟨w.heap.size, 1, none⟩) (Nat.le_refl _) (.int .i64 x2))
  clear B
  go_wp2_with fail
  clear c0 c1 f0 f1
  generalize ((w2.setCell ⟨w.heap.size, 0, none⟩ (.int .i64 x1)).setCell ⟨w.heap.size, 1, none⟩ (.int .i64 x2)) = W4 at *
  obtain ⟨c0, c1, _, _⟩ := row2 B4.out
  exact bodyPost_ret (v := .agg #[.int .i64 x1, .int .i64 x2]) (by simp [results, Try.results34, go_sem, c0, c1]) rfl ⟨G4.out, .inl ⟨⟨x1, x2⟩, j2, by unfold satP; rw [hr1.out, bindP_inl, hr2.out, bindP_inl], rfl, R4.out⟩⟩
set_option maxHeartbeats 8000000 in
set_option maxRecDepth 100000 in
theorem cust_any (p : Nat) (A : Option Addr) (C : Nat) (ws : List WordD) (i n : Nat) (hsz : Hid (∀ x ∈ ws, x.text.size ≤ 9223372036854775807)) (w : World) (R : RdrIs w p A C ws i n) :
    Calls Try.prog 35 #[.pointer (some ⟨p, 0, none⟩)] w (StepEnd w p A C ws n (fun x : CustD => .agg #[.int .i64 x.load, .int .i64 x.opn, .int .i64 x.close, .int .i64 x.stay]) (custP ws n i)) := by
  have hp := heap_lt R.blk
  have hb0 : Below w.heap.size w ((w.alloc (.cells #[.int .i64 0, .int .i64 0, .int .i64 0, .int .i64 0] 66)).alloc (.cells #[.int .i64 0, .int .i64 0, .int .i64 0, .int .i64 0] 66)) := ((Below.refl _ _).alloc (Nat.le_refl _) _).alloc (by simp) _
  have R0 := Lib.hid (R.below hb0)
  have G0 := Lib.hid (below_grown hb0 p)
  have B := Lib.hid ((Below.heap_alloc (w.alloc (.cells #[.int .i64 0, .int .i64 0, .int .i64 0, .int .i64 0] 66)) (.cells #[.int .i64 0, .int .i64 0, .int .i64 0, .int .i64 0] 66) w.heap.size (by simp)).trans (heap_alloc_new w (.cells #[.int .i64 0, .int .i64 0, .int .i64 0, .int .i64 0] 66)))
  have D : Hid (((w.alloc (.cells #[.int .i64 0, .int .i64 0, .int .i64 0, .int .i64 0] 66)).alloc (.cells #[.int .i64 0, .int .i64 0, .int .i64 0, .int .i64 0] 66)).heap[w.heap.size + 1]? = some (.cells #[.int .i64 0, .int .i64 0, .int .i64 0, .int .i64 0] 66)) := Lib.hid (by have := heap_alloc_new (w.alloc (.cells #[.int .i64 0, .int .i64 0, .int .i64 0, .int .i64 0] 66)) (.cells #[.int .i64 0, .int .i64 0, .int .i64 0, .int .i64 0] 66); rwa [show (w.alloc (.cells #[.int .i64 0, .int .i64 0, .int .i64 0, .int .i64 0] 66)).heap.size = w.heap.size + 1 by simp] at this)
  have hne : w.heap.size ≠ p := by omega
  have hne2 : w.heap.size + 1 ≠ p := by omega
  clear R hb0
  go_enter Try.func35, Try.ntmps35
  go_wp2_with fail
  refine (num_any p A C ws i n 1 1000000000 hsz _ R0.out).mono ?_
  rintro e w1 ⟨hG, ⟨x1, j1, hr1, rfl, hR⟩ | ⟨a, c, hr1, rfl⟩⟩
  rotate_left
  · have hG2 := Lib.hid (grown_trans1 G0.out hG)
    replace hr1 := Lib.hid hr1
    clear hG
    unfold PanEnd
    go_wp2_with fail
    exact ⟨rfl, hG2.out, .inr ⟨a, c, by unfold custP; rw [hr1.out]; rfl, rfl⟩⟩
  replace B := Lib.hid (row_kept B.out hG hne)
  replace D := Lib.hid (row_kept D.out hG hne2)
  have G1 := Lib.hid (grown_trans1 G0.out hG)
  have R1 := Lib.hid hR
  replace hr1 := Lib.hid hr1
  clear hG hR G0 R0
  obtain ⟨d0, d1, d2, d3, e0, e1, e2, e3⟩ := row4 D.out
  have D2 := Lib.hid (heap_set w1 (w.heap.size + 1) 0 _ _ (.int .i64 x1) D.out)
  have B2 := Lib.hid ((Below.heap_setCell w1 ⟨w.heap.size + 1, 0, none⟩ (.int .i64 x1) w.heap.size (show w.heap.size ≠ w.heap.size + 1 by omega)).trans B.out)
  have R2x := Lib.hid (rdr_kept R1.out (show p < w.heap.size + 1 by omega) 0 (.int .i64 x1))
  have G2x := Lib.hid (grown_setNew G1.out (a := ⟨w.heap.size + 1, 0, none⟩) (by show w.heap.size ≤ w.heap.size + 1; omega) (.int .i64 x1))
  clear B D R1 G1
  go_wp2_with fail
  clear d0 d1 d2 d3 e0 e1 e2 e3
  generalize w1.setCell ⟨w.heap.size + 1, 0, none⟩ (.int .i64 x1) = v1 at *
  have D : Hid (v1.heap[w.heap.size + 1]? = some (.cells #[.int .i64 x1, .int .i64 0, .int .i64 0, .int .i64 0] 66 (0, 0))) := Lib.hid D2.out
  have B := B2
  have R1 := R2x
  have G1 := G2x
  clear D2 B2 R2x G2x
  refine (num_any p A C ws j1 n 0 1000000000 hsz _ R1.out).mono ?_
  rintro e w2 ⟨hG, ⟨x2, j2, hr2, rfl, hR⟩ | ⟨a, c, hr2, rfl⟩⟩
  rotate_left
  · have hG2 := Lib.hid (grown_trans1 G1.out hG)
    replace hr2 := Lib.hid hr2
    clear hG
    unfold PanEnd
    go_wp2_with fail
    exact ⟨rfl, hG2.out, .inr ⟨a, c, by unfold custP; rw [hr1.out, bindP_inl, hr2.out]; rfl, rfl⟩⟩
  replace B := Lib.hid (row_kept B.out hG hne)
  replace D := Lib.hid (row_kept D.out hG hne2)
  have G2 := Lib.hid (grown_trans1 G1.out hG)
  have R2 := Lib.hid hR
  replace hr2 := Lib.hid hr2
  clear hG hR G1 R1
  obtain ⟨d0, d1, d2, d3, e0, e1, e2, e3⟩ := row4 D.out
  have D2 := Lib.hid (heap_set w2 (w.heap.size + 1) 1 _ _ (.int .i64 x2) D.out)
  have B2 := Lib.hid ((Below.heap_setCell w2 ⟨w.heap.size + 1, 1, none⟩ (.int .i64 x2) w.heap.size (show w.heap.size ≠ w.heap.size + 1 by omega)).trans B.out)
  have R2x := Lib.hid (rdr_kept R2.out (show p < w.heap.size + 1 by omega) 1 (.int .i64 x2))
  have G2x := Lib.hid (grown_setNew G2.out (a := ⟨w.heap.size + 1, 1, none⟩) (by show w.heap.size ≤ w.heap.size + 1; omega) (.int .i64 x2))
  clear B D R2 G2
  go_upto_region 4 with fail
  clear d0 d1 d2 d3 e0 e1 e2 e3
  generalize w2.setCell ⟨w.heap.size + 1, 1, none⟩ (.int .i64 x2) = v2 at *
  have D : Hid (v2.heap[w.heap.size + 1]? = some (.cells #[.int .i64 x1, .int .i64 x2, .int .i64 0, .int .i64 0] 66 (0, 0))) := Lib.hid D2.out
  have B := B2
  have R2 := R2x
  have G2 := G2x
  clear D2 B2 R2x G2x
  obtain ⟨d0, d1, d2, d3, e0, e1, e2, e3⟩ := row4 D.out
  go_wp2_with fail
  clear d0 d1 d2 d3 e0 e1 e2 e3
  refine (num_any p A C ws j2 n x2 1000000000 hsz _ R2.out).mono ?_
  rintro e w3 ⟨hG, ⟨x3, j3, hr3, rfl, hR⟩ | ⟨a, c, hr3, rfl⟩⟩
  rotate_left
  · have hG2 := Lib.hid (grown_trans1 G2.out hG)
    replace hr3 := Lib.hid hr3
    clear hG
    unfold PanEnd
    go_wp2_with fail
    exact ⟨rfl, hG2.out, .inr ⟨a, c, by unfold custP; rw [hr1.out, bindP_inl, hr2.out, bindP_inl, hr3.out]; rfl, rfl⟩⟩
  replace B := Lib.hid (row_kept B.out hG hne)
  replace D := Lib.hid (row_kept D.out hG hne2)
  have G3 := Lib.hid (grown_trans1 G2.out hG)
  have R3 := Lib.hid hR
  replace hr3 := Lib.hid hr3
  clear hG hR G2 R2
  obtain ⟨d0, d1, d2, d3, e0, e1, e2, e3⟩ := row4 D.out
  have D2 := Lib.hid (heap_set w3 (w.heap.size + 1) 2 _ _ (.int .i64 x3) D.out)
  have B2 := Lib.hid ((Below.heap_setCell w3 ⟨w.heap.size + 1, 2, none⟩ (.int .i64 x3) w.heap.size (show w.heap.size ≠ w.heap.size + 1 by omega)).trans B.out)
  have R2x := Lib.hid (rdr_kept R3.out (show p < w.heap.size + 1 by omega) 2 (.int .i64 x3))
  have G2x := Lib.hid (grown_setNew G3.out (a := ⟨w.heap.size + 1, 2, none⟩) (by show w.heap.size ≤ w.heap.size + 1; omega) (.int .i64 x3))
  clear B D R3 G3
  go_wp2_with fail
  clear d0 d1 d2 d3 e0 e1 e2 e3
  generalize w3.setCell ⟨w.heap.size + 1, 2, none⟩ (.int .i64 x3) = v3 at *
  have D : Hid (v3.heap[w.heap.size + 1]? = some (.cells #[.int .i64 x1, .int .i64 x2, .int .i64 x3, .int .i64 0] 66 (0, 0))) := Lib.hid D2.out
  have B := B2
  have R3 := R2x
  have G3 := G2x
  clear D2 B2 R2x G2x
  refine (num_any p A C ws j3 n 0 1000000000 hsz _ R3.out).mono ?_
  rintro e w4 ⟨hG, ⟨x4, j4, hr4, rfl, hR⟩ | ⟨a, c, hr4, rfl⟩⟩
  rotate_left
  · have hG2 := Lib.hid (grown_trans1 G3.out hG)
    replace hr4 := Lib.hid hr4
    clear hG
    unfold PanEnd
    go_wp2_with fail
    exact ⟨rfl, hG2.out, .inr ⟨a, c, by unfold custP; rw [hr1.out, bindP_inl, hr2.out, bindP_inl, hr3.out, bindP_inl, hr4.out]; rfl, rfl⟩⟩
  replace B := Lib.hid (row_kept B.out hG hne)
  replace D := Lib.hid (row_kept D.out hG hne2)
  have G4 := Lib.hid (grown_trans1 G3.out hG)
  have R4 := Lib.hid hR
  replace hr4 := Lib.hid hr4
  clear hG hR G3 R3
  obtain ⟨d0, d1, d2, d3, e0, e1, e2, e3⟩ := row4 D.out
  have D2 := Lib.hid (heap_set w4 (w.heap.size + 1) 3 _ _ (.int .i64 x4) D.out)
  have B2 := Lib.hid ((Below.heap_setCell w4 ⟨w.heap.size + 1, 3, none⟩ (.int .i64 x4) w.heap.size (show w.heap.size ≠ w.heap.size + 1 by omega)).trans B.out)
  have R2x := Lib.hid (rdr_kept R4.out (show p < w.heap.size + 1 by omega) 3 (.int .i64 x4))
  have G2x := Lib.hid (grown_setNew G4.out (a := ⟨w.heap.size + 1, 3, none⟩) (by show w.heap.size ≤ w.heap.size + 1; omega) (.int .i64 x4))
  clear B D R4 G4
  go_upto_region 6 with fail
  clear d0 d1 d2 d3 e0 e1 e2 e3
  generalize w4.setCell ⟨w.heap.size + 1, 3, none⟩ (.int .i64 x4) = v4 at *
  have D : Hid (v4.heap[w.heap.size + 1]? = some (.cells #[.int .i64 x1, .int .i64 x2, .int .i64 x3, .int .i64 x4] 66 (0, 0))) := Lib.hid D2.out
  have B := B2
  have R4 := R2x
  have G4 := G2x
  clear D2 B2 R2x G2x
  obtain ⟨d0, d1, d2, d3, e0, e1, e2, e3⟩ := row4 D.out
  obtain ⟨c0, c1, c2, c3, f0, f1, f2, f3⟩ := row4 B.out
  have hgp : p < w.heap.size := hp
  have B4 := Lib.hid (row4_set (a := .int .i64 x1) (b := .int .i64 x2) (c := .int .i64 x3) (d := .int .i64 x4) B.out)
  have R5 := Lib.hid (rdr_kept (rdr_kept (rdr_kept (rdr_kept R4.out hgp 0 (.int .i64 x1)) hgp 1 (.int .i64 x2)) hgp 2 (.int .i64 x3)) hgp 3 (.int .i64 x4))
  have G5 := Lib.hid (grown_setNew (grown_setNew (grown_setNew (grown_setNew G4.out (a := ⟨w.heap.size, 0, none⟩) (Nat.le_refl _) (.int .i64 x1)) (a := ⟨w.heap.size, 1, none⟩) (Nat.le_refl _) (.int .i64 x2)) (a := ⟨w.heap.size, 2, none⟩) (Nat.le_refl _) (.int .i64 x3)) (a := ⟨w.heap.size, 3, none⟩) (Nat.le_refl _) (.int .i64 x4))
  clear B D
  go_wp2_with fail
  clear c0 c1 c2 c3 f0 f1 f2 f3 d0 d1 d2 d3 e0 e1 e2 e3
  generalize ((((v4.setCell ⟨w.heap.size, 0, none⟩ (.int .i64 x1)).setCell ⟨w.heap.size, 1, none⟩ (.int .i64 x2)).setCell ⟨w.heap.size, 2, none⟩ (.int .i64 x3)).setCell ⟨w.heap.size, 3, none⟩ (.int .i64 x4)) = W4 at *
  obtain ⟨c0, c1, c2, c3, _, _, _, _⟩ := row4 B4.out
  exact bodyPost_ret (v := .agg #[.int .i64 x1, .int .i64 x2, .int .i64 x3, .int .i64 x4]) (by simp [results, Try.results35, go_sem, c0, c1, c2, c3]) rfl ⟨G5.out, .inl ⟨⟨x1, x2, x3, x4⟩, j4, by unfold custP; rw [hr1.out, bindP_inl, hr2.out, bindP_inl, hr3.out, bindP_inl, hr4.out, bindP_inl], rfl, R5.out⟩⟩
end Go.Proofs.Ytljcpgeggbbmfaa
namespace Go.Proofs.Ytljcpgeggbbmfaa
set_option linter.unusedVariables false
set_option linter.unusedSimpArgs false
open Go.RowKit
/-- what is left of a matrix that is read. -/
def matLeft (ws : List WordD) (n m r i : Nat) (done : List (List Int)) : PR (List (List Int)) := bindP (upP (rowP ws n m) (m - r) r i) (fun xs j => .inl (done ++ xs, j))
def rowLeft (ws : List WordD) (n m r k i : Nat) (done : List Int) : PR (List Int) := bindP (upP (cellP ws n r) (m - k) k i) (fun xs j => .inl (done ++ xs, j))
def MatEnd (w : World) (p : Nat) (A : Option Addr) (C : Nat) (ws : List WordD) (n : Nat) (r : PR (List (List Int))) (e : Ending) (w' : World) : Prop :=
  w.grownBy w' (some p) ∧ ((∃ ls j A' C' hs, r = .inl (ls, j) ∧ e = .returned (.slice A' ls.length C') ∧ RdrIs w' p A C ws j n ∧ RowsOwn w.heap.size w' (.slice A' ls.length C') ls hs) ∨ (∃ a c, r = .inr (a, c) ∧ e = PanEnd a c))
theorem RowsOwn.stepG {B : Nat} {w w' : World} {v : Value} {ls : List (List Int)} {hs : List Value} (h : RowsOwn B w v ls hs) {p : Nat} (hg : w.grownBy w' (some p)) (hp : p < B) : RowsOwn B w' v ls hs := h.grownG hg hp
theorem grown_any {w w1 w2 : World} {p : Nat} (h : w.grownBy w1 (some p)) {r : Option Nat} (hg : w1.grownBy w2 r) (hr : ∀ g, r = some g → w.heap.size ≤ g) : w.grownBy w2 (some p) :=
  ⟨hg.os.trans h.os, hg.tape.trans h.tape, hg.output.trans h.output, Nat.le_trans h.size hg.size, fun k hk hne => (hg.block k (Nat.lt_of_lt_of_le hk h.size) (fun e => by have := hr k (by first | exact e | exact e.symm); omega)).trans (h.block k hk hne)⟩
theorem rdr_any {w1 w2 : World} {p : Nat} {A : Option Addr} {C : Nat} {ws : List WordD} {i n : Nat} (h : RdrIs w1 p A C ws i n) {r : Option Nat} (hg : w1.grownBy w2 r) (hr : ∀ g, r = some g → p < g) : RdrIs w2 p A C ws i n := by
  refine ⟨(hg.block p (heap_lt h.blk) (fun e => ?_)).trans h.blk, fun hne => ?_, h.lt, h.hi, h.le⟩
  · have := hr p (by first | exact e | exact e.symm); omega
  · obtain ⟨b, off, e, hc⟩ := h.rd hne
    have hlt : b < p := h.lt _ e
    exact ⟨b, off, e, fun q u hu => (World.cell?_of_block (hg.block b (by have := heap_lt h.blk; omega) (fun e => by have := hr b (by first | exact e | exact e.symm); omega))).trans (hc q u hu)⟩
theorem i64s_snocP (l : List Int) (v : Int) : i64s (l ++ [v]) = i64s l ++ [.int .i64 v] := by simp [i64s]
set_option maxHeartbeats 16000000 in
set_option maxRecDepth 100000 in
theorem prow_any (p : Nat) (A : Option Addr) (C : Nat) (ws : List WordD) (i n : Nat) (t : ByteArray) (m : Nat) (hm : m ≤ 1000) (hsz : Hid (∀ x ∈ ws, x.text.size ≤ 9223372036854775807)) (w : World) (R : RdrIs w p A C ws i n) :
    Calls Try.prog 36 #[.pointer (some ⟨p, 0, none⟩), .string t, .int .i64 m] w (MatEnd w p A C ws n (matP ws n t m i)) := by
  have hp := heap_lt R.blk
  obtain ⟨i0, hi0, hz0, hz1, hz2⟩ := info_parts info_i64
  obtain ⟨i1, hi1, hy0, hy1, hy2⟩ := info_parts info_row
  replace R := Lib.hid R
  go_enter Try.func36, Try.ntmps36
  go_wp2_with fail
  refine (must_any p A C ws i n t _ R.out).mono ?_
  rintro e w1 ⟨hG, ⟨_, j1, hr1, rfl, hR⟩ | ⟨a, c, hr1, rfl⟩⟩
  rotate_left
  · replace hG := Lib.hid hG
    replace hr1 := Lib.hid hr1
    unfold PanEnd
    go_wp2_with fail
    exact ⟨rfl, hG.out, .inr ⟨a, c, by unfold matP; rw [hr1.out]; rfl, rfl⟩⟩
  have HM : Hid (matP ws n t m i = matLeft ws n m 0 j1 []) := Lib.hid (by unfold matP matLeft; rw [hr1, bindP_inl, Nat.sub_zero, bindP_eta])
  replace hG := Lib.hid hG
  replace hR := Lib.hid hR
  clear hr1 R
  go_wp2_with fail
  go_loopw [7, 16] (fun v ix wr => ∃ (r j : Nat) (done : List (List Int)) (hs : List Value), r ≤ m ∧ ix = .int .i64 r ∧ Hid (done.length = r) ∧ Hid (matP ws n t m i = matLeft ws n m r j done) ∧ RdrIs wr p A C ws j n ∧ RowsOwn w.heap.size wr v done hs ∧ w.grownBy wr (some p)) (fun _ ix _ => m - (intOf ix).toNat)
  case atStart => exact ⟨0, j1, [], [], Nat.zero_le _, rfl, Lib.hid rfl, HM, hR.out, RowsOwn.nil _ _, hG.out⟩
  case round =>
    obtain ⟨r, j, done, hs, hr, rfl, HL, HQ, R1, HO, G1⟩ := hrel
    clear HM hG hR
    obtain ⟨A0, C0, hv⟩ := own_val HO.own
    subst hv
    replace R1 := Lib.hid R1
    replace HO := Lib.hid HO
    replace G1 := Lib.hid G1
    by_cases hrm : r < m
    · have HQ2 : Hid (∀ x j2, rowP ws n m r j = .inl (x, j2) → matP ws n t m i = matLeft ws n m (r + 1) j2 (done ++ [x])) := Lib.hid (fun x j2 h => by
        rw [HQ.out]; unfold matLeft
        rw [show m - r = (m - (r + 1)) + 1 by omega, upP_go h])
      have HQ3 : Hid (∀ e, rowP ws n m r j = .inr e → matP ws n t m i = .inr e) := Lib.hid (fun e h => by
        rw [HQ.out]; unfold matLeft
        rw [show m - r = (m - (r + 1)) + 1 by omega, upP_bad h])
      have HR0 : Hid (rowP ws n m r j = rowLeft ws n m r 0 j []) := Lib.hid (by unfold rowP rowLeft; rw [Nat.sub_zero, bindP_eta])
      obtain ⟨M, hM⟩ : ∃ M, wr.heap.size = M := ⟨_, rfl⟩
      have HBL : ∀ (q : Nat) (a : Addr) (n C : Nat), hs[q]? = some (.slice (some a) n C) → a.block < M := fun q a n C h => by rw [← hM]; exact HO.out.blocks q a n C h
      replace HBL := Lib.hid HBL
      have hwM : w.heap.size ≤ M := by rw [← hM]; exact G1.out.size
      replace hM := Lib.hid hM
      clear HQ
      go_wp2_with fail
      go_loopw [9, 20] (fun v ix wq => ∃ (k q : Nat) (row : List Int), k ≤ m ∧ ix = .int .i64 k ∧ Hid (row.length = k) ∧ Hid (rowP ws n m r j = rowLeft ws n m r k q row) ∧ RdrIs wq p A C ws q n ∧ RowsOwn w.heap.size wq (.slice A0 done.length C0) done hs ∧ wq.ownsRow M 2 1 v row.length (i64s row) ∧ w.grownBy wq (some p) ∧ M ≤ wq.heap.size) (fun _ ix _ => m - (intOf ix).toNat)
      case atStart => exact ⟨0, j, [], Nat.zero_le _, rfl, Lib.hid rfl, HR0, R1.out, HO.out, World.ownsRow_nil _ _ _ _, G1.out, Nat.le_of_eq hM.out.symm⟩
      case round =>
        obtain ⟨k, q, row, hk, rfl, HL2, HP, R2, HO2, HX, G2, hMq⟩ := hrel
        clear R1 HO G1 HR0
        obtain ⟨A1, C1, hv1⟩ := own_val HX
        subst hv1
        replace R2 := Lib.hid R2
        replace HO2 := Lib.hid HO2
        replace HX := Lib.hid HX
        replace G2 := Lib.hid G2
        by_cases hkm : k < m
        · have HP2 : Hid (∀ x q2, cellP ws n r k q = .inl (x, q2) → rowP ws n m r j = rowLeft ws n m r (k + 1) q2 (row ++ [x])) := Lib.hid (fun x q2 h => by
            rw [HP.out]; unfold rowLeft
            rw [show m - k = (m - (k + 1)) + 1 by omega, upP_go h])
          have HP3 : Hid (∀ e, cellP ws n r k q = .inr e → rowP ws n m r j = .inr e) := Lib.hid (fun e h => by
            rw [HP.out]; unfold rowLeft
            rw [show m - k = (m - (k + 1)) + 1 by omega, upP_bad h])
          clear HP
          by_cases hrk : r = k
          · subst hrk
            have hcell : Hid (cellP ws n r r q = numP ws n 0 0 q) := Lib.hid (by unfold cellP; rw [if_pos rfl])
            go_wp2_with fail
            refine (num_any p A C ws q n 0 0 hsz _ R2.out).mono ?_
            rintro e w5 ⟨hG, ⟨x, q2, hc, rfl, hR⟩ | ⟨a, c, hc, rfl⟩⟩
            rotate_left
            · replace hG := Lib.hid (grown_trans1 G2.out hG)
              replace hc := Lib.hid (HQ3.out _ (HP3.out _ (hcell.out.trans hc)))
              unfold PanEnd
              go_wp2_with fail
              exact ⟨rfl, hG.out, .inr ⟨a, c, hc.out, rfl⟩⟩
            have HE := Lib.hid (HP2.out _ _ (hcell.out.trans hc))
            have G3 := Lib.hid (grown_trans1 G2.out hG)
            have HO3 := Lib.hid (HO2.out.stepG hG hp)
            have HX3 := Lib.hid (own_grownG HX.out hG (Nat.lt_of_lt_of_le hp hwM))
            have R3 := Lib.hid hR
            replace hMq : M ≤ w5.heap.size := Nat.le_trans hMq hG.size
            clear hc hG hR G2 HO2 HX R2 HP2 HP3 hcell
            have hw5 : w.heap.size ≤ w5.heap.size := G3.out.size
            have hrl : row.length = r := HL2.out
            have HOWN := Lib.hid (HX3.out.alloc (.cells #[.int .i64 x] 2))
            have HNEW : Hid (∀ (q : Nat) (u : Value), [Value.int .i64 x][q]? = some u → (w5.alloc (.cells #[.int .i64 x] 2)).cell? ((⟨w5.heap.size, 0, none⟩ : Addr).add q) = some u) := Lib.hid (fun q u hu => cells_new _ _ _ q u (by simpa using hu))
            replace hrl := Lib.hid hrl
            go_wp2_with (first | (at_builtin; refine wpList_append_own _ rfl _ _ 53 rfl M 2 i0 (.int .i64 0) 1 8 Try.underlying53 hi0 hz0 hz1 hz2 rfl (by decide) _ row.length _ rfl HOWN.out ⟨w5.heap.size, 0, none⟩ 1 1 [.int .i64 x] rfl rfl HNEW.out (fun x hx => by simp at hx; subst hx; rfl) (by have := hrl.out; unfold maxLen; omega) (by have := hrl.out; omega) (by simp; omega) ?_; intro v' w6 hown2 hgrow _))
            go_roundw
            case rel =>
              have hap : ∀ g, (Value.slice A1 row.length C1).ownBlock = some g → M ≤ g := fun g hg => (own_lt HX3.out hg).1
              have hba : w5.grownBy (w5.alloc (.cells #[.int .i64 x] 2)) none := grown_of_below ((Below.refl _ _).alloc (Nat.le_refl _) _)
              have hal : Below w5.heap.size w5 (w5.alloc (.cells #[.int .i64 x] 2)) := (Below.refl _ _).alloc (Nat.le_refl _) _
              refine ⟨r + 1, q2, row ++ [x], by omega, by go_num, Lib.hid (by rw [List.length_append, hrl.out]; rfl), HE, ?_, ?_, ?_, ?_, ?_⟩
              · exact rdr_any (rdr_any R3.out hba (fun g hg => by cases hg)) hgrow (fun g hg => by have := hap g hg; omega)
              · exact (HO3.out.below hal).grown hgrow (own_types (own_below HO3.out.own hal) (own_below HX3.out hal) (by decide)) (fun q A n C hq => by
                  cases A with
                  | none => exact .inl rfl
                  | some a => exact .inr (fun e => by have h1 := HBL.out q a n C hq; have h2 := hap a.block e.symm; omega))
              · rw [List.length_append, i64s_snocP]; exact hown2
              · exact grown_any (grown_any G3.out hba (fun g hg => by cases hg)) hgrow (fun g hg => Nat.le_trans hwM (hap g hg))
              · exact Nat.le_trans hMq (Nat.le_trans (by simp) hgrow.size)
            case measure => simp [intOf]; omega
          · have hcell : Hid (cellP ws n r k q = numP ws n 0 1000000000 q) := Lib.hid (by unfold cellP; rw [if_neg hrk])
            have hne : ¬ (r : Int) = (k : Int) := by omega
            go_wp2_with fail
            refine (num_any p A C ws q n 0 1000000000 hsz _ R2.out).mono ?_
            rintro e w5 ⟨hG, ⟨x, q2, hc, rfl, hR⟩ | ⟨a, c, hc, rfl⟩⟩
            rotate_left
            · replace hG := Lib.hid (grown_trans1 G2.out hG)
              replace hc := Lib.hid (HQ3.out _ (HP3.out _ (hcell.out.trans hc)))
              unfold PanEnd
              go_wp2_with fail
              exact ⟨rfl, hG.out, .inr ⟨a, c, hc.out, rfl⟩⟩
            have HE := Lib.hid (HP2.out _ _ (hcell.out.trans hc))
            have G3 := Lib.hid (grown_trans1 G2.out hG)
            have HO3 := Lib.hid (HO2.out.stepG hG hp)
            have HX3 := Lib.hid (own_grownG HX.out hG (Nat.lt_of_lt_of_le hp hwM))
            have R3 := Lib.hid hR
            replace hMq : M ≤ w5.heap.size := Nat.le_trans hMq hG.size
            clear hc hG hR G2 HO2 HX R2 HP2 HP3 hcell
            have hw5 : w.heap.size ≤ w5.heap.size := G3.out.size
            have hrl : row.length = k := HL2.out
            have HOWN := Lib.hid (HX3.out.alloc (.cells #[.int .i64 x] 2))
            have HNEW : Hid (∀ (q : Nat) (u : Value), [Value.int .i64 x][q]? = some u → (w5.alloc (.cells #[.int .i64 x] 2)).cell? ((⟨w5.heap.size, 0, none⟩ : Addr).add q) = some u) := Lib.hid (fun q u hu => cells_new _ _ _ q u (by simpa using hu))
            replace hrl := Lib.hid hrl
            go_wp2_with (first | (at_builtin; refine wpList_append_own _ rfl _ _ 53 rfl M 2 i0 (.int .i64 0) 1 8 Try.underlying53 hi0 hz0 hz1 hz2 rfl (by decide) _ row.length _ rfl HOWN.out ⟨w5.heap.size, 0, none⟩ 1 1 [.int .i64 x] rfl rfl HNEW.out (fun x hx => by simp at hx; subst hx; rfl) (by have := hrl.out; unfold maxLen; omega) (by have := hrl.out; omega) (by simp; omega) ?_; intro v' w6 hown2 hgrow _))
            go_roundw
            case rel =>
              have hap : ∀ g, (Value.slice A1 row.length C1).ownBlock = some g → M ≤ g := fun g hg => (own_lt HX3.out hg).1
              have hba : w5.grownBy (w5.alloc (.cells #[.int .i64 x] 2)) none := grown_of_below ((Below.refl _ _).alloc (Nat.le_refl _) _)
              have hal : Below w5.heap.size w5 (w5.alloc (.cells #[.int .i64 x] 2)) := (Below.refl _ _).alloc (Nat.le_refl _) _
              refine ⟨k + 1, q2, row ++ [x], by omega, by go_num, Lib.hid (by rw [List.length_append, hrl.out]; rfl), HE, ?_, ?_, ?_, ?_, ?_⟩
              · exact rdr_any (rdr_any R3.out hba (fun g hg => by cases hg)) hgrow (fun g hg => by have := hap g hg; omega)
              · exact (HO3.out.below hal).grown hgrow (own_types (own_below HO3.out.own hal) (own_below HX3.out hal) (by decide)) (fun q A n C hq => by
                  cases A with
                  | none => exact .inl rfl
                  | some a => exact .inr (fun e => by have h1 := HBL.out q a n C hq; have h2 := hap a.block e.symm; omega))
              · rw [List.length_append, i64s_snocP]; exact hown2
              · exact grown_any (grown_any G3.out hba (fun g hg => by cases hg)) hgrow (fun g hg => Nat.le_trans hwM (hap g hg))
              · exact Nat.le_trans hMq (Nat.le_trans (by simp) hgrow.size)
            case measure => simp [intOf]; omega
        · obtain rfl : k = m := by omega
          have hrow : Hid (rowP ws n k r j = .inl (row, q)) := Lib.hid (by rw [HP.out]; unfold rowLeft; rw [Nat.sub_self, upP_end])
          have HE := Lib.hid (HQ2.out _ _ hrow.out)
          clear HP HQ3 HQ2 hrow
          have hrl : done.length = r := HL.out
          replace hrl := Lib.hid hrl
          have hww := G2.out.size
          have HOWN := Lib.hid (HO2.out.own.alloc (.cells #[.slice A1 row.length C1] 53))
          have HNEW : Hid (∀ (q : Nat) (u : Value), [Value.slice A1 row.length C1][q]? = some u → (wr.alloc (.cells #[.slice A1 row.length C1] 53)).cell? ((⟨wr.heap.size, 0, none⟩ : Addr).add q) = some u) := Lib.hid (fun q u hu => cells_new _ _ _ q u (by simpa using hu))
          go_wp2_with (first | (at_builtin; refine wpList_append_own _ rfl _ _ 27 rfl w.heap.size 53 i1 (.slice none 0 0) 1 24 Try.underlying27 hi1 hy0 hy1 hy2 rfl (by decide) _ done.length _ rfl HOWN.out ⟨wr.heap.size, 0, none⟩ 1 1 [.slice A1 row.length C1] rfl rfl HNEW.out (fun x hx => by simp at hx; subst hx; rfl) (by have := hrl.out; unfold maxLen; omega) (by have := hrl.out; omega) (by simp; omega) ?_; intro v' w6 hown2 hgrow _))
          go_roundw
          case rel =>
            have hap : ∀ g, (Value.slice A0 done.length C0).ownBlock = some g → w.heap.size ≤ g := fun g hg => (own_lt HO2.out.own hg).1
            have hba : wr.grownBy (wr.alloc (.cells #[.slice A1 row.length C1] 53)) none := grown_of_below ((Below.refl _ _).alloc (Nat.le_refl _) _)
            refine ⟨r + 1, q, done ++ [row], hs ++ [.slice A1 row.length C1], by omega, by go_num, Lib.hid (by rw [List.length_append, hrl.out]; rfl), HE, ?_, ?_, ?_⟩
            · exact rdr_any (rdr_any R2.out hba (fun g hg => by cases hg)) hgrow (fun g hg => by have := hap g hg; omega)
            · exact HO2.out.push (own_base HX.out hwM) _ hown2 hgrow
            · exact grown_any (grown_any G2.out hba (fun g hg => by cases hg)) hgrow hap
          case measure => simp [intOf]; omega
    · obtain rfl : r = m := by omega
      have hmat : Hid (matP ws n t r i = .inl (done, j)) := Lib.hid (by rw [HQ.out]; unfold matLeft; rw [Nat.sub_self, upP_end])
      clear HQ HL
      go_wp2_with fail
      go_ret
      exact ⟨G1.out, .inl ⟨done, j, A0, C0, hs, hmat.out, rfl, R1.out, HO.out⟩⟩
end Go.Proofs.Ytljcpgeggbbmfaa
namespace Go.Proofs.Ytljcpgeggbbmfaa
set_option linter.unusedVariables false
set_option linter.unusedSimpArgs false
open Go.RowKit
structure PB (w1 : World) (p bx : Nat) (A : Option Addr) (C : Nat) (ws : List WordD) (n i : Nat) (X : InstD) (h : HdD) (h7 h8 : List Value) (wr : World) : Prop where
  R : RdrIs wr p A C ws i n
  box : wr.heap[bx]? = some (.cells (instC X h) 29 (0, 0))
  chg : Chg (fun k => k = p ∨ k = bx) w1 wr
  o5 : wr.ownsRow w1.heap.size 62 2 (.slice h.sa X.sats.length h.sc) X.sats.length (X.sats.flatMap satV)
  o6 : wr.ownsRow w1.heap.size 66 4 (.slice h.ca X.custs.length h.cc) X.custs.length (X.custs.flatMap custV)
  o7 : RowsOwn w1.heap.size wr (.slice h.oa X.cost.length h.oc) X.cost h7
  o8 : RowsOwn w1.heap.size wr (.slice h.ta X.time.length h.tc) X.time h8
theorem inst_no_string (X : InstD) (h : HdD) (k : Nat) (t : ByteArray) : (instC X h)[k]? ≠ some (.string t) := by
  intro e
  match k, e with
  | 0, e => simp at e
  | 1, e => simp at e
  | 2, e => simp at e
  | 3, e => simp at e
  | 4, e => simp at e
  | 5, e => simp at e
  | 6, e => simp at e
  | 7, e => simp at e
  | 8, e => simp at e
  | k + 9, e => simp at e
/-- a store into the instance's box leaves the reader. -/
theorem RdrIs.boxed {w : World} {p : Nat} {A : Option Addr} {C : Nat} {ws : List WordD} {i n bx : Nat} {X : InstD} {hd : HdD} {T : TypeId} (h : RdrIs w p A C ws i n) (hB : w.heap[bx]? = some (.cells (instC X hd) T (0, 0))) (hne : bx ≠ p) (j : Nat) (u : Value) :
    RdrIs (w.setCell ⟨bx, j, none⟩ u) p A C ws i n := by
  refine ⟨(heap_setCell_other w ⟨bx, j, none⟩ p u (fun e => hne e.symm)).trans h.blk, fun hn => ?_, h.lt, h.hi, h.le⟩
  obtain ⟨b, off, e, hc⟩ := h.rd hn
  have hb : b ≠ bx := fun e2 => by
    subst e2
    cases ws with
    | nil => exact hn rfl
    | cons x ws =>
      have h0 := hc 0 (.string x.text) rfl
      rw [cell_of_row w b _ _ _ _ hB] at h0
      exact inst_no_string X hd _ _ h0
  exact ⟨b, off, e, fun q u' hu => (World.cell?_of_block (heap_setCell_other w ⟨bx, j, none⟩ b u hb)).trans (hc q u' hu)⟩
section
variable {w1 wr w' : World} {p bx : Nat} {A : Option Addr} {C : Nat} {ws : List WordD} {n i : Nat} {X : InstD} {h : HdD} {h7 h8 : List Value}
theorem Chg.grownAny {may : Nat → Prop} {w w2 w3 : World} (h : Chg may w w2) {r : Option Nat} (hg : w2.grownBy w3 r) (hr : ∀ g, r = some g → may g ∨ w.heap.size ≤ g) : Chg may w w3 :=
  ⟨hg.os.trans h.os, hg.tape.trans h.tape, hg.output.trans h.output, Nat.le_trans h.size hg.size, fun k hk hn => (hg.block k (Nat.lt_of_lt_of_le hk h.size) (fun e => by
    rcases hr k (by first | exact e | exact e.symm) with h1 | h1
    · exact hn h1
    · omega)).trans (h.block k hk hn)⟩
theorem PB.moved (H : PB w1 p bx A C ws n i X h h7 h8 wr) {j : Nat} (hR : RdrIs w' p A C ws j n) (hg : wr.grownBy w' (some p)) (hne : bx ≠ p) (hp : p < w1.heap.size) : PB w1 p bx A C ws n j X h h7 h8 w' :=
  ⟨hR, (hg.block bx (heap_lt H.box) (fun e => hne (by injection e))).trans H.box, H.chg.grownAny hg (fun g e => .inl (.inl (by injection e with e; exact e.symm))), own_grownG H.o5 hg hp, own_grownG H.o6 hg hp, H.o7.grownG hg hp, H.o8.grownG hg hp⟩
theorem PB.below (H : PB w1 p bx A C ws n i X h h7 h8 wr) (hb : Below wr.heap.size wr w') : PB w1 p bx A C ws n i X h h7 h8 w' :=
  ⟨H.R.below hb, (hb.block bx (heap_lt H.box)).trans H.box, H.chg.trans (Chg.below hb), own_below H.o5 hb, own_below H.o6 hb, H.o7.below hb, H.o8.below hb⟩
/-- a store into the box: what lies elsewhere is kept. -/
theorem PB.put (H : PB w1 p bx A C ws n i X h h7 h8 wr) (hne : bx ≠ p) (hbx : bx < w1.heap.size) (j : Nat) (u : Value) {X' : InstD} {h' : HdD} (hc : (instC X h).setIfInBounds j u = instC X' h')
    (k5 : (wr.setCell ⟨bx, j, none⟩ u).ownsRow w1.heap.size 62 2 (.slice h'.sa X'.sats.length h'.sc) X'.sats.length (X'.sats.flatMap satV))
    (k6 : (wr.setCell ⟨bx, j, none⟩ u).ownsRow w1.heap.size 66 4 (.slice h'.ca X'.custs.length h'.cc) X'.custs.length (X'.custs.flatMap custV))
    {g7 g8 : List Value} (k7 : RowsOwn w1.heap.size (wr.setCell ⟨bx, j, none⟩ u) (.slice h'.oa X'.cost.length h'.oc) X'.cost g7) (k8 : RowsOwn w1.heap.size (wr.setCell ⟨bx, j, none⟩ u) (.slice h'.ta X'.time.length h'.tc) X'.time g8) : PB w1 p bx A C ws n i X' h' g7 g8 (wr.setCell ⟨bx, j, none⟩ u) :=
  ⟨H.R.boxed H.box hne j u, by rw [heap_set wr bx j _ _ u H.box, hc], H.chg.grownAny (grown_set wr ⟨bx, j, none⟩ u) (fun g e => .inl (.inr (by injection e with e; exact e.symm))), k5, k6, k7, k8⟩
theorem PB.fin (H : PB w1 p bx A C ws n i X h h7 h8 wr) (hne : bx ≠ p) (hbx : bx < w1.heap.size) (v : Int) : PB w1 p bx A C ws n i { X with fin := v } h h7 h8 (wr.setCell ⟨bx, 0, none⟩ (.int .i64 v)) :=
  H.put hne hbx 0 (.int .i64 v) (X' := { X with fin := v }) (h' := h) rfl (own_set H.o5 hbx _ _) (own_set H.o6 hbx _ _) (H.o7.set hbx _ _) (H.o8.set hbx _ _)
theorem PB.trucks (H : PB w1 p bx A C ws n i X h h7 h8 wr) (hne : bx ≠ p) (hbx : bx < w1.heap.size) (u v : Int) : PB w1 p bx A C ws n i { X with tm := u, tr := v } h h7 h8 ((wr.setCell ⟨bx, 1, none⟩ (.int .i64 u)).setCell ⟨bx, 2, none⟩ (.int .i64 v)) := by
  have H2 : PB w1 p bx A C ws n i { X with tm := u } h h7 h8 (wr.setCell ⟨bx, 1, none⟩ (.int .i64 u)) := H.put hne hbx 1 (.int .i64 u) (X' := { X with tm := u }) (h' := h) rfl (own_set H.o5 hbx _ _) (own_set H.o6 hbx _ _) (H.o7.set hbx _ _) (H.o8.set hbx _ _)
  exact H2.put hne hbx 2 (.int .i64 v) (X' := { X with tm := u, tr := v }) (h' := h) rfl (own_set H2.o5 hbx _ _) (own_set H2.o6 hbx _ _) (H2.o7.set hbx _ _) (H2.o8.set hbx _ _)
theorem PB.bikes (H : PB w1 p bx A C ws n i X h h7 h8 wr) (hne : bx ≠ p) (hbx : bx < w1.heap.size) (u v : Int) : PB w1 p bx A C ws n i { X with bm := u, br := v } h h7 h8 ((wr.setCell ⟨bx, 3, none⟩ (.int .i64 u)).setCell ⟨bx, 4, none⟩ (.int .i64 v)) := by
  have H2 : PB w1 p bx A C ws n i { X with bm := u } h h7 h8 (wr.setCell ⟨bx, 3, none⟩ (.int .i64 u)) := H.put hne hbx 3 (.int .i64 u) (X' := { X with bm := u }) (h' := h) rfl (own_set H.o5 hbx _ _) (own_set H.o6 hbx _ _) (H.o7.set hbx _ _) (H.o8.set hbx _ _)
  exact H2.put hne hbx 4 (.int .i64 v) (X' := { X with bm := u, br := v }) (h' := h) rfl (own_set H2.o5 hbx _ _) (own_set H2.o6 hbx _ _) (H2.o7.set hbx _ _) (H2.o8.set hbx _ _)
theorem PB.cost (H : PB w1 p bx A C ws n i X h h7 h8 wr) (hne : bx ≠ p) (hbx : bx < w1.heap.size) {ls : List (List Int)} {A' : Option Addr} {C' : Nat} {g7 : List Value} (ho : RowsOwn w1.heap.size wr (.slice A' ls.length C') ls g7) : PB w1 p bx A C ws n i { X with cost := ls } { h with oa := A', oc := C' } g7 h8 (wr.setCell ⟨bx, 7, none⟩ (.slice A' ls.length C')) :=
  H.put hne hbx 7 (.slice A' ls.length C') (X' := { X with cost := ls }) (h' := { h with oa := A', oc := C' }) rfl (own_set H.o5 hbx _ _) (own_set H.o6 hbx _ _) (ho.set hbx _ _) (H.o8.set hbx _ _)
theorem PB.time (H : PB w1 p bx A C ws n i X h h7 h8 wr) (hne : bx ≠ p) (hbx : bx < w1.heap.size) {ls : List (List Int)} {A' : Option Addr} {C' : Nat} {g8 : List Value} (ho : RowsOwn w1.heap.size wr (.slice A' ls.length C') ls g8) : PB w1 p bx A C ws n i { X with time := ls } { h with ta := A', tc := C' } h7 g8 (wr.setCell ⟨bx, 8, none⟩ (.slice A' ls.length C')) :=
  H.put hne hbx 8 (.slice A' ls.length C') (X' := { X with time := ls }) (h' := { h with ta := A', tc := C' }) rfl (own_set H.o5 hbx _ _) (own_set H.o6 hbx _ _) (H.o7.set hbx _ _) (ho.set hbx _ _)
theorem RowsOwn.typed {B : Nat} {w w2 : World} {v : Value} {ls : List (List Int)} {hs : List Value} (h : RowsOwn B w v ls hs) {v2 : Value} {B2 e2 s2 n2 : Nat} {xs2 : List Value} (ho : w.ownsRow B2 e2 s2 v2 n2 xs2) (h1 : 53 ≠ e2) (h2 : 2 ≠ e2) (hg : w.grownBy w2 v2.ownBlock) : RowsOwn B w2 v ls hs :=
  ⟨h.len, h.own.kept hg (own_types h.own ho h1), fun i r hi => by
    obtain ⟨A, C, h3, h4⟩ := h.rows i r hi
    exact ⟨A, C, h3, h4.kept hg (own_types h4 ho h2)⟩⟩
/-- one satellite more. -/
theorem PB.sat (H : PB w1 p bx A C ws n i X h h7 h8 wr) (hne : bx ≠ p) (hbx : bx < w1.heap.size) (hp : p < w1.heap.size) (x : SatD) (o : Obj) {w2 : World} {A' : Option Addr} {C' : Nat}
    (hown : w2.ownsRow w1.heap.size 62 2 (.slice A' (X.sats.length + 1) C') (X.sats.length + 1) (X.sats.flatMap satV ++ satV x)) (hg : (wr.alloc o).grownBy w2 (Value.slice h.sa X.sats.length h.sc).ownBlock) :
    w2.cell? ⟨bx, 5, none⟩ = some (.slice h.sa X.sats.length h.sc) ∧ w2.frozen? ⟨bx, 5, none⟩ = false ∧ PB w1 p bx A C ws n i { X with sats := X.sats ++ [x] } { h with sa := A', sc := C' } h7 h8 (w2.setCell ⟨bx, 5, none⟩ (.slice A' (X.sats.length + 1) C')) := by
  have Ha := H.below ((Below.refl _ _).alloc (Nat.le_refl _) o)
  have hap : ∀ g, (Value.slice h.sa X.sats.length h.sc).ownBlock = some g → w1.heap.size ≤ g := fun g hg => (own_lt H.o5 hg).1
  have hB2 : w2.heap[bx]? = some (.cells (instC X h) 29 (0, 0)) := (hg.block bx (heap_lt Ha.box) (fun e => by have := hap bx (by first | exact e | exact e.symm); omega)).trans Ha.box
  have hl : (X.sats ++ [x]).length = X.sats.length + 1 := by simp
  have H2 : PB w1 p bx A C ws n i X h h7 h8 w2 → True := fun _ => trivial
  have k6 := Ha.o6.kept hg (own_types Ha.o6 Ha.o5 (by decide))
  have k7 := Ha.o7.typed Ha.o5 (by decide) (by decide) hg
  have k8 := Ha.o8.typed Ha.o5 (by decide) (by decide) hg
  have kR := rdr_any Ha.R hg (fun g e => by have := hap g e; omega)
  refine ⟨cell_of_row w2 bx 5 _ _ _ hB2, frozen_of_row w2 bx 5 _ _ hB2, kR.boxed hB2 hne 5 _, ?_, (Ha.chg.grownAny hg (fun g e => .inr (hap g e))).grownAny (grown_set w2 ⟨bx, 5, none⟩ _) (fun g e => .inl (.inr (by injection e with e; exact e.symm))), ?_, own_set k6 hbx _ _, k7.set hbx _ _, k8.set hbx _ _⟩
  · rw [heap_set w2 bx 5 _ _ _ hB2]
    unfold instC
    rw [hl]; rfl
  · rw [show ({ X with sats := X.sats ++ [x] } : InstD).sats = X.sats ++ [x] from rfl, hl, List.flatMap_append]
    have := own_set hown hbx 5 (.slice A' (X.sats.length + 1) C')
    simpa using this
/-- one customer more. -/
theorem PB.cust (H : PB w1 p bx A C ws n i X h h7 h8 wr) (hne : bx ≠ p) (hbx : bx < w1.heap.size) (hp : p < w1.heap.size) (x : CustD) (o : Obj) {w2 : World} {A' : Option Addr} {C' : Nat}
    (hown : w2.ownsRow w1.heap.size 66 4 (.slice A' (X.custs.length + 1) C') (X.custs.length + 1) (X.custs.flatMap custV ++ custV x)) (hg : (wr.alloc o).grownBy w2 (Value.slice h.ca X.custs.length h.cc).ownBlock) :
    w2.cell? ⟨bx, 6, none⟩ = some (.slice h.ca X.custs.length h.cc) ∧ w2.frozen? ⟨bx, 6, none⟩ = false ∧ PB w1 p bx A C ws n i { X with custs := X.custs ++ [x] } { h with ca := A', cc := C' } h7 h8 (w2.setCell ⟨bx, 6, none⟩ (.slice A' (X.custs.length + 1) C')) := by
  have Ha := H.below ((Below.refl _ _).alloc (Nat.le_refl _) o)
  have hap : ∀ g, (Value.slice h.ca X.custs.length h.cc).ownBlock = some g → w1.heap.size ≤ g := fun g hg => (own_lt H.o6 hg).1
  have hB2 : w2.heap[bx]? = some (.cells (instC X h) 29 (0, 0)) := (hg.block bx (heap_lt Ha.box) (fun e => by have := hap bx (by first | exact e | exact e.symm); omega)).trans Ha.box
  have hl : (X.custs ++ [x]).length = X.custs.length + 1 := by simp
  have k5 := Ha.o5.kept hg (own_types Ha.o5 Ha.o6 (by decide))
  have k7 := Ha.o7.typed Ha.o6 (by decide) (by decide) hg
  have k8 := Ha.o8.typed Ha.o6 (by decide) (by decide) hg
  have kR := rdr_any Ha.R hg (fun g e => by have := hap g e; omega)
  refine ⟨cell_of_row w2 bx 6 _ _ _ hB2, frozen_of_row w2 bx 6 _ _ hB2, kR.boxed hB2 hne 6 _, ?_, (Ha.chg.grownAny hg (fun g e => .inr (hap g e))).grownAny (grown_set w2 ⟨bx, 6, none⟩ _) (fun g e => .inl (.inr (by injection e with e; exact e.symm))), own_set k5 hbx _ _, ?_, k7.set hbx _ _, k8.set hbx _ _⟩
  · rw [heap_set w2 bx 6 _ _ _ hB2]
    unfold instC
    rw [hl]; rfl
  · rw [show ({ X with custs := X.custs ++ [x] } : InstD).custs = X.custs ++ [x] from rfl, hl, List.flatMap_append]
    have := own_set hown hbx 6 (.slice A' (X.custs.length + 1) C')
    simpa using this
theorem PB.drew (H : PB w1 p bx A C ws n i X h h7 h8 wr) : PB w1 p bx A C ws n i X h h7 h8 wr.drew := H.below (Below.refl _ _).drew
theorem PB.cells (H : PB w1 p bx A C ws n i X h h7 h8 wr) (j : Nat) (u : Value) (hu : (instC X h)[j]? = some u) : wr.cell? ⟨bx, j, none⟩ = some u ∧ wr.frozen? ⟨bx, j, none⟩ = false :=
  ⟨(cell_of_row wr bx j _ _ _ H.box).trans hu, frozen_of_row wr bx j _ _ H.box⟩
end
/-- what Parse's closure leaves. -/
def PDoEnd (w1 : World) (p bx : Nat) (A : Option Addr) (C : Nat) (ws : List WordD) (n : Nat) (e : Ending) (w2 : World) : Prop :=
  (∃ i X h h7 h8, e = .returned (.tuple #[]) ∧ instP ws n = .inl (X, i) ∧ PB w1 p bx A C ws n i X h h7 h8 w2) ∨ (∃ a c, e = PanEnd a c ∧ instP ws n = .inr (a, c) ∧ Chg (fun k => k = p ∨ k = bx) w1 w2)
theorem upP_goK {α β : Type} {f : Nat → Nat → PR α} {m k i : Nat} {x : α} {j : Nat} (hx : f k i = .inl (x, j)) (done : List α) (G : List α → Nat → PR β) :
    bindP (upP f (m + 1) k i) (fun xs j => G (done ++ xs) j) = bindP (upP f m (k + 1) j) (fun xs j => G ((done ++ [x]) ++ xs) j) := by
  show bindP (bindP (f k i) fun x i => bindP (upP f m (k + 1) i) fun xs i => .inl (x :: xs, i)) _ = _
  rw [hx, bindP_inl]
  cases upP f m (k + 1) j with
  | inl a => obtain ⟨xs, q⟩ := a; show G (done ++ x :: xs) q = G ((done ++ [x]) ++ xs) q; simp
  | inr e => rfl
theorem upP_endK {α β : Type} {f : Nat → Nat → PR α} {k i : Nat} (done : List α) (G : List α → Nat → PR β) : bindP (upP f 0 k i) (fun xs j => G (done ++ xs) j) = G done i := by
  show G (done ++ []) i = _; rw [List.append_nil]
end Go.Proofs.Ytljcpgeggbbmfaa
namespace Go.Proofs.Ytljcpgeggbbmfaa
set_option linter.unusedVariables false
set_option linter.unusedSimpArgs false
open Go.RowKit
theorem bind_step {α β : Type} {x : PR α} {f : α → Nat → PR β} {r : PR β} {a : α} {i : Nat} (h : r = bindP x f) (hx : x = .inl (a, i)) : r = f a i := by rw [h, hx]; rfl
theorem bind_bad {α β : Type} {x : PR α} {f : α → Nat → PR β} {r : PR β} {e : Int × Int} (h : r = bindP x f) (hx : x = .inr e) : r = .inr e := by rw [h, hx]; rfl
theorem if_true_P {c : Prop} [Decidable c] {A B : Prop} (h : c) (ha : A) : if c then A else B := by rw [if_pos h]; exact ha
theorem grown_undrewP {w w2 : World} {r : Option Nat} (h : w.drew.grownBy w2 r) : w.grownBy w2 r := ⟨h.os, h.tape, h.output, h.size, h.block⟩
def inst0 : InstD := ⟨0, 0, 0, 0, 0, [], [], [], []⟩
def hd0 : HdD := ⟨none, 0, none, 0, none, 0, none, 0⟩
set_option maxHeartbeats 16000000 in
set_option maxRecDepth 100000 in
theorem pdo_any (p bx : Nat) (A : Option Addr) (C : Nat) (ws : List WordD) (n : Nat) (hsz : Hid (∀ x ∈ ws, x.text.size ≤ 9223372036854775807)) (w1 : World) (hne : bx ≠ p) (hbx : bx < w1.heap.size) (hp : p < w1.heap.size)
    (H : PB w1 p bx A C ws n 0 ⟨0, 0, 0, 0, 0, [], [], [], []⟩ ⟨none, 0, none, 0, none, 0, none, 0⟩ [] [] w1) :
    Calls Try.prog 30 #[.pointer (some ⟨p, 0, none⟩), .pointer (some ⟨bx, 0, none⟩)] w1 (PDoEnd w1 p bx A C ws n) := by
  have HQ : Hid (instP ws n = bindP (mustP ws n sWharfage 0) fun _ i => bindP (numP ws n 0 1000000000 i) fun fin i => bindP (fleetP ws n sTrucks i) fun t i => bindP (fleetP ws n sBikes i) fun b i => instP2 ws n fin t b i) := Lib.hid rfl
  obtain ⟨is, his, hs0, hs1, hs2⟩ := info_parts info_sat
  obtain ⟨ic, hic, hc0, hc1, hc2⟩ := info_parts info_cust
  have HB := Lib.hid H
  clear H
  go_enter Try.func30, Try.ntmps30
  go_wp2_with fail
  refine (must_any p A C ws 0 n sWharfage _ HB.out.R).mono ?_
  rintro e w2 ⟨hG, ⟨_, i1, hr, rfl, hR⟩ | ⟨a, c, hr, rfl⟩⟩
  rotate_left
  · have hE := Lib.hid (HB.out.chg.grownAny hG (fun g e => .inl (.inl (by injection e with e; exact e.symm))))
    have hq := Lib.hid (bind_bad HQ.out hr)
    clear hG hr
    unfold PanEnd
    go_wp2_with fail
    exact ⟨rfl, .inr ⟨a, c, rfl, hq.out, hE.out⟩⟩
  replace HB := Lib.hid (HB.out.moved hR hG hne hp)
  replace HQ := Lib.hid (bind_step HQ.out hr)
  clear hG hr hR
  go_wp2_with fail
  refine (num_any p A C ws i1 n 0 1000000000 hsz _ HB.out.R).mono ?_
  rintro e w3 ⟨hG, ⟨fin, i2, hr, rfl, hR⟩ | ⟨a, c, hr, rfl⟩⟩
  rotate_left
  · have hE := Lib.hid (HB.out.chg.grownAny hG (fun g e => .inl (.inl (by injection e with e; exact e.symm))))
    have hq := Lib.hid (bind_bad HQ.out hr)
    clear hG hr
    unfold PanEnd
    go_wp2_with fail
    exact ⟨rfl, .inr ⟨a, c, rfl, hq.out, hE.out⟩⟩
  replace HB := Lib.hid (HB.out.moved hR hG hne hp)
  replace HQ := Lib.hid (bind_step HQ.out hr)
  clear hG hr hR
  obtain ⟨c0, f0⟩ := HB.out.cells 0 _ rfl
  replace HB := Lib.hid (HB.out.fin hne hbx fin)
  go_wp2_with fail
  clear c0 f0
  generalize w3.setCell ⟨bx, 0, none⟩ (.int .i64 fin) = v3 at *
  clear w3 w2
  refine (fleet_any p A C ws i2 n sTrucks hsz _ HB.out.R).mono ?_
  rintro e w4 ⟨hG, ⟨⟨tm, tr⟩, i3, hr, rfl, hR⟩ | ⟨a, c, hr, rfl⟩⟩
  rotate_left
  · have hE := Lib.hid (HB.out.chg.grownAny hG (fun g e => .inl (.inl (by injection e with e; exact e.symm))))
    have hq := Lib.hid (bind_bad HQ.out hr)
    clear hG hr
    unfold PanEnd
    go_wp2_with fail
    exact ⟨rfl, .inr ⟨a, c, rfl, hq.out, hE.out⟩⟩
  replace HB := Lib.hid (HB.out.moved hR hG hne hp)
  replace HQ := Lib.hid (bind_step HQ.out hr)
  clear hG hr hR
  obtain ⟨c1, f1⟩ := HB.out.cells 1 _ rfl
  obtain ⟨c2, f2⟩ := HB.out.cells 2 _ rfl
  replace HB := Lib.hid (HB.out.trucks hne hbx tm tr)
  go_wp2_with fail
  clear c1 f1 c2 f2
  generalize ((w4.setCell ⟨bx, 1, none⟩ (.int .i64 tm)).setCell ⟨bx, 2, none⟩ (.int .i64 tr)) = v4 at *
  clear w4 v3
  refine (fleet_any p A C ws i3 n sBikes hsz _ HB.out.R).mono ?_
  rintro e w5 ⟨hG, ⟨⟨bm, br⟩, i4, hr, rfl, hR⟩ | ⟨a, c, hr, rfl⟩⟩
  rotate_left
  · have hE := Lib.hid (HB.out.chg.grownAny hG (fun g e => .inl (.inl (by injection e with e; exact e.symm))))
    have hq := Lib.hid (bind_bad HQ.out hr)
    clear hG hr
    unfold PanEnd
    go_wp2_with fail
    exact ⟨rfl, .inr ⟨a, c, rfl, hq.out, hE.out⟩⟩
  replace HB := Lib.hid (HB.out.moved hR hG hne hp)
  replace HQ := Lib.hid (bind_step HQ.out hr)
  clear hG hr hR
  obtain ⟨c3, f3⟩ := HB.out.cells 3 _ rfl
  obtain ⟨c4, f4⟩ := HB.out.cells 4 _ rfl
  replace HB := Lib.hid (HB.out.bikes hne hbx bm br)
  go_wp2_with fail
  clear c3 f3 c4 f4
  generalize ((w5.setCell ⟨bx, 3, none⟩ (.int .i64 bm)).setCell ⟨bx, 4, none⟩ (.int .i64 br)) = v5 at *
  clear w5 v4
  refine (must_any p A C ws i4 n sSats _ HB.out.R).mono ?_
  rintro e w6 ⟨hG, ⟨_, i5, hr, rfl, hR⟩ | ⟨a, c, hr, rfl⟩⟩
  rotate_left
  · have hE := Lib.hid (HB.out.chg.grownAny hG (fun g e => .inl (.inl (by injection e with e; exact e.symm))))
    have hq := Lib.hid (bind_bad HQ.out hr)
    clear hG hr
    unfold PanEnd
    go_wp2_with fail
    exact ⟨rfl, .inr ⟨a, c, rfl, hq.out, hE.out⟩⟩
  replace HB := Lib.hid (HB.out.moved hR hG hne hp)
  replace HQ := Lib.hid (bind_step HQ.out hr)
  clear hG hr hR
  go_wp2_with fail
  refine (num_any p A C ws i5 n 1 12 hsz _ HB.out.R).mono ?_
  rintro e w7 ⟨hG, ⟨m1, i6, hr, rfl, hR⟩ | ⟨a, c, hr, rfl⟩⟩
  rotate_left
  · have hE := Lib.hid (HB.out.chg.grownAny hG (fun g e => .inl (.inl (by injection e with e; exact e.symm))))
    have hq := Lib.hid (bind_bad HQ.out hr)
    clear hG hr
    unfold PanEnd
    go_wp2_with fail
    exact ⟨rfl, .inr ⟨a, c, rfl, hq.out, hE.out⟩⟩
  replace HB := Lib.hid (HB.out.moved hR hG hne hp)
  replace HQ := Lib.hid (bind_step HQ.out hr)
  obtain ⟨hm1, hm2, _, _⟩ := numP_ok hr
  obtain ⟨mN, rfl⟩ : ∃ mN : Nat, m1 = (mN : Int) := ⟨m1.toNat, by omega⟩
  clear hG hr hR
  replace HQ : Hid (instP ws n = bindP (upP (fun _ => satP ws n) (mN - 0) 0 i6) (fun xs j => instP3 ws n fin (tm, tr) (bm, br) ([] ++ xs) j)) := Lib.hid HQ.out
  go_wp2_with fail
  go_loopw [18] (fun ix wr => ∃ (k q : Nat) (l : List SatD) (sa : Option Addr) (sc : Nat), k ≤ mN ∧ ix = .int .i64 k ∧ Hid (l.length = k) ∧ Hid (instP ws n = bindP (upP (fun _ => satP ws n) (mN - k) k q) (fun xs j => instP3 ws n fin (tm, tr) (bm, br) (l ++ xs) j)) ∧ PB w1 p bx A C ws n q ⟨fin, tm, tr, bm, br, l, [], [], []⟩ ⟨sa, sc, none, 0, none, 0, none, 0⟩ [] [] wr) (fun ix _ => mN - (intOf ix).toNat)
  case atStart => exact ⟨0, i6, [], none, 0, Nat.zero_le _, rfl, Lib.hid rfl, HQ, HB.out⟩
  case round =>
    obtain ⟨k, q, l, sa, sc, hk, rfl, HL, HQ2, HB2⟩ := hrel
    clear HQ HB
    replace HB := Lib.hid HB2
    replace HQ := HQ2
    clear HB2 HQ2
    by_cases hkm : k < mN
    · have HGo : Hid (∀ x j2, satP ws n q = .inl (x, j2) → instP ws n = bindP (upP (fun _ => satP ws n) (mN - (k + 1)) (k + 1) j2) (fun xs j => instP3 ws n fin (tm, tr) (bm, br) ((l ++ [x]) ++ xs) j)) := Lib.hid (fun x j2 h => by
        rw [HQ.out, show mN - k = (mN - (k + 1)) + 1 by omega]
        exact upP_goK (f := fun _ => satP ws n) (k := k) h l (fun xs j => instP3 ws n fin (tm, tr) (bm, br) xs j))
      have HBad : Hid (∀ e, satP ws n q = .inr e → instP ws n = .inr e) := Lib.hid (fun e h => by
        rw [HQ.out, show mN - k = (mN - (k + 1)) + 1 by omega]
        exact upP_bad (f := fun _ => satP ws n) (k := k) h _)
      clear HQ
      have hl : l.length = k := HL.out
      replace hl := Lib.hid hl
      have c5 := (HB.out.cells 5 _ rfl).1
      have HBd := Lib.hid HB.out.drew
      go_upto_region 7 with fail
      refine wp_region_N (fun j => decide (j < 6)) (fun wz => wz.cell? ⟨bx, 5, none⟩ = some (.slice sa l.length sc)) (by kernel_rfl) (by exact c5) (fun hShut hHeld => ?_)
      refine wpAnyN_take_0 (v := ?v1n) ?_ ?_ ?_ ?_ ?_ ?hy1n ?_ ?_ ?_
      case hy1n =>
        refine Or.inl ⟨by rfl, ?_⟩
        intro w hSw
        try dsimp only at hSw
        go_simp
        try with_reducible rfl
      · kernel_rfl
      · kernel_rfl
      · kernel_rfl
      · kernel_rfl
      · exact fun _ _ _ h => h
      · exact hHeld
      · exact hShut
      clear hShut
      intro hShut
      try simp only [Act.put, List.setIfInBounds_toArray, List.set_cons_zero, List.set_cons_succ]
      refine wpAnyN_take_1 (v := ?v2n) ?_ ?_ ?_ ?_ ?_ ?hy2n ?_ ?_ ?_
      case hy2n =>
        refine Or.inl ⟨by rfl, ?_⟩
        intro w hSw
        try dsimp only at hSw
        go_simp
        try with_reducible rfl
      · kernel_rfl
      · kernel_rfl
      · kernel_rfl
      · kernel_rfl
      · exact fun _ _ _ h => h
      · exact hHeld
      · exact hShut
      clear hShut
      intro hShut
      try simp only [Act.put, List.setIfInBounds_toArray, List.set_cons_zero, List.set_cons_succ]
      refine wpAnyN_take_2 (v := ?v3n) ?_ ?_ ?_ ?_ ?_ ?hy3n ?_ ?_ ?_
      case hy3n =>
        refine Or.inl ⟨by rfl, ?_⟩
        intro w hSw
        try dsimp only at hSw
        go_simp
        try with_reducible rfl
      · kernel_rfl
      · kernel_rfl
      · kernel_rfl
      · kernel_rfl
      · exact fun _ _ _ h => h
      · exact hHeld
      · exact hShut
      clear hShut
      intro hShut
      try simp only [Act.put, List.setIfInBounds_toArray, List.set_cons_zero, List.set_cons_succ]
      refine wpAnyN_one_3 (by kernel_rfl) (by exact hShut) (fun K hK => ?_)
      go_simp
      refine (sat_any p A C ws q n hsz _ (by exact HBd.out.R)).mono ?_
      rintro e w8 ⟨hG, ⟨x, q2, hr, rfl, hR⟩ | ⟨a, c, hr, rfl⟩⟩
      rotate_left
      · have hE := Lib.hid (HBd.out.chg.grownAny hG (fun g e => .inl (.inl (by injection e with e; exact e.symm))))
        have hq := Lib.hid (HBad.out _ hr)
        clear hG hr
        unfold PanEnd
        go_wp2_with fail
        exact ⟨rfl, .inr ⟨a, c, rfl, hq.out, hE.out⟩⟩
      have HB5 := Lib.hid (HBd.out.moved hR hG hne hp)
      have HQ5 := Lib.hid (HGo.out _ _ hr)
      clear hG hr hR HGo HBad HBd HB c5
      have c5 := (HB5.out.cells 5 _ rfl).1
      go_wp2_with fail
      refine hK.out _ _ (fun _ => (by exact c5)) (fun hH hS2 => ?_)
      clear hK K hHeld hShut
      have hShut := hS2
      clear hS2
      have hHeld := hH rfl
      clear hH
      try simp only [Act.put, List.setIfInBounds_toArray, List.set_cons_zero, List.set_cons_succ]
      refine wpAnyN_one_4 (by kernel_rfl) (by exact hShut) (fun K hK => ?_)
      go_simp
      refine hK.out _ _ (fun _ => (by exact keep_cell ((Below.refl _ _).alloc (Nat.le_refl _) _) c5)) (fun hH hS2 => ?_)
      clear hK K hHeld hShut
      have hShut := hS2
      clear hS2
      have hHeld := hH rfl
      clear hH
      try simp only [Act.put, List.setIfInBounds_toArray, List.set_cons_zero, List.set_cons_succ]
      have hw8 : w1.heap.size ≤ w8.heap.size := HB5.out.chg.size
      have HOWN := Lib.hid (HB5.out.o5.alloc (.cells #[.int .i64 x.room, .int .i64 x.hold] 62))
      have HNEW : Hid (∀ (q : Nat) (u : Value), [.int .i64 x.room, .int .i64 x.hold][q]? = some u → (w8.alloc (.cells #[.int .i64 x.room, .int .i64 x.hold] 62)).cell? ((⟨w8.heap.size, 0, none⟩ : Addr).add q) = some u) := Lib.hid (fun q u hu => cells_new _ _ _ q u (by simpa using hu))
      refine wpAnyN_one_5 (by kernel_rfl) (by exact hShut) (fun K hK => ?_)
      refine if_true_P (by rfl) ?_
      refine wp_append_own _ (.tmp 21) (.tmp 24) 25 rfl w1.heap.size 62 is (.agg #[.int .i64 0, .int .i64 0]) 2 16 Try.underlying25 his hs0 hs1 hs2 rfl (by decide) (.slice sa l.length sc) l.length (l.flatMap satV) (by first | rfl | simp [Act.eval, Act.put]) (by first | exact HOWN.out | exact HOWN.out.drew | exact HOWN.out.drew.drew) ⟨w8.heap.size, 0, none⟩ 1 1 [.int .i64 x.room, .int .i64 x.hold] (by first | rfl | simp [Act.eval, Act.put]) rfl HNEW.out (fun x hx => by simp at hx; rcases hx with rfl | rfl <;> rfl) (by have := hl.out; unfold maxLen; omega) (by have := hl.out; omega) (by show w1.heap.size ≤ (w8.alloc _).heap.size; simp; omega) ?_
      intro v' w9 hown2 hgrow _
      obtain ⟨A', C', hv'⟩ := own_val hown2
      subst hv'
      have hgrow2 : (w8.alloc (.cells #[.int .i64 x.room, .int .i64 x.hold] 62)).grownBy w9 (Value.slice sa l.length sc).ownBlock := by first | exact hgrow | exact grown_undrewP hgrow | exact grown_undrewP (grown_undrewP hgrow)
      obtain ⟨d5, f5, HZ⟩ := HB5.out.sat hne hbx hp x _ hown2 hgrow2
      replace HZ := Lib.hid HZ
      clear hown2 hgrow hgrow2 HOWN HNEW
      refine hK.out _ _ (fun _ => (by exact d5)) (fun hH hS2 => ?_)
      clear hK K hHeld hShut
      have hShut := hS2
      clear hS2
      have hHeld := hH rfl
      clear hH
      try simp only [Act.put, List.setIfInBounds_toArray, List.set_cons_zero, List.set_cons_succ]
      refine wpAnyN_one_6 (by kernel_rfl) (by exact hShut) (fun K hK => ?_)
      go_simp
      refine hK.out _ _ (fun h => absurd h (by decide)) (fun _ hS2 => ?_)
      clear hK K hShut
      have hShut := hS2
      clear hS2
      try simp only [Act.put, List.setIfInBounds_toArray, List.set_cons_zero, List.set_cons_succ]
      refine wpAnyN_one_7 (by kernel_rfl) (by exact hShut) (fun K hK => ?_)
      go_simp
      refine hK.out _ _ (fun h => absurd h (by decide)) (fun _ hS2 => ?_)
      clear hK K hShut
      have hShut := hS2
      clear hS2
      try simp only [Act.put, List.setIfInBounds_toArray, List.set_cons_zero, List.set_cons_succ]
      refine wpAnyN_done (by kernel_rfl) ?_ _
      clear hShut hHeld
      go_wp2_with fail
      go_roundw
      case rel => exact ⟨k + 1, q2, l ++ [x], A', C', by omega, by go_num, Lib.hid (by rw [List.length_append, hl.out]; rfl), HQ5, HZ.out⟩
      case measure => simp [intOf]; omega
    · obtain rfl : k = mN := by omega
      have hl : l.length ≤ 12 := by have := HL.out; omega
      replace HQ : Hid (instP ws n = instP3 ws n fin (tm, tr) (bm, br) l q) := Lib.hid (by rw [HQ.out, Nat.sub_self, upP_endK])
      clear HL
      generalize hsats : l = sats at *
      clear hsats
      generalize sa = ha at *
      generalize sc = hc at *
      replace HQ : Hid (instP ws n = bindP (mustP ws n sCusts q) fun _ i => bindP (numP ws n 1 48 i) fun m i => bindP (upP (fun _ => custP ws n) m.toNat 0 i) fun cs i => instP4 ws n fin (tm, tr) (bm, br) sats cs i) := Lib.hid HQ.out
      go_wp2_with fail
      refine (must_any p A C ws q n sCusts _ HB.out.R).mono ?_
      rintro e w10 ⟨hG, ⟨_, i8, hr, rfl, hR⟩ | ⟨a, c, hr, rfl⟩⟩
      rotate_left
      · have hE := Lib.hid (HB.out.chg.grownAny hG (fun g e => .inl (.inl (by injection e with e; exact e.symm))))
        have hq := Lib.hid (bind_bad HQ.out hr)
        clear hG hr
        unfold PanEnd
        go_wp2_with fail
        exact ⟨rfl, .inr ⟨a, c, rfl, hq.out, hE.out⟩⟩
      replace HB := Lib.hid (HB.out.moved hR hG hne hp)
      replace HQ := Lib.hid (bind_step HQ.out hr)
      clear hG hr hR
      go_wp2_with fail
      refine (num_any p A C ws i8 n 1 48 hsz _ HB.out.R).mono ?_
      rintro e w11 ⟨hG, ⟨m1, i9, hr, rfl, hR⟩ | ⟨a, c, hr, rfl⟩⟩
      rotate_left
      · have hE := Lib.hid (HB.out.chg.grownAny hG (fun g e => .inl (.inl (by injection e with e; exact e.symm))))
        have hq := Lib.hid (bind_bad HQ.out hr)
        clear hG hr
        unfold PanEnd
        go_wp2_with fail
        exact ⟨rfl, .inr ⟨a, c, rfl, hq.out, hE.out⟩⟩
      replace HB := Lib.hid (HB.out.moved hR hG hne hp)
      replace HQ := Lib.hid (bind_step HQ.out hr)
      obtain ⟨hm3, hm4, _, _⟩ := numP_ok hr
      obtain ⟨mC, rfl⟩ : ∃ mC : Nat, m1 = (mC : Int) := ⟨m1.toNat, by omega⟩
      clear hG hr hR
      replace HQ : Hid (instP ws n = bindP (upP (fun _ => custP ws n) (mC - 0) 0 i9) (fun xs j => instP4 ws n fin (tm, tr) (bm, br) sats ([] ++ xs) j)) := Lib.hid HQ.out
      go_wp2_with fail
      go_loopw [32] (fun ix wr => ∃ (k q : Nat) (l : List CustD) (sa : Option Addr) (sc : Nat), k ≤ mC ∧ ix = .int .i64 k ∧ Hid (l.length = k) ∧ Hid (instP ws n = bindP (upP (fun _ => custP ws n) (mC - k) k q) (fun xs j => instP4 ws n fin (tm, tr) (bm, br) sats (l ++ xs) j)) ∧ PB w1 p bx A C ws n q ⟨fin, tm, tr, bm, br, sats, l, [], []⟩ ⟨ha, hc, sa, sc, none, 0, none, 0⟩ [] [] wr) (fun ix _ => mC - (intOf ix).toNat)
      case atStart => exact ⟨0, i9, [], none, 0, Nat.zero_le _, rfl, Lib.hid rfl, HQ, HB.out⟩
      case round =>
        obtain ⟨k, q, l, sa, sc, hk, rfl, HL, HQ2, HB2⟩ := hrel
        clear HQ HB
        replace HB := Lib.hid HB2
        replace HQ := HQ2
        clear HB2 HQ2
        by_cases hkm : k < mC
        · have HGo : Hid (∀ x j2, custP ws n q = .inl (x, j2) → instP ws n = bindP (upP (fun _ => custP ws n) (mC - (k + 1)) (k + 1) j2) (fun xs j => instP4 ws n fin (tm, tr) (bm, br) sats ((l ++ [x]) ++ xs) j)) := Lib.hid (fun x j2 h => by
            rw [HQ.out, show mC - k = (mC - (k + 1)) + 1 by omega]
            exact upP_goK (f := fun _ => custP ws n) (k := k) h l (fun xs j => instP4 ws n fin (tm, tr) (bm, br) sats xs j))
          have HBad : Hid (∀ e, custP ws n q = .inr e → instP ws n = .inr e) := Lib.hid (fun e h => by
            rw [HQ.out, show mC - k = (mC - (k + 1)) + 1 by omega]
            exact upP_bad (f := fun _ => custP ws n) (k := k) h _)
          clear HQ
          have hl : l.length = k := HL.out
          replace hl := Lib.hid hl
          have c5 := (HB.out.cells 6 _ rfl).1
          have HBd := Lib.hid HB.out.drew
          go_upto_region 12 with fail
          refine wp_region_N (fun j => decide (j < 6)) (fun wz => wz.cell? ⟨bx, 6, none⟩ = some (.slice sa l.length sc)) (by kernel_rfl) (by exact c5) (fun hShut hHeld => ?_)
          refine wpAnyN_take_0 (v := ?v4n) ?_ ?_ ?_ ?_ ?_ ?hy4n ?_ ?_ ?_
          case hy4n =>
            refine Or.inl ⟨by rfl, ?_⟩
            intro w hSw
            try dsimp only at hSw
            go_simp
            try with_reducible rfl
          · kernel_rfl
          · kernel_rfl
          · kernel_rfl
          · kernel_rfl
          · exact fun _ _ _ h => h
          · exact hHeld
          · exact hShut
          clear hShut
          intro hShut
          try simp only [Act.put, List.setIfInBounds_toArray, List.set_cons_zero, List.set_cons_succ]
          refine wpAnyN_take_1 (v := ?v5n) ?_ ?_ ?_ ?_ ?_ ?hy5n ?_ ?_ ?_
          case hy5n =>
            refine Or.inl ⟨by rfl, ?_⟩
            intro w hSw
            try dsimp only at hSw
            go_simp
            try with_reducible rfl
          · kernel_rfl
          · kernel_rfl
          · kernel_rfl
          · kernel_rfl
          · exact fun _ _ _ h => h
          · exact hHeld
          · exact hShut
          clear hShut
          intro hShut
          try simp only [Act.put, List.setIfInBounds_toArray, List.set_cons_zero, List.set_cons_succ]
          refine wpAnyN_take_2 (v := ?v6n) ?_ ?_ ?_ ?_ ?_ ?hy6n ?_ ?_ ?_
          case hy6n =>
            refine Or.inl ⟨by rfl, ?_⟩
            intro w hSw
            try dsimp only at hSw
            go_simp
            try with_reducible rfl
          · kernel_rfl
          · kernel_rfl
          · kernel_rfl
          · kernel_rfl
          · exact fun _ _ _ h => h
          · exact hHeld
          · exact hShut
          clear hShut
          intro hShut
          try simp only [Act.put, List.setIfInBounds_toArray, List.set_cons_zero, List.set_cons_succ]
          refine wpAnyN_one_3 (by kernel_rfl) (by exact hShut) (fun K hK => ?_)
          go_simp
          refine (cust_any p A C ws q n hsz _ (by exact HBd.out.R)).mono ?_
          rintro e w8 ⟨hG, ⟨x, q2, hr, rfl, hR⟩ | ⟨a, c, hr, rfl⟩⟩
          rotate_left
          · have hE := Lib.hid (HBd.out.chg.grownAny hG (fun g e => .inl (.inl (by injection e with e; exact e.symm))))
            have hq := Lib.hid (HBad.out _ hr)
            clear hG hr
            unfold PanEnd
            go_wp2_with fail
            exact ⟨rfl, .inr ⟨a, c, rfl, hq.out, hE.out⟩⟩
          have HB5 := Lib.hid (HBd.out.moved hR hG hne hp)
          have HQ5 := Lib.hid (HGo.out _ _ hr)
          clear hG hr hR HGo HBad HBd HB c5
          have c5 := (HB5.out.cells 6 _ rfl).1
          go_wp2_with fail
          refine hK.out _ _ (fun _ => (by exact c5)) (fun hH hS2 => ?_)
          clear hK K hHeld hShut
          have hShut := hS2
          clear hS2
          have hHeld := hH rfl
          clear hH
          try simp only [Act.put, List.setIfInBounds_toArray, List.set_cons_zero, List.set_cons_succ]
          refine wpAnyN_one_4 (by kernel_rfl) (by exact hShut) (fun K hK => ?_)
          go_simp
          refine hK.out _ _ (fun _ => (by exact keep_cell ((Below.refl _ _).alloc (Nat.le_refl _) _) c5)) (fun hH hS2 => ?_)
          clear hK K hHeld hShut
          have hShut := hS2
          clear hS2
          have hHeld := hH rfl
          clear hH
          try simp only [Act.put, List.setIfInBounds_toArray, List.set_cons_zero, List.set_cons_succ]
          have hw8 : w1.heap.size ≤ w8.heap.size := HB5.out.chg.size
          have HOWN := Lib.hid (HB5.out.o6.alloc (.cells #[.int .i64 x.load, .int .i64 x.opn, .int .i64 x.close, .int .i64 x.stay] 66))
          have HNEW : Hid (∀ (q : Nat) (u : Value), [.int .i64 x.load, .int .i64 x.opn, .int .i64 x.close, .int .i64 x.stay][q]? = some u → (w8.alloc (.cells #[.int .i64 x.load, .int .i64 x.opn, .int .i64 x.close, .int .i64 x.stay] 66)).cell? ((⟨w8.heap.size, 0, none⟩ : Addr).add q) = some u) := Lib.hid (fun q u hu => cells_new _ _ _ q u (by simpa using hu))
          refine wpAnyN_one_5 (by kernel_rfl) (by exact hShut) (fun K hK => ?_)
          refine if_true_P (by rfl) ?_
          refine wp_append_own _ (.tmp 35) (.tmp 38) 26 rfl w1.heap.size 66 ic (.agg #[.int .i64 0, .int .i64 0, .int .i64 0, .int .i64 0]) 4 32 Try.underlying26 hic hc0 hc1 hc2 rfl (by decide) (.slice sa l.length sc) l.length (l.flatMap custV) (by first | rfl | simp [Act.eval, Act.put]) (by first | exact HOWN.out | exact HOWN.out.drew | exact HOWN.out.drew.drew) ⟨w8.heap.size, 0, none⟩ 1 1 [.int .i64 x.load, .int .i64 x.opn, .int .i64 x.close, .int .i64 x.stay] (by first | rfl | simp [Act.eval, Act.put]) rfl HNEW.out (fun x hx => by simp at hx; rcases hx with rfl | rfl | rfl | rfl <;> rfl) (by have := hl.out; unfold maxLen; omega) (by have := hl.out; omega) (by show w1.heap.size ≤ (w8.alloc _).heap.size; simp; omega) ?_
          intro v' w9 hown2 hgrow _
          obtain ⟨A', C', hv'⟩ := own_val hown2
          subst hv'
          have hgrow2 : (w8.alloc (.cells #[.int .i64 x.load, .int .i64 x.opn, .int .i64 x.close, .int .i64 x.stay] 66)).grownBy w9 (Value.slice sa l.length sc).ownBlock := by first | exact hgrow | exact grown_undrewP hgrow | exact grown_undrewP (grown_undrewP hgrow)
          obtain ⟨d5, f5, HZ⟩ := HB5.out.cust hne hbx hp x _ hown2 hgrow2
          replace HZ := Lib.hid HZ
          clear hown2 hgrow hgrow2 HOWN HNEW
          refine hK.out _ _ (fun _ => (by exact d5)) (fun hH hS2 => ?_)
          clear hK K hHeld hShut
          have hShut := hS2
          clear hS2
          have hHeld := hH rfl
          clear hH
          try simp only [Act.put, List.setIfInBounds_toArray, List.set_cons_zero, List.set_cons_succ]
          refine wpAnyN_one_6 (by kernel_rfl) (by exact hShut) (fun K hK => ?_)
          go_simp
          refine hK.out _ _ (fun h => absurd h (by decide)) (fun _ hS2 => ?_)
          clear hK K hShut
          have hShut := hS2
          clear hS2
          try simp only [Act.put, List.setIfInBounds_toArray, List.set_cons_zero, List.set_cons_succ]
          refine wpAnyN_one_7 (by kernel_rfl) (by exact hShut) (fun K hK => ?_)
          go_simp
          refine hK.out _ _ (fun h => absurd h (by decide)) (fun _ hS2 => ?_)
          clear hK K hShut
          have hShut := hS2
          clear hS2
          try simp only [Act.put, List.setIfInBounds_toArray, List.set_cons_zero, List.set_cons_succ]
          refine wpAnyN_done (by kernel_rfl) ?_ _
          clear hShut hHeld
          go_wp2_with fail
          go_roundw
          case rel => exact ⟨k + 1, q2, l ++ [x], A', C', by omega, by go_num, Lib.hid (by rw [List.length_append, hl.out]; rfl), HQ5, HZ.out⟩
          case measure => simp [intOf]; omega
        · obtain rfl : k = mC := by omega
          have hl2 : l.length ≤ 48 := by have := HL.out; omega
          replace HQ : Hid (instP ws n = instP4 ws n fin (tm, tr) (bm, br) sats l q) := Lib.hid (by rw [HQ.out, Nat.sub_self, upP_endK])
          clear HL
          replace HQ : Hid (instP ws n = bindP (matP ws n sCost (1 + sats.length + l.length) q) fun co i => bindP (matP ws n sTime (1 + sats.length + l.length) i) fun ti i => bindP (mustP ws n sEnd i) fun _ i => .inl (⟨fin, tm, tr, bm, br, sats, l, co, ti⟩, i)) := Lib.hid HQ.out
          go_upto_region 14 with fail
          have NN := Lib.hid (rfl : nodesN ⟨fin, tm, tr, bm, br, sats, l, [], []⟩ = 1 + sats.length + l.length)
          obtain ⟨c0, f0⟩ := HB.out.cells 0 _ rfl
          obtain ⟨c1, f1⟩ := HB.out.cells 1 _ rfl
          obtain ⟨c2, f2⟩ := HB.out.cells 2 _ rfl
          obtain ⟨c3, f3⟩ := HB.out.cells 3 _ rfl
          obtain ⟨c4, f4⟩ := HB.out.cells 4 _ rfl
          obtain ⟨c5, f5⟩ := HB.out.cells 5 _ rfl
          obtain ⟨c6, f6⟩ := HB.out.cells 6 _ rfl
          obtain ⟨c7, f7⟩ := HB.out.cells 7 _ rfl
          obtain ⟨c8, f8⟩ := HB.out.cells 8 _ rfl
          go_wp2_with fail
          refine (nodes_below ⟨fin, tm, tr, bm, br, sats, l, [], []⟩ ⟨ha, hc, sa, sc, none, 0, none, 0⟩ _ (by show sats.length ≤ 1000000; omega) (by show l.length ≤ 1000000; omega)).mono ?_
          rintro e w12a ⟨rfl, hbn⟩
          replace HB := Lib.hid (HB.out.below hbn)
          clear hbn c0 c1 c2 c3 c4 c5 c6 c7 c8 f0 f1 f2 f3 f4 f5 f6 f7 f8
          go_wp2_with fail
          refine (prow_any p A C ws q n sCost (nodesN ⟨fin, tm, tr, bm, br, sats, l, [], []⟩) (by show 1 + sats.length + l.length ≤ 1000; omega) hsz _ HB.out.R).mono ?_
          rintro e w12 ⟨hG, ⟨co, i10, oa, oc, h7, hr, rfl, hR, hO⟩ | ⟨a, c, hr, rfl⟩⟩
          rotate_left
          · have hE := Lib.hid (HB.out.chg.grownAny hG (fun g e => .inl (.inl (by injection e with e; exact e.symm))))
            have hq := Lib.hid (bind_bad HQ.out hr)
            clear hG hr
            unfold PanEnd
            go_wp2_with fail
            exact ⟨rfl, .inr ⟨a, c, rfl, hq.out, hE.out⟩⟩
          have hO2 := Lib.hid (hO.base HB.out.chg.size)
          replace HB := Lib.hid (HB.out.moved hR hG hne hp)
          replace HQ := Lib.hid (bind_step HQ.out hr)
          clear hG hr hR hO
          obtain ⟨c7, f7⟩ := HB.out.cells 7 _ rfl
          replace HB := Lib.hid (HB.out.cost hne hbx hO2.out)
          clear hO2
          go_upto_region 15 with fail
          clear c7 f7
          generalize w12.setCell ⟨bx, 7, none⟩ (.slice oa co.length oc) = v12 at *
          have NN := Lib.hid (rfl : nodesN ⟨fin, tm, tr, bm, br, sats, l, co, []⟩ = 1 + sats.length + l.length)
          obtain ⟨c0, f0⟩ := HB.out.cells 0 _ rfl
          obtain ⟨c1, f1⟩ := HB.out.cells 1 _ rfl
          obtain ⟨c2, f2⟩ := HB.out.cells 2 _ rfl
          obtain ⟨c3, f3⟩ := HB.out.cells 3 _ rfl
          obtain ⟨c4, f4⟩ := HB.out.cells 4 _ rfl
          obtain ⟨c5, f5⟩ := HB.out.cells 5 _ rfl
          obtain ⟨c6, f6⟩ := HB.out.cells 6 _ rfl
          obtain ⟨c7, f7⟩ := HB.out.cells 7 _ rfl
          obtain ⟨c8, f8⟩ := HB.out.cells 8 _ rfl
          go_wp2_with fail
          refine (nodes_below ⟨fin, tm, tr, bm, br, sats, l, co, []⟩ ⟨ha, hc, sa, sc, oa, oc, none, 0⟩ _ (by show sats.length ≤ 1000000; omega) (by show l.length ≤ 1000000; omega)).mono ?_
          rintro e w13a ⟨rfl, hbn⟩
          replace HB := Lib.hid (HB.out.below hbn)
          clear hbn c0 c1 c2 c3 c4 c5 c6 c7 c8 f0 f1 f2 f3 f4 f5 f6 f7 f8
          go_wp2_with fail
          refine (prow_any p A C ws i10 n sTime (nodesN ⟨fin, tm, tr, bm, br, sats, l, co, []⟩) (by show 1 + sats.length + l.length ≤ 1000; omega) hsz _ HB.out.R).mono ?_
          rintro e w13 ⟨hG, ⟨ti, i11, ta, tc, h8, hr, rfl, hR, hO⟩ | ⟨a, c, hr, rfl⟩⟩
          rotate_left
          · have hE := Lib.hid (HB.out.chg.grownAny hG (fun g e => .inl (.inl (by injection e with e; exact e.symm))))
            have hq := Lib.hid (bind_bad HQ.out hr)
            clear hG hr
            unfold PanEnd
            go_wp2_with fail
            exact ⟨rfl, .inr ⟨a, c, rfl, hq.out, hE.out⟩⟩
          have hO2 := Lib.hid (hO.base HB.out.chg.size)
          replace HB := Lib.hid (HB.out.moved hR hG hne hp)
          replace HQ := Lib.hid (bind_step HQ.out hr)
          clear hG hr hR hO
          obtain ⟨c8, f8⟩ := HB.out.cells 8 _ rfl
          replace HB := Lib.hid (HB.out.time hne hbx hO2.out)
          clear hO2
          go_wp2_with fail
          clear c8 f8
          generalize w13.setCell ⟨bx, 8, none⟩ (.slice ta ti.length tc) = v13 at *
          refine (must_any p A C ws i11 n sEnd _ HB.out.R).mono ?_
          rintro e w14 ⟨hG, ⟨_, i12, hr, rfl, hR⟩ | ⟨a, c, hr, rfl⟩⟩
          rotate_left
          · have hE := Lib.hid (HB.out.chg.grownAny hG (fun g e => .inl (.inl (by injection e with e; exact e.symm))))
            have hq := Lib.hid (bind_bad HQ.out hr)
            clear hG hr
            unfold PanEnd
            go_wp2_with fail
            exact ⟨rfl, .inr ⟨a, c, rfl, hq.out, hE.out⟩⟩
          replace HB := Lib.hid (HB.out.moved hR hG hne hp)
          replace HQ := Lib.hid (bind_step HQ.out hr)
          clear hG hr hR
          go_wp2_with fail
          go_end0
          exact .inl ⟨i12, _, _, h7, h8, rfl, HQ.out, HB.out⟩
end Go.Proofs.Ytljcpgeggbbmfaa
namespace Go.Proofs.Ytljcpgeggbbmfaa
set_option linter.unusedVariables false
set_option linter.unusedSimpArgs false
open Go.RowKit
set_option maxHeartbeats 8000000 in
set_option maxRecDepth 100000 in
theorem read_parse (bx : Nat) (s : ByteArray) (w : World) (h2 : s.size ≤ 131072) (hok : okAll s = true) (may : Nat → Prop) (hmay : ∀ k, may k → k < w.heap.size) (Rok : Nat → World → Prop) (Rerr : Int → Int → World → Prop)
    (hRok : ∀ i w2 w3, Rok i w2 → Chg (fun k => k = w.heap.size ∨ k = w.heap.size + 1) w2 w3 → Rok i w3) (hRerr : ∀ a c w2 w3, Rerr a c w2 → Chg (fun k => k = w.heap.size ∨ k = w.heap.size + 1) w2 w3 → Rerr a c w3)
    (hdo : ∀ (w1 : World) (p : Nat) (A : Option Addr) (C : Nat), Below w.heap.size w w1 → w.heap.size + 2 ≤ p → RdrIs w1 p A C (wordsL s) 0 s.size → Calls Try.prog 30 #[.pointer (some ⟨p, 0, none⟩), .pointer (some ⟨bx, 0, none⟩)] w1 (DoEnd may Rok Rerr s w1 p A C)) :
    Calls Try.prog 29 #[.string s, .func (.func 30) #[] #[.pointer (some ⟨bx, 0, none⟩)]] w (ReadEnd may Rok Rerr s w) := by
  have hmf : ∀ (fn : Fn) (first cap : Array Value) (w : World), (Instr.makeFunc fn first cap).run Try.prog w = .ok (.func fn first cap) w := fun _ _ _ _ => rfl
  have hfn : ∀ w : World, (binOp BinOp.neq 78 (.func (.func 30) #[] #[.pointer (some ⟨bx, 0, none⟩)]) .nilFunc).run Try.prog w = .ok (.bool true) w := fun _ => by kernel_rfl
  have hS := Lib.hid (fun w' => split_ok s w' h2 hok)
  have hb0 : Below w.heap.size w ((w.alloc (.cells #[.int .i64 0] 3)).alloc (.cells #[.int .i64 0] 30)) := ((Below.refl _ _).alloc (Nat.le_refl _) _).alloc (by simp) _
  replace hb0 := Lib.hid hb0
  replace hdo := Lib.hid hdo
  replace hRok := Lib.hid hRok
  replace hRerr := Lib.hid hRerr
  replace hmay := Lib.hid hmay
  have hwl := Lib.hid (wordsL_len s)
  go_enter_defers Try.func29, Try.ntmps29
  go_wp2_with fail
  refine (hS.out _).mono ?_
  rintro e w2 ⟨A, C, rfl, hO, hb⟩
  obtain ⟨b1, b2⟩ := two_news w 3 30 (.int .i64 0) (.int .i64 0)
  have hWs : ((w.alloc (.cells #[.int .i64 0] 3)).alloc (.cells #[.int .i64 0] 30)).heap.size = w.heap.size + 2 := by simp
  generalize ((w.alloc (.cells #[.int .i64 0] 3)).alloc (.cells #[.int .i64 0] 30)) = W at *
  replace b1 := (hb.block _ (heap_lt b1)).trans b1
  replace b2 := (hb.block _ (heap_lt b2)).trans b2
  have hb1 := Lib.hid (hb0.out.trans (hb.mono hb0.out.size))
  generalize hg : w.heap.size = g at *
  have c1 := box_cell b1
  have c2 := box_cell b2
  have f1 := box_frozen b1
  have f2 := box_frozen b2
  have hgs := heap_lt b2
  replace hg := Lib.hid hg
  obtain ⟨d1, d2, d3⟩ := two_set (.int .i64 0) (.int .i64 0) b1 b2
  have hO3 := own_set (own_set hO (by omega : g < W.heap.size) 0 (.int .i64 0)) (by omega : g + 1 < W.heap.size) 0 (.int .i64 0)
  have hB3 := hb1.out.trans (d3.to_below (B := g) (fun k hk => by omega) (by omega))
  replace d1 := Lib.hid d1
  replace d2 := Lib.hid d2
  replace d3 := Lib.hid d3
  replace hO3 := Lib.hid hO3
  replace hB3 := Lib.hid hB3
  clear b1 b2 hb hO
  go_upto_region 5 with fail
  generalize hW3 : ((w2.setCell ⟨g, 0, none⟩ (.int .i64 0)).setCell ⟨g + 1, 0, none⟩ (.int .i64 0)) = W3 at *
  have hs3 := heap_lt d2.out
  replace hW3 := Lib.hid hW3
  clear c1 c2 f1 f2 hgs
  have hR4 : RdrIs (W3.alloc (.cells #[.slice A (wordsL s).length C, .int .i64 0, .int .i64 (s.size : Int)] 114)) W3.heap.size A C (wordsL s) 0 s.size :=
    ⟨heap_alloc_new W3 _, (own_rd' hO3.out).below ((Below.refl _ _).alloc (Nat.le_refl _) _), fun a ha => (own_lt hO3.out (g := a.block) (by rw [ha]; rfl)).2, Nat.zero_le _, by have := hwl.out; omega⟩
  have hB4 := hB3.out.alloc (by omega) (.cells #[.slice A (wordsL s).length C, .int .i64 0, .int .i64 (s.size : Int)] 114)
  have z1 := (Below.heap_alloc W3 (.cells #[.slice A (wordsL s).length C, .int .i64 0, .int .i64 (s.size : Int)] 114) g (by omega)).trans d1.out
  have z2 := (Below.heap_alloc W3 (.cells #[.slice A (wordsL s).length C, .int .i64 0, .int .i64 (s.size : Int)] 114) (g + 1) hs3).trans d2.out
  replace hR4 := Lib.hid hR4
  replace hB4 := Lib.hid hB4
  replace z1 := Lib.hid z1
  replace z2 := Lib.hid z2
  go_upto_region 7 with fail
  generalize hW4 : W3.alloc (.cells #[.slice A (wordsL s).length C, .int .i64 0, .int .i64 (s.size : Int)] 114) = W4 at *
  generalize hp : W3.heap.size = p at *
  have hpl : g + 2 ≤ p := by omega
  clear hW3 hW4 hO3 hB3 d1 d2 d3 hb1 hb0
  go_wp2_with fail
  refine (hdo.out W4 p A C hB4.out hpl hR4.out).mono ?_
  rintro e w5 ⟨hC5, ⟨i, rfl, R5, hk5⟩ | ⟨a, c, rfl, hk5⟩⟩
  all_goals
    have hmg : ∀ k, may k → k < g := hmay.out
    have y1 := (hC5.block g (by have := heap_lt z1.out; exact this) (fun h => by rcases h with h | h; omega; have := hmg _ h; omega)).trans z1.out
    have y2 := (hC5.block (g + 1) (by have := heap_lt z2.out; exact this) (fun h => by rcases h with h | h; omega; have := hmg _ h; omega)).trans z2.out
    have hCw : Chg (fun k => may k ∨ w.heap.size ≤ k) w w5 := (Chg.mono (Chg.below (may := fun _ => False) (by rw [hg.out]; exact hB4.out)) (fun k _ h => h.elim)).trans (hC5.mono (fun k _ h => by rcases h with h | h; exact .inr (by rw [hg.out]; omega); exact .inl h))
    replace hCw := Lib.hid hCw
    have n1 : ¬ g = g + 1 := by omega
  · by_cases hmore : i < (wordsL s).length
    · have hbm := Lib.hid (decide_eq_true hmore)
      have hpl2 := Lib.hid hmore
      clear hmore
      replace y1 := Lib.hid y1
      replace y2 := Lib.hid y2
      go_wp2_with fail
      refine (more_any p A C (wordsL s) i s.size true hbm _ R5).mono ?_
      rintro e w6 ⟨rfl, q6, rfl⟩
      go_wp2_with fail
      refine (fail_any p A C (wordsL s) i s.size 6 _ (R5.drewN q6)).mono ?_
      rintro e w7 ⟨rfl, q7, rfl⟩
      unfold PanEnd
      go_wp2_with fail
      refine leaves_cons (f := 59) (args := #[.pointer (some ⟨g, 0, none⟩), .pointer (some ⟨g + 1, 0, none⟩)]) (by simp) (by simp [go_sem]) ?_
      refine (catch_fault g (g + 1) 0 0 _ _ [] _ (by exact box_cell y1.out) (by exact box_frozen y1.out) (by exact box_cell y2.out) (by exact box_frozen y2.out) n1).mono ?_
      rintro e u' w8 ⟨rfl, rfl, v1, v2, hC8⟩
      have hend : ReadEnd may Rok Rerr s w (.returned (.tuple #[.int .i64 (placeN (wordsL s) i s.size : Int), .int .i64 6])) w8 := by
        have h8 : Chg (fun k => k = g ∨ k = g + 1) w5 w8 := (Chg.drewN w5 _).trans hC8
        refine ⟨hCw.out.trans (h8.mono (fun k _ h => .inr (by have := hg.out; omega))), .inl ⟨i, hRok.out i w5 w8 hk5 h8, ?_⟩⟩
        rw [if_pos hpl2.out, if_pos hpl2.out]
      simp [Leaves, settle, results, Try.results29, go_sem, v1, v2, hend]
    · have hbm := Lib.hid (decide_eq_false hmore)
      have hpl2 := Lib.hid hmore
      clear hmore
      replace y1 := Lib.hid y1
      replace y2 := Lib.hid y2
      have x1 := box_cell y1.out
      have x2 := box_cell y2.out
      have x3 := box_frozen y1.out
      have x4 := box_frozen y2.out
      go_wp2_with fail
      refine (more_any p A C (wordsL s) i s.size false hbm _ R5).mono ?_
      rintro e w6 ⟨rfl, q6, rfl⟩
      go_wp2_with fail
      refine leaves_cons (f := 59) (args := #[.pointer (some ⟨g, 0, none⟩), .pointer (some ⟨g + 1, 0, none⟩)]) (by simp) (by simp [go_sem]) ?_
      refine (catch_idle ⟨g, 0, none⟩ ⟨g + 1, 0, none⟩ _).mono ?_
      rintro e u' w8 ⟨rfl, rfl, rfl⟩
      obtain ⟨v1, v2, hC8⟩ := two_set (w := w5.drewN q6) (.int .i64 0) (.int .i64 0) y1.out y2.out
      have hend : ReadEnd may Rok Rerr s w (.returned (.tuple #[.int .i64 0, .int .i64 0])) (((w5.drewN q6).setCell ⟨g, 0, none⟩ (.int .i64 0)).setCell ⟨g + 1, 0, none⟩ (.int .i64 0)) := by
        have h8 : Chg (fun k => k = g ∨ k = g + 1) w5 _ := (Chg.drewN w5 q6).trans hC8
        refine ⟨hCw.out.trans (h8.mono (fun k _ h => .inr (by have := hg.out; omega))), .inl ⟨i, hRok.out i w5 _ hk5 h8, ?_⟩⟩
        rw [if_neg hpl2.out, if_neg hpl2.out]
      have v3 := box_cell v1
      have v4 := box_cell v2
      generalize (((w5.drewN q6).setCell ⟨g, 0, none⟩ (.int .i64 0)).setCell ⟨g + 1, 0, none⟩ (.int .i64 0)) = W9 at *
      simp [Leaves, settle, results, Try.results29, go_sem, v3, v4, hend]
  · unfold PanEnd
    replace y1 := Lib.hid y1
    replace y2 := Lib.hid y2
    go_wp2_with fail
    refine leaves_cons (f := 59) (args := #[.pointer (some ⟨g, 0, none⟩), .pointer (some ⟨g + 1, 0, none⟩)]) (by simp) (by simp [go_sem]) ?_
    refine (catch_fault g (g + 1) 0 0 _ _ [] _ (by exact box_cell y1.out) (by exact box_frozen y1.out) (by exact box_cell y2.out) (by exact box_frozen y2.out) n1).mono ?_
    rintro e u' w8 ⟨rfl, rfl, v1, v2, hC8⟩
    have hend : ReadEnd may Rok Rerr s w (.returned (.tuple #[.int .i64 a, .int .i64 c])) w8 := by
      refine ⟨hCw.out.trans (hC8.mono (fun k _ h => .inr (by have := hg.out; omega))), .inr ⟨a, c, hRerr.out a c w5 w8 hk5 hC8, rfl⟩⟩
    simp [Leaves, settle, results, Try.results29, go_sem, v1, v2, hend]
end Go.Proofs.Ytljcpgeggbbmfaa
namespace Go.Proofs.Ytljcpgeggbbmfaa
set_option linter.unusedVariables false
set_option linter.unusedSimpArgs false
open Go.RowKit
/-- what a text that may stand comes to: an instance, or where it goes wrong, and why. -/
def parseW (ws : List WordD) (n : Nat) : InstD ⊕ (Int × Int) := match instP ws n with
  | .inl (X, i) => if i < ws.length then .inr ((placeN ws i n : Int), 6) else .inl X
  | .inr e => .inr e
theorem own_chg {B e s n : Nat} {w w' : World} {v : Value} {xs : List Value} {may : Nat → Prop} (h : w.ownsRow B e s v n xs) (hc : Chg may w w') (hB : ∀ k, may k → k < B) : w'.ownsRow B e s v n xs := by
  refine ⟨h.1, ?_⟩
  rcases h.2 with h0 | ⟨g, cap, cur, a, c, d, e⟩
  · exact .inl h0
  · exact .inr ⟨g, cap, cur, a, c, (hc.block g (heap_lt d) (fun hm => by have := hB g hm; omega)).trans d, e⟩
theorem RowsOwn.chg {B : Nat} {w w' : World} {v : Value} {ls : List (List Int)} {hs : List Value} {may : Nat → Prop} (h : RowsOwn B w v ls hs) (hc : Chg may w w') (hB : ∀ k, may k → k < B) : RowsOwn B w' v ls hs :=
  ⟨h.len, own_chg h.own hc hB, fun i r hi => by
    obtain ⟨A, C, h1, h2⟩ := h.rows i r hi
    exact ⟨A, C, h1, own_chg h2 hc hB⟩⟩
/-- the instance in its box, behind the reading. -/
def ROk (g bx : Nat) (ws : List WordD) (n : Nat) (i : Nat) (w : World) : Prop := ∃ (B : Nat) (X : InstD) (h : HdD) (h7 h8 : List Value), g + 2 ≤ B ∧ instP ws n = .inl (X, i) ∧ w.heap[bx]? = some (.cells (instC X h) 29 (0, 0)) ∧
  w.ownsRow B 62 2 (.slice h.sa X.sats.length h.sc) X.sats.length (X.sats.flatMap satV) ∧ w.ownsRow B 66 4 (.slice h.ca X.custs.length h.cc) X.custs.length (X.custs.flatMap custV) ∧
  RowsOwn B w (.slice h.oa X.cost.length h.oc) X.cost h7 ∧ RowsOwn B w (.slice h.ta X.time.length h.tc) X.time h8
def RErr (ws : List WordD) (n : Nat) (a c : Int) (w : World) : Prop := instP ws n = .inr (a, c)
theorem ROk.chg {g bx : Nat} {ws : List WordD} {n i : Nat} {w w' : World} (h : ROk g bx ws n i w) (hbx : bx < g) (hc : Chg (fun k => k = g ∨ k = g + 1) w w') : ROk g bx ws n i w' := by
  obtain ⟨B, X, hd, h7, h8, hB, hi, hb, o5, o6, o7, o8⟩ := h
  have hm : ∀ k, (k = g ∨ k = g + 1) → k < B := fun k hk => by omega
  exact ⟨B, X, hd, h7, h8, hB, hi, (hc.block bx (heap_lt hb) (by omega)).trans hb, own_chg o5 hc hm, own_chg o6 hc hm, o7.chg hc hm, o8.chg hc hm⟩
/-- Read at Parse's closure. -/
theorem read_is (bx : Nat) (s : ByteArray) (w : World) (h2 : s.size ≤ 131072) (hok : okAll s = true) (hb : w.heap[bx]? = some (.cells (instC ⟨0, 0, 0, 0, 0, [], [], [], []⟩ ⟨none, 0, none, 0, none, 0, none, 0⟩) 29 (0, 0))) :
    Calls Try.prog 29 #[.string s, .func (.func 30) #[] #[.pointer (some ⟨bx, 0, none⟩)]] w (ReadEnd (fun k => k = bx) (ROk w.heap.size bx (wordsL s) s.size) (RErr (wordsL s) s.size) s w) := by
  have hbl := heap_lt hb
  refine read_parse bx s w h2 hok (fun k => k = bx) (fun k hk => by subst hk; exact hbl) _ _ (fun i w2 w3 h hc => h.chg hbl hc) (fun a c w2 w3 h hc => h) (fun w1 p A C hB hp R => ?_)
  have hpl := heap_lt R.blk
  have hne : bx ≠ p := by omega
  have H : PB w1 p bx A C (wordsL s) s.size 0 ⟨0, 0, 0, 0, 0, [], [], [], []⟩ ⟨none, 0, none, 0, none, 0, none, 0⟩ [] [] w1 :=
    ⟨R, (hB.block bx hbl).trans hb, Chg.refl _ _, World.ownsRow_nil _ _ _ _, World.ownsRow_nil _ _ _ _, RowsOwn.nil _ _, RowsOwn.nil _ _⟩
  have hsz : Hid (∀ x ∈ wordsL s, x.text.size ≤ 9223372036854775807) := Lib.hid (fun x hx => by
    obtain ⟨_, e, h1, h2, _⟩ := wordsL_pos s x hx
    rw [h1, ByteArray.size_extract]; omega)
  refine (pdo_any p bx A C (wordsL s) s.size hsz w1 hne (by have := hB.size; omega) hpl H).mono fun e w2 h => ?_
  rcases h with ⟨i, X, hd, h7, h8, rfl, hi, HB⟩ | ⟨a, c, rfl, hi, hc⟩
  · exact ⟨HB.chg, .inl ⟨i, rfl, HB.R, w1.heap.size, X, hd, h7, h8, by omega, hi, HB.box, HB.o5, HB.o6, HB.o7, HB.o8⟩⟩
  · exact ⟨hc, .inr ⟨a, c, rfl, hi⟩⟩
/-- what may be said of an instance that has been read. -/
structure ReadOk (X : InstD) : Prop where
  s1 : 1 ≤ X.sats.length
  s2 : X.sats.length ≤ 12
  c1 : 1 ≤ X.custs.length
  c2 : X.custs.length ≤ 48
  o : X.cost.length = nodesN X
  t : X.time.length = nodesN X
  ro : ∀ r ∈ X.cost, r.length = nodesN X
  rt : ∀ r ∈ X.time, r.length = nodesN X
  tm : 1 ≤ X.tm ∧ X.tm ≤ 60
  bm : 1 ≤ X.bm ∧ X.bm ≤ 60
  fin : 0 ≤ X.fin ∧ X.fin ≤ 1000000000
  tr : 0 ≤ X.tr ∧ X.tr ≤ 1000000000
  br : 0 ≤ X.br ∧ X.br ≤ 1000000000
  sat : ∀ x ∈ X.sats, (0 ≤ x.room ∧ x.room ≤ 1000000000) ∧ 0 ≤ x.hold ∧ x.hold ≤ 1000000000
  cust : ∀ x ∈ X.custs, (1 ≤ x.load ∧ x.load ≤ 1000000000) ∧ (0 ≤ x.opn ∧ x.opn ≤ 1000000000) ∧ (x.opn ≤ x.close ∧ x.close ≤ 1000000000) ∧ 0 ≤ x.stay ∧ x.stay ≤ 1000000000
  co : ∀ (i : Nat) (r : List Int), X.cost[i]? = some r → ∀ (k : Nat) (v : Int), r[k]? = some v → 0 ≤ v ∧ v ≤ 1000000000 ∧ (i = k → v = 0)
  ti : ∀ (i : Nat) (r : List Int), X.time[i]? = some r → ∀ (k : Nat) (v : Int), r[k]? = some v → 0 ≤ v ∧ v ≤ 1000000000 ∧ (i = k → v = 0)
theorem matP_ok {ws : List WordD} {n : Nat} {t : ByteArray} {m i : Nat} {ls : List (List Int)} {j : Nat} (h : matP ws n t m i = .inl (ls, j)) : ls.length = m ∧ (∀ r ∈ ls, r.length = m) ∧ ∀ (i : Nat) (r : List Int), ls[i]? = some r → ∀ (k : Nat) (v : Int), r[k]? = some v → 0 ≤ v ∧ v ≤ 1000000000 ∧ (i = k → v = 0) := by
  obtain ⟨_, i1, h1, h2⟩ := bindP_ok h
  have hrow : ∀ k i x j, rowP ws n m k i = .inl (x, j) → x.length = m ∧ ∀ (q : Nat) (v : Int), x[q]? = some v → 0 ≤ v ∧ v ≤ 1000000000 ∧ (k = q → v = 0) := fun k i x j hx => by
    refine ⟨upP_ok m 0 i hx, fun q v hv => ?_⟩
    have := upP_all (Q := fun q v => 0 ≤ v ∧ v ≤ 1000000000 ∧ (k = q → v = 0)) (fun q i v j hc => by
      obtain ⟨b1, b2, _, _⟩ := numP_ok hc
      by_cases e : k = q
      · rw [if_pos e] at b2; exact ⟨b1, by omega, fun _ => by omega⟩
      · rw [if_neg e] at b2; exact ⟨b1, b2, fun e2 => absurd e2 e⟩) m 0 i hx q v hv
    rw [Nat.zero_add] at this; exact this
  have hall := upP_all (Q := fun k (x : List Int) => x.length = m ∧ ∀ (q : Nat) (v : Int), x[q]? = some v → 0 ≤ v ∧ v ≤ 1000000000 ∧ (k = q → v = 0)) hrow m 0 i1 h2
  refine ⟨upP_ok m 0 i1 h2, fun r hr => ?_, fun i r hi k v hv => ?_⟩
  · obtain ⟨q, hq, rfl⟩ := List.getElem_of_mem hr
    exact (hall q _ (List.getElem?_eq_getElem hq)).1
  · have := (hall i r hi).2 k v hv
    rw [Nat.zero_add] at this; exact this
theorem fleetP_ok {ws : List WordD} {n : Nat} {t : ByteArray} {i : Nat} {x : Int × Int} {j : Nat} (h : fleetP ws n t i = .inl (x, j)) : (1 ≤ x.1 ∧ x.1 ≤ 60) ∧ 0 ≤ x.2 ∧ x.2 ≤ 1000000000 := by
  obtain ⟨_, i1, _, h2⟩ := bindP_ok h
  obtain ⟨m, i2, h3, h4⟩ := bindP_ok h2
  obtain ⟨r, i3, h5, h6⟩ := bindP_ok h4
  injection h6 with h6
  injection h6 with h6 _
  subst h6
  obtain ⟨a, b, _, _⟩ := numP_ok h3
  obtain ⟨c, d, _, _⟩ := numP_ok h5
  exact ⟨⟨a, b⟩, c, d⟩
theorem satP_ok {ws : List WordD} {n i : Nat} {x : SatD} {j : Nat} (h : satP ws n i = .inl (x, j)) : (0 ≤ x.room ∧ x.room ≤ 1000000000) ∧ 0 ≤ x.hold ∧ x.hold ≤ 1000000000 := by
  obtain ⟨m, i2, h3, h4⟩ := bindP_ok h
  obtain ⟨r, i3, h5, h6⟩ := bindP_ok h4
  injection h6 with h6
  injection h6 with h6 _
  subst h6
  obtain ⟨a, b, _, _⟩ := numP_ok h3
  obtain ⟨c, d, _, _⟩ := numP_ok h5
  exact ⟨⟨a, b⟩, c, d⟩
theorem custP_ok {ws : List WordD} {n i : Nat} {x : CustD} {j : Nat} (h : custP ws n i = .inl (x, j)) : (1 ≤ x.load ∧ x.load ≤ 1000000000) ∧ (0 ≤ x.opn ∧ x.opn ≤ 1000000000) ∧ (x.opn ≤ x.close ∧ x.close ≤ 1000000000) ∧ 0 ≤ x.stay ∧ x.stay ≤ 1000000000 := by
  obtain ⟨l, i2, h3, h4⟩ := bindP_ok h
  obtain ⟨o, i3, h5, h6⟩ := bindP_ok h4
  obtain ⟨c, i4, h7, h8⟩ := bindP_ok h6
  obtain ⟨s, i5, h9, h0⟩ := bindP_ok h8
  injection h0 with h0
  injection h0 with h0 _
  subst h0
  obtain ⟨a1, b1, _, _⟩ := numP_ok h3
  obtain ⟨a2, b2, _, _⟩ := numP_ok h5
  obtain ⟨a3, b3, _, _⟩ := numP_ok h7
  obtain ⟨a4, b4, _, _⟩ := numP_ok h9
  exact ⟨⟨a1, b1⟩, ⟨a2, b2⟩, ⟨a3, b3⟩, a4, b4⟩
theorem instP_ok {ws : List WordD} {n : Nat} {X : InstD} {j : Nat} (h : instP ws n = .inl (X, j)) : ReadOk X := by
  obtain ⟨_, i1, _, h⟩ := bindP_ok h
  obtain ⟨fin, i2, hf, h⟩ := bindP_ok h
  obtain ⟨t, i3, ht, h⟩ := bindP_ok h
  obtain ⟨b, i4, hb, h⟩ := bindP_ok h
  obtain ⟨_, i5, _, h⟩ := bindP_ok h
  obtain ⟨m, i6, hm, h⟩ := bindP_ok h
  obtain ⟨ss, i7, hs, h⟩ := bindP_ok h
  obtain ⟨_, i8, _, h⟩ := bindP_ok h
  obtain ⟨mc, i9, hmc, h⟩ := bindP_ok h
  obtain ⟨cs, i10, hc, h⟩ := bindP_ok h
  obtain ⟨co, i11, ho, h⟩ := bindP_ok h
  obtain ⟨ti, i12, hti, h⟩ := bindP_ok h
  obtain ⟨_, i13, _, h⟩ := bindP_ok h
  injection h with h
  injection h with h _
  subst h
  obtain ⟨f1, f2, _, _⟩ := numP_ok hf
  obtain ⟨m1, m2, _, _⟩ := numP_ok hm
  obtain ⟨n1, n2, _, _⟩ := numP_ok hmc
  obtain ⟨t1, t2, t3⟩ := fleetP_ok ht
  obtain ⟨b1, b2, b3⟩ := fleetP_ok hb
  have ls := upP_ok _ _ _ hs
  have lc := upP_ok _ _ _ hc
  obtain ⟨o1, o2, o3⟩ := matP_ok ho
  obtain ⟨q1, q2, q3⟩ := matP_ok hti
  refine ⟨by dsimp only; omega, by dsimp only; omega, by dsimp only; omega, by dsimp only; omega, o1, q1, o2, q2, t1, b1, ⟨f1, f2⟩, ⟨t2, t3⟩, ⟨b2, b3⟩, fun x hx => ?_, fun x hx => ?_, o3, q3⟩
  · obtain ⟨q, hq, rfl⟩ := List.getElem_of_mem hx
    exact upP_all (Q := fun _ (x : SatD) => (0 ≤ x.room ∧ x.room ≤ 1000000000) ∧ 0 ≤ x.hold ∧ x.hold ≤ 1000000000) (fun _ _ _ _ h => satP_ok h) _ _ _ hs q _ (List.getElem?_eq_getElem hq)
  · obtain ⟨q, hq, rfl⟩ := List.getElem_of_mem hx
    exact upP_all (Q := fun _ (x : CustD) => (1 ≤ x.load ∧ x.load ≤ 1000000000) ∧ (0 ≤ x.opn ∧ x.opn ≤ 1000000000) ∧ (x.opn ≤ x.close ∧ x.close ≤ 1000000000) ∧ 0 ≤ x.stay ∧ x.stay ≤ 1000000000) (fun _ _ _ _ h => custP_ok h) _ _ _ hc q _ (List.getElem?_eq_getElem hq)
end Go.Proofs.Ytljcpgeggbbmfaa
namespace Go.Proofs.Ytljcpgeggbbmfaa
set_option linter.unusedVariables false
set_option linter.unusedSimpArgs false
open Go.RowKit
theorem row9 {w : World} {g : Nat} {c0 c1 c2 c3 c4 c5 c6 c7 c8 : Value} {T : TypeId} (h : w.heap[g]? = some (.cells #[c0, c1, c2, c3, c4, c5, c6, c7, c8] T (0, 0))) :
    (w.cell? ⟨g, 0, none⟩ = some c0 ∧ w.cell? ⟨g, 1, none⟩ = some c1 ∧ w.cell? ⟨g, 2, none⟩ = some c2 ∧ w.cell? ⟨g, 3, none⟩ = some c3 ∧ w.cell? ⟨g, 4, none⟩ = some c4 ∧ w.cell? ⟨g, 5, none⟩ = some c5 ∧ w.cell? ⟨g, 6, none⟩ = some c6 ∧ w.cell? ⟨g, 7, none⟩ = some c7 ∧ w.cell? ⟨g, 8, none⟩ = some c8) ∧ ∀ j, w.frozen? ⟨g, j, none⟩ = false :=
  ⟨⟨cell_of_row w g 0 _ _ _ h, cell_of_row w g 1 _ _ _ h, cell_of_row w g 2 _ _ _ h, cell_of_row w g 3 _ _ _ h, cell_of_row w g 4 _ _ _ h, cell_of_row w g 5 _ _ _ h, cell_of_row w g 6 _ _ _ h, cell_of_row w g 7 _ _ _ h, cell_of_row w g 8 _ _ _ h⟩, fun j => frozen_of_row w g j _ _ h⟩
theorem ninep_set (w : World) (g : Nat) (T : TypeId) {c0 c1 c2 c3 c4 c5 c6 c7 c8 : Value} (d0 d1 d2 d3 d4 d5 d6 d7 d8 : Value) (h : w.heap[g]? = some (.cells #[c0, c1, c2, c3, c4, c5, c6, c7, c8] T (0, 0))) {B : Nat} {w0 : World} (hb : Below B w0 w) (hB : B ≤ g) :
    ((((((((((w.setCell ⟨g, 0, none⟩ d0).setCell ⟨g, 1, none⟩ d1).setCell ⟨g, 2, none⟩ d2).setCell ⟨g, 3, none⟩ d3).setCell ⟨g, 4, none⟩ d4).setCell ⟨g, 5, none⟩ d5).setCell ⟨g, 6, none⟩ d6).setCell ⟨g, 7, none⟩ d7).setCell ⟨g, 8, none⟩ d8)).heap[g]? = some (.cells #[d0, d1, d2, d3, d4, d5, d6, d7, d8] T (0, 0)) ∧ Below B w0 ((((((((((w.setCell ⟨g, 0, none⟩ d0).setCell ⟨g, 1, none⟩ d1).setCell ⟨g, 2, none⟩ d2).setCell ⟨g, 3, none⟩ d3).setCell ⟨g, 4, none⟩ d4).setCell ⟨g, 5, none⟩ d5).setCell ⟨g, 6, none⟩ d6).setCell ⟨g, 7, none⟩ d7).setCell ⟨g, 8, none⟩ d8)) ∧ (∀ k, k ≠ g → ((((((((((w.setCell ⟨g, 0, none⟩ d0).setCell ⟨g, 1, none⟩ d1).setCell ⟨g, 2, none⟩ d2).setCell ⟨g, 3, none⟩ d3).setCell ⟨g, 4, none⟩ d4).setCell ⟨g, 5, none⟩ d5).setCell ⟨g, 6, none⟩ d6).setCell ⟨g, 7, none⟩ d7).setCell ⟨g, 8, none⟩ d8)).heap[k]? = w.heap[k]?) := by
  obtain ⟨h1, h2⟩ := set9 w g T c0 c1 c2 c3 c4 c5 c6 c7 c8 d0 d1 d2 d3 d4 d5 d6 d7 d8 h
  refine ⟨h1, ?_, fun k hk => ?_⟩
  · exact ((((((((hb.setCell hB d0).setCell hB d1).setCell hB d2).setCell hB d3).setCell hB d4).setCell hB d5).setCell hB d6).setCell hB d7).setCell hB d8
  · repeat rw [heap_setCell_other _ _ k _ (by exact hk)]
theorem inst_row {w : World} {g : Nat} {X : InstD} {h : HdD} {T : TypeId} (hB : w.heap[g]? = some (.cells (instC X h) T (0, 0))) : w.heap[g]? = some (.cells #[.int .i64 X.fin, .int .i64 X.tm, .int .i64 X.tr, .int .i64 X.bm, .int .i64 X.br, .slice h.sa X.sats.length h.sc, .slice h.ca X.custs.length h.cc, .slice h.oa X.cost.length h.oc, .slice h.ta X.time.length h.tc] T (0, 0)) := hB
theorem own_heap {B e s n : Nat} {w w' : World} {v : Value} {xs : List Value} (h : w.ownsRow B e s v n xs) (hc : ∀ k, B ≤ k → w'.heap[k]? = w.heap[k]?) : w'.ownsRow B e s v n xs := by
  refine ⟨h.1, ?_⟩
  rcases h.2 with h0 | ⟨g, cap, cur, a, c, d, e⟩
  · exact .inl h0
  · exact .inr ⟨g, cap, cur, a, c, (hc g c).trans d, e⟩
theorem RowsOwn.heap {B : Nat} {w w' : World} {v : Value} {ls : List (List Int)} {hs : List Value} (h : RowsOwn B w v ls hs) (hc : ∀ k, B ≤ k → w'.heap[k]? = w.heap[k]?) : RowsOwn B w' v ls hs :=
  ⟨h.len, own_heap h.own hc, fun i r hi => by
    obtain ⟨A, C, h1, h2⟩ := h.rows i r hi
    exact ⟨A, C, h1, own_heap h2 hc⟩⟩
/-- what Parse leaves: an instance in memory of its own; or none, where it went wrong, and why. -/
def POut (r : InstD ⊕ (Int × Int)) (w : World) (e : Ending) (w' : World) : Prop :=
  Below w.heap.size w w' ∧ ((∃ X h, r = .inl X ∧ ReadOk X ∧ e = .returned (.tuple #[.agg (instC X h), .int .i64 0, .int .i64 0]) ∧ InstIs w' X h) ∨
    (∃ a c, r = .inr (a, c) ∧ c ≠ 0 ∧ e = .returned (.tuple #[.agg (instC ⟨0, 0, 0, 0, 0, [], [], [], []⟩ ⟨none, 0, none, 0, none, 0, none, 0⟩), .int .i64 a, .int .i64 c])))
theorem numP_err {ws : List WordD} {n : Nat} {lo hi : Int} {i : Nat} {a c : Int} (h : numP ws n lo hi i = .inr (a, c)) : c ≠ 0 := by
  unfold numP at h
  repeat' split at h
  all_goals first | (injection h with h; injection h with _ h; omega) | cases h
theorem mustP_err {ws : List WordD} {n : Nat} {t : ByteArray} {i : Nat} {a c : Int} (h : mustP ws n t i = .inr (a, c)) : c ≠ 0 := by
  unfold mustP at h
  repeat' split at h
  all_goals first | (injection h with h; injection h with _ h; omega) | cases h
theorem bindP_err {α β : Type} {x : PR α} {f : α → Nat → PR β} {a c : Int} (h : bindP x f = .inr (a, c)) (hx : ∀ a c, x = .inr (a, c) → c ≠ 0) (hf : ∀ y j a c, f y j = .inr (a, c) → c ≠ 0) : c ≠ 0 := by
  match x, h, hx with
  | .inl (y, j), h, _ => exact hf y j a c h
  | .inr e, h, hx => exact hx a c (by have h2 : (Sum.inr e : PR β) = .inr (a, c) := h; injection h2 with h2; rw [h2])
theorem upP_err {α : Type} {f : Nat → Nat → PR α} (hf : ∀ k i a c, f k i = .inr (a, c) → c ≠ 0) : ∀ (m k i : Nat) {a c : Int}, upP f m k i = .inr (a, c) → c ≠ 0
  | 0, k, i, a, c, h => by cases h
  | m + 1, k, i, a, c, h => bindP_err h (fun a c h => hf k i a c h) (fun y j a c h => bindP_err h (fun a c h => upP_err hf m (k + 1) j h) (fun _ _ a c h => by cases h))
theorem fleetP_err {ws : List WordD} {n : Nat} {t : ByteArray} {i : Nat} {a c : Int} (h : fleetP ws n t i = .inr (a, c)) : c ≠ 0 :=
  bindP_err h (fun _ _ h => mustP_err h) (fun _ _ _ _ h => bindP_err h (fun _ _ h => numP_err h) (fun _ _ _ _ h => bindP_err h (fun _ _ h => numP_err h) (fun _ _ _ _ h => by cases h)))
theorem satP_err {ws : List WordD} {n : Nat} {i : Nat} {a c : Int} (h : satP ws n i = .inr (a, c)) : c ≠ 0 :=
  bindP_err h (fun _ _ h => numP_err h) (fun _ _ _ _ h => bindP_err h (fun _ _ h => numP_err h) (fun _ _ _ _ h => by cases h))
theorem custP_err {ws : List WordD} {n : Nat} {i : Nat} {a c : Int} (h : custP ws n i = .inr (a, c)) : c ≠ 0 :=
  bindP_err h (fun _ _ h => numP_err h) (fun _ _ _ _ h => bindP_err h (fun _ _ h => numP_err h) (fun _ _ _ _ h => bindP_err h (fun _ _ h => numP_err h) (fun _ _ _ _ h => bindP_err h (fun _ _ h => numP_err h) (fun _ _ _ _ h => by cases h))))
theorem matP_err {ws : List WordD} {n : Nat} {t : ByteArray} {m i : Nat} {a c : Int} (h : matP ws n t m i = .inr (a, c)) : c ≠ 0 :=
  bindP_err h (fun _ _ h => mustP_err h) (fun _ _ _ _ h => upP_err (fun _ _ _ _ h => upP_err (fun _ _ _ _ h => numP_err h) _ _ _ h) _ _ _ h)
theorem instP_err {ws : List WordD} {n : Nat} {a c : Int} (h : instP ws n = .inr (a, c)) : c ≠ 0 :=
  bindP_err h (fun _ _ h => mustP_err h) (fun _ _ _ _ h => bindP_err h (fun _ _ h => numP_err h) (fun _ _ _ _ h => bindP_err h (fun _ _ h => fleetP_err h) (fun _ _ _ _ h => bindP_err h (fun _ _ h => fleetP_err h) (fun _ _ _ _ h =>
    bindP_err h (fun _ _ h => mustP_err h) (fun _ _ _ _ h => bindP_err h (fun _ _ h => numP_err h) (fun _ _ _ _ h => bindP_err h (fun _ _ h => upP_err (fun _ _ _ _ h => satP_err h) _ _ _ h) (fun _ _ _ _ h =>
    bindP_err h (fun _ _ h => mustP_err h) (fun _ _ _ _ h => bindP_err h (fun _ _ h => numP_err h) (fun _ _ _ _ h => bindP_err h (fun _ _ h => upP_err (fun _ _ _ _ h => custP_err h) _ _ _ h) (fun _ _ _ _ h =>
    bindP_err h (fun _ _ h => matP_err h) (fun _ _ _ _ h => bindP_err h (fun _ _ h => matP_err h) (fun _ _ _ _ h => bindP_err h (fun _ _ h => mustP_err h) (fun _ _ _ _ h => by cases h)))))))))))))
theorem ReadOk.is {w : World} {X : InstD} {h : HdD} {B : Nat} {h7 h8 : List Value} (K : ReadOk X) (o5 : w.ownsRow B 62 2 (.slice h.sa X.sats.length h.sc) X.sats.length (X.sats.flatMap satV)) (o6 : w.ownsRow B 66 4 (.slice h.ca X.custs.length h.cc) X.custs.length (X.custs.flatMap custV))
    (o7 : RowsOwn B w (.slice h.oa X.cost.length h.oc) X.cost h7) (o8 : RowsOwn B w (.slice h.ta X.time.length h.tc) X.time h8) : InstIs w X h := by
  have hN : nodesN X ≤ 61 := by have := K.s2; have := K.c2; unfold nodesN; omega
  exact ⟨own_rd' o5, own_rd' o6, o7.rows2 rfl (fun r hr => by rw [K.ro r hr]; omega), o8.rows2 rfl (fun r hr => by rw [K.rt r hr]; omega), by have := K.s2; omega, by have := K.c2; omega, by rw [K.o]; omega, by rw [K.t]; omega⟩
set_option maxHeartbeats 16000000 in
set_option maxRecDepth 100000 in
theorem parse_bad (s : ByteArray) (h2 : s.size ≤ 131072) {k : Nat} (hk : IsBad s k) (w : World) :
    Calls Try.prog 14 #[.string s] w (POut (.inr ((k : Int), 3)) w) := by
  have hmf : ∀ (fn : Fn) (first cap : Array Value) (w : World), (Instr.makeFunc fn first cap).run Try.prog w = .ok (.func fn first cap) w := fun _ _ _ _ => rfl
  have hb0 : Below w.heap.size w ((w.alloc (.cells #[.int .i64 0, .int .i64 0, .int .i64 0, .int .i64 0, .int .i64 0, .slice none 0 0, .slice none 0 0, .slice none 0 0, .slice none 0 0] 29)).alloc (.cells #[.int .i64 0, .int .i64 0, .int .i64 0, .int .i64 0, .int .i64 0, .slice none 0 0, .slice none 0 0, .slice none 0 0, .slice none 0 0] 29)) := ((Below.refl _ _).alloc (Nat.le_refl _) _).alloc (by simp) _
  have b1 : ((w.alloc (.cells #[.int .i64 0, .int .i64 0, .int .i64 0, .int .i64 0, .int .i64 0, .slice none 0 0, .slice none 0 0, .slice none 0 0, .slice none 0 0] 29)).alloc (.cells #[.int .i64 0, .int .i64 0, .int .i64 0, .int .i64 0, .int .i64 0, .slice none 0 0, .slice none 0 0, .slice none 0 0, .slice none 0 0] 29)).heap[w.heap.size]? = some (.cells #[.int .i64 0, .int .i64 0, .int .i64 0, .int .i64 0, .int .i64 0, .slice none 0 0, .slice none 0 0, .slice none 0 0, .slice none 0 0] 29 (0, 0)) := (Below.heap_alloc (w.alloc (.cells #[.int .i64 0, .int .i64 0, .int .i64 0, .int .i64 0, .int .i64 0, .slice none 0 0, .slice none 0 0, .slice none 0 0, .slice none 0 0] 29)) _ w.heap.size (by simp)).trans (heap_alloc_new w _)
  have b2 : ((w.alloc (.cells #[.int .i64 0, .int .i64 0, .int .i64 0, .int .i64 0, .int .i64 0, .slice none 0 0, .slice none 0 0, .slice none 0 0, .slice none 0 0] 29)).alloc (.cells #[.int .i64 0, .int .i64 0, .int .i64 0, .int .i64 0, .int .i64 0, .slice none 0 0, .slice none 0 0, .slice none 0 0, .slice none 0 0] 29)).heap[w.heap.size + 1]? = some (.cells #[.int .i64 0, .int .i64 0, .int .i64 0, .int .i64 0, .int .i64 0, .slice none 0 0, .slice none 0 0, .slice none 0 0, .slice none 0 0] 29 (0, 0)) := by have := heap_alloc_new (w.alloc (.cells #[.int .i64 0, .int .i64 0, .int .i64 0, .int .i64 0, .int .i64 0, .slice none 0 0, .slice none 0 0, .slice none 0 0, .slice none 0 0] 29)) (.cells #[.int .i64 0, .int .i64 0, .int .i64 0, .int .i64 0, .int .i64 0, .slice none 0 0, .slice none 0 0, .slice none 0 0, .slice none 0 0] 29); rwa [show (w.alloc (.cells #[.int .i64 0, .int .i64 0, .int .i64 0, .int .i64 0, .int .i64 0, .slice none 0 0, .slice none 0 0, .slice none 0 0, .slice none 0 0] 29)).heap.size = w.heap.size + 1 by simp] at this
  have hsz2 : ((w.alloc (.cells #[.int .i64 0, .int .i64 0, .int .i64 0, .int .i64 0, .int .i64 0, .slice none 0 0, .slice none 0 0, .slice none 0 0, .slice none 0 0] 29)).alloc (.cells #[.int .i64 0, .int .i64 0, .int .i64 0, .int .i64 0, .int .i64 0, .slice none 0 0, .slice none 0 0, .slice none 0 0, .slice none 0 0] 29)).heap.size = w.heap.size + 2 := by simp
  replace hb0 := Lib.hid hb0
  replace b1 := Lib.hid b1
  replace b2 := Lib.hid b2
  replace hsz2 := Lib.hid hsz2
  have hS : Hid (∀ w' : World, Calls Try.prog 58 #[.string s] w' fun e w2 => e = .returned (.tuple #[.slice none 0 0, .int .i64 (k : Int), .int .i64 3]) ∧ Below w'.heap.size w' w2) := Lib.hid (fun w' => split_bad s w' h2 hk)
  obtain ⟨a, ha⟩ : ∃ a : Int, (k : Int) = a := ⟨_, rfl⟩
  rw [ha] at hS
  rw [ha]
  clear ha hk
  go_enter Try.func14, Try.ntmps14
  go_wp2_with fail
  refine (read_err s _ _ a 3 (Lib.hid (by decide)) hS).mono ?_
  rintro e w3 ⟨rfl, hb⟩
  have BR := Lib.hid ((hb.block _ (by have := hsz2.out; omega)).trans b1.out)
  have HBel := Lib.hid (hb0.out.trans (hb.mono (by have := hsz2.out; omega)))
  clear hb b1 b2 hb0 hsz2
  generalize hg : w.heap.size = g at *
  replace hg := Lib.hid hg
  obtain ⟨c, hcc⟩ : ∃ c : Int, c = 3 := ⟨_, rfl⟩
  subst hcc
  have hc : Hid ((3 : Int) ≠ 0) := Lib.hid (by decide)
  obtain ⟨⟨c0, c1, c2, c3, c4, c5, c6, c7, c8⟩, hfz⟩ := row9 BR.out
  have f0 := hfz 0
  have f1 := hfz 1
  have f2 := hfz 2
  have f3 := hfz 3
  have f4 := hfz 4
  have f5 := hfz 5
  have f6 := hfz 6
  have f7 := hfz 7
  have f8 := hfz 8
  clear hfz
  obtain ⟨e1, e2, _⟩ := ninep_set w3 g 29 (.int .i64 0) (.int .i64 0) (.int .i64 0) (.int .i64 0) (.int .i64 0) (.slice none 0 0) (.slice none 0 0) (.slice none 0 0) (.slice none 0 0) BR.out HBel.out (Nat.le_refl g)
  have e1' := Lib.hid e1
  have e2' := Lib.hid e2
  clear e1 e2
  go_wp2_with fail
  clear c0 c1 c2 c3 c4 c5 c6 c7 c8 f0 f1 f2 f3 f4 f5 f6 f7 f8
  generalize (((((((((w3.setCell ⟨g, 0, none⟩ (.int .i64 0)).setCell ⟨g, 1, none⟩ (.int .i64 0)).setCell ⟨g, 2, none⟩ (.int .i64 0)).setCell ⟨g, 3, none⟩ (.int .i64 0)).setCell ⟨g, 4, none⟩ (.int .i64 0)).setCell ⟨g, 5, none⟩ (.slice none 0 0)).setCell ⟨g, 6, none⟩ (.slice none 0 0)).setCell ⟨g, 7, none⟩ (.slice none 0 0)).setCell ⟨g, 8, none⟩ (.slice none 0 0)) = W9 at *
  obtain ⟨⟨c0, c1, c2, c3, c4, c5, c6, c7, c8⟩, _⟩ := row9 e1'.out
  exact bodyPost_ret (v := .tuple #[.agg #[.int .i64 0, .int .i64 0, .int .i64 0, .int .i64 0, .int .i64 0, .slice none 0 0, .slice none 0 0, .slice none 0 0, .slice none 0 0], .int .i64 a, .int .i64 3]) (by simp [results, Try.results14, go_sem, c0, c1, c2, c3, c4, c5, c6, c7, c8]) rfl ⟨by rw [hg.out]; exact e2'.out, .inr ⟨a, 3, rfl, hc.out, rfl⟩⟩
set_option maxHeartbeats 16000000 in
set_option maxRecDepth 100000 in
theorem parse_fine (s : ByteArray) (h2 : s.size ≤ 131072) (hok : okAll s = true) (w : World) :
    Calls Try.prog 14 #[.string s] w (POut (parseW (wordsL s) s.size) w) := by
  have hmf : ∀ (fn : Fn) (first cap : Array Value) (w : World), (Instr.makeFunc fn first cap).run Try.prog w = .ok (.func fn first cap) w := fun _ _ _ _ => rfl
  have hb0 : Below w.heap.size w ((w.alloc (.cells #[.int .i64 0, .int .i64 0, .int .i64 0, .int .i64 0, .int .i64 0, .slice none 0 0, .slice none 0 0, .slice none 0 0, .slice none 0 0] 29)).alloc (.cells #[.int .i64 0, .int .i64 0, .int .i64 0, .int .i64 0, .int .i64 0, .slice none 0 0, .slice none 0 0, .slice none 0 0, .slice none 0 0] 29)) := ((Below.refl _ _).alloc (Nat.le_refl _) _).alloc (by simp) _
  have b1 : ((w.alloc (.cells #[.int .i64 0, .int .i64 0, .int .i64 0, .int .i64 0, .int .i64 0, .slice none 0 0, .slice none 0 0, .slice none 0 0, .slice none 0 0] 29)).alloc (.cells #[.int .i64 0, .int .i64 0, .int .i64 0, .int .i64 0, .int .i64 0, .slice none 0 0, .slice none 0 0, .slice none 0 0, .slice none 0 0] 29)).heap[w.heap.size]? = some (.cells #[.int .i64 0, .int .i64 0, .int .i64 0, .int .i64 0, .int .i64 0, .slice none 0 0, .slice none 0 0, .slice none 0 0, .slice none 0 0] 29 (0, 0)) := (Below.heap_alloc (w.alloc (.cells #[.int .i64 0, .int .i64 0, .int .i64 0, .int .i64 0, .int .i64 0, .slice none 0 0, .slice none 0 0, .slice none 0 0, .slice none 0 0] 29)) _ w.heap.size (by simp)).trans (heap_alloc_new w _)
  have b2 : ((w.alloc (.cells #[.int .i64 0, .int .i64 0, .int .i64 0, .int .i64 0, .int .i64 0, .slice none 0 0, .slice none 0 0, .slice none 0 0, .slice none 0 0] 29)).alloc (.cells #[.int .i64 0, .int .i64 0, .int .i64 0, .int .i64 0, .int .i64 0, .slice none 0 0, .slice none 0 0, .slice none 0 0, .slice none 0 0] 29)).heap[w.heap.size + 1]? = some (.cells #[.int .i64 0, .int .i64 0, .int .i64 0, .int .i64 0, .int .i64 0, .slice none 0 0, .slice none 0 0, .slice none 0 0, .slice none 0 0] 29 (0, 0)) := by have := heap_alloc_new (w.alloc (.cells #[.int .i64 0, .int .i64 0, .int .i64 0, .int .i64 0, .int .i64 0, .slice none 0 0, .slice none 0 0, .slice none 0 0, .slice none 0 0] 29)) (.cells #[.int .i64 0, .int .i64 0, .int .i64 0, .int .i64 0, .int .i64 0, .slice none 0 0, .slice none 0 0, .slice none 0 0, .slice none 0 0] 29); rwa [show (w.alloc (.cells #[.int .i64 0, .int .i64 0, .int .i64 0, .int .i64 0, .int .i64 0, .slice none 0 0, .slice none 0 0, .slice none 0 0, .slice none 0 0] 29)).heap.size = w.heap.size + 1 by simp] at this
  have hsz2 : ((w.alloc (.cells #[.int .i64 0, .int .i64 0, .int .i64 0, .int .i64 0, .int .i64 0, .slice none 0 0, .slice none 0 0, .slice none 0 0, .slice none 0 0] 29)).alloc (.cells #[.int .i64 0, .int .i64 0, .int .i64 0, .int .i64 0, .int .i64 0, .slice none 0 0, .slice none 0 0, .slice none 0 0, .slice none 0 0] 29)).heap.size = w.heap.size + 2 := by simp
  replace hb0 := Lib.hid hb0
  replace b1 := Lib.hid b1
  replace b2 := Lib.hid b2
  replace hsz2 := Lib.hid hsz2
  have HRd := Lib.hid (fun (bx : Nat) (w : World) (hb : w.heap[bx]? = some (.cells (instC ⟨0, 0, 0, 0, 0, [], [], [], []⟩ ⟨none, 0, none, 0, none, 0, none, 0⟩) 29 (0, 0))) => read_is bx s w h2 hok hb)
  go_enter Try.func14, Try.ntmps14
  go_wp2_with fail
  refine (HRd.out (w.heap.size + 1) _ b2.out).mono ?_
  rintro e w3 ⟨hch, hE⟩
  have BR := Lib.hid ((hch.block w.heap.size (by have := hsz2.out; omega) (by have := hsz2.out; omega)).trans b1.out)
  have HBel := Lib.hid (hb0.out.trans (hch.to_below (B := w.heap.size) (fun k hk => by have := hsz2.out; omega) (by have := hsz2.out; omega)))
  have hsz3 := Lib.hid hch.size
  clear hch HRd b1 b2 hb0
  rcases hE with ⟨i, HO, he⟩ | ⟨a, c, hi, rfl⟩
  rotate_left
  · have HR : Hid (parseW (wordsL s) s.size = .inr (a, c)) := Lib.hid (by unfold parseW; rw [show instP (wordsL s) s.size = .inr (a, c) from hi])
    have hc := Lib.hid (instP_err hi)
    have hne : (c != 0) = true := by rw [bne_iff_ne]; exact hc.out
    have hne2 : ¬ c = 0 := hc.out
    clear hi hsz3 hsz2
    generalize hg : w.heap.size = g at *
    replace hg := Lib.hid hg
    obtain ⟨⟨c0, c1, c2, c3, c4, c5, c6, c7, c8⟩, hfz⟩ := row9 BR.out
    have f0 := hfz 0
    have f1 := hfz 1
    have f2 := hfz 2
    have f3 := hfz 3
    have f4 := hfz 4
    have f5 := hfz 5
    have f6 := hfz 6
    have f7 := hfz 7
    have f8 := hfz 8
    clear hfz
    obtain ⟨e1, e2, _⟩ := ninep_set w3 g 29 (.int .i64 0) (.int .i64 0) (.int .i64 0) (.int .i64 0) (.int .i64 0) (.slice none 0 0) (.slice none 0 0) (.slice none 0 0) (.slice none 0 0) BR.out HBel.out (Nat.le_refl g)
    have e1' := Lib.hid e1
    have e2' := Lib.hid e2
    clear e1 e2
    go_wp2_with fail
    clear c0 c1 c2 c3 c4 c5 c6 c7 c8 f0 f1 f2 f3 f4 f5 f6 f7 f8
    generalize (((((((((w3.setCell ⟨g, 0, none⟩ (.int .i64 0)).setCell ⟨g, 1, none⟩ (.int .i64 0)).setCell ⟨g, 2, none⟩ (.int .i64 0)).setCell ⟨g, 3, none⟩ (.int .i64 0)).setCell ⟨g, 4, none⟩ (.int .i64 0)).setCell ⟨g, 5, none⟩ (.slice none 0 0)).setCell ⟨g, 6, none⟩ (.slice none 0 0)).setCell ⟨g, 7, none⟩ (.slice none 0 0)).setCell ⟨g, 8, none⟩ (.slice none 0 0)) = W9 at *
    obtain ⟨⟨c0, c1, c2, c3, c4, c5, c6, c7, c8⟩, _⟩ := row9 e1'.out
    exact bodyPost_ret (v := .tuple #[.agg #[.int .i64 0, .int .i64 0, .int .i64 0, .int .i64 0, .int .i64 0, .slice none 0 0, .slice none 0 0, .slice none 0 0, .slice none 0 0], .int .i64 a, .int .i64 c]) (by simp [results, Try.results14, go_sem, c0, c1, c2, c3, c4, c5, c6, c7, c8]) rfl ⟨by rw [hg.out]; exact e2'.out, .inr ⟨a, c, HR.out, hc.out, rfl⟩⟩

  · obtain ⟨B, X, h, h7, h8, hB, hi, hbox, o5, o6, o7, o8⟩ := HO
    by_cases hlt : i < (wordsL s).length
    · rw [if_pos hlt, if_pos hlt] at he
      have HR : Hid (parseW (wordsL s) s.size = .inr ((placeN (wordsL s) i s.size : Int), 6)) := Lib.hid (by unfold parseW; rw [hi]; dsimp only; rw [if_pos hlt])
      generalize (placeN (wordsL s) i s.size : Int) = a at *
      subst he
      have hc : Hid ((6 : Int) ≠ 0) := Lib.hid (by decide)
      clear hi hsz3 hsz2 hbox o5 o6 o7 o8 hlt
      generalize hg : w.heap.size = g at *
      replace hg := Lib.hid hg
      obtain ⟨⟨c0, c1, c2, c3, c4, c5, c6, c7, c8⟩, hfz⟩ := row9 BR.out
      have f0 := hfz 0
      have f1 := hfz 1
      have f2 := hfz 2
      have f3 := hfz 3
      have f4 := hfz 4
      have f5 := hfz 5
      have f6 := hfz 6
      have f7 := hfz 7
      have f8 := hfz 8
      clear hfz
      obtain ⟨e1, e2, _⟩ := ninep_set w3 g 29 (.int .i64 0) (.int .i64 0) (.int .i64 0) (.int .i64 0) (.int .i64 0) (.slice none 0 0) (.slice none 0 0) (.slice none 0 0) (.slice none 0 0) BR.out HBel.out (Nat.le_refl g)
      have e1' := Lib.hid e1
      have e2' := Lib.hid e2
      clear e1 e2
      go_wp2_with fail
      clear c0 c1 c2 c3 c4 c5 c6 c7 c8 f0 f1 f2 f3 f4 f5 f6 f7 f8
      generalize (((((((((w3.setCell ⟨g, 0, none⟩ (.int .i64 0)).setCell ⟨g, 1, none⟩ (.int .i64 0)).setCell ⟨g, 2, none⟩ (.int .i64 0)).setCell ⟨g, 3, none⟩ (.int .i64 0)).setCell ⟨g, 4, none⟩ (.int .i64 0)).setCell ⟨g, 5, none⟩ (.slice none 0 0)).setCell ⟨g, 6, none⟩ (.slice none 0 0)).setCell ⟨g, 7, none⟩ (.slice none 0 0)).setCell ⟨g, 8, none⟩ (.slice none 0 0)) = W9 at *
      obtain ⟨⟨c0, c1, c2, c3, c4, c5, c6, c7, c8⟩, _⟩ := row9 e1'.out
      exact bodyPost_ret (v := .tuple #[.agg #[.int .i64 0, .int .i64 0, .int .i64 0, .int .i64 0, .int .i64 0, .slice none 0 0, .slice none 0 0, .slice none 0 0, .slice none 0 0], .int .i64 a, .int .i64 6]) (by simp [results, Try.results14, go_sem, c0, c1, c2, c3, c4, c5, c6, c7, c8]) rfl ⟨by rw [hg.out]; exact e2'.out, .inr ⟨a, 6, HR.out, hc.out, rfl⟩⟩

    · rw [if_neg hlt, if_neg hlt] at he
      have HR : Hid (parseW (wordsL s) s.size = .inl X) := Lib.hid (by unfold parseW; rw [hi]; dsimp only; rw [if_neg hlt])
      subst he
      have HK := instP_ok hi
      have hbx := Lib.hid (inst_row hbox)
      have HI := Lib.hid (fun (w' : World) (hw : ∀ k, k ≠ w.heap.size → w'.heap[k]? = w3.heap[k]?) => HK.is (h := h) (B := B)
        (own_heap o5 (fun k hk => hw k (by have := hsz2.out; omega))) (own_heap o6 (fun k hk => hw k (by have := hsz2.out; omega))) (o7.heap (fun k hk => hw k (by have := hsz2.out; omega))) (o8.heap (fun k hk => hw k (by have := hsz2.out; omega))))
      replace HK := Lib.hid HK
      obtain ⟨k1, c1, k2, c2, k3, c3, k4, c4⟩ := h
      clear hi hsz3 hsz2 hbox o5 o6 o7 o8 hlt
      generalize hg : w.heap.size = g at *
      replace hg := Lib.hid hg
      obtain ⟨⟨q0, q1, q2, q3, q4, q5, q6, q7, q8⟩, _⟩ := row9 hbx.out
      obtain ⟨⟨p0, p1, p2, p3, p4, p5, p6, p7, p8⟩, hfz⟩ := row9 BR.out
      have f0 := hfz 0
      have f1 := hfz 1
      have f2 := hfz 2
      have f3 := hfz 3
      have f4 := hfz 4
      have f5 := hfz 5
      have f6 := hfz 6
      have f7 := hfz 7
      have f8 := hfz 8
      clear hfz
      obtain ⟨e1, e2, e3⟩ := ninep_set w3 g 29 (.int .i64 X.fin) (.int .i64 X.tm) (.int .i64 X.tr) (.int .i64 X.bm) (.int .i64 X.br) (.slice k1 X.sats.length c1) (.slice k2 X.custs.length c2) (.slice k3 X.cost.length c3) (.slice k4 X.time.length c4) BR.out HBel.out (Nat.le_refl g)
      have e1' := Lib.hid e1
      have e2' := Lib.hid e2
      have e3' := Lib.hid (HI.out _ e3)
      clear e1 e2 e3 HI
      go_wp2_with fail
      clear p0 p1 p2 p3 p4 p5 p6 p7 p8 f0 f1 f2 f3 f4 f5 f6 f7 f8 q0 q1 q2 q3 q4 q5 q6 q7 q8
      generalize (((((((((w3.setCell ⟨g, 0, none⟩ (.int .i64 X.fin)).setCell ⟨g, 1, none⟩ (.int .i64 X.tm)).setCell ⟨g, 2, none⟩ (.int .i64 X.tr)).setCell ⟨g, 3, none⟩ (.int .i64 X.bm)).setCell ⟨g, 4, none⟩ (.int .i64 X.br)).setCell ⟨g, 5, none⟩ (.slice k1 X.sats.length c1)).setCell ⟨g, 6, none⟩ (.slice k2 X.custs.length c2)).setCell ⟨g, 7, none⟩ (.slice k3 X.cost.length c3)).setCell ⟨g, 8, none⟩ (.slice k4 X.time.length c4)) = W9 at *
      obtain ⟨⟨p0, p1, p2, p3, p4, p5, p6, p7, p8⟩, _⟩ := row9 e1'.out
      exact bodyPost_ret (v := .tuple #[.agg #[.int .i64 X.fin, .int .i64 X.tm, .int .i64 X.tr, .int .i64 X.bm, .int .i64 X.br, .slice k1 X.sats.length c1, .slice k2 X.custs.length c2, .slice k3 X.cost.length c3, .slice k4 X.time.length c4], .int .i64 0, .int .i64 0]) (by simp [results, Try.results14, go_sem, p0, p1, p2, p3, p4, p5, p6, p7, p8]) rfl ⟨by rw [hg.out]; exact e2'.out, .inl ⟨X, ⟨k1, c1, k2, c2, k3, c3, k4, c4⟩, HR.out, HK.out, rfl, e3'.out⟩⟩
end Go.Proofs.Ytljcpgeggbbmfaa
namespace Go.Proofs.Ytljcpgeggbbmfaa
set_option linter.unusedVariables false
set_option linter.unusedSimpArgs false
open Go.RowKit
def s12 : ByteArray := ⟨#[119, 104, 97, 114, 102, 97, 103, 101, 32, 53, 32, 116, 114, 117, 99, 107, 115, 32, 48, 32, 57]⟩
theorem ok_s12 : okAll s12 = true := by kernel_rfl
def ws12 : List WordD := [⟨⟨#[119, 104, 97, 114, 102, 97, 103, 101]⟩, 0⟩, ⟨⟨#[53]⟩, 9⟩, ⟨⟨#[116, 114, 117, 99, 107, 115]⟩, 11⟩, ⟨⟨#[48]⟩, 18⟩, ⟨⟨#[57]⟩, 20⟩]
theorem words_s12 : wordsL s12 = ws12 := by kernel_rfl
theorem must_s12 : mustP ws12 21 sWharfage 0 = .inl ((), 1) := by kernel_rfl
theorem num_s12 : numP ws12 21 0 1000000000 1 = .inl (5, 2) := by kernel_rfl
theorem must2_s12 : mustP ws12 21 sTrucks 2 = .inl ((), 3) := by kernel_rfl
theorem num2_s12 : numP ws12 21 1 60 3 = .inr (18, 2) := by kernel_rfl
theorem parse_s12 : parseW (wordsL s12) s12.size = .inr (18, 2) := by
  have h : instP ws12 21 = .inr (18, 2) := by
    unfold instP
    rw [must_s12, bindP_inl, num_s12, bindP_inl]
    unfold fleetP
    rw [must2_s12, bindP_inl, num2_s12]; rfl
  rw [words_s12, show s12.size = 21 from rfl]
  unfold parseW
  rw [h]
theorem ReadOk.code {X : InstD} (K : ReadOk X) : codeI X = 0 := by
  have cB : countB X = true := by
    unfold countB manyB
    simp only [Bool.and_eq_true, decide_eq_true_eq]
    have := K.s1; have := K.s2; have := K.c1; have := K.c2; have := K.tm; have := K.bm
    omega
  have sq : ∀ ls : List (List Int), ls.length = nodesN X → (∀ r ∈ ls, r.length = nodesN X) → sqB ls (nodesN X) = true := fun ls h1 h2 => by
    unfold sqB
    rw [Bool.and_eq_true, List.all_eq_true]
    exact ⟨by simp [h1], fun r hr => by simp [h2 r hr]⟩
  have row : ∀ ls : List (List Int), (∀ (i : Nat) (r : List Int), ls[i]? = some r → ∀ (k : Nat) (v : Int), r[k]? = some v → 0 ≤ v ∧ v ≤ 1000000000 ∧ (i = k → v = 0)) → allAt rowB ls = true := fun ls h =>
    allAt_of _ _ fun i r hr => allAt_of _ _ fun k v hv => by
      obtain ⟨a, b, c⟩ := h i r hr k v hv
      unfold cellB
      rw [mayB_of a b, Bool.true_and]
      by_cases e : i = k
      · rw [c e]; simp
      · have : (i == k) = false := by rw [beq_eq_false_iff_ne]; exact e
        rw [this]; rfl
  have nB : numsB X = true := by
    unfold numsB
    have e4 : allAt satB X.sats = true := allAt_of _ _ fun k x hx => by
      obtain ⟨⟨a, b⟩, c, d⟩ := K.sat x (List.mem_of_getElem? hx)
      unfold satB; rw [mayB_of a b, mayB_of c d]; rfl
    have e5 : allAt custB X.custs = true := allAt_of _ _ fun k x hx => by
      obtain ⟨⟨a, b⟩, ⟨c, d⟩, ⟨e, f⟩, g, h⟩ := K.cust x (List.mem_of_getElem? hx)
      unfold custB; rw [mayB_of a b, mayB_of c d, mayB_of e f, mayB_of g h]; rfl
    rw [mayB_of K.fin.1 K.fin.2, mayB_of K.tr.1 K.tr.2, mayB_of K.br.1 K.br.2, e4, e5, row _ K.co, row _ K.ti]; rfl
  unfold codeI
  rw [cB, sq _ K.o K.ro, sq _ K.t K.rt, nB]; rfl
theorem code_read (X : InstD) (h : HdD) (w : World) (H : InstIs w X h) (K : ReadOk X) :
    Calls Try.prog 15 #[.agg (instC X h)] w fun e w' => e = .returned (.int .i64 0) ∧ Below w.heap.size w w' :=
  (code_any X h w H (by have := K.s2; omega) (by have := K.c2; omega)).mono fun e w' ⟨he, hb⟩ => ⟨by rw [he, K.code], hb⟩
set_option maxHeartbeats 8000000 in
set_option maxRecDepth 100000 in
theorem awake12_any (w : World) : Calls Try.prog 13 #[] w fun e w' => e = .returned (.bool true) ∧ Below w.heap.size w w' := by
  have HP := Lib.hid (fun w => parse_fine s12 (by decide) ok_s12 w)
  go_enter Try.func13, Try.ntmps13
  go_wp2_with fail
  refine (HP.out _).mono ?_
  rintro e w1 ⟨hb, ⟨X, h, hr, _⟩ | ⟨a, c, hr, _, rfl⟩⟩
  · rw [parse_s12] at hr; cases hr
  rw [parse_s12] at hr
  injection hr with hr
  injection hr with h1 h2
  subst h1
  subst h2
  have hb3 := Lib.hid (hb.alloc hb.size (.cells #[.int .i64 0, .int .i64 0, .int .i64 0, .int .i64 0, .int .i64 0, .slice none 0 0, .slice none 0 0, .slice none 0 0, .slice none 0 0] 29))
  clear hb HP
  go_wp2_with fail
  refine (awake_any _).mono ?_
  rintro e w2 ⟨rfl, hb4⟩
  have hb5 := Lib.hid (hb3.out.trans (hb4.mono hb3.out.size))
  clear hb4
  go_wp2_with fail
  go_ret
  exact ⟨rfl, hb5.out⟩
set_option maxHeartbeats 16000000 in
set_option maxRecDepth 100000 in
theorem walk_ParseMay (w : World) (s : ByteArray) (hs : s.size ≤ 9223372036854775807) :
    Calls Try.prog 3 #[.string s] w fun e w' => e = .returned (.bool true) ∧ Below w.heap.size w w' := by
  by_cases hl : 3000 < s.size
  · have hl2 : (3000 : Int) < (s.size : Int) := by omega
    go_enter Try.func3, Try.ntmps3
    go_wp2_with fail
    refine (awake12_any _).mono ?_
    rintro e w1 ⟨rfl, hb⟩
    go_wp2_with fail
    go_ret
    exact ⟨rfl, hb⟩
  have hl2 : ¬ (3000 : Int) < (s.size : Int) := by omega
  have HP : ∃ r : InstD ⊕ (Int × Int), Hid (∀ w, Calls Try.prog 14 #[.string s] w (POut r w)) := by
    rcases bad_or s with hok | ⟨k, hk⟩
    · exact ⟨_, Lib.hid (fun w => parse_fine s (by omega) hok w)⟩
    · exact ⟨_, Lib.hid (fun w => parse_bad s (by omega) hk w)⟩
  obtain ⟨r, HP⟩ := HP
  go_enter Try.func3, Try.ntmps3
  go_wp2_with fail
  refine (awake12_any _).mono ?_
  rintro e w1 ⟨rfl, hb⟩
  replace hb := Lib.hid hb
  go_wp2_with fail
  refine (HP.out _).mono ?_
  rintro e w2 ⟨hb2, ⟨X, h, hr, K, rfl, HI⟩ | ⟨a, c, hr, hc, rfl⟩⟩
  · clear hr HP
    obtain ⟨k1, q1, k2, q2, k3, q3, k4, q4⟩ := h
    have hn := heap_alloc_new w2 (.cells #[.int .i64 X.fin, .int .i64 X.tm, .int .i64 X.tr, .int .i64 X.bm, .int .i64 X.br, .slice k1 X.sats.length q1, .slice k2 X.custs.length q2, .slice k3 X.cost.length q3, .slice k4 X.time.length q4] 29)
    have hb3 : Below w2.heap.size w2 (w2.alloc (.cells #[.int .i64 X.fin, .int .i64 X.tm, .int .i64 X.tr, .int .i64 X.bm, .int .i64 X.br, .slice k1 X.sats.length q1, .slice k2 X.custs.length q2, .slice k3 X.cost.length q3, .slice k4 X.time.length q4] 29)) := (Below.refl _ _).alloc (Nat.le_refl _) _
    have hb4 := Lib.hid ((hb.out.trans (hb2.mono hb.out.size)).trans (hb3.mono (Nat.le_trans hb.out.size hb2.size)))
    have HI3 := Lib.hid (HI.below hb3)
    have hn2 := Lib.hid hn
    replace K := Lib.hid K
    clear hb hb2 HI hn hb3
    go_upto_region 6 with fail
    generalize w2.alloc (.cells #[.int .i64 X.fin, .int .i64 X.tm, .int .i64 X.tr, .int .i64 X.bm, .int .i64 X.br, .slice k1 X.sats.length q1, .slice k2 X.custs.length q2, .slice k3 X.cost.length q3, .slice k4 X.time.length q4] 29) = W3 at *
    obtain ⟨⟨c0, c1, c2, c3, c4, c5, c6, c7, c8⟩, _⟩ := row9 hn2.out
    go_wp2_with fail
    refine (code_read X ⟨k1, q1, k2, q2, k3, q3, k4, q4⟩ _ HI3.out K.out).mono ?_
    rintro e w5 ⟨rfl, hb5⟩
    have hb6 := Lib.hid (hb4.out.trans (hb5.mono hb4.out.size))
    clear hb5
    go_wp2_with fail
    go_ret
    exact ⟨rfl, hb6.out⟩
  · clear hr HP
    have hne : (c != 0) = true := by rw [bne_iff_ne]; exact hc
    have hne2 : ¬ c = 0 := hc
    have hb4 := Lib.hid ((hb.out.trans (hb2.mono hb.out.size)).alloc (Nat.le_trans hb.out.size hb2.size) (.cells #[.int .i64 0, .int .i64 0, .int .i64 0, .int .i64 0, .int .i64 0, .slice none 0 0, .slice none 0 0, .slice none 0 0, .slice none 0 0] 29))
    clear hb hb2
    go_wp2_with fail
    go_ret
    exact ⟨rfl, hb4.out⟩
theorem law_ParseMay (w : World) (s : ByteArray) (hs : s.size ≤ maxLen) : Calls Try.prog 3 #[.string s] w fun e w' => e = .returned (.bool true) ∧ Below w.heap.size w w' :=
  walk_ParseMay w s hs
end Go.Proofs.Ytljcpgeggbbmfaa
