/-
  An instance's box while it is read: what is kept, what each store makes of it (layer 12).
-/
import Derived.Test.YtljcpgeggbbmfaaPars2
import Derived.Test.YtljcpgeggbbmfaaRead3
namespace Go.Proofs.Ytljcpgeggbbmfaa
set_option linter.unusedVariables false
set_option linter.unusedSimpArgs false
open Go.RowKit
structure PB (w1 : World) (p bx : Nat) (A : Option Addr) (C : Nat) (ws : List WordD) (n i : Nat) (X : InstD) (h : HdD) (h7 h8 : List Value) (wr : World) : Prop where
  R : RdrIs wr p A C ws i n
  box : wr.heap[bx]? = some (.cells (instC X h) 29 (0, 0))
  chg : Chg (fun k => k = p ∨ k = bx) w1 wr
  o5 : wr.ownsRow w1.heap.size 62 2 (.slice h.sa X.sats.length h.sc) X.sats.length (X.sats.flatMap satV)
  o6 : wr.ownsRow w1.heap.size 66 4 (.slice h.ca X.custs.length h.cc) X.custs.length (X.custs.flatMap custV)
  o7 : RowsOwn w1.heap.size wr (.slice h.oa X.cost.length h.oc) X.cost h7
  o8 : RowsOwn w1.heap.size wr (.slice h.ta X.time.length h.tc) X.time h8
theorem inst_no_string (X : InstD) (h : HdD) (k : Nat) (t : ByteArray) : (instC X h)[k]? ≠ some (.string t) := by
  intro e
  match k, e with
  | 0, e => simp at e
  | 1, e => simp at e
  | 2, e => simp at e
  | 3, e => simp at e
  | 4, e => simp at e
  | 5, e => simp at e
  | 6, e => simp at e
  | 7, e => simp at e
  | 8, e => simp at e
  | k + 9, e => simp at e
/-- a store into the instance's box leaves the reader. -/
theorem RdrIs.boxed {w : World} {p : Nat} {A : Option Addr} {C : Nat} {ws : List WordD} {i n bx : Nat} {X : InstD} {hd : HdD} {T : TypeId} (h : RdrIs w p A C ws i n) (hB : w.heap[bx]? = some (.cells (instC X hd) T (0, 0))) (hne : bx ≠ p) (j : Nat) (u : Value) :
    RdrIs (w.setCell ⟨bx, j, none⟩ u) p A C ws i n := by
  refine ⟨(heap_setCell_other w ⟨bx, j, none⟩ p u (fun e => hne e.symm)).trans h.blk, fun hn => ?_, h.lt, h.hi, h.le⟩
  obtain ⟨b, off, e, hc⟩ := h.rd hn
  have hb : b ≠ bx := fun e2 => by
    subst e2
    cases ws with
    | nil => exact hn rfl
    | cons x ws =>
      have h0 := hc 0 (.string x.text) rfl
      rw [cell_of_row w b _ _ _ _ hB] at h0
      exact inst_no_string X hd _ _ h0
  exact ⟨b, off, e, fun q u' hu => (World.cell?_of_block (heap_setCell_other w ⟨bx, j, none⟩ b u hb)).trans (hc q u' hu)⟩
section
variable {w1 wr w' : World} {p bx : Nat} {A : Option Addr} {C : Nat} {ws : List WordD} {n i : Nat} {X : InstD} {h : HdD} {h7 h8 : List Value}
theorem Chg.grownAny {may : Nat → Prop} {w w2 w3 : World} (h : Chg may w w2) {r : Option Nat} (hg : w2.grownBy w3 r) (hr : ∀ g, r = some g → may g ∨ w.heap.size ≤ g) : Chg may w w3 :=
  ⟨hg.os.trans h.os, hg.tape.trans h.tape, hg.output.trans h.output, Nat.le_trans h.size hg.size, fun k hk hn => (hg.block k (Nat.lt_of_lt_of_le hk h.size) (fun e => by
    rcases hr k (by first | exact e | exact e.symm) with h1 | h1
    · exact hn h1
    · omega)).trans (h.block k hk hn)⟩
theorem PB.moved (H : PB w1 p bx A C ws n i X h h7 h8 wr) {j : Nat} (hR : RdrIs w' p A C ws j n) (hg : wr.grownBy w' (some p)) (hne : bx ≠ p) (hp : p < w1.heap.size) : PB w1 p bx A C ws n j X h h7 h8 w' :=
  ⟨hR, (hg.block bx (heap_lt H.box) (fun e => hne (by injection e))).trans H.box, H.chg.grownAny hg (fun g e => .inl (.inl (by injection e with e; exact e.symm))), own_grownG H.o5 hg hp, own_grownG H.o6 hg hp, H.o7.grownG hg hp, H.o8.grownG hg hp⟩
theorem PB.below (H : PB w1 p bx A C ws n i X h h7 h8 wr) (hb : Below wr.heap.size wr w') : PB w1 p bx A C ws n i X h h7 h8 w' :=
  ⟨H.R.below hb, (hb.block bx (heap_lt H.box)).trans H.box, H.chg.trans (Chg.below hb), own_below H.o5 hb, own_below H.o6 hb, H.o7.below hb, H.o8.below hb⟩
/-- a store into the box: what lies elsewhere is kept. -/
theorem PB.put (H : PB w1 p bx A C ws n i X h h7 h8 wr) (hne : bx ≠ p) (hbx : bx < w1.heap.size) (j : Nat) (u : Value) {X' : InstD} {h' : HdD} (hc : (instC X h).setIfInBounds j u = instC X' h')
    (k5 : (wr.setCell ⟨bx, j, none⟩ u).ownsRow w1.heap.size 62 2 (.slice h'.sa X'.sats.length h'.sc) X'.sats.length (X'.sats.flatMap satV))
    (k6 : (wr.setCell ⟨bx, j, none⟩ u).ownsRow w1.heap.size 66 4 (.slice h'.ca X'.custs.length h'.cc) X'.custs.length (X'.custs.flatMap custV))
    {g7 g8 : List Value} (k7 : RowsOwn w1.heap.size (wr.setCell ⟨bx, j, none⟩ u) (.slice h'.oa X'.cost.length h'.oc) X'.cost g7) (k8 : RowsOwn w1.heap.size (wr.setCell ⟨bx, j, none⟩ u) (.slice h'.ta X'.time.length h'.tc) X'.time g8) : PB w1 p bx A C ws n i X' h' g7 g8 (wr.setCell ⟨bx, j, none⟩ u) :=
  ⟨H.R.boxed H.box hne j u, by rw [heap_set wr bx j _ _ u H.box, hc], H.chg.grownAny (grown_set wr ⟨bx, j, none⟩ u) (fun g e => .inl (.inr (by injection e with e; exact e.symm))), k5, k6, k7, k8⟩
theorem PB.fin (H : PB w1 p bx A C ws n i X h h7 h8 wr) (hne : bx ≠ p) (hbx : bx < w1.heap.size) (v : Int) : PB w1 p bx A C ws n i { X with fin := v } h h7 h8 (wr.setCell ⟨bx, 0, none⟩ (.int .i64 v)) :=
  H.put hne hbx 0 (.int .i64 v) (X' := { X with fin := v }) (h' := h) rfl (own_set H.o5 hbx _ _) (own_set H.o6 hbx _ _) (H.o7.set hbx _ _) (H.o8.set hbx _ _)
theorem PB.trucks (H : PB w1 p bx A C ws n i X h h7 h8 wr) (hne : bx ≠ p) (hbx : bx < w1.heap.size) (u v : Int) : PB w1 p bx A C ws n i { X with tm := u, tr := v } h h7 h8 ((wr.setCell ⟨bx, 1, none⟩ (.int .i64 u)).setCell ⟨bx, 2, none⟩ (.int .i64 v)) := by
  have H2 : PB w1 p bx A C ws n i { X with tm := u } h h7 h8 (wr.setCell ⟨bx, 1, none⟩ (.int .i64 u)) := H.put hne hbx 1 (.int .i64 u) (X' := { X with tm := u }) (h' := h) rfl (own_set H.o5 hbx _ _) (own_set H.o6 hbx _ _) (H.o7.set hbx _ _) (H.o8.set hbx _ _)
  exact H2.put hne hbx 2 (.int .i64 v) (X' := { X with tm := u, tr := v }) (h' := h) rfl (own_set H2.o5 hbx _ _) (own_set H2.o6 hbx _ _) (H2.o7.set hbx _ _) (H2.o8.set hbx _ _)
theorem PB.bikes (H : PB w1 p bx A C ws n i X h h7 h8 wr) (hne : bx ≠ p) (hbx : bx < w1.heap.size) (u v : Int) : PB w1 p bx A C ws n i { X with bm := u, br := v } h h7 h8 ((wr.setCell ⟨bx, 3, none⟩ (.int .i64 u)).setCell ⟨bx, 4, none⟩ (.int .i64 v)) := by
  have H2 : PB w1 p bx A C ws n i { X with bm := u } h h7 h8 (wr.setCell ⟨bx, 3, none⟩ (.int .i64 u)) := H.put hne hbx 3 (.int .i64 u) (X' := { X with bm := u }) (h' := h) rfl (own_set H.o5 hbx _ _) (own_set H.o6 hbx _ _) (H.o7.set hbx _ _) (H.o8.set hbx _ _)
  exact H2.put hne hbx 4 (.int .i64 v) (X' := { X with bm := u, br := v }) (h' := h) rfl (own_set H2.o5 hbx _ _) (own_set H2.o6 hbx _ _) (H2.o7.set hbx _ _) (H2.o8.set hbx _ _)
theorem PB.cost (H : PB w1 p bx A C ws n i X h h7 h8 wr) (hne : bx ≠ p) (hbx : bx < w1.heap.size) {ls : List (List Int)} {A' : Option Addr} {C' : Nat} {g7 : List Value} (ho : RowsOwn w1.heap.size wr (.slice A' ls.length C') ls g7) : PB w1 p bx A C ws n i { X with cost := ls } { h with oa := A', oc := C' } g7 h8 (wr.setCell ⟨bx, 7, none⟩ (.slice A' ls.length C')) :=
  H.put hne hbx 7 (.slice A' ls.length C') (X' := { X with cost := ls }) (h' := { h with oa := A', oc := C' }) rfl (own_set H.o5 hbx _ _) (own_set H.o6 hbx _ _) (ho.set hbx _ _) (H.o8.set hbx _ _)
theorem PB.time (H : PB w1 p bx A C ws n i X h h7 h8 wr) (hne : bx ≠ p) (hbx : bx < w1.heap.size) {ls : List (List Int)} {A' : Option Addr} {C' : Nat} {g8 : List Value} (ho : RowsOwn w1.heap.size wr (.slice A' ls.length C') ls g8) : PB w1 p bx A C ws n i { X with time := ls } { h with ta := A', tc := C' } h7 g8 (wr.setCell ⟨bx, 8, none⟩ (.slice A' ls.length C')) :=
  H.put hne hbx 8 (.slice A' ls.length C') (X' := { X with time := ls }) (h' := { h with ta := A', tc := C' }) rfl (own_set H.o5 hbx _ _) (own_set H.o6 hbx _ _) (H.o7.set hbx _ _) (ho.set hbx _ _)
theorem RowsOwn.typed {B : Nat} {w w2 : World} {v : Value} {ls : List (List Int)} {hs : List Value} (h : RowsOwn B w v ls hs) {v2 : Value} {B2 e2 s2 n2 : Nat} {xs2 : List Value} (ho : w.ownsRow B2 e2 s2 v2 n2 xs2) (h1 : 53 ≠ e2) (h2 : 2 ≠ e2) (hg : w.grownBy w2 v2.ownBlock) : RowsOwn B w2 v ls hs :=
  ⟨h.len, h.own.kept hg (own_types h.own ho h1), fun i r hi => by
    obtain ⟨A, C, h3, h4⟩ := h.rows i r hi
    exact ⟨A, C, h3, h4.kept hg (own_types h4 ho h2)⟩⟩
/-- one satellite more. -/
theorem PB.sat (H : PB w1 p bx A C ws n i X h h7 h8 wr) (hne : bx ≠ p) (hbx : bx < w1.heap.size) (hp : p < w1.heap.size) (x : SatD) (o : Obj) {w2 : World} {A' : Option Addr} {C' : Nat}
    (hown : w2.ownsRow w1.heap.size 62 2 (.slice A' (X.sats.length + 1) C') (X.sats.length + 1) (X.sats.flatMap satV ++ satV x)) (hg : (wr.alloc o).grownBy w2 (Value.slice h.sa X.sats.length h.sc).ownBlock) :
    w2.cell? ⟨bx, 5, none⟩ = some (.slice h.sa X.sats.length h.sc) ∧ w2.frozen? ⟨bx, 5, none⟩ = false ∧ PB w1 p bx A C ws n i { X with sats := X.sats ++ [x] } { h with sa := A', sc := C' } h7 h8 (w2.setCell ⟨bx, 5, none⟩ (.slice A' (X.sats.length + 1) C')) := by
  have Ha := H.below ((Below.refl _ _).alloc (Nat.le_refl _) o)
  have hap : ∀ g, (Value.slice h.sa X.sats.length h.sc).ownBlock = some g → w1.heap.size ≤ g := fun g hg => (own_lt H.o5 hg).1
  have hB2 : w2.heap[bx]? = some (.cells (instC X h) 29 (0, 0)) := (hg.block bx (heap_lt Ha.box) (fun e => by have := hap bx (by first | exact e | exact e.symm); omega)).trans Ha.box
  have hl : (X.sats ++ [x]).length = X.sats.length + 1 := by simp
  have H2 : PB w1 p bx A C ws n i X h h7 h8 w2 → True := fun _ => trivial
  have k6 := Ha.o6.kept hg (own_types Ha.o6 Ha.o5 (by decide))
  have k7 := Ha.o7.typed Ha.o5 (by decide) (by decide) hg
  have k8 := Ha.o8.typed Ha.o5 (by decide) (by decide) hg
  have kR := rdr_any Ha.R hg (fun g e => by have := hap g e; omega)
  refine ⟨cell_of_row w2 bx 5 _ _ _ hB2, frozen_of_row w2 bx 5 _ _ hB2, kR.boxed hB2 hne 5 _, ?_, (Ha.chg.grownAny hg (fun g e => .inr (hap g e))).grownAny (grown_set w2 ⟨bx, 5, none⟩ _) (fun g e => .inl (.inr (by injection e with e; exact e.symm))), ?_, own_set k6 hbx _ _, k7.set hbx _ _, k8.set hbx _ _⟩
  · rw [heap_set w2 bx 5 _ _ _ hB2]
    unfold instC
    rw [hl]; rfl
  · rw [show ({ X with sats := X.sats ++ [x] } : InstD).sats = X.sats ++ [x] from rfl, hl, List.flatMap_append]
    have := own_set hown hbx 5 (.slice A' (X.sats.length + 1) C')
    simpa using this
/-- one customer more. -/
theorem PB.cust (H : PB w1 p bx A C ws n i X h h7 h8 wr) (hne : bx ≠ p) (hbx : bx < w1.heap.size) (hp : p < w1.heap.size) (x : CustD) (o : Obj) {w2 : World} {A' : Option Addr} {C' : Nat}
    (hown : w2.ownsRow w1.heap.size 66 4 (.slice A' (X.custs.length + 1) C') (X.custs.length + 1) (X.custs.flatMap custV ++ custV x)) (hg : (wr.alloc o).grownBy w2 (Value.slice h.ca X.custs.length h.cc).ownBlock) :
    w2.cell? ⟨bx, 6, none⟩ = some (.slice h.ca X.custs.length h.cc) ∧ w2.frozen? ⟨bx, 6, none⟩ = false ∧ PB w1 p bx A C ws n i { X with custs := X.custs ++ [x] } { h with ca := A', cc := C' } h7 h8 (w2.setCell ⟨bx, 6, none⟩ (.slice A' (X.custs.length + 1) C')) := by
  have Ha := H.below ((Below.refl _ _).alloc (Nat.le_refl _) o)
  have hap : ∀ g, (Value.slice h.ca X.custs.length h.cc).ownBlock = some g → w1.heap.size ≤ g := fun g hg => (own_lt H.o6 hg).1
  have hB2 : w2.heap[bx]? = some (.cells (instC X h) 29 (0, 0)) := (hg.block bx (heap_lt Ha.box) (fun e => by have := hap bx (by first | exact e | exact e.symm); omega)).trans Ha.box
  have hl : (X.custs ++ [x]).length = X.custs.length + 1 := by simp
  have k5 := Ha.o5.kept hg (own_types Ha.o5 Ha.o6 (by decide))
  have k7 := Ha.o7.typed Ha.o6 (by decide) (by decide) hg
  have k8 := Ha.o8.typed Ha.o6 (by decide) (by decide) hg
  have kR := rdr_any Ha.R hg (fun g e => by have := hap g e; omega)
  refine ⟨cell_of_row w2 bx 6 _ _ _ hB2, frozen_of_row w2 bx 6 _ _ hB2, kR.boxed hB2 hne 6 _, ?_, (Ha.chg.grownAny hg (fun g e => .inr (hap g e))).grownAny (grown_set w2 ⟨bx, 6, none⟩ _) (fun g e => .inl (.inr (by injection e with e; exact e.symm))), own_set k5 hbx _ _, ?_, k7.set hbx _ _, k8.set hbx _ _⟩
  · rw [heap_set w2 bx 6 _ _ _ hB2]
    unfold instC
    rw [hl]; rfl
  · rw [show ({ X with custs := X.custs ++ [x] } : InstD).custs = X.custs ++ [x] from rfl, hl, List.flatMap_append]
    have := own_set hown hbx 6 (.slice A' (X.custs.length + 1) C')
    simpa using this
theorem PB.drew (H : PB w1 p bx A C ws n i X h h7 h8 wr) : PB w1 p bx A C ws n i X h h7 h8 wr.drew := H.below (Below.refl _ _).drew
theorem PB.cells (H : PB w1 p bx A C ws n i X h h7 h8 wr) (j : Nat) (u : Value) (hu : (instC X h)[j]? = some u) : wr.cell? ⟨bx, j, none⟩ = some u ∧ wr.frozen? ⟨bx, j, none⟩ = false :=
  ⟨(cell_of_row wr bx j _ _ _ H.box).trans hu, frozen_of_row wr bx j _ _ H.box⟩
end
/-- what Parse's closure leaves. -/
def PDoEnd (w1 : World) (p bx : Nat) (A : Option Addr) (C : Nat) (ws : List WordD) (n : Nat) (e : Ending) (w2 : World) : Prop :=
  (∃ i X h h7 h8, e = .returned (.tuple #[]) ∧ instP ws n = .inl (X, i) ∧ PB w1 p bx A C ws n i X h h7 h8 w2) ∨ (∃ a c, e = PanEnd a c ∧ instP ws n = .inr (a, c) ∧ Chg (fun k => k = p ∨ k = bx) w1 w2)
theorem upP_goK {α β : Type} {f : Nat → Nat → PR α} {m k i : Nat} {x : α} {j : Nat} (hx : f k i = .inl (x, j)) (done : List α) (G : List α → Nat → PR β) :
    bindP (upP f (m + 1) k i) (fun xs j => G (done ++ xs) j) = bindP (upP f m (k + 1) j) (fun xs j => G ((done ++ [x]) ++ xs) j) := by
  show bindP (bindP (f k i) fun x i => bindP (upP f m (k + 1) i) fun xs i => .inl (x :: xs, i)) _ = _
  rw [hx, bindP_inl]
  cases upP f m (k + 1) j with
  | inl a => obtain ⟨xs, q⟩ := a; show G (done ++ x :: xs) q = G ((done ++ [x]) ++ xs) q; simp
  | inr e => rfl
theorem upP_endK {α β : Type} {f : Nat → Nat → PR α} {k i : Nat} (done : List α) (G : List α → Nat → PR β) : bindP (upP f 0 k i) (fun xs j => G (done ++ xs) j) = G done i := by
  show G (done ++ []) i = _; rw [List.append_nil]
end Go.Proofs.Ytljcpgeggbbmfaa
