/-
  What lies in memory behind slices, nil or not: cells; rows of rows. An instance, as the walks read it.
-/
import Derived.Test.YtljcpgeggbbmfaaMem
namespace Go.Proofs.Ytljcpgeggbbmfaa
set_option linter.unusedVariables false
set_option linter.unusedSimpArgs false
open Go.RowKit
/-- behind the address lie the cells xs. -/
def Rd (w : World) (A : Option Addr) (xs : List Value) : Prop :=
  xs ≠ [] → ∃ b off, A = some ⟨b, off, none⟩ ∧ ∀ j u, xs[j]? = some u → w.cell? ⟨b, off + j, none⟩ = some u
theorem Rd.nil {w : World} {A : Option Addr} : Rd w A [] := fun h => absurd rfl h
theorem Rd.below {w w' : World} {A : Option Addr} {xs : List Value} (h : Rd w A xs) (hb : Below w.heap.size w w') : Rd w' A xs := by
  intro hn
  obtain ⟨b, off, e, hc⟩ := h hn
  exact ⟨b, off, e, fun j u hu => (hb.cell (lt_of_cell (hc j u hu))).trans (hc j u hu)⟩
def i64s (zs : List Int) : List Value := zs.map (Value.int .i64)
structure SatD where
  room : Int
  hold : Int
structure CustD where
  load : Int
  opn : Int
  close : Int
  stay : Int
/-- an instance, as numbers. -/
structure InstD where
  fin : Int
  tm : Int
  tr : Int
  bm : Int
  br : Int
  sats : List SatD
  custs : List CustD
  cost : List (List Int)
  time : List (List Int)
def satV (s : SatD) : List Value := [.int .i64 s.room, .int .i64 s.hold]
def custV (c : CustD) : List Value := [.int .i64 c.load, .int .i64 c.opn, .int .i64 c.close, .int .i64 c.stay]
/-- behind the address lie slices, whose elements are the rows. -/
def Rows2 (w : World) (A : Option Addr) (ls : List (List Int)) : Prop :=
  ∃ hs : List Value, hs.length = ls.length ∧ Rd w A hs ∧ ∀ (i : Nat) (r : List Int), ls[i]? = some r → ∃ (a : Option Addr) (c : Nat), hs[i]? = some (Value.slice a r.length c) ∧ r.length ≤ 9223372036854775807 ∧ Rd w a (i64s r)
theorem Rows2.below {w w' : World} {A : Option Addr} {ls : List (List Int)} (h : Rows2 w A ls) (hb : Below w.heap.size w w') : Rows2 w' A ls := by
  obtain ⟨hs, h1, h2, h3⟩ := h
  refine ⟨hs, h1, h2.below hb, fun i r hi => ?_⟩
  obtain ⟨a, c, h4, h5, h6⟩ := h3 i r hi
  exact ⟨a, c, h4, h5, h6.below hb⟩
theorem satV_get (l : List SatD) (k : Nat) (h : k < l.length) : (l.flatMap satV)[k * 2]? = some (.int .i64 l[k].room) ∧ (l.flatMap satV)[k * 2 + 1]? = some (.int .i64 l[k].hold) := by
  induction l generalizing k with
  | nil => simp at h
  | cons s l ih =>
    cases k with
    | zero => exact ⟨rfl, rfl⟩
    | succ k =>
      have := ih k (by simpa using h)
      rw [List.flatMap_cons, show (k + 1) * 2 = k * 2 + 1 + 1 by omega]
      exact this
theorem custV_get (l : List CustD) (k : Nat) (h : k < l.length) : (l.flatMap custV)[k * 4]? = some (.int .i64 l[k].load) ∧ (l.flatMap custV)[k * 4 + 1]? = some (.int .i64 l[k].opn) ∧
    (l.flatMap custV)[k * 4 + 2]? = some (.int .i64 l[k].close) ∧ (l.flatMap custV)[k * 4 + 3]? = some (.int .i64 l[k].stay) := by
  induction l generalizing k with
  | nil => simp at h
  | cons s l ih =>
    cases k with
    | zero => exact ⟨rfl, rfl, rfl, rfl⟩
    | succ k =>
      have := ih k (by simpa using h)
      rw [List.flatMap_cons, show (k + 1) * 4 = k * 4 + 1 + 1 + 1 + 1 by omega]
      exact this
theorem Rd.sat {w : World} {A : Option Addr} {l : List SatD} (h : Rd w A (l.flatMap satV)) {k : Nat} (hk : k < l.length) :
    ∃ b off, A = some ⟨b, off, none⟩ ∧ w.cell? ⟨b, off + k * 2, none⟩ = some (.int .i64 l[k].room) ∧ w.cell? ⟨b, off + k * 2 + 1, none⟩ = some (.int .i64 l[k].hold) := by
  obtain ⟨g1, g2⟩ := satV_get l k hk
  obtain ⟨b, off, e, hc⟩ := h (fun e => by rw [e] at g1; cases g1)
  exact ⟨b, off, e, hc _ _ g1, hc _ _ g2⟩
theorem Rd.cust {w : World} {A : Option Addr} {l : List CustD} (h : Rd w A (l.flatMap custV)) {k : Nat} (hk : k < l.length) :
    ∃ b off, A = some ⟨b, off, none⟩ ∧ w.cell? ⟨b, off + k * 4, none⟩ = some (.int .i64 l[k].load) ∧ w.cell? ⟨b, off + k * 4 + 1, none⟩ = some (.int .i64 l[k].opn) ∧
      w.cell? ⟨b, off + k * 4 + 2, none⟩ = some (.int .i64 l[k].close) ∧ w.cell? ⟨b, off + k * 4 + 3, none⟩ = some (.int .i64 l[k].stay) := by
  obtain ⟨g1, g2, g3, g4⟩ := custV_get l k hk
  obtain ⟨b, off, e, hc⟩ := h (fun e => by rw [e] at g1; cases g1)
  exact ⟨b, off, e, hc _ _ g1, hc _ _ g2, hc _ _ g3, hc _ _ g4⟩
theorem Rd.num {w : World} {A : Option Addr} {r : List Int} (h : Rd w A (i64s r)) {k : Nat} (hk : k < r.length) :
    ∃ b off, A = some ⟨b, off, none⟩ ∧ w.cell? ⟨b, off + k, none⟩ = some (.int .i64 r[k]) := by
  have g : (i64s r)[k]? = some (.int .i64 r[k]) := by unfold i64s; simp [hk]
  obtain ⟨b, off, e, hc⟩ := h (fun e => by rw [e] at g; cases g)
  exact ⟨b, off, e, hc _ _ g⟩
theorem Rows2.row {w : World} {A : Option Addr} {ls : List (List Int)} (h : Rows2 w A ls) {k : Nat} (hk : k < ls.length) :
    ∃ b off a c, A = some ⟨b, off, none⟩ ∧ w.cell? ⟨b, off + k, none⟩ = some (.slice a ls[k].length c) ∧ ls[k].length ≤ 9223372036854775807 ∧ Rd w a (i64s ls[k]) := by
  obtain ⟨hs, _, h2, h3⟩ := h
  obtain ⟨a, c, h4, h5, h6⟩ := h3 k ls[k] (List.getElem?_eq_getElem hk)
  obtain ⟨b, off, e, hc⟩ := h2 (fun e => by rw [e] at h4; cases h4)
  exact ⟨b, off, a, c, e, hc _ _ h4, h5, h6⟩

/-- the first k elements all meet p, each with its place. -/
def allTo {α : Type} (p : Nat → α → Bool) (l : List α) : Nat → Bool
  | 0 => true
  | k + 1 => allTo p l k && (match l[k]? with | some x => p k x | none => true)
theorem allTo_succ {α : Type} (p : Nat → α → Bool) (l : List α) {k : Nat} (h : k < l.length) : allTo p l (k + 1) = (allTo p l k && p k l[k]) := by
  show (allTo p l k && (match l[k]? with | some x => p k x | none => true)) = _
  rw [List.getElem?_eq_getElem h]
def allAt {α : Type} (p : Nat → α → Bool) (l : List α) : Bool := allTo p l l.length
def mayB (n least : Int) : Bool := decide (least ≤ n) && decide (n ≤ 1000000000)
def satB (_ : Nat) (s : SatD) : Bool := mayB s.room 0 && mayB s.hold 0
def custB (_ : Nat) (c : CustD) : Bool := mayB c.load 1 && mayB c.opn 0 && mayB c.close c.opn && mayB c.stay 0
def cellB (i k : Nat) (n : Int) : Bool := mayB n 0 && (!(i == k) || n == 0)
def rowB (i : Nat) (r : List Int) : Bool := allAt (cellB i) r
/-- where an instance's slices lie, and their capacities. -/
structure HdD where
  sa : Option Addr
  sc : Nat
  ca : Option Addr
  cc : Nat
  oa : Option Addr
  oc : Nat
  ta : Option Addr
  tc : Nat
abbrev instC (X : InstD) (h : HdD) : Array Value :=
  #[.int .i64 X.fin, .int .i64 X.tm, .int .i64 X.tr, .int .i64 X.bm, .int .i64 X.br, .slice h.sa X.sats.length h.sc, .slice h.ca X.custs.length h.cc, .slice h.oa X.cost.length h.oc, .slice h.ta X.time.length h.tc]
structure InstIs (w : World) (X : InstD) (h : HdD) : Prop where
  sats : Rd w h.sa (X.sats.flatMap satV)
  custs : Rd w h.ca (X.custs.flatMap custV)
  cost : Rows2 w h.oa X.cost
  time : Rows2 w h.ta X.time
  ls : X.sats.length ≤ 9223372036854775807
  lc : X.custs.length ≤ 9223372036854775807
  lo : X.cost.length ≤ 9223372036854775807
  lt : X.time.length ≤ 9223372036854775807
theorem InstIs.below {w w' : World} {X : InstD} {h : HdD} (H : InstIs w X h) (hb : Below w.heap.size w w') : InstIs w' X h :=
  ⟨H.sats.below hb, H.custs.below hb, H.cost.below hb, H.time.below hb, H.ls, H.lc, H.lo, H.lt⟩
theorem InstIs.box {w : World} {X : InstD} {h : HdD} (H : InstIs w X h) (o : Obj) : InstIs (w.alloc o) X h := H.below ((Below.refl _ _).alloc (Nat.le_refl _) o)
/-- the world in which block g is the box of an instance. -/
def Boxed (w : World) (g : Nat) (X : InstD) (h : HdD) : Prop := g < w.heap.size ∧ ∀ j u, (instC X h)[j]? = some u → w.cell? ⟨g, j, none⟩ = some u
theorem Boxed.below {w w' : World} {g : Nat} {X : InstD} {h : HdD} (H : Boxed w g X h) (hb : Below w.heap.size w w') : Boxed w' g X h :=
  ⟨Nat.lt_of_lt_of_le H.1 hb.size, fun j u hu => (hb.cell (p := ⟨g, j, none⟩) H.1).trans (H.2 j u hu)⟩
theorem Boxed.new (w : World) (X : InstD) (h : HdD) (t : TypeId) : Boxed (w.alloc (.cells (instC X h) t)) w.heap.size X h :=
  ⟨by simp, fun j u hu => by rw [World.cell?_alloc_new]; exact hu⟩
end Go.Proofs.Ytljcpgeggbbmfaa
