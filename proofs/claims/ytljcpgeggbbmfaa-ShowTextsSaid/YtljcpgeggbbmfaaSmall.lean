/-
  A small instance's numbers, and the instance that wharfagelaw11.Make makes of them: no program in sight.
-/
import Derived.Test.YtljcpgeggbbmfaaMat
namespace Go.Proofs.Ytljcpgeggbbmfaa
set_option linter.unusedVariables false
set_option linter.unusedSimpArgs false
open Go.RowKit
structure SatU where
  room : Nat
  hold : Nat
structure WhoU where
  load : Nat
  opn : Nat
  wide : Nat
  stay : Nat
structure SmallD where
  fin : Nat
  tm : Nat
  tr : Nat
  bm : Nat
  br : Nat
  sats : List SatU
  custs : List WhoU
  cost : List Nat
  time : List Nat
  tight : Bool
  loose : Bool
def u8v (n : Nat) : Value := .int .u8 (n : Int)
def satUV (s : SatU) : List Value := [u8v s.room, u8v s.hold]
def whoUV (c : WhoU) : List Value := [u8v c.load, u8v c.opn, u8v c.wide, u8v c.stay]
structure SmallH where
  sa : Option Addr
  sc : Nat
  ca : Option Addr
  cc : Nat
  oa : Option Addr
  oc : Nat
  ta : Option Addr
  tc : Nat
abbrev smallC (S : SmallD) (h : SmallH) : Array Value :=
  #[.int .u8 S.fin, .int .u8 S.tm, .int .u8 S.tr, .int .u8 S.bm, .int .u8 S.br, .slice h.sa S.sats.length h.sc, .slice h.ca S.custs.length h.cc, .slice h.oa S.cost.length h.oc, .slice h.ta S.time.length h.tc, .bool S.tight, .bool S.loose]
structure SmallIs (w : World) (S : SmallD) (h : SmallH) : Prop where
  sats : Rd w h.sa (S.sats.flatMap satUV)
  custs : Rd w h.ca (S.custs.flatMap whoUV)
  cost : Rd w h.oa (u8s S.cost)
  time : Rd w h.ta (u8s S.time)
  ls : S.sats.length ≤ 9223372036854775807
  lc : S.custs.length ≤ 9223372036854775807
  lo : S.cost.length ≤ 9223372036854775807
  lt : S.time.length ≤ 9223372036854775807
  b1 : S.fin < 256
  b2 : S.tm < 256
  b3 : S.tr < 256
  b4 : S.bm < 256
  b5 : S.br < 256
  bs : ∀ s ∈ S.sats, s.room < 256 ∧ s.hold < 256
  bc : ∀ c ∈ S.custs, c.load < 256 ∧ c.opn < 256 ∧ c.wide < 256 ∧ c.stay < 256
  bo : ∀ q, S.cost.getD q 0 < 256
  bt : ∀ q, S.time.getD q 0 < 256
theorem SmallIs.below {w w' : World} {S : SmallD} {h : SmallH} (H : SmallIs w S h) (hb : Below w.heap.size w w') : SmallIs w' S h :=
  ⟨H.sats.below hb, H.custs.below hb, H.cost.below hb, H.time.below hb, H.ls, H.lc, H.lo, H.lt, H.b1, H.b2, H.b3, H.b4, H.b5, H.bs, H.bc, H.bo, H.bt⟩
def wideI (S : SmallD) : Int := if S.loose then 9 else 1
def satI (wd : Int) (s : SatU) : SatD := ⟨4 + wd * ((s.room % 40 : Nat) : Int), ((s.hold % 12 : Nat) : Int)⟩
def custI (wd : Int) (tight : Bool) (c : WhoU) : CustD :=
  ⟨1 + ((c.load % 6 : Nat) : Int) + (if tight then ((c.load / 32 : Nat) : Int) else 0), ((c.opn % 50 : Nat) : Int), ((c.opn % 50 : Nat) : Int) + wd * (c.wide : Int), ((c.stay % 8 : Nat) : Int)⟩
def satsI (S : SmallD) : List SatD := if S.sats.length = 0 then [⟨60, 2⟩] else (S.sats.take 3).map (satI (wideI S))
def custsI (S : SmallD) : List CustD := if S.custs.length = 0 then [⟨2, 5, 90, 1⟩] else (S.custs.take 6).map (custI (wideI S) S.tight)
def nodesI (S : SmallD) : Nat := 1 + (satsI S).length + (custsI S).length
/-- the instance that Make makes. -/
def makeI (S : SmallD) : InstD :=
  { fin := 40 + (S.fin : Int) * wideI S, tm := 1 + ((S.tm % 4 : Nat) : Int), tr := 5 + wideI S * ((S.tr % 40 : Nat) : Int), bm := 1 + ((S.bm % 6 : Nat) : Int), br := 3 + wideI S * ((S.br % 20 : Nat) : Int),
    sats := satsI S, custs := custsI S, cost := matM S.cost (nodesI S), time := matM S.time (nodesI S) }
theorem satUV_get (l : List SatU) (k : Nat) (h : k < l.length) : (l.flatMap satUV)[k * 2]? = some (.int .u8 (l[k].room : Nat)) ∧ (l.flatMap satUV)[k * 2 + 1]? = some (.int .u8 (l[k].hold : Nat)) := by
  induction l generalizing k with
  | nil => simp at h
  | cons s l ih =>
    cases k with
    | zero => exact ⟨rfl, rfl⟩
    | succ k =>
      have := ih k (by simpa using h)
      rw [List.flatMap_cons, show (k + 1) * 2 = k * 2 + 1 + 1 by omega]
      exact this
theorem whoUV_get (l : List WhoU) (k : Nat) (h : k < l.length) : (l.flatMap whoUV)[k * 4]? = some (.int .u8 (l[k].load : Nat)) ∧ (l.flatMap whoUV)[k * 4 + 1]? = some (.int .u8 (l[k].opn : Nat)) ∧
    (l.flatMap whoUV)[k * 4 + 2]? = some (.int .u8 (l[k].wide : Nat)) ∧ (l.flatMap whoUV)[k * 4 + 3]? = some (.int .u8 (l[k].stay : Nat)) := by
  induction l generalizing k with
  | nil => simp at h
  | cons s l ih =>
    cases k with
    | zero => exact ⟨rfl, rfl, rfl, rfl⟩
    | succ k =>
      have := ih k (by simpa using h)
      rw [List.flatMap_cons, show (k + 1) * 4 = k * 4 + 1 + 1 + 1 + 1 by omega]
      exact this
theorem Rd.satU {w : World} {A : Option Addr} {l : List SatU} (h : Rd w A (l.flatMap satUV)) {k : Nat} (hk : k < l.length) :
    ∃ b off, A = some ⟨b, off, none⟩ ∧ w.cell? ⟨b, off + k * 2, none⟩ = some (.int .u8 (l[k].room : Nat)) ∧ w.cell? ⟨b, off + k * 2 + 1, none⟩ = some (.int .u8 (l[k].hold : Nat)) := by
  obtain ⟨g1, g2⟩ := satUV_get l k hk
  obtain ⟨b, off, e, hc⟩ := h (fun e => by rw [e] at g1; cases g1)
  exact ⟨b, off, e, hc _ _ g1, hc _ _ g2⟩
theorem Rd.whoU {w : World} {A : Option Addr} {l : List WhoU} (h : Rd w A (l.flatMap whoUV)) {k : Nat} (hk : k < l.length) :
    ∃ b off, A = some ⟨b, off, none⟩ ∧ w.cell? ⟨b, off + k * 4, none⟩ = some (.int .u8 (l[k].load : Nat)) ∧ w.cell? ⟨b, off + k * 4 + 1, none⟩ = some (.int .u8 (l[k].opn : Nat)) ∧
      w.cell? ⟨b, off + k * 4 + 2, none⟩ = some (.int .u8 (l[k].wide : Nat)) ∧ w.cell? ⟨b, off + k * 4 + 3, none⟩ = some (.int .u8 (l[k].stay : Nat)) := by
  obtain ⟨g1, g2, g3, g4⟩ := whoUV_get l k hk
  obtain ⟨b, off, e, hc⟩ := h (fun e => by rw [e] at g1; cases g1)
  exact ⟨b, off, e, hc _ _ g1, hc _ _ g2, hc _ _ g3, hc _ _ g4⟩
end Go.Proofs.Ytljcpgeggbbmfaa
