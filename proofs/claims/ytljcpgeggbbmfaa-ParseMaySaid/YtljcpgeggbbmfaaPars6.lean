/-
  The walk of parse.Parse (layer 12).
-/
import Derived.Test.YtljcpgeggbbmfaaPars5
import Derived.Test.YtljcpgeggbbmfaaReg2
namespace Go.Proofs.Ytljcpgeggbbmfaa
set_option linter.unusedVariables false
set_option linter.unusedSimpArgs false
open Go.RowKit
/-- what a text that may stand comes to: an instance, or where it goes wrong, and why. -/
def parseW (ws : List WordD) (n : Nat) : InstD ⊕ (Int × Int) := match instP ws n with
  | .inl (X, i) => if i < ws.length then .inr ((placeN ws i n : Int), 6) else .inl X
  | .inr e => .inr e
theorem own_chg {B e s n : Nat} {w w' : World} {v : Value} {xs : List Value} {may : Nat → Prop} (h : w.ownsRow B e s v n xs) (hc : Chg may w w') (hB : ∀ k, may k → k < B) : w'.ownsRow B e s v n xs := by
  refine ⟨h.1, ?_⟩
  rcases h.2 with h0 | ⟨g, cap, cur, a, c, d, e⟩
  · exact .inl h0
  · exact .inr ⟨g, cap, cur, a, c, (hc.block g (heap_lt d) (fun hm => by have := hB g hm; omega)).trans d, e⟩
theorem RowsOwn.chg {B : Nat} {w w' : World} {v : Value} {ls : List (List Int)} {hs : List Value} {may : Nat → Prop} (h : RowsOwn B w v ls hs) (hc : Chg may w w') (hB : ∀ k, may k → k < B) : RowsOwn B w' v ls hs :=
  ⟨h.len, own_chg h.own hc hB, fun i r hi => by
    obtain ⟨A, C, h1, h2⟩ := h.rows i r hi
    exact ⟨A, C, h1, own_chg h2 hc hB⟩⟩
/-- the instance in its box, behind the reading. -/
def ROk (g bx : Nat) (ws : List WordD) (n : Nat) (i : Nat) (w : World) : Prop := ∃ (B : Nat) (X : InstD) (h : HdD) (h7 h8 : List Value), g + 2 ≤ B ∧ instP ws n = .inl (X, i) ∧ w.heap[bx]? = some (.cells (instC X h) 29 (0, 0)) ∧
  w.ownsRow B 62 2 (.slice h.sa X.sats.length h.sc) X.sats.length (X.sats.flatMap satV) ∧ w.ownsRow B 66 4 (.slice h.ca X.custs.length h.cc) X.custs.length (X.custs.flatMap custV) ∧
  RowsOwn B w (.slice h.oa X.cost.length h.oc) X.cost h7 ∧ RowsOwn B w (.slice h.ta X.time.length h.tc) X.time h8
def RErr (ws : List WordD) (n : Nat) (a c : Int) (w : World) : Prop := instP ws n = .inr (a, c)
theorem ROk.chg {g bx : Nat} {ws : List WordD} {n i : Nat} {w w' : World} (h : ROk g bx ws n i w) (hbx : bx < g) (hc : Chg (fun k => k = g ∨ k = g + 1) w w') : ROk g bx ws n i w' := by
  obtain ⟨B, X, hd, h7, h8, hB, hi, hb, o5, o6, o7, o8⟩ := h
  have hm : ∀ k, (k = g ∨ k = g + 1) → k < B := fun k hk => by omega
  exact ⟨B, X, hd, h7, h8, hB, hi, (hc.block bx (heap_lt hb) (by omega)).trans hb, own_chg o5 hc hm, own_chg o6 hc hm, o7.chg hc hm, o8.chg hc hm⟩
/-- Read at Parse's closure. -/
theorem read_is (bx : Nat) (s : ByteArray) (w : World) (h2 : s.size ≤ 131072) (hok : okAll s = true) (hb : w.heap[bx]? = some (.cells (instC ⟨0, 0, 0, 0, 0, [], [], [], []⟩ ⟨none, 0, none, 0, none, 0, none, 0⟩) 29 (0, 0))) :
    Calls Try.prog 29 #[.string s, .func (.func 30) #[] #[.pointer (some ⟨bx, 0, none⟩)]] w (ReadEnd (fun k => k = bx) (ROk w.heap.size bx (wordsL s) s.size) (RErr (wordsL s) s.size) s w) := by
  have hbl := heap_lt hb
  refine read_parse bx s w h2 hok (fun k => k = bx) (fun k hk => by subst hk; exact hbl) _ _ (fun i w2 w3 h hc => h.chg hbl hc) (fun a c w2 w3 h hc => h) (fun w1 p A C hB hp R => ?_)
  have hpl := heap_lt R.blk
  have hne : bx ≠ p := by omega
  have H : PB w1 p bx A C (wordsL s) s.size 0 ⟨0, 0, 0, 0, 0, [], [], [], []⟩ ⟨none, 0, none, 0, none, 0, none, 0⟩ [] [] w1 :=
    ⟨R, (hB.block bx hbl).trans hb, Chg.refl _ _, World.ownsRow_nil _ _ _ _, World.ownsRow_nil _ _ _ _, RowsOwn.nil _ _, RowsOwn.nil _ _⟩
  have hsz : Hid (∀ x ∈ wordsL s, x.text.size ≤ 9223372036854775807) := Lib.hid (fun x hx => by
    obtain ⟨_, e, h1, h2, _⟩ := wordsL_pos s x hx
    rw [h1, ByteArray.size_extract]; omega)
  refine (pdo_any p bx A C (wordsL s) s.size hsz w1 hne (by have := hB.size; omega) hpl H).mono fun e w2 h => ?_
  rcases h with ⟨i, X, hd, h7, h8, rfl, hi, HB⟩ | ⟨a, c, rfl, hi, hc⟩
  · exact ⟨HB.chg, .inl ⟨i, rfl, HB.R, w1.heap.size, X, hd, h7, h8, by omega, hi, HB.box, HB.o5, HB.o6, HB.o7, HB.o8⟩⟩
  · exact ⟨hc, .inr ⟨a, c, rfl, hi⟩⟩
/-- what may be said of an instance that has been read. -/
structure ReadOk (X : InstD) : Prop where
  s1 : 1 ≤ X.sats.length
  s2 : X.sats.length ≤ 12
  c1 : 1 ≤ X.custs.length
  c2 : X.custs.length ≤ 48
  o : X.cost.length = nodesN X
  t : X.time.length = nodesN X
  ro : ∀ r ∈ X.cost, r.length = nodesN X
  rt : ∀ r ∈ X.time, r.length = nodesN X
  tm : 1 ≤ X.tm ∧ X.tm ≤ 60
  bm : 1 ≤ X.bm ∧ X.bm ≤ 60
  fin : 0 ≤ X.fin ∧ X.fin ≤ 1000000000
  tr : 0 ≤ X.tr ∧ X.tr ≤ 1000000000
  br : 0 ≤ X.br ∧ X.br ≤ 1000000000
  sat : ∀ x ∈ X.sats, (0 ≤ x.room ∧ x.room ≤ 1000000000) ∧ 0 ≤ x.hold ∧ x.hold ≤ 1000000000
  cust : ∀ x ∈ X.custs, (1 ≤ x.load ∧ x.load ≤ 1000000000) ∧ (0 ≤ x.opn ∧ x.opn ≤ 1000000000) ∧ (x.opn ≤ x.close ∧ x.close ≤ 1000000000) ∧ 0 ≤ x.stay ∧ x.stay ≤ 1000000000
  co : ∀ (i : Nat) (r : List Int), X.cost[i]? = some r → ∀ (k : Nat) (v : Int), r[k]? = some v → 0 ≤ v ∧ v ≤ 1000000000 ∧ (i = k → v = 0)
  ti : ∀ (i : Nat) (r : List Int), X.time[i]? = some r → ∀ (k : Nat) (v : Int), r[k]? = some v → 0 ≤ v ∧ v ≤ 1000000000 ∧ (i = k → v = 0)
theorem matP_ok {ws : List WordD} {n : Nat} {t : ByteArray} {m i : Nat} {ls : List (List Int)} {j : Nat} (h : matP ws n t m i = .inl (ls, j)) : ls.length = m ∧ (∀ r ∈ ls, r.length = m) ∧ ∀ (i : Nat) (r : List Int), ls[i]? = some r → ∀ (k : Nat) (v : Int), r[k]? = some v → 0 ≤ v ∧ v ≤ 1000000000 ∧ (i = k → v = 0) := by
  obtain ⟨_, i1, h1, h2⟩ := bindP_ok h
  have hrow : ∀ k i x j, rowP ws n m k i = .inl (x, j) → x.length = m ∧ ∀ (q : Nat) (v : Int), x[q]? = some v → 0 ≤ v ∧ v ≤ 1000000000 ∧ (k = q → v = 0) := fun k i x j hx => by
    refine ⟨upP_ok m 0 i hx, fun q v hv => ?_⟩
    have := upP_all (Q := fun q v => 0 ≤ v ∧ v ≤ 1000000000 ∧ (k = q → v = 0)) (fun q i v j hc => by
      obtain ⟨b1, b2, _, _⟩ := numP_ok hc
      by_cases e : k = q
      · rw [if_pos e] at b2; exact ⟨b1, by omega, fun _ => by omega⟩
      · rw [if_neg e] at b2; exact ⟨b1, b2, fun e2 => absurd e2 e⟩) m 0 i hx q v hv
    rw [Nat.zero_add] at this; exact this
  have hall := upP_all (Q := fun k (x : List Int) => x.length = m ∧ ∀ (q : Nat) (v : Int), x[q]? = some v → 0 ≤ v ∧ v ≤ 1000000000 ∧ (k = q → v = 0)) hrow m 0 i1 h2
  refine ⟨upP_ok m 0 i1 h2, fun r hr => ?_, fun i r hi k v hv => ?_⟩
  · obtain ⟨q, hq, rfl⟩ := List.getElem_of_mem hr
    exact (hall q _ (List.getElem?_eq_getElem hq)).1
  · have := (hall i r hi).2 k v hv
    rw [Nat.zero_add] at this; exact this
theorem fleetP_ok {ws : List WordD} {n : Nat} {t : ByteArray} {i : Nat} {x : Int × Int} {j : Nat} (h : fleetP ws n t i = .inl (x, j)) : (1 ≤ x.1 ∧ x.1 ≤ 60) ∧ 0 ≤ x.2 ∧ x.2 ≤ 1000000000 := by
  obtain ⟨_, i1, _, h2⟩ := bindP_ok h
  obtain ⟨m, i2, h3, h4⟩ := bindP_ok h2
  obtain ⟨r, i3, h5, h6⟩ := bindP_ok h4
  injection h6 with h6
  injection h6 with h6 _
  subst h6
  obtain ⟨a, b, _, _⟩ := numP_ok h3
  obtain ⟨c, d, _, _⟩ := numP_ok h5
  exact ⟨⟨a, b⟩, c, d⟩
theorem satP_ok {ws : List WordD} {n i : Nat} {x : SatD} {j : Nat} (h : satP ws n i = .inl (x, j)) : (0 ≤ x.room ∧ x.room ≤ 1000000000) ∧ 0 ≤ x.hold ∧ x.hold ≤ 1000000000 := by
  obtain ⟨m, i2, h3, h4⟩ := bindP_ok h
  obtain ⟨r, i3, h5, h6⟩ := bindP_ok h4
  injection h6 with h6
  injection h6 with h6 _
  subst h6
  obtain ⟨a, b, _, _⟩ := numP_ok h3
  obtain ⟨c, d, _, _⟩ := numP_ok h5
  exact ⟨⟨a, b⟩, c, d⟩
theorem custP_ok {ws : List WordD} {n i : Nat} {x : CustD} {j : Nat} (h : custP ws n i = .inl (x, j)) : (1 ≤ x.load ∧ x.load ≤ 1000000000) ∧ (0 ≤ x.opn ∧ x.opn ≤ 1000000000) ∧ (x.opn ≤ x.close ∧ x.close ≤ 1000000000) ∧ 0 ≤ x.stay ∧ x.stay ≤ 1000000000 := by
  obtain ⟨l, i2, h3, h4⟩ := bindP_ok h
  obtain ⟨o, i3, h5, h6⟩ := bindP_ok h4
  obtain ⟨c, i4, h7, h8⟩ := bindP_ok h6
  obtain ⟨s, i5, h9, h0⟩ := bindP_ok h8
  injection h0 with h0
  injection h0 with h0 _
  subst h0
  obtain ⟨a1, b1, _, _⟩ := numP_ok h3
  obtain ⟨a2, b2, _, _⟩ := numP_ok h5
  obtain ⟨a3, b3, _, _⟩ := numP_ok h7
  obtain ⟨a4, b4, _, _⟩ := numP_ok h9
  exact ⟨⟨a1, b1⟩, ⟨a2, b2⟩, ⟨a3, b3⟩, a4, b4⟩
theorem instP_ok {ws : List WordD} {n : Nat} {X : InstD} {j : Nat} (h : instP ws n = .inl (X, j)) : ReadOk X := by
  obtain ⟨_, i1, _, h⟩ := bindP_ok h
  obtain ⟨fin, i2, hf, h⟩ := bindP_ok h
  obtain ⟨t, i3, ht, h⟩ := bindP_ok h
  obtain ⟨b, i4, hb, h⟩ := bindP_ok h
  obtain ⟨_, i5, _, h⟩ := bindP_ok h
  obtain ⟨m, i6, hm, h⟩ := bindP_ok h
  obtain ⟨ss, i7, hs, h⟩ := bindP_ok h
  obtain ⟨_, i8, _, h⟩ := bindP_ok h
  obtain ⟨mc, i9, hmc, h⟩ := bindP_ok h
  obtain ⟨cs, i10, hc, h⟩ := bindP_ok h
  obtain ⟨co, i11, ho, h⟩ := bindP_ok h
  obtain ⟨ti, i12, hti, h⟩ := bindP_ok h
  obtain ⟨_, i13, _, h⟩ := bindP_ok h
  injection h with h
  injection h with h _
  subst h
  obtain ⟨f1, f2, _, _⟩ := numP_ok hf
  obtain ⟨m1, m2, _, _⟩ := numP_ok hm
  obtain ⟨n1, n2, _, _⟩ := numP_ok hmc
  obtain ⟨t1, t2, t3⟩ := fleetP_ok ht
  obtain ⟨b1, b2, b3⟩ := fleetP_ok hb
  have ls := upP_ok _ _ _ hs
  have lc := upP_ok _ _ _ hc
  obtain ⟨o1, o2, o3⟩ := matP_ok ho
  obtain ⟨q1, q2, q3⟩ := matP_ok hti
  refine ⟨by dsimp only; omega, by dsimp only; omega, by dsimp only; omega, by dsimp only; omega, o1, q1, o2, q2, t1, b1, ⟨f1, f2⟩, ⟨t2, t3⟩, ⟨b2, b3⟩, fun x hx => ?_, fun x hx => ?_, o3, q3⟩
  · obtain ⟨q, hq, rfl⟩ := List.getElem_of_mem hx
    exact upP_all (Q := fun _ (x : SatD) => (0 ≤ x.room ∧ x.room ≤ 1000000000) ∧ 0 ≤ x.hold ∧ x.hold ≤ 1000000000) (fun _ _ _ _ h => satP_ok h) _ _ _ hs q _ (List.getElem?_eq_getElem hq)
  · obtain ⟨q, hq, rfl⟩ := List.getElem_of_mem hx
    exact upP_all (Q := fun _ (x : CustD) => (1 ≤ x.load ∧ x.load ≤ 1000000000) ∧ (0 ≤ x.opn ∧ x.opn ≤ 1000000000) ∧ (x.opn ≤ x.close ∧ x.close ≤ 1000000000) ∧ 0 ≤ x.stay ∧ x.stay ≤ 1000000000) (fun _ _ _ _ h => custP_ok h) _ _ _ hc q _ (List.getElem?_eq_getElem hq)
end Go.Proofs.Ytljcpgeggbbmfaa
