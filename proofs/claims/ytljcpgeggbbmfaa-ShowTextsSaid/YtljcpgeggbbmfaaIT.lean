/-
  An instance's text: plain, and the walk of wharfagelaw12.Text (layer 12).
-/
import Derived.Test.YtljcpgeggbbmfaaPA
import Derived.Test.YtljcpgeggbbmfaaTexts5
import Derived.Test.YtljcpgeggbbmfaaCanon
import Derived.Test.YtljcpgeggbbmfaaTE
import Derived.Test.YtljcpgeggbbmfaaRefText
namespace Go.Proofs.Ytljcpgeggbbmfaa
set_option linter.unusedVariables false
set_option linter.unusedSimpArgs false
open Go.RowKit
theorem L_cat (a b : ByteArray) : L (a ++ b) = L a ++ L b := by
  show (a ++ b).data.toList = _
  rw [ByteArray.data_append, Array.toList_append]
theorem L_eq {a b : ByteArray} (h : L a = L b) : a = b := ByteArray.ext (Array.ext' h)
/-- a number's text. -/
def nT (n : Int) : ByteArray := ⟨(textV n).toArray⟩
theorem L_nT (n : Int) : L (nT n) = textV n := rfl
theorem textV_len (n : Int) : (textV n).length ≤ 20 := by
  unfold textV digN
  have := digF_len 19 n.natAbs
  split
  · rw [List.length_cons]; omega
  · omega
theorem nT_size (n : Int) : (nT n).size ≤ 20 := textV_len n
def b32 : ByteArray := ⟨#[32]⟩
def satTx (x : SatD) : ByteArray := ((b32 ++ nT x.room) ++ b32) ++ nT x.hold
def custTx (x : CustD) : ByteArray := ((((((b32 ++ nT x.load) ++ b32) ++ nT x.opn) ++ b32) ++ nT x.close) ++ b32) ++ nT x.stay
def foldTx {α : Type} (f : α → ByteArray) (a : ByteArray) (l : List α) : ByteArray := l.foldl (fun s x => s ++ f x) a
def cellTx (v : Int) : ByteArray := b32 ++ nT v
def rowTx (a : ByteArray) (r : List Int) : ByteArray := foldTx cellTx a r
def matTx (a : ByteArray) (ls : List (List Int)) : ByteArray := ls.foldl rowTx a
def headTx (X : InstD) : ByteArray :=
  (((((((((((⟨#[119, 104, 97, 114, 102, 97, 103, 101, 32]⟩ : ByteArray) ++ nT X.fin) ++ ⟨#[32, 116, 114, 117, 99, 107, 115, 32]⟩) ++ nT X.tm) ++ b32) ++ nT X.tr) ++ ⟨#[32, 98, 105, 107, 101, 115, 32]⟩) ++ nT X.bm) ++ b32) ++ nT X.br) ++ ⟨#[32, 115, 97, 116, 101, 108, 108, 105, 116, 101, 115, 32]⟩) ++ nT (X.sats.length : Int)
def tx1 (X : InstD) : ByteArray := foldTx satTx (headTx X) X.sats
def tx2 (X : InstD) : ByteArray := tx1 X ++ ((⟨#[32, 99, 117, 115, 116, 111, 109, 101, 114, 115, 32]⟩ : ByteArray) ++ nT (X.custs.length : Int))
def tx3 (X : InstD) : ByteArray := foldTx custTx (tx2 X) X.custs
def tx4 (X : InstD) : ByteArray := matTx (tx3 X ++ ⟨#[32, 99, 111, 115, 116]⟩) X.cost
def tx5 (X : InstD) : ByteArray := matTx (tx4 X ++ ⟨#[32, 116, 105, 109, 101]⟩) X.time
def textI (X : InstD) : ByteArray := tx5 X ++ ⟨#[32, 101, 110, 100]⟩
theorem L_fold {α : Type} (f : α → ByteArray) (l : List α) : ∀ a, L (foldTx f a l) = L a ++ l.flatMap (fun x => L (f x)) := by
  induction l with
  | nil => intro a; simp [foldTx]
  | cons x l ih =>
    intro a
    show L (foldTx f (a ++ f x) l) = _
    rw [ih, L_cat, List.flatMap_cons, List.append_assoc]
theorem L_mat (ls : List (List Int)) : ∀ a, L (matTx a ls) = L a ++ ls.flatMap (fun r => r.flatMap (fun v => 32 :: textV v)) := by
  induction ls with
  | nil => intro a; simp [matTx]
  | cons r ls ih =>
    intro a
    show L (matTx (rowTx a r) ls) = _
    rw [ih]
    unfold rowTx
    rw [L_fold, List.flatMap_cons, List.append_assoc]
    congr 2
/-- the words of an instance. -/
def wordsI (X : InstD) : List (List UInt8) :=
  L sWharfage :: textV X.fin :: L sTrucks :: textV X.tm :: textV X.tr :: L sBikes :: textV X.bm :: textV X.br :: L sSats :: textV (X.sats.length : Int) ::
    (X.sats.flatMap (fun x => [textV x.room, textV x.hold]) ++ (L sCusts :: textV (X.custs.length : Int) :: (X.custs.flatMap (fun x => [textV x.load, textV x.opn, textV x.close, textV x.stay]) ++
      (L sCost :: (X.cost.flatMap (fun r => r.map textV) ++ (L sTime :: (X.time.flatMap (fun r => r.map textV) ++ [L sEnd])))))))
/-- words, each behind a blank. -/
def blank (ws : List (List UInt8)) : List UInt8 := ws.flatMap (fun w => 32 :: w)
theorem blank_app (a b : List (List UInt8)) : blank (a ++ b) = blank a ++ blank b := by unfold blank; rw [List.flatMap_append]
theorem blank_cons (w : List UInt8) (b : List (List UInt8)) : blank (w :: b) = 32 :: (w ++ blank b) := by unfold blank; rw [List.flatMap_cons]; rfl
theorem blank_flat {α : Type} (f : α → List (List UInt8)) (l : List α) : blank (l.flatMap f) = l.flatMap (fun x => blank (f x)) := by
  induction l with
  | nil => rfl
  | cons x l ih => rw [List.flatMap_cons, blank_app, ih, List.flatMap_cons]
theorem L_textI (X : InstD) : 32 :: L (textI X) = blank (wordsI X) := by
  have e1 : blank (X.sats.flatMap (fun x => [textV x.room, textV x.hold])) = X.sats.flatMap (fun x => L (satTx x)) := by
    rw [blank_flat]
    congr 1
    funext x
    unfold satTx
    rw [L_cat, L_cat, L_cat, L_nT, L_nT, blank_cons, blank_cons]
    show _ = (([32] ++ textV x.room) ++ [32]) ++ textV x.hold
    simp [blank]
  have e2 : blank (X.custs.flatMap (fun x => [textV x.load, textV x.opn, textV x.close, textV x.stay])) = X.custs.flatMap (fun x => L (custTx x)) := by
    rw [blank_flat]
    congr 1
    funext x
    unfold custTx
    rw [L_cat, L_cat, L_cat, L_cat, L_cat, L_cat, L_cat, L_nT, L_nT, L_nT, L_nT, blank_cons, blank_cons, blank_cons, blank_cons]
    show _ = (((((([32] ++ textV x.load) ++ [32]) ++ textV x.opn) ++ [32]) ++ textV x.close) ++ [32]) ++ textV x.stay
    simp [blank]
  have e3 : ∀ ls : List (List Int), blank (ls.flatMap (fun r => r.map textV)) = ls.flatMap (fun r => r.flatMap (fun v => 32 :: textV v)) := fun ls => by
    rw [blank_flat]
    congr 1
    funext r
    unfold blank
    rw [List.flatMap_map]
  unfold textI tx5 tx4 tx3 tx2 tx1 headTx
  rw [L_cat, L_mat, L_cat, L_mat, L_cat, L_fold, L_cat, L_fold]
  simp only [L_cat, L_nT]
  unfold wordsI
  simp only [blank_cons, blank_app, e1, e2, e3]
  have s0 : (32 : UInt8) :: L (⟨#[119, 104, 97, 114, 102, 97, 103, 101, 32]⟩ : ByteArray) = 32 :: (L sWharfage ++ [32]) := rfl
  have s1 : L (⟨#[32, 116, 114, 117, 99, 107, 115, 32]⟩ : ByteArray) = 32 :: (L sTrucks ++ [32]) := rfl
  have s2 : L (⟨#[32, 98, 105, 107, 101, 115, 32]⟩ : ByteArray) = 32 :: (L sBikes ++ [32]) := rfl
  have s3 : L (⟨#[32, 115, 97, 116, 101, 108, 108, 105, 116, 101, 115, 32]⟩ : ByteArray) = 32 :: (L sSats ++ [32]) := rfl
  have s4 : L (⟨#[32, 99, 117, 115, 116, 111, 109, 101, 114, 115, 32]⟩ : ByteArray) = 32 :: (L sCusts ++ [32]) := rfl
  have s5 : L (⟨#[32, 99, 111, 115, 116]⟩ : ByteArray) = 32 :: L sCost := rfl
  have s6 : L (⟨#[32, 116, 105, 109, 101]⟩ : ByteArray) = 32 :: L sTime := rfl
  have s7 : L (⟨#[32, 101, 110, 100]⟩ : ByteArray) = 32 :: L sEnd := rfl
  have s8 : L b32 = [32] := rfl
  have s00 : L (⟨#[119, 104, 97, 114, 102, 97, 103, 101, 32]⟩ : ByteArray) = L sWharfage ++ [32] := rfl
  rw [s1, s2, s3, s4, s5, s6, s7, s8, s00]
  simp [List.append_assoc, blank]
end Go.Proofs.Ytljcpgeggbbmfaa
namespace Go.Proofs.Ytljcpgeggbbmfaa
set_option linter.unusedVariables false
set_option linter.unusedSimpArgs false
open Go.RowKit
abbrev texts (ws : List WordD) : List (List UInt8) := ws.map (fun x => L x.text)
theorem text_at {ws : List WordD} {pre post : List (List UInt8)} {t : List UInt8} (h : texts ws = pre ++ t :: post) : ∃ hi : pre.length < ws.length, L ws[pre.length].text = t := by
  have h1 : (texts ws)[pre.length]? = some t := by rw [h]; simp
  unfold texts at h1
  rw [List.getElem?_map] at h1
  obtain ⟨x, hx, he⟩ := Option.map_eq_some_iff.1 h1
  obtain ⟨hi, hx⟩ := List.getElem?_eq_some_iff.1 hx
  exact ⟨hi, by rw [hx]; exact he⟩
theorem must_go {ws : List WordD} (n : Nat) {pre post : List (List UInt8)} {t : ByteArray} (h : texts ws = pre ++ L t :: post) : ∃ pre', texts ws = pre' ++ post ∧ mustP ws n t pre.length = .inl ((), pre'.length) := by
  obtain ⟨hi, he⟩ := text_at h
  refine ⟨pre ++ [L t], by rw [h]; simp, ?_⟩
  unfold mustP
  rw [isB_in hi, decide_eq_true (L_eq he)]
  simp
theorem num_go {ws : List WordD} (n : Nat) {pre post : List (List UInt8)} {lo hi v : Int} (h : texts ws = pre ++ textV v :: post) (h1 : lo ≤ v) (h2 : v ≤ hi) (h0 : 0 ≤ v) (h9 : v ≤ 1000000000000000) : ∃ pre', texts ws = pre' ++ post ∧ numP ws n lo hi pre.length = .inl (v, pre'.length) := by
  obtain ⟨hil, he⟩ := text_at h
  refine ⟨pre ++ [textV v], by rw [h]; simp, ?_⟩
  obtain ⟨p1, p2⟩ := parse_text v (by omega)
  have hok : okNum (textV v) = true := by rw [p1]; exact decide_eq_true ⟨h0, h9⟩
  have hpv : parseV (textV v) = v := by unfold parseV; rw [hok]; exact p2 h0
  unfold numP
  rw [dif_pos hil, he, hok, hpv, if_pos rfl, if_neg (by omega)]
  simp
theorem up_go {α : Type} {ws : List WordD} (enc : α → List (List UInt8)) (g : Nat → Nat → PR α) : ∀ (l : List α) (k : Nat) {pre post : List (List UInt8)},
    (∀ q x, l[q]? = some x → ∀ {pre post : List (List UInt8)}, texts ws = pre ++ (enc x ++ post) → ∃ pre', texts ws = pre' ++ post ∧ g (k + q) pre.length = .inl (x, pre'.length)) →
    texts ws = pre ++ (l.flatMap enc ++ post) → ∃ pre', texts ws = pre' ++ post ∧ upP g l.length k pre.length = .inl (l, pre'.length)
  | [], k, pre, post, hg, h => ⟨pre, by simpa using h, rfl⟩
  | x :: l, k, pre, post, hg, h => by
    rw [List.flatMap_cons, List.append_assoc] at h
    obtain ⟨p1, h1, e1⟩ := hg 0 x rfl h
    obtain ⟨p2, h2, e2⟩ := up_go enc g l (k + 1) (fun q y hy => by
      have := @hg (q + 1) y (by simpa using hy)
      intro pre post hp
      rw [show k + 1 + q = k + (q + 1) by omega]
      exact this hp) h1
    refine ⟨p2, h2, ?_⟩
    show bindP (g k pre.length) _ = _
    rw [Nat.add_zero] at e1
    rw [e1, bindP_inl, e2]; rfl
theorem map_flat (r : List Int) : r.map textV = r.flatMap (fun v => [textV v]) := by
  induction r with
  | nil => rfl
  | cons x r ih => rw [List.map_cons, List.flatMap_cons, ih]; rfl
theorem mat_go {ws : List WordD} (n : Nat) (t : ByteArray) (m : Nat) (ls : List (List Int)) (hl : ls.length = m) (hr : ∀ r ∈ ls, r.length = m) (hv : ∀ (i : Nat) (r : List Int), ls[i]? = some r → ∀ (k : Nat) (v : Int), r[k]? = some v → 0 ≤ v ∧ v ≤ 1000000000 ∧ (i = k → v = 0))
    {pre post : List (List UInt8)} (h : texts ws = pre ++ (L t :: (ls.flatMap (fun r => r.map textV) ++ post))) : ∃ pre', texts ws = pre' ++ post ∧ matP ws n t m pre.length = .inl (ls, pre'.length) := by
  obtain ⟨p1, h1, e1⟩ := must_go n h
  subst hl
  obtain ⟨p2, h2, e2⟩ := up_go (fun r : List Int => r.map textV) (rowP ws n ls.length) ls 0 (fun q r hq => by
    intro pre post hp
    have hrl := hr r (List.mem_of_getElem? hq)
    have hp2 : texts ws = pre ++ (r.flatMap (fun v => [textV v]) ++ post) := by rw [hp, map_flat]
    obtain ⟨p3, h3, e3⟩ := up_go (fun v : Int => [textV v]) (cellP ws n q) r 0 (fun k v hk => by
      intro pre post hp
      obtain ⟨a, b, c⟩ := hv q r hq k v hk
      unfold cellP
      rw [Nat.zero_add]
      by_cases e : q = k
      · rw [if_pos e]
        exact num_go n hp a (by rw [c e]; omega) a (by omega)
      · rw [if_neg e]
        exact num_go n hp a b a (by omega)) hp2
    refine ⟨p3, h3, ?_⟩
    unfold rowP
    rw [Nat.zero_add, ← hrl]; exact e3) h1
  refine ⟨p2, h2, ?_⟩
  unfold matP
  rw [e1, bindP_inl]; exact e2
theorem instP_back {ws : List WordD} (n : Nat) {X : InstD} (K : ReadOk X) (h : texts ws = wordsI X) : instP ws n = .inl (X, ws.length) := by
  have hN : nodesN X = 1 + X.sats.length + X.custs.length := rfl
  have h0 : texts ws = [] ++ wordsI X := h
  unfold wordsI at h0
  obtain ⟨p1, h1, e1⟩ := must_go n h0
  obtain ⟨p2, h2, e2⟩ := num_go (lo := 0) (hi := 1000000000) n h1 K.fin.1 K.fin.2 K.fin.1 (by have := K.fin; omega)
  obtain ⟨p3, h3, e3⟩ := must_go n h2
  obtain ⟨p4, h4, e4⟩ := num_go (lo := 1) (hi := 60) n h3 K.tm.1 K.tm.2 (by have := K.tm; omega) (by have := K.tm; omega)
  obtain ⟨p5, h5, e5⟩ := num_go (lo := 0) (hi := 1000000000) n h4 K.tr.1 K.tr.2 K.tr.1 (by have := K.tr; omega)
  obtain ⟨p6, h6, e6⟩ := must_go n h5
  obtain ⟨p7, h7, e7⟩ := num_go (lo := 1) (hi := 60) n h6 K.bm.1 K.bm.2 (by have := K.bm; omega) (by have := K.bm; omega)
  obtain ⟨p8, h8, e8⟩ := num_go (lo := 0) (hi := 1000000000) n h7 K.br.1 K.br.2 K.br.1 (by have := K.br; omega)
  obtain ⟨p9, h9, e9⟩ := must_go n h8
  obtain ⟨p10, h10, e10⟩ := num_go (lo := 1) (hi := 12) n h9 (by have := K.s1; omega) (by have := K.s2; omega) (by omega) (by have := K.s2; omega)
  obtain ⟨p11, h11, e11⟩ := up_go (fun x : SatD => [textV x.room, textV x.hold]) (fun _ => satP ws n) X.sats 0 (fun q x hq => by
    intro pre post hp
    obtain ⟨⟨a, b⟩, c, d⟩ := K.sat x (List.mem_of_getElem? hq)
    obtain ⟨q1, g1, f1⟩ := num_go (lo := 0) (hi := 1000000000) n hp a b a (by omega)
    obtain ⟨q2, g2, f2⟩ := num_go (lo := 0) (hi := 1000000000) n g1 c d c (by omega)
    refine ⟨q2, g2, ?_⟩
    unfold satP
    rw [f1, bindP_inl, f2, bindP_inl]) h10
  obtain ⟨p12, h12, e12⟩ := must_go n h11
  obtain ⟨p13, h13, e13⟩ := num_go (lo := 1) (hi := 48) n h12 (by have := K.c1; omega) (by have := K.c2; omega) (by omega) (by have := K.c2; omega)
  obtain ⟨p14, h14, e14⟩ := up_go (fun x : CustD => [textV x.load, textV x.opn, textV x.close, textV x.stay]) (fun _ => custP ws n) X.custs 0 (fun q x hq => by
    intro pre post hp
    obtain ⟨⟨a, b⟩, ⟨c, d⟩, ⟨e, f⟩, g, h⟩ := K.cust x (List.mem_of_getElem? hq)
    obtain ⟨q1, g1, f1⟩ := num_go (lo := 1) (hi := 1000000000) n hp a b (by omega) (by omega)
    obtain ⟨q2, g2, f2⟩ := num_go (lo := 0) (hi := 1000000000) n g1 c d c (by omega)
    obtain ⟨q3, g3, f3⟩ := num_go (lo := x.opn) (hi := 1000000000) n g2 e f (by omega) (by omega)
    obtain ⟨q4, g4, f4⟩ := num_go (lo := 0) (hi := 1000000000) n g3 g h g (by omega)
    refine ⟨q4, g4, ?_⟩
    unfold custP
    rw [f1, bindP_inl, f2, bindP_inl, f3, bindP_inl, f4, bindP_inl]) h13
  obtain ⟨p15, h15, e15⟩ := mat_go n sCost (nodesN X) X.cost K.o K.ro K.co h14
  obtain ⟨p16, h16, e16⟩ := mat_go n sTime (nodesN X) X.time K.t K.rt K.ti h15
  obtain ⟨p17, h17, e17⟩ := must_go n h16
  have hlen : p17.length = ws.length := by
    have := congrArg List.length h17
    simpa [texts] using this.symm
  unfold instP
  rw [show (0 : Nat) = ([] : List (List UInt8)).length from rfl, e1, bindP_inl, e2, bindP_inl]
  unfold fleetP
  rw [e3, bindP_inl, e4, bindP_inl, e5, bindP_inl, bindP_inl, e6, bindP_inl, e7, bindP_inl, e8, bindP_inl, bindP_inl]
  unfold instP2
  rw [e9, bindP_inl, e10, bindP_inl, Int.toNat_natCast]
  rw [show upP (fun _ => satP ws n) X.sats.length 0 p10.length = .inl (X.sats, p11.length) from e11, bindP_inl]
  unfold instP3
  rw [e12, bindP_inl, e13, bindP_inl, Int.toNat_natCast]
  rw [show upP (fun _ => custP ws n) X.custs.length 0 p13.length = .inl (X.custs, p14.length) from e14, bindP_inl]
  unfold instP4
  rw [← hN, e15, bindP_inl, e16, bindP_inl, e17, bindP_inl, hlen]
/-- where the words hold no 'end' no instance is read. -/
theorem instP_noend {ws : List WordD} {n : Nat} (h : ∀ w ∈ texts ws, w ≠ L sEnd) {X : InstD} {j : Nat} : instP ws n ≠ .inl (X, j) := fun hi => by
  obtain ⟨_, i1, _, hi⟩ := bindP_ok hi
  obtain ⟨fin, i2, hf, hi⟩ := bindP_ok hi
  obtain ⟨t, i3, ht, hi⟩ := bindP_ok hi
  obtain ⟨b, i4, hb, hi⟩ := bindP_ok hi
  obtain ⟨_, i5, _, hi⟩ := bindP_ok hi
  obtain ⟨m, i6, hm, hi⟩ := bindP_ok hi
  obtain ⟨ss, i7, hs, hi⟩ := bindP_ok hi
  obtain ⟨_, i8, _, hi⟩ := bindP_ok hi
  obtain ⟨mc, i9, hmc, hi⟩ := bindP_ok hi
  obtain ⟨cs, i10, hc, hi⟩ := bindP_ok hi
  obtain ⟨co, i11, ho, hi⟩ := bindP_ok hi
  obtain ⟨ti, i12, hti, hi⟩ := bindP_ok hi
  obtain ⟨_, i13, he, hi⟩ := bindP_ok hi
  obtain ⟨_, hB⟩ := mustP_ok he
  have hl := isB_lt hB
  rw [isB_in hl, decide_eq_true_eq] at hB
  exact h (L ws[i12].text) (List.mem_map.2 ⟨ws[i12], List.getElem_mem hl, rfl⟩) (by rw [hB])
theorem placeN_le {ws : List WordD} {n : Nat} (h : ∀ x ∈ ws, x.pos < n) (i : Nat) : placeN ws i n ≤ n := by
  unfold placeN
  split
  · exact Nat.le_of_lt (h _ (List.getElem_mem _))
  · exact Nat.le_refl _
theorem parseW_noend {ws : List WordD} {n : Nat} (h : ∀ w ∈ texts ws, w ≠ L sEnd) (hp : ∀ x ∈ ws, x.pos < n) : ∃ (a : Nat) (c : Int), parseW ws n = .inr ((a : Int), c) ∧ a ≤ n ∧ c ≠ 0 := by
  unfold parseW
  cases hi : instP ws n with
  | inl y => obtain ⟨X, j⟩ := y; exact absurd hi (instP_noend h)
  | inr e =>
    obtain ⟨a, c⟩ := e
    obtain ⟨k, _, h2, h3⟩ := told_bad hi
    exact ⟨placeN ws k n, c, by dsimp only; rw [h3], placeN_le hp k, h2⟩
theorem parseW_back {ws : List WordD} (n : Nat) {X : InstD} (K : ReadOk X) (h : texts ws = wordsI X) : parseW ws n = .inl X := by
  unfold parseW
  rw [instP_back n K h]
  dsimp only
  rw [if_neg (Nat.lt_irrefl _)]
end Go.Proofs.Ytljcpgeggbbmfaa
namespace Go.Proofs.Ytljcpgeggbbmfaa
set_option linter.unusedVariables false
set_option linter.unusedSimpArgs false
open Go.RowKit
theorem endT_sp (l : List UInt8) : endT (32 :: l) = endT l := rfl
theorem endT_snoc (l : List UInt8) : endT (l ++ [32]) = endT l := by
  unfold endT
  rw [runT_snoc]
  generalize runT l = t
  obtain ⟨o, c, n⟩ := t
  cases n with
  | false =>
    show putT ⟨putT ⟨o, c, false⟩, [], false⟩ = _
    unfold putT
    simp
  | true => rfl
theorem blank_join (ws : List (List UInt8)) : blank ws ++ [32] = 32 :: joinT (ws.map (fun w => (w, [32]))) := by
  induction ws with
  | nil => rfl
  | cons w ws ih =>
    rw [blank_cons, List.map_cons]
    show 32 :: ((w ++ blank ws) ++ [32]) = 32 :: (w ++ ([32] ++ joinT _))
    rw [List.append_assoc, ih]; rfl
theorem end_blank (ws : List (List UInt8)) (h : ∀ w ∈ ws, isW w) : endT (blank ws) = ws := by
  rw [← endT_snoc, blank_join, endT_sp, end_join]
  · rw [List.map_map]; simp [Function.comp_def]
  · intro x hx
    obtain ⟨w, hw, rfl⟩ := List.mem_map.1 hx
    exact ⟨h w hw, gap_a⟩
/-- the words but for the last one. -/
def wordsJ (X : InstD) : List (List UInt8) :=
  L sWharfage :: textV X.fin :: L sTrucks :: textV X.tm :: textV X.tr :: L sBikes :: textV X.bm :: textV X.br :: L sSats :: textV (X.sats.length : Int) ::
    (X.sats.flatMap (fun x => [textV x.room, textV x.hold]) ++ (L sCusts :: textV (X.custs.length : Int) :: (X.custs.flatMap (fun x => [textV x.load, textV x.opn, textV x.close, textV x.stay]) ++
      (L sCost :: (X.cost.flatMap (fun r => r.map textV) ++ (L sTime :: X.time.flatMap (fun r => r.map textV)))))))
theorem words_J (X : InstD) : wordsI X = wordsJ X ++ [L sEnd] := by
  unfold wordsI wordsJ
  simp [List.append_assoc]
theorem wordsJ_all (X : InstD) (Q : List UInt8 → Prop) (hk : ∀ t ∈ [sWharfage, sTrucks, sBikes, sSats, sCusts, sCost, sTime], Q (L t)) (hn : ∀ v, Q (textV v)) : ∀ w ∈ wordsJ X, Q w := by
  intro w hw
  unfold wordsJ at hw
  simp only [List.mem_cons, List.mem_append, List.mem_flatMap, List.mem_map, List.not_mem_nil, or_false] at hw
  rcases hw with h | h | h | h | h | h | h | h | h | h | ⟨x, _, h | h⟩ | h | h | ⟨x, _, h | h | h | h⟩ | h | ⟨r, _, v, _, h⟩ | h | ⟨r, _, v, _, h⟩
  all_goals first
    | (rw [h]; exact hn _)
    | (rw [← h]; exact hn _)
    | (rw [h]; exact hk _ (by simp))
theorem wordsI_all (X : InstD) (Q : List UInt8 → Prop) (hk : ∀ t ∈ [sWharfage, sTrucks, sBikes, sSats, sCusts, sCost, sTime], Q (L t)) (he : Q (L sEnd)) (hn : ∀ v, Q (textV v)) : ∀ w ∈ wordsI X, Q w := by
  intro w hw
  rw [words_J] at hw
  rcases List.mem_append.1 hw with h | h
  · exact wordsJ_all X Q hk hn w h
  · rw [List.mem_singleton.1 h]; exact he
theorem digF_dig : ∀ (f n : Nat), ∀ c ∈ digF f n, 48 ≤ c.toNat ∧ c.toNat ≤ 57
  | 0, n, c, h => by cases h
  | f + 1, n, c, h => by
    unfold digF at h
    split at h
    · rw [List.mem_singleton.1 h, dg_toNat]; omega
    · rcases List.mem_append.1 h with h | h
      · exact digF_dig f _ c h
      · rw [List.mem_singleton.1 h, dg_toNat]; omega
theorem digN_ne (n : Nat) : digN n ≠ [] := by
  unfold digN
  by_cases h : n < 10
  · rw [digF_lo (by omega) h]; simp
  · rw [digF_hi h]; simp
theorem textV_in (v : Int) : textV v ≠ [] ∧ ∀ c ∈ textV v, c.toNat = 45 ∨ (48 ≤ c.toNat ∧ c.toNat ≤ 57) := by
  unfold textV
  split
  · refine ⟨by simp, fun c hc => ?_⟩
    rcases List.mem_cons.1 hc with h | h
    · left; rw [h]; rfl
    · exact .inr (digF_dig _ _ c h)
  · exact ⟨digN_ne _, fun c hc => .inr (digF_dig _ _ c hc)⟩
/-- what all words of an instance are. -/
def okW (w : List UInt8) : Prop := isW w ∧ w.all (fun c => okB c.toNat) = true ∧ w.length ≤ 20
theorem isDel_no {c : Nat} (h : c = 45 ∨ (48 ≤ c ∧ c ≤ 57)) : isDel c = false := by
  unfold isDel
  rw [show (c == 32) = false from by rw [beq_eq_false_iff_ne]; omega, show (c == 10) = false from by rw [beq_eq_false_iff_ne]; omega, show (c == 35) = false from by rw [beq_eq_false_iff_ne]; omega]; rfl
theorem okB_yes {c : Nat} (h : c = 45 ∨ (48 ≤ c ∧ c ≤ 57)) : okB c = true := by
  unfold okB
  rw [decide_eq_true (show 32 ≤ c by omega), decide_eq_true (show c ≤ 126 by omega)]; simp
theorem okW_text (v : Int) : okW (textV v) := by
  obtain ⟨h1, h2⟩ := textV_in v
  exact ⟨⟨h1, fun c hc => isDel_no (h2 c hc)⟩, List.all_eq_true.2 fun c hc => okB_yes (h2 c hc), textV_len v⟩
theorem okW_key : (∀ t ∈ [sWharfage, sTrucks, sBikes, sSats, sCusts, sCost, sTime], okW (L t)) ∧ okW (L sEnd) := by
  unfold okW isW
  decide
theorem okW_I (X : InstD) : ∀ w ∈ wordsI X, okW w := wordsI_all X okW okW_key.1 okW_key.2 okW_text
theorem no101 (X : InstD) : ∀ w ∈ wordsJ X, w.head? ≠ some 101 := by
  refine wordsJ_all X (fun w => w.head? ≠ some 101) (by decide) fun v h => ?_
  obtain ⟨_, h2⟩ := textV_in v
  have := h2 101 (List.mem_of_mem_head? h)
  revert this
  decide
theorem texts_I (X : InstD) : texts (wordsL (textI X)) = wordsI X := by
  show (wordsL (textI X)).map (fun x => L x.text) = _
  rw [words_texts, ← endT_sp, L_textI, end_blank _ (fun w hw => (okW_I X w hw).1)]
theorem blank_all (p : UInt8 → Bool) (h32 : p 32 = true) (ws : List (List UInt8)) (h : ∀ w ∈ ws, w.all p = true) : (blank ws).all p = true := by
  induction ws with
  | nil => rfl
  | cons w ws ih =>
    rw [blank_cons, List.all_cons, List.all_append, h32, h w (List.mem_cons_self), ih (fun x hx => h x (List.mem_cons_of_mem _ hx))]; rfl
theorem okAll_I (X : InstD) : okAll (textI X) = true := by
  have := blank_all (fun c => okB c.toNat) rfl (wordsI X) (fun w hw => (okW_I X w hw).2.1)
  rw [← L_textI, List.all_cons, Bool.and_eq_true] at this
  rw [okAll_iff]
  exact this.2
theorem blank_len (ws : List (List UInt8)) (h : ∀ w ∈ ws, w.length ≤ 20) : (blank ws).length ≤ 21 * ws.length := by
  induction ws with
  | nil => simp [blank]
  | cons w ws ih =>
    rw [blank_cons, List.length_cons, List.length_append, List.length_cons]
    have := ih (fun x hx => h x (List.mem_cons_of_mem _ hx))
    have := h w (List.mem_cons_self)
    omega
theorem flat_len {α β : Type} (f : α → List β) (m : Nat) (l : List α) (h : ∀ x ∈ l, (f x).length = m) : (l.flatMap f).length = m * l.length := by
  induction l with
  | nil => simp
  | cons x l ih =>
    rw [List.flatMap_cons, List.length_append, ih (fun y hy => h y (List.mem_cons_of_mem _ hy)), h x (List.mem_cons_self), List.length_cons, Nat.mul_succ, Nat.add_comm]
theorem wordsI_len {X : InstD} (K : ReadOk X) : (wordsI X).length = 15 + 2 * X.sats.length + 4 * X.custs.length + 2 * (nodesN X * nodesN X) := by
  unfold wordsI
  simp only [List.length_cons, List.length_append, List.length_nil]
  rw [flat_len _ 2 X.sats (fun x _ => rfl), flat_len _ 4 X.custs (fun x _ => rfl), flat_len _ (nodesN X) X.cost (fun r hr => by rw [List.length_map]; exact K.ro r hr), flat_len _ (nodesN X) X.time (fun r hr => by rw [List.length_map]; exact K.rt r hr), K.o, K.t]
  omega
theorem textI_size {X : InstD} (K : ReadOk X) : (textI X).size ≤ 21 * (wordsI X).length := by
  have := blank_len (wordsI X) (fun w hw => (okW_I X w hw).2.2)
  rw [← L_textI, List.length_cons, L_length] at this
  omega
theorem textI_3 (X : InstD) : 3 ≤ (textI X).size ∧ 0 < (wordsI X).length := by
  have h : L (textI X) = L (tx5 X) ++ [32, 101, 110, 100] := by
    unfold textI; rw [L_cat]
  have := congrArg List.length h
  rw [List.length_append, L_length] at this
  refine ⟨by simp at this; omega, ?_⟩
  rw [words_J, List.length_append]; simp
theorem put_pre (c : UInt8) (t : StT) : ∀ w ∈ putT t, ∃ w' ∈ putT (stepT t c), w <+: w' := by
  obtain ⟨o, q, n⟩ := t
  intro w hw
  unfold stepT
  split
  · exact ⟨w, by exact hw, List.prefix_refl _⟩
  · split
    · refine ⟨w, ?_, List.prefix_refl _⟩
      show w ∈ putT ⟨putT ⟨o, q, n⟩, [], _⟩
      unfold putT at hw ⊢
      simpa using hw
    · unfold putT at hw ⊢
      dsimp only at hw ⊢
      rw [if_neg (by simp)]
      split at hw
      · exact ⟨w, List.mem_append_left _ hw, List.prefix_refl _⟩
      · rcases List.mem_append.1 hw with h | h
        · exact ⟨w, List.mem_append_left _ h, List.prefix_refl _⟩
        · rw [List.mem_singleton.1 h]
          exact ⟨q ++ [c], List.mem_append_right _ (List.mem_singleton.2 rfl), List.prefix_append _ _⟩
theorem put_pres : ∀ (l : List UInt8) (t : StT), ∀ w ∈ putT t, ∃ w' ∈ putT (l.foldl stepT t), w <+: w'
  | [], t, w, h => ⟨w, h, List.prefix_refl _⟩
  | c :: l, t, w, h => by
    obtain ⟨w1, h1, p1⟩ := put_pre c t w h
    obtain ⟨w2, h2, p2⟩ := put_pres l (stepT t c) w1 h1
    exact ⟨w2, h2, p1.trans p2⟩
theorem end_pre (a b : List UInt8) : ∀ w ∈ endT a, ∃ w' ∈ endT (a ++ b), w <+: w' := by
  intro w hw
  unfold endT runT at hw ⊢
  rw [List.foldl_append]
  exact put_pres b _ w hw
/-- a beginning that ends ahead of the last word holds no such word. -/
theorem cut_noend (X : InstD) (k : Nat) (hk : k + 3 ≤ (textI X).size) : ∀ w ∈ texts (wordsL ((textI X).extract 0 k)), w ≠ L sEnd := by
  intro w hw he
  have hw2 : w ∈ (wordsL ((textI X).extract 0 k)).map (fun x => L x.text) := hw
  rw [words_texts, L_extract, List.drop_zero] at hw2
  have h : L (textI X) = (L (tx5 X) ++ [32]) ++ [101, 110, 100] := by
    unfold textI; rw [L_cat, List.append_assoc]; rfl
  have hl := congrArg List.length h
  rw [List.length_append, L_length] at hl
  have hkl : k ≤ (L (tx5 X) ++ [32]).length := by simp at hl ⊢; omega
  rw [h, List.take_append_of_le_length hkl] at hw2
  obtain ⟨w', h1, h2⟩ := end_pre _ ((L (tx5 X) ++ [32]).drop k) w hw2
  rw [List.take_append_drop, endT_snoc] at h1
  have hj : 32 :: L (tx5 X) = blank (wordsJ X) := by
    have e := L_textI X
    rw [words_J, blank_app, h] at e
    have e2 : blank [L sEnd] = [32, 101, 110, 100] := rfl
    rw [e2, List.append_assoc, ← List.cons_append] at e
    exact List.append_cancel_right e
  rw [← endT_sp, hj, end_blank _ (fun w hw => (okW_I X w (by rw [words_J]; exact List.mem_append_left _ hw)).1)] at h1
  have := no101 X w' h1
  obtain ⟨t, ht⟩ := h2
  rw [he] at ht
  rw [← ht] at this
  exact this rfl
theorem matM_cell (l : List Nat) (n : Nat) (i : Nat) (r : List Int) (hr : (matM l n)[i]? = some r) (k : Nat) (v : Int) (hv : r[k]? = some v) : 0 ≤ v ∧ v ≤ 1000000000 ∧ (i = k → v = 0) := by
  obtain ⟨hi, e⟩ := List.getElem?_eq_some_iff.1 hr
  rw [matM_length] at hi
  rw [matM_get l n i hi] at hr
  injection hr with hr
  subst hr
  unfold rowM at hv
  rw [List.getElem?_map] at hv
  obtain ⟨q, hq, rfl⟩ := Option.map_eq_some_iff.1 hv
  obtain ⟨hj, hq⟩ := List.getElem?_eq_some_iff.1 hq
  rw [List.getElem_range] at hq
  subst hq
  obtain ⟨a, b, c⟩ := cellM_ok l n i k
  exact ⟨a, by omega, c⟩
theorem matM_row (l : List Nat) (n : Nat) : ∀ r ∈ matM l n, r.length = n := by
  intro r hr
  unfold matM at hr
  obtain ⟨i, _, rfl⟩ := List.mem_map.1 hr
  exact rowM_length _ _ _
theorem mayB_to {n l : Int} (h : mayB n l = true) : l ≤ n ∧ n ≤ 1000000000 := by
  unfold mayB at h
  simpa using h
/-- what Make makes may be read. -/
theorem make_ok {w : World} {S : SmallD} {h : SmallH} (H : SmallIs w S h) : ReadOk (makeI S) := by
  have h1 := satsI_len S
  have h2 := custsI_len S
  have h3 := satsI_may S H.bs
  have h4 := custsI_may S H.bc
  have b1 := H.b1
  have w1 := wide_mul S (S.tr % 40) (by omega)
  have w2 := wide_mul S (S.br % 20) (by omega)
  have w3 := wide_mul S S.fin (by omega)
  refine ⟨h1.1, Nat.le_trans h1.2 (by omega), h2.1, Nat.le_trans h2.2 (by omega), matM_length _ _, matM_length _ _, matM_row _ _, matM_row _ _, ?_, ?_, ?_, ?_, ?_, ?_, ?_, matM_cell _ _, matM_cell _ _⟩
  · show 1 ≤ 1 + ((S.tm % 4 : Nat) : Int) ∧ 1 + ((S.tm % 4 : Nat) : Int) ≤ 60
    omega
  · show 1 ≤ 1 + ((S.bm % 6 : Nat) : Int) ∧ 1 + ((S.bm % 6 : Nat) : Int) ≤ 60
    omega
  · show (0 : Int) ≤ 40 + (S.fin : Int) * wideI S ∧ 40 + (S.fin : Int) * wideI S ≤ 1000000000
    rw [Int.mul_comm]; omega
  · show (0 : Int) ≤ 5 + wideI S * ((S.tr % 40 : Nat) : Int) ∧ 5 + wideI S * ((S.tr % 40 : Nat) : Int) ≤ 1000000000
    omega
  · show (0 : Int) ≤ 3 + wideI S * ((S.br % 20 : Nat) : Int) ∧ 3 + wideI S * ((S.br % 20 : Nat) : Int) ≤ 1000000000
    omega
  · intro x hx
    obtain ⟨a, b⟩ := h3 x hx
    exact ⟨mayB_to a, mayB_to b⟩
  · intro x hx
    obtain ⟨a, b, c, d⟩ := h4 x hx
    exact ⟨⟨a.1, by omega⟩, ⟨b.1, by omega⟩, ⟨c.1, by omega⟩, d.1, by omega⟩
theorem make_text {w : World} {S : SmallD} {h : SmallH} (H : SmallIs w S h) : (textI (makeI S)).size ≤ 5200 ∧ (wordsI (makeI S)).length ≤ 250 := by
  have K := make_ok H
  have h1 := textI_size K
  have h2 := wordsI_len K
  have a := (satsI_len S).2
  have b := (custsI_len S).2
  have e : nodesN (makeI S) = 1 + (satsI S).length + (custsI S).length := rfl
  have hn : nodesN (makeI S) * nodesN (makeI S) ≤ 10 * 10 := Nat.mul_le_mul (by omega) (by omega)
  have e1 : (makeI S).sats.length = (satsI S).length := rfl
  have e2 : (makeI S).custs.length = (custsI S).length := rfl
  rw [e1, e2] at h2
  omega
end Go.Proofs.Ytljcpgeggbbmfaa
namespace Go.Proofs.Ytljcpgeggbbmfaa
set_option linter.unusedVariables false
set_option linter.unusedSimpArgs false
open Go.RowKit
/-- what stands behind a word, by a number. -/
def gapP (q : Nat) : ByteArray := if q % 4 = 0 then ⟨#[32]⟩ else if q % 4 = 1 then ⟨#[10]⟩ else if q % 4 = 2 then ⟨#[32, 32, 10, 32]⟩ else ⟨#[32, 35, 32, 55, 32, 101, 110, 100, 10]⟩
theorem gap_p3 : isGap [32, 32, 10, 32] := gap_of fun _ _ _ => rfl
theorem gap_p4 : isGap [32, 35, 32, 55, 32, 101, 110, 100, 10] := gap_of fun _ _ _ => rfl
theorem gapP_ok (q : Nat) : isGap (L (gapP q)) ∧ (L (gapP q)).length ≤ 9 ∧ (L (gapP q)).all (fun c => okB c.toNat) = true := by
  unfold gapP
  split
  · exact ⟨gap_a, by decide, by decide⟩
  · split
    · exact ⟨gap_b, by decide, by decide⟩
    · split
      · exact ⟨gap_p3, by decide, by decide⟩
      · exact ⟨gap_p4, by decide, by decide⟩
def txtP (ws : List WordD) (i : Nat) : ByteArray := (ws[i]?.map WordD.text).getD ByteArray.empty
theorem txtP_in {ws : List WordD} {i : Nat} (h : i < ws.length) : txtP ws i = ws[i].text := by unfold txtP; rw [List.getElem?_eq_getElem h]; rfl
/-- the text that is built of the words, up to the k-th. -/
def tP (ws : List WordD) (g : Nat → ByteArray) : Nat → ByteArray
  | 0 => ⟨#[]⟩
  | k + 1 => tP ws g k ++ (txtP ws k ++ g k)
theorem tP_mono (ws : List WordD) (g : Nat → ByteArray) {j k : Nat} (h : j ≤ k) : (tP ws g j).size ≤ (tP ws g k).size := by
  induction k with
  | zero => rw [Nat.le_zero.1 h]; exact Nat.le_refl _
  | succ k ih =>
    rcases Nat.lt_or_ge j (k + 1) with h1 | h1
    · have := ih (by omega)
      show _ ≤ (tP ws g k ++ (txtP ws k ++ g k)).size
      rw [ByteArray.size_append]; omega
    · rw [show j = k + 1 by omega]; exact Nat.le_refl _
def pairsP (ws : List WordD) (g : Nat → ByteArray) (k : Nat) : List (List UInt8 × List UInt8) := (List.range k).map fun i => (L (txtP ws i), L (g i))
theorem joinT_app (a b : List (List UInt8 × List UInt8)) : joinT (a ++ b) = joinT a ++ joinT b := by
  induction a with
  | nil => rfl
  | cons x a ih => obtain ⟨p, q⟩ := x; simp only [List.cons_append, joinT, ih, List.append_assoc]
theorem tP_join (ws : List WordD) (g : Nat → ByteArray) : ∀ k, L (tP ws g k) = joinT (pairsP ws g k)
  | 0 => rfl
  | k + 1 => by
    show L (tP ws g k ++ (txtP ws k ++ g k)) = _
    rw [L_cat, L_cat, tP_join ws g k]
    unfold pairsP
    rw [List.range_succ, List.map_append, joinT_app]
    simp [joinT]
theorem pairsP_fst (ws : List WordD) (g : Nat → ByteArray) : (pairsP ws g ws.length).map Prod.fst = texts ws := by
  unfold pairsP texts
  rw [List.map_map]
  apply List.ext_getElem
  · simp
  · intro i h1 h2
    have hi : i < ws.length := by simpa using h1
    simp [txtP_in hi]
theorem joinP_len (l : List (List UInt8 × List UInt8)) (m : Nat) (h : ∀ x ∈ l, x.1.length + x.2.length ≤ m) : (joinT l).length ≤ m * l.length := by
  induction l with
  | nil => simp [joinT]
  | cons x l ih =>
    obtain ⟨p, q⟩ := x
    have h1 := h (p, q) (List.mem_cons_self)
    have h2 := ih (fun x hx => h x (List.mem_cons_of_mem _ hx))
    simp only [joinT, List.length_append, List.length_cons, Nat.mul_succ] at *
    omega
theorem joinP_all (p : UInt8 → Bool) (l : List (List UInt8 × List UInt8)) (h : ∀ x ∈ l, x.1.all p = true ∧ x.2.all p = true) : (joinT l).all p = true := by
  induction l with
  | nil => rfl
  | cons x l ih =>
    obtain ⟨a, b⟩ := x
    obtain ⟨h1, h2⟩ := h (a, b) (List.mem_cons_self)
    simp only [joinT, List.all_append, h1, h2, ih (fun x hx => h x (List.mem_cons_of_mem _ hx))]
    rfl
/-- the text with other gaps: its bytes may stand, it is no longer than so, its words are the instance's. -/
theorem back_t (X : InstD) (ws : List WordD) (hw : texts ws = wordsI X) (g : Nat → ByteArray) (hg : ∀ i, isGap (L (g i)) ∧ (L (g i)).length ≤ 9 ∧ (L (g i)).all (fun c => okB c.toNat) = true) :
    okAll (tP ws g ws.length) = true ∧ (tP ws g ws.length).size ≤ 29 * ws.length ∧ texts (wordsL (tP ws g ws.length)) = wordsI X := by
  have hp : ∀ x ∈ pairsP ws g ws.length, okW x.1 ∧ isGap x.2 ∧ x.2.length ≤ 9 ∧ x.2.all (fun c => okB c.toNat) = true := by
    intro x hx
    obtain ⟨i, hi, rfl⟩ := List.mem_map.1 hx
    have hi := List.mem_range.1 hi
    refine ⟨okW_I X _ ?_, hg i⟩
    rw [← hw, txtP_in hi]
    exact List.mem_map.2 ⟨ws[i], List.getElem_mem hi, rfl⟩
  have hj := tP_join ws g ws.length
  refine ⟨?_, ?_, ?_⟩
  · rw [okAll_iff, hj]
    exact joinP_all _ _ (fun x hx => ⟨(hp x hx).1.2.1, (hp x hx).2.2.2⟩)
  · have := joinP_len (pairsP ws g ws.length) 29 (fun x hx => by have := (hp x hx).1.2.2; have := (hp x hx).2.2.1; omega)
    rw [← hj, L_length] at this
    have e : (pairsP ws g ws.length).length = ws.length := by unfold pairsP; simp
    rwa [e] at this
  · show (wordsL _).map (fun x => L x.text) = _
    rw [words_texts, hj, end_join _ (fun x hx => ⟨(hp x hx).1.1, (hp x hx).2.1⟩), pairsP_fst, hw]
/-- the words of an instance are short. -/
theorem word_short {X : InstD} {ws : List WordD} (hw : texts ws = wordsI X) : ∀ x ∈ ws, x.text.size ≤ 20 := by
  intro x hx
  have : L x.text ∈ wordsI X := by rw [← hw]; exact List.mem_map.2 ⟨x, hx, rfl⟩
  exact (okW_I X _ this).2.2
theorem texts_len {X : InstD} {ws : List WordD} (hw : texts ws = wordsI X) : ws.length = (wordsI X).length := by
  rw [← hw]; simp [texts]
end Go.Proofs.Ytljcpgeggbbmfaa
namespace Go.Proofs.Ytljcpgeggbbmfaa
set_option linter.unusedVariables false
set_option linter.unusedSimpArgs false
open Go.RowKit
theorem num12 (n : Int) (hn : I64 n) (w : World) : Calls Try.prog 22 #[.int .i64 n] w fun e w' => e = .returned (.string (nT n)) ∧ w' = w := (refText_any n w hn).mono fun e w' ⟨he, hw⟩ => ⟨he, hw.symm⟩
theorem num_t {n : Int} {w : World} {T : ByteArray} (h : Calls Try.prog 22 #[.int .i64 n] w fun e w' => e = .returned (.string (nT n)) ∧ w' = w) (hT : nT n = T) : Calls Try.prog 22 #[.int .i64 n] w fun e w' => e = .returned (.string T) ∧ w' = w := by rw [← hT]; exact h
theorem i64_of {n : Int} (h1 : 0 ≤ n) (h2 : n ≤ 1000000000) : I64 n := by unfold I64; omega
theorem fold_snoc {α : Type} (f : α → ByteArray) (a : ByteArray) (l : List α) {k : Nat} (h : k < l.length) : foldTx f a (l.take (k + 1)) = foldTx f a (l.take k) ++ f l[k] := by
  unfold foldTx; rw [List.take_succ_eq_append_getElem h, List.foldl_append]; rfl
theorem mat_snoc (a : ByteArray) (ls : List (List Int)) {k : Nat} (h : k < ls.length) : matTx a (ls.take (k + 1)) = rowTx (matTx a (ls.take k)) ls[k] := by
  unfold matTx; rw [List.take_succ_eq_append_getElem h, List.foldl_append]; rfl
theorem fold_size {α : Type} (f : α → ByteArray) (c : Nat) (l : List α) (h : ∀ x ∈ l, (f x).size ≤ c) : ∀ a : ByteArray, (foldTx f a l).size ≤ a.size + c * l.length := by
  induction l with
  | nil => intro a; exact Nat.le_refl _
  | cons x l ih =>
    intro a
    have h1 := ih (fun y hy => h y (List.mem_cons_of_mem _ hy)) (a ++ f x)
    have h2 := h x (List.mem_cons_self)
    rw [ByteArray.size_append] at h1
    rw [List.length_cons, Nat.mul_succ]
    show (foldTx f (a ++ f x) l).size ≤ _
    omega
theorem b32_size : b32.size = 1 := rfl
theorem satTx_size (x : SatD) : (satTx x).size ≤ 42 := by
  have := nT_size x.room; have := nT_size x.hold
  unfold satTx
  simp only [ByteArray.size_append, b32_size]; omega
theorem custTx_size (x : CustD) : (custTx x).size ≤ 84 := by
  have := nT_size x.load; have := nT_size x.opn; have := nT_size x.close; have := nT_size x.stay
  unfold custTx
  simp only [ByteArray.size_append, b32_size]; omega
theorem cellTx_size (x : Int) : (cellTx x).size ≤ 21 := by
  have := nT_size x
  unfold cellTx
  simp only [ByteArray.size_append, b32_size]; omega
theorem row_size (a : ByteArray) (r : List Int) : (rowTx a r).size ≤ a.size + 21 * r.length := fold_size cellTx 21 r (fun x _ => cellTx_size x) a
theorem mat_size (m : Nat) (ls : List (List Int)) (h : ∀ r ∈ ls, r.length ≤ m) : ∀ a : ByteArray, (matTx a ls).size ≤ a.size + 21 * m * ls.length := by
  induction ls with
  | nil => intro a; exact Nat.le_refl _
  | cons r ls ih =>
    intro a
    have h1 := ih (fun y hy => h y (List.mem_cons_of_mem _ hy)) (rowTx a r)
    have h2 := h r (List.mem_cons_self)
    have h3 := row_size a r
    rw [List.length_cons, Nat.mul_succ]
    show (matTx (rowTx a r) ls).size ≤ _
    omega
theorem headTx_size (X : InstD) : (headTx X).size ≤ 158 := by
  have := nT_size X.fin; have := nT_size X.tm; have := nT_size X.tr; have := nT_size X.bm; have := nT_size X.br; have := nT_size (X.sats.length : Int)
  unfold headTx
  simp only [ByteArray.size_append, b32_size]
  have s0 : (⟨#[119, 104, 97, 114, 102, 97, 103, 101, 32]⟩ : ByteArray).size = 9 := rfl
  have s1 : (⟨#[32, 116, 114, 117, 99, 107, 115, 32]⟩ : ByteArray).size = 8 := rfl
  have s2 : (⟨#[32, 98, 105, 107, 101, 115, 32]⟩ : ByteArray).size = 7 := rfl
  have s3 : (⟨#[32, 115, 97, 116, 101, 108, 108, 105, 116, 101, 115, 32]⟩ : ByteArray).size = 12 := rfl
  rw [s0, s1, s2, s3]; omega
theorem take_len {α : Type} (l : List α) (k m : Nat) (h : l.length ≤ m) : (l.take k).length ≤ m := by rw [List.length_take]; omega
theorem sats_size (X : InstD) (h : X.sats.length ≤ 12) (k : Nat) : (foldTx satTx (headTx X) (X.sats.take k)).size ≤ 662 := by
  have h1 := fold_size satTx 42 (X.sats.take k) (fun x _ => satTx_size x) (headTx X)
  have h2 := headTx_size X
  have h3 := take_len X.sats k 12 h
  omega
theorem tx2_size (X : InstD) (h : X.sats.length ≤ 12) : (tx2 X).size ≤ 693 := by
  have h1 := sats_size X h X.sats.length
  rw [List.take_length] at h1
  have h2 := nT_size (X.custs.length : Int)
  unfold tx2 tx1
  simp only [ByteArray.size_append]
  have s0 : (⟨#[32, 99, 117, 115, 116, 111, 109, 101, 114, 115, 32]⟩ : ByteArray).size = 11 := rfl
  rw [s0]; omega
theorem custs_size (X : InstD) (h : X.sats.length ≤ 12) (hc : X.custs.length ≤ 48) (k : Nat) : (foldTx custTx (tx2 X) (X.custs.take k)).size ≤ 4725 := by
  have h1 := fold_size custTx 84 (X.custs.take k) (fun x _ => custTx_size x) (tx2 X)
  have h2 := tx2_size X h
  have h3 := take_len X.custs k 48 hc
  omega
theorem take_rows (ls : List (List Int)) (k : Nat) (h : ∀ r ∈ ls, r.length ≤ 61) : ∀ r ∈ ls.take k, r.length ≤ 61 := fun r hr => h r (List.mem_of_mem_take hr)
theorem mats_size (a : ByteArray) (ls : List (List Int)) (hl : ls.length ≤ 61) (h : ∀ r ∈ ls, r.length ≤ 61) (k : Nat) : (matTx a (ls.take k)).size ≤ a.size + 78141 := by
  have h1 := mat_size 61 (ls.take k) (take_rows ls k h) a
  have h3 := take_len ls k 61 hl
  have : 21 * 61 * (ls.take k).length ≤ 21 * 61 * 61 := Nat.mul_le_mul_left _ h3
  omega
theorem below_new (w : World) (o : Obj) : Below w.heap.size w (w.alloc o) := (Below.refl _ _).alloc (Nat.le_refl _) o
theorem below_dr (w : World) (n : Nat) : Below w.heap.size w (w.drewN n) := below_drewN (Below.refl _ _) n
/-- a world behind another one: what lies below g is as it was. -/
structure On (g : Nat) (w w1 : World) : Prop where
  b : Below g w w1
  le : g ≤ w1.heap.size
theorem On.go {g : Nat} {w w1 w2 : World} (h : On g w w1) (hb : Below w1.heap.size w1 w2) : On g w w2 := ⟨h.b.trans (hb.mono h.le), Nat.le_trans h.le hb.size⟩
theorem On.alloc {g : Nat} {w w1 : World} (h : On g w w1) (o : Obj) : On g w (w1.alloc o) := h.go (below_new w1 o)
theorem On.drewN {g : Nat} {w w1 : World} (h : On g w w1) (n : Nat) : On g w (w1.drewN n) := h.go (below_drewN (Below.refl _ _) n)
set_option maxHeartbeats 16000000 in
set_option maxRecDepth 100000 in
theorem text12_any (X : InstD) (h : HdD) (K : ReadOk X) (w : World) (H : InstIs w X h) :
    Calls Try.prog 19 #[.agg (instC X h)] w fun e w' => e = .returned (.string (textI X)) ∧ Below w.heap.size w w' := by
  obtain ⟨sa, sc, ca, cc, oa, oc, ta, tc⟩ := h
  obtain ⟨H1, H2, H3, H4, hls, hlc, hlo, hln⟩ := H
  have k12 := K.s2
  have k48 := K.c2
  have n61 : nodesN X ≤ 61 := by unfold nodesN; omega
  have lo61 : X.cost.length ≤ 61 := by rw [K.o]; exact n61
  have lt61 : X.time.length ≤ 61 := by rw [K.t]; exact n61
  have ro61 : ∀ r ∈ X.cost, r.length ≤ 61 := fun r hr => by rw [K.ro r hr]; exact n61
  have rt61 : ∀ r ∈ X.time, r.length ≤ 61 := fun r hr => by rw [K.rt r hr]; exact n61
  have hsat := Lib.hid K.sat
  have hcust := Lib.hid K.cust
  have hco := Lib.hid K.co
  have hti := Lib.hid K.ti
  have i1 : I64 X.fin := i64_of K.fin.1 K.fin.2
  have i2 : I64 X.tm := i64_of (by have := K.tm; omega) (by have := K.tm; omega)
  have i3 : I64 X.tr := i64_of K.tr.1 K.tr.2
  have i4 : I64 X.bm := i64_of (by have := K.bm; omega) (by have := K.bm; omega)
  have i5 : I64 X.br := i64_of K.br.1 K.br.2
  have i6 : I64 (X.sats.length : Int) := i64_of (by omega) (by omega)
  have hF := Lib.hid num12
  replace i1 := Lib.hid i1
  replace i2 := Lib.hid i2
  replace i3 := Lib.hid i3
  replace i4 := Lib.hid i4
  replace i5 := Lib.hid i5
  replace i6 := Lib.hid i6
  have hF7 := Lib.hid (num12 (X.custs.length : Int) (i64_of (by omega) (by omega)))
  have z1 := nT_size X.fin
  have z2 := nT_size X.tm
  have z3 := nT_size X.tr
  have z4 := nT_size X.bm
  have z5 := nT_size X.br
  have z6 := nT_size (X.sats.length : Int)
  have HD : headTx X = (((((((((((⟨#[119, 104, 97, 114, 102, 97, 103, 101, 32]⟩ : ByteArray) ++ nT X.fin) ++ ⟨#[32, 116, 114, 117, 99, 107, 115, 32]⟩) ++ nT X.tm) ++ ⟨#[32]⟩) ++ nT X.tr) ++ ⟨#[32, 98, 105, 107, 101, 115, 32]⟩) ++ nT X.bm) ++ ⟨#[32]⟩) ++ nT X.br) ++ ⟨#[32, 115, 97, 116, 101, 108, 108, 105, 116, 101, 115, 32]⟩) ++ nT (X.sats.length : Int) := rfl
  have hE0 := Lib.hid (sats_size X k12)
  have hE1 : Hid (foldTx satTx (headTx X) X.sats = tx1 X) := Lib.hid rfl
  have hE2 : Hid (tx2 X = tx1 X ++ ((⟨#[32, 99, 117, 115, 116, 111, 109, 101, 114, 115, 32]⟩ : ByteArray) ++ nT (X.custs.length : Int))) := Lib.hid rfl
  have hE3 := Lib.hid (custs_size X k12 k48)
  have hE4 : Hid (foldTx custTx (tx2 X) X.custs = tx3 X) := Lib.hid rfl
  have hE5 : Hid (matTx (tx3 X ++ ⟨#[32, 99, 111, 115, 116]⟩) X.cost = tx4 X) := Lib.hid rfl
  have hE6 : Hid (matTx (tx4 X ++ ⟨#[32, 116, 105, 109, 101]⟩) X.time = tx5 X) := Lib.hid rfl
  have hE7 : Hid (textI X = tx5 X ++ ⟨#[32, 101, 110, 100]⟩) := Lib.hid rfl
  clear K
  have BX := Boxed.new w X ⟨sa, sc, ca, cc, oa, oc, ta, tc⟩ 29
  have BW := (Below.refl w.heap.size w).alloc (Nat.le_refl _) (.cells (instC X ⟨sa, sc, ca, cc, oa, oc, ta, tc⟩) 29)
  dsimp only [instC] at H1 H2 H3 H4 BX BW ⊢
  replace H1 := Lib.hid (H1.below BW)
  replace H2 := Lib.hid (H2.below BW)
  replace H3 := Lib.hid (H3.below BW)
  replace H4 := Lib.hid (H4.below BW)
  replace BX := Lib.hid BX
  replace BW := Lib.hid (On.mk BW BW.size)
  generalize hT1 : nT X.fin = T1 at z1 HD
  replace hT1 := Lib.hid hT1
  generalize hT2 : nT X.tm = T2 at z2 HD
  replace hT2 := Lib.hid hT2
  generalize hT3 : nT X.tr = T3 at z3 HD
  replace hT3 := Lib.hid hT3
  generalize hT4 : nT X.bm = T4 at z4 HD
  replace hT4 := Lib.hid hT4
  generalize hT5 : nT X.br = T5 at z5 HD
  replace hT5 := Lib.hid hT5
  generalize hT6 : nT (X.sats.length : Int) = T6 at z6 HD
  replace hT6 := Lib.hid hT6
  replace HD := Lib.hid HD
  have y1 : ¬ 9223372036854775807 < 9 + T1.size := by omega
  have y2 : ¬ 9223372036854775807 < 9 + T1.size + 8 := by omega
  have y3 : ¬ 9223372036854775807 < 9 + T1.size + 8 + T2.size := by omega
  have y4 : ¬ 9223372036854775807 < 9 + T1.size + 8 + T2.size + 1 := by omega
  have y5 : ¬ 9223372036854775807 < 9 + T1.size + 8 + T2.size + 1 + T3.size := by omega
  have y6 : ¬ 9223372036854775807 < 9 + T1.size + 8 + T2.size + 1 + T3.size + 7 := by omega
  have y7 : ¬ 9223372036854775807 < 9 + T1.size + 8 + T2.size + 1 + T3.size + 7 + T4.size := by omega
  have y8 : ¬ 9223372036854775807 < 9 + T1.size + 8 + T2.size + 1 + T3.size + 7 + T4.size + 1 := by omega
  have y9 : ¬ 9223372036854775807 < 9 + T1.size + 8 + T2.size + 1 + T3.size + 7 + T4.size + 1 + T5.size := by omega
  have y10 : ¬ 9223372036854775807 < 9 + T1.size + 8 + T2.size + 1 + T3.size + 7 + T4.size + 1 + T5.size + 12 := by omega
  have y11 : ¬ 9223372036854775807 < 9 + T1.size + 8 + T2.size + 1 + T3.size + 7 + T4.size + 1 + T5.size + 12 + T6.size := by omega
  clear z1 z2 z3 z4 z5 z6
  go_enter Try.func19, Try.ntmps19
  go_upto_region 1 with fail
  go_cut [3] (fun v wx => v = .string (headTx X) ∧ ∃ nq, wx = (w.alloc (.cells #[.int .i64 X.fin, .int .i64 X.tm, .int .i64 X.tr, .int .i64 X.bm, .int .i64 X.br, .slice sa X.sats.length sc, .slice ca X.custs.length cc, .slice oa X.cost.length oc, .slice ta X.time.length tc] 29)).drewN nq)
  case first =>
    go_quiet ((go_at_call 22; exact Calls.quiet_of_same (num_t (hF.out _ (by first | exact i1.out | exact i2.out | exact i3.out | exact i4.out | exact i5.out | exact i6.out) _) (by first | exact hT1.out | exact hT2.out | exact hT3.out | exact hT4.out | exact hT5.out | exact hT6.out))))
    go_wp2_with fail
    go_meet
    exact ⟨by rw [HD.out], _, rfl⟩
  case rest =>
  obtain ⟨rfl, nq, rfl⟩ := hcut
  clear y1 y2 y3 y4 y5 y6 y7 y8 y9 y10 y11 i1 i2 i3 i4 i5 i6 hT1 hT2 hT3 hT4 hT5 hT6 HD T1 T2 T3 T4 T5 T6

  have hD := below_dr (w.alloc (.cells #[.int .i64 X.fin, .int .i64 X.tm, .int .i64 X.tr, .int .i64 X.bm, .int .i64 X.br, .slice sa X.sats.length sc, .slice ca X.custs.length cc, .slice oa X.cost.length oc, .slice ta X.time.length tc] 29)) nq
  replace H1 := Lib.hid (H1.out.below hD)
  replace H2 := Lib.hid (H2.out.below hD)
  replace H3 := Lib.hid (H3.out.below hD)
  replace H4 := Lib.hid (H4.out.below hD)
  replace BX := Lib.hid (BX.out.below hD)
  replace BW := Lib.hid (BW.out.go hD)
  clear hD
  generalize (w.alloc (.cells #[.int .i64 X.fin, .int .i64 X.tm, .int .i64 X.tr, .int .i64 X.bm, .int .i64 X.br, .slice sa X.sats.length sc, .slice ca X.custs.length cc, .slice oa X.cost.length oc, .slice ta X.time.length tc] 29)).drewN nq = W at *
  have d5 := BX.out.2 5 _ rfl
  generalize hg0 : w.heap.size = g0 at *
  replace hg0 := Lib.hid hg0
  go_wp2_with fail
  clear d5
  go_loopw [3, 51] (fun v i wr => ∃ k : Nat, k ≤ X.sats.length ∧ i = .int .i64 k ∧ v = .string (foldTx satTx (headTx X) (X.sats.take k)) ∧ Below W.heap.size W wr) (fun _ i _ => X.sats.length - (intOf i).toNat)
  case atStart => exact ⟨0, Nat.zero_le _, rfl, rfl, Below.refl _ _⟩
  case round =>
    obtain ⟨k, hk, rfl, rfl, hb⟩ := hrel
    by_cases hlt : k < X.sats.length
    · obtain ⟨b, off, rfl, hc1, hc2⟩ := (H1.out.below hb).sat hlt
      have HS := fold_snoc satTx (headTx X) X.sats hlt
      have zs := hE0.out k
      obtain ⟨⟨i1, i2⟩, i3, i4⟩ := hsat.out X.sats[k] (List.getElem_mem hlt)
      have j1 := i64_of i1 i2
      have j2 := i64_of i3 i4
      have u1 := nT_size X.sats[k].room
      have u2 := nT_size X.sats[k].hold
      have hT : satTx X.sats[k] = (((⟨#[32]⟩ : ByteArray) ++ nT X.sats[k].room) ++ ⟨#[32]⟩) ++ nT X.sats[k].hold := rfl
      rw [hT] at HS
      clear hT i1 i2 i3 i4
      generalize X.sats[k] = x at *
      generalize hT1 : nT x.room = T1 at *
      generalize hT2 : nT x.hold = T2 at *
      replace hT1 := Lib.hid hT1
      replace hT2 := Lib.hid hT2
      have i1 := Lib.hid j1
      have i2 := Lib.hid j2
      clear j1 j2
      generalize foldTx satTx (headTx X) (X.sats.take k) = T at *
      replace HS := Lib.hid HS
      have y1 : ¬ 9223372036854775807 < 1 + T1.size := by omega
      have y2 : ¬ 9223372036854775807 < 1 + T1.size + 1 := by omega
      have y3 : ¬ 9223372036854775807 < 1 + T1.size + 1 + T2.size := by omega
      have y4 : ¬ 9223372036854775807 < T.size + (1 + T1.size + 1 + T2.size) := by omega
      clear zs u1 u2
      have hbz := Lib.hid hb
      clear hb
      go_upto_region 5 with fail
      go_quiet ((go_at_call 22; exact Calls.quiet_of_same (num_t (hF.out _ (by first | exact i1.out | exact i2.out) _) (by first | exact hT1.out | exact hT2.out))))
      go_wp2_with fail
      go_roundw
      case rel => exact ⟨k + 1, by omega, by go_num, by rw [HS.out], below_drewN (hbz.out.alloc hbz.out.size _) _⟩
      case measure => simp [intOf]; omega
    · obtain rfl : k = X.sats.length := by omega
      have zs := hE0.out X.sats.length
      rw [List.take_length, hE1.out] at zs ⊢
      have hE2' := hE2.out
      have uc := nT_size (X.custs.length : Int)
      have hF7' := hF7.out
      generalize tx1 X = T at *
      generalize nT (X.custs.length : Int) = T7 at hE2' uc hF7'
      clear hE2 hE1 hF7 hE0
      replace hE2' := Lib.hid hE2'
      replace hF7' := Lib.hid hF7'
      have y1 : ¬ 9223372036854775807 < 11 + T7.size := by omega
      have y2 : ¬ 9223372036854775807 < T.size + (11 + T7.size) := by omega
      clear zs uc
      replace H2 := Lib.hid (H2.out.below hb)
      replace H3 := Lib.hid (H3.out.below hb)
      replace H4 := Lib.hid (H4.out.below hb)
      replace BX := Lib.hid (BX.out.below hb)
      replace BW := Lib.hid (BW.out.go hb)
      have d6 := BX.out.2 6 _ rfl
      clear hb hlt hk H1
      go_wp2_with fail
      refine (hF7'.out _).mono ?_
      rintro e w9 ⟨rfl, rfl⟩
      go_wp2_with fail
      clear d6 y1 y2
      obtain ⟨W1, rfl⟩ : ∃ W1 : World, W1 = w9 := ⟨_, rfl⟩
      go_loopw [3, 77] (fun v i wr => ∃ k : Nat, k ≤ X.custs.length ∧ i = .int .i64 k ∧ v = .string (foldTx custTx (tx2 X) (X.custs.take k)) ∧ Below W1.heap.size W1 wr) (fun _ i _ => X.custs.length - (intOf i).toNat)
      case atStart => exact ⟨0, Nat.zero_le _, rfl, by rw [← hE2'.out]; rfl, Below.refl _ _⟩
      case round =>
        clear hE2' hF7'
        obtain ⟨k, hk, rfl, rfl, hb⟩ := hrel
        by_cases hlt : k < X.custs.length
        · obtain ⟨b, off, rfl, hc1, hc2, hc3, hc4⟩ := (H2.out.below hb).cust hlt
          have HS := fold_snoc custTx (tx2 X) X.custs hlt
          have zs := hE3.out k
          obtain ⟨⟨i1, i2⟩, ⟨i3, i4⟩, ⟨i5, i6⟩, i7, i8⟩ := hcust.out X.custs[k] (List.getElem_mem hlt)
          have j1 := i64_of (n := X.custs[k].load) (by omega) i2
          have j2 := i64_of i3 i4
          have j3 := i64_of (n := X.custs[k].close) (by omega) i6
          have j4 := i64_of i7 i8
          have u1 := nT_size X.custs[k].load
          have u2 := nT_size X.custs[k].opn
          have u3 := nT_size X.custs[k].close
          have u4 := nT_size X.custs[k].stay
          have hT : custTx X.custs[k] = ((((((((⟨#[32]⟩ : ByteArray) ++ nT X.custs[k].load) ++ ⟨#[32]⟩) ++ nT X.custs[k].opn) ++ ⟨#[32]⟩) ++ nT X.custs[k].close) ++ ⟨#[32]⟩) ++ nT X.custs[k].stay) := rfl
          rw [hT] at HS
          clear hT i1 i2 i3 i4 i5 i6 i7 i8
          generalize X.custs[k] = x at *
          generalize hT1 : nT x.load = T1 at *
          generalize hT2 : nT x.opn = T2 at *
          generalize hT3 : nT x.close = T3 at *
          generalize hT4 : nT x.stay = T4 at *
          replace hT1 := Lib.hid hT1
          replace hT2 := Lib.hid hT2
          replace hT3 := Lib.hid hT3
          replace hT4 := Lib.hid hT4
          have i1 := Lib.hid j1
          have i2 := Lib.hid j2
          have i3 := Lib.hid j3
          have i4 := Lib.hid j4
          clear j1 j2 j3 j4
          generalize foldTx custTx (tx2 X) (X.custs.take k) = T at *
          replace HS := Lib.hid HS
          have y1 : ¬ 9223372036854775807 < 1 + T1.size := by omega
          have y2 : ¬ 9223372036854775807 < 1 + T1.size + 1 := by omega
          have y3 : ¬ 9223372036854775807 < 1 + T1.size + 1 + T2.size := by omega
          have y4 : ¬ 9223372036854775807 < 1 + T1.size + 1 + T2.size + 1 := by omega
          have y5 : ¬ 9223372036854775807 < 1 + T1.size + 1 + T2.size + 1 + T3.size := by omega
          have y6 : ¬ 9223372036854775807 < 1 + T1.size + 1 + T2.size + 1 + T3.size + 1 := by omega
          have y7 : ¬ 9223372036854775807 < 1 + T1.size + 1 + T2.size + 1 + T3.size + 1 + T4.size := by omega
          have y8 : ¬ 9223372036854775807 < T.size + (1 + T1.size + 1 + T2.size + 1 + T3.size + 1 + T4.size) := by omega
          clear zs u1 u2 u3 u4
          have hbz := Lib.hid hb
          clear hb
          go_upto_region 11 with fail
          go_quiet ((go_at_call 22; exact Calls.quiet_of_same (num_t (hF.out _ (by first | exact i1.out | exact i2.out | exact i3.out | exact i4.out) _) (by first | exact hT1.out | exact hT2.out | exact hT3.out | exact hT4.out))))
          go_wp2_with fail
          go_roundw
          case rel => exact ⟨k + 1, by omega, by go_num, by rw [HS.out], below_drewN (hbz.out.alloc hbz.out.size _) _⟩
          case measure => simp [intOf]; omega
        · obtain rfl : k = X.custs.length := by omega
          have z3 := hE3.out X.custs.length
          rw [List.take_length, hE4.out] at z3 ⊢
          have z4 := mats_size (tx3 X ++ ⟨#[32, 99, 111, 115, 116]⟩) X.cost lo61 ro61 X.cost.length
          have z5 := mats_size (tx4 X ++ ⟨#[32, 116, 105, 109, 101]⟩) X.time lt61 rt61 X.time.length
          rw [List.take_length, hE5.out, ByteArray.size_append, show (⟨#[32, 99, 111, 115, 116]⟩ : ByteArray).size = 5 from rfl] at z4
          rw [List.take_length, hE6.out, ByteArray.size_append, show (⟨#[32, 116, 105, 109, 101]⟩ : ByteArray).size = 5 from rfl] at z5
          replace H3 := Lib.hid (H3.out.below hb)
          replace H4 := Lib.hid (H4.out.below hb)
          replace BX := Lib.hid (BX.out.below hb)
          replace BW := Lib.hid (BW.out.go hb)
          have d7 := BX.out.2 7 _ rfl
          have d8 := BX.out.2 8 _ rfl
          clear hb hlt hk H2 hE3
          obtain ⟨TN, hTN⟩ : ∃ TN : Nat → ByteArray, TN = fun k => match k with | 0 => tx3 X | 1 => tx4 X | _ => tx5 X := ⟨_, rfl⟩
          have t0 : tx3 X = TN 0 := (congrFun hTN 0).symm
          have t1 : tx4 X = TN 1 := (congrFun hTN 1).symm
          have t2 : tx5 X = TN 2 := (congrFun hTN 2).symm
          clear hTN
          rw [t0] at z3 z4 hE5 ⊢
          rw [t1] at z4 z5 hE5 hE6
          rw [t2] at z5 hE6 hE7
          clear t0 t1 t2 hE4
          go_wp2_with fail
          clear d7 d8
          have hN := Lib.hid (below_new wr (.cells #[.slice oa X.cost.length oc, .slice ta X.time.length tc] 27))
          have m0 : Hid ((wr.alloc (.cells #[.slice oa X.cost.length oc, .slice ta X.time.length tc] 27)).cell? ⟨wr.heap.size, 0, none⟩ = some (.slice oa X.cost.length oc)) := Lib.hid (cells_new wr #[.slice oa X.cost.length oc, .slice ta X.time.length tc] 27 0 _ rfl)
          have m1 : Hid ((wr.alloc (.cells #[.slice oa X.cost.length oc, .slice ta X.time.length tc] 27)).cell? ⟨wr.heap.size, 1, none⟩ = some (.slice ta X.time.length tc)) := Lib.hid (cells_new wr #[.slice oa X.cost.length oc, .slice ta X.time.length tc] 27 1 _ rfl)
          replace H3 := Lib.hid (H3.out.below hN.out)
          replace H4 := Lib.hid (H4.out.below hN.out)
          replace BW := Lib.hid (BW.out.go hN.out)
          clear hN
          generalize wr.alloc (.cells #[.slice oa X.cost.length oc, .slice ta X.time.length tc] 27) = W2 at *
          generalize wr.heap.size = g2 at *
          go_loopw [3, 109] (fun v i wr => ∃ k : Nat, k ≤ 2 ∧ i = .int .i64 k ∧ v = .string (TN k) ∧ Below W2.heap.size W2 wr) (fun _ i _ => 2 - (intOf i).toNat)
          case atStart => exact ⟨0, by omega, rfl, rfl, Below.refl _ _⟩
          case round =>
            obtain ⟨k, hk, rfl, rfl, hb⟩ := hrel
            rcases Nat.lt_or_ge k 2 with hlt | hge
            · rcases Nat.lt_or_ge k 1 with h01 | h01

              · obtain rfl : k = 0 := by omega
                have d0 := keep_cell hb m0.out
                have hR := Lib.hid (H3.out.below hb)
                have hbz := Lib.hid (keep_below (Below.refl _ _) hb)
                have zk : ¬ 9223372036854775807 < (TN 0).size + 5 := by omega
                clear hb
                go_wp2_with fail
                clear d0 zk
                have hN := Lib.hid (below_new wr (.cells #[.string ⟨#[32, 99, 111, 115, 116]⟩, .string ⟨#[32, 116, 105, 109, 101]⟩] 9))
                replace hR := Lib.hid (hR.out.below hN.out)
                replace hbz := Lib.hid (keep_below hbz.out hN.out)
                clear hN
                generalize wr.alloc (.cells #[.string ⟨#[32, 99, 111, 115, 116]⟩, .string ⟨#[32, 116, 105, 109, 101]⟩] 9) = W3 at *
                go_loop [3, 122] (fun v i => ∃ j : Nat, j ≤ X.cost.length ∧ i = .int .i64 j ∧ v = .string (matTx (TN 0 ++ ⟨#[32, 99, 111, 115, 116]⟩) (X.cost.take j))) (fun _ i => X.cost.length - (intOf i).toNat)
                case atStart => exact ⟨0, by omega, rfl, rfl⟩
                case round =>
                  obtain ⟨j, hj, rfl, rfl⟩ := hrel
                  by_cases hjl : j < X.cost.length
                  · obtain ⟨b, off, a, c, rfl, hc, hr, HA⟩ := hR.out.row hjl
                    have HS := Lib.hid (mat_snoc (TN 0 ++ ⟨#[32, 99, 111, 115, 116]⟩) X.cost hjl)
                    have zj := mats_size (TN 0 ++ ⟨#[32, 99, 111, 115, 116]⟩) X.cost lo61 ro61 j
                    rw [ByteArray.size_append, show (⟨#[32, 99, 111, 115, 116]⟩ : ByteArray).size = 5 from rfl] at zj
                    have hr61 := ro61 X.cost[j] (List.getElem_mem hjl)
                    have hv := Lib.hid (hco.out j X.cost[j] (List.getElem?_eq_getElem hjl))
                    replace HA := Lib.hid HA
                    generalize X.cost[j] = r at *
                    generalize matTx (TN 0 ++ ⟨#[32, 99, 111, 115, 116]⟩) (X.cost.take j) = T at *
                    go_wp2_with fail
                    go_loop [3, 128] (fun v i => ∃ q : Nat, q ≤ r.length ∧ i = .int .i64 q ∧ v = .string (rowTx T (r.take q))) (fun _ i => r.length - (intOf i).toNat)
                    case atStart => exact ⟨0, by omega, rfl, rfl⟩
                    case round =>
                      obtain ⟨q, hq, rfl, rfl⟩ := hrel
                      by_cases hql : q < r.length
                      · obtain ⟨b', off', rfl, hc'⟩ := HA.out.num hql
                        have HS2 := fold_snoc cellTx T r hql
                        have zq := row_size T (r.take q)
                        have zq2 := take_len r q 61 hr61
                        obtain ⟨v1, v2, _⟩ := hv.out q r[q] (List.getElem?_eq_getElem hql)
                        have G1 := num12 r[q] (i64_of v1 v2)
                        have u1 := nT_size r[q]
                        have hT : cellTx r[q] = (⟨#[32]⟩ : ByteArray) ++ nT r[q] := rfl
                        rw [hT] at HS2
                        clear hT v1 v2
                        generalize r[q] = n at *
                        generalize nT n = T1 at *
                        have HS3 : Hid (rowTx T (r.take (q + 1)) = rowTx T (r.take q) ++ (⟨#[32]⟩ ++ T1)) := Lib.hid HS2
                        clear HS2
                        generalize rowTx T (r.take q) = T2 at *
                        replace G1 := Lib.hid G1
                        have y1 : ¬ 9223372036854775807 < 1 + T1.size := by omega
                        have y2 : ¬ 9223372036854775807 < T2.size + (1 + T1.size) := by omega
                        clear zq zq2 u1 zj
                        go_wp2_with fail
                        refine (G1.out _).mono ?_
                        rintro e w9 ⟨rfl, rfl⟩
                        go_wp2_with fail
                        go_round
                        case rel => exact ⟨q + 1, by omega, by go_num, by rw [HS3.out]⟩
                        case measure => simp [intOf]; omega
                      · obtain rfl : q = r.length := by omega
                        go_wp2_with fail
                        go_round
                        case rel =>
                          refine ⟨_, _, _, _, ⟨j + 1, by omega, rfl, ?_⟩, rfl, rfl, rfl, by go_num⟩
                          rw [HS.out]
                        case measure => simp [intOf]; omega
                  · obtain rfl : j = X.cost.length := by omega
                    rw [List.take_length, hE5.out]
                    go_wp2_with fail
                    go_roundw
                    case rel => exact ⟨1, by omega, rfl, rfl, hbz.out⟩
                    case measure => simp [intOf]
              · obtain rfl : k = 1 := by omega
                have d0 := keep_cell hb m1.out
                have hR := Lib.hid (H4.out.below hb)
                have hbz := Lib.hid (keep_below (Below.refl _ _) hb)
                have zk : ¬ 9223372036854775807 < (TN 1).size + 5 := by omega
                clear hb
                go_wp2_with fail
                clear d0 zk
                have hN := Lib.hid (below_new wr (.cells #[.string ⟨#[32, 99, 111, 115, 116]⟩, .string ⟨#[32, 116, 105, 109, 101]⟩] 9))
                replace hR := Lib.hid (hR.out.below hN.out)
                replace hbz := Lib.hid (keep_below hbz.out hN.out)
                clear hN
                generalize wr.alloc (.cells #[.string ⟨#[32, 99, 111, 115, 116]⟩, .string ⟨#[32, 116, 105, 109, 101]⟩] 9) = W3 at *
                go_loop [3, 122] (fun v i => ∃ j : Nat, j ≤ X.time.length ∧ i = .int .i64 j ∧ v = .string (matTx (TN 1 ++ ⟨#[32, 116, 105, 109, 101]⟩) (X.time.take j))) (fun _ i => X.time.length - (intOf i).toNat)
                case atStart => exact ⟨0, by omega, rfl, rfl⟩
                case round =>
                  obtain ⟨j, hj, rfl, rfl⟩ := hrel
                  by_cases hjl : j < X.time.length
                  · obtain ⟨b, off, a, c, rfl, hc, hr, HA⟩ := hR.out.row hjl
                    have HS := Lib.hid (mat_snoc (TN 1 ++ ⟨#[32, 116, 105, 109, 101]⟩) X.time hjl)
                    have zj := mats_size (TN 1 ++ ⟨#[32, 116, 105, 109, 101]⟩) X.time lt61 rt61 j
                    rw [ByteArray.size_append, show (⟨#[32, 116, 105, 109, 101]⟩ : ByteArray).size = 5 from rfl] at zj
                    have hr61 := rt61 X.time[j] (List.getElem_mem hjl)
                    have hv := Lib.hid (hti.out j X.time[j] (List.getElem?_eq_getElem hjl))
                    replace HA := Lib.hid HA
                    generalize X.time[j] = r at *
                    generalize matTx (TN 1 ++ ⟨#[32, 116, 105, 109, 101]⟩) (X.time.take j) = T at *
                    go_wp2_with fail
                    go_loop [3, 128] (fun v i => ∃ q : Nat, q ≤ r.length ∧ i = .int .i64 q ∧ v = .string (rowTx T (r.take q))) (fun _ i => r.length - (intOf i).toNat)
                    case atStart => exact ⟨0, by omega, rfl, rfl⟩
                    case round =>
                      obtain ⟨q, hq, rfl, rfl⟩ := hrel
                      by_cases hql : q < r.length
                      · obtain ⟨b', off', rfl, hc'⟩ := HA.out.num hql
                        have HS2 := fold_snoc cellTx T r hql
                        have zq := row_size T (r.take q)
                        have zq2 := take_len r q 61 hr61
                        obtain ⟨v1, v2, _⟩ := hv.out q r[q] (List.getElem?_eq_getElem hql)
                        have G1 := num12 r[q] (i64_of v1 v2)
                        have u1 := nT_size r[q]
                        have hT : cellTx r[q] = (⟨#[32]⟩ : ByteArray) ++ nT r[q] := rfl
                        rw [hT] at HS2
                        clear hT v1 v2
                        generalize r[q] = n at *
                        generalize nT n = T1 at *
                        have HS3 : Hid (rowTx T (r.take (q + 1)) = rowTx T (r.take q) ++ (⟨#[32]⟩ ++ T1)) := Lib.hid HS2
                        clear HS2
                        generalize rowTx T (r.take q) = T2 at *
                        replace G1 := Lib.hid G1
                        have y1 : ¬ 9223372036854775807 < 1 + T1.size := by omega
                        have y2 : ¬ 9223372036854775807 < T2.size + (1 + T1.size) := by omega
                        clear zq zq2 u1 zj
                        go_wp2_with fail
                        refine (G1.out _).mono ?_
                        rintro e w9 ⟨rfl, rfl⟩
                        go_wp2_with fail
                        go_round
                        case rel => exact ⟨q + 1, by omega, by go_num, by rw [HS3.out]⟩
                        case measure => simp [intOf]; omega
                      · obtain rfl : q = r.length := by omega
                        go_wp2_with fail
                        go_round
                        case rel =>
                          refine ⟨_, _, _, _, ⟨j + 1, by omega, rfl, ?_⟩, rfl, rfl, rfl, by go_num⟩
                          rw [HS.out]
                        case measure => simp [intOf]; omega
                  · obtain rfl : j = X.time.length := by omega
                    rw [List.take_length, hE6.out]
                    go_wp2_with fail
                    go_roundw
                    case rel => exact ⟨2, by omega, rfl, rfl, hbz.out⟩
                    case measure => simp [intOf]
            · obtain rfl : k = 2 := by omega
              have hbz := Lib.hid (BW.out.go hb)
              have yk : ¬ 9223372036854775807 < (TN 2).size + 4 := by omega
              clear hb
              go_wp2_with fail
              go_ret
              exact ⟨by rw [hE7.out]; rfl, by first | exact hbz.out.b | (rw [hg0.out]; exact hbz.out.b)⟩
end Go.Proofs.Ytljcpgeggbbmfaa
