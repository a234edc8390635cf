/-
  What is read of an instance's words; of a beginning of its text (layer 12): no program in sight.
-/
import Derived.Test.YtljcpgeggbbmfaaInstT
import Derived.Test.YtljcpgeggbbmfaaTE
namespace Go.Proofs.Ytljcpgeggbbmfaa
set_option linter.unusedVariables false
set_option linter.unusedSimpArgs false
open Go.RowKit
abbrev texts (ws : List WordD) : List (List UInt8) := ws.map (fun x => L x.text)
theorem text_at {ws : List WordD} {pre post : List (List UInt8)} {t : List UInt8} (h : texts ws = pre ++ t :: post) : ∃ hi : pre.length < ws.length, L ws[pre.length].text = t := by
  have h1 : (texts ws)[pre.length]? = some t := by rw [h]; simp
  unfold texts at h1
  rw [List.getElem?_map] at h1
  obtain ⟨x, hx, he⟩ := Option.map_eq_some_iff.1 h1
  obtain ⟨hi, hx⟩ := List.getElem?_eq_some_iff.1 hx
  exact ⟨hi, by rw [hx]; exact he⟩
theorem must_go {ws : List WordD} (n : Nat) {pre post : List (List UInt8)} {t : ByteArray} (h : texts ws = pre ++ L t :: post) : ∃ pre', texts ws = pre' ++ post ∧ mustP ws n t pre.length = .inl ((), pre'.length) := by
  obtain ⟨hi, he⟩ := text_at h
  refine ⟨pre ++ [L t], by rw [h]; simp, ?_⟩
  unfold mustP
  rw [isB_in hi, decide_eq_true (L_eq he)]
  simp
theorem num_go {ws : List WordD} (n : Nat) {pre post : List (List UInt8)} {lo hi v : Int} (h : texts ws = pre ++ textV v :: post) (h1 : lo ≤ v) (h2 : v ≤ hi) (h0 : 0 ≤ v) (h9 : v ≤ 1000000000000000) : ∃ pre', texts ws = pre' ++ post ∧ numP ws n lo hi pre.length = .inl (v, pre'.length) := by
  obtain ⟨hil, he⟩ := text_at h
  refine ⟨pre ++ [textV v], by rw [h]; simp, ?_⟩
  obtain ⟨p1, p2⟩ := parse_text v (by omega)
  have hok : okNum (textV v) = true := by rw [p1]; exact decide_eq_true ⟨h0, h9⟩
  have hpv : parseV (textV v) = v := by unfold parseV; rw [hok]; exact p2 h0
  unfold numP
  rw [dif_pos hil, he, hok, hpv, if_pos rfl, if_neg (by omega)]
  simp
theorem up_go {α : Type} {ws : List WordD} (enc : α → List (List UInt8)) (g : Nat → Nat → PR α) : ∀ (l : List α) (k : Nat) {pre post : List (List UInt8)},
    (∀ q x, l[q]? = some x → ∀ {pre post : List (List UInt8)}, texts ws = pre ++ (enc x ++ post) → ∃ pre', texts ws = pre' ++ post ∧ g (k + q) pre.length = .inl (x, pre'.length)) →
    texts ws = pre ++ (l.flatMap enc ++ post) → ∃ pre', texts ws = pre' ++ post ∧ upP g l.length k pre.length = .inl (l, pre'.length)
  | [], k, pre, post, hg, h => ⟨pre, by simpa using h, rfl⟩
  | x :: l, k, pre, post, hg, h => by
    rw [List.flatMap_cons, List.append_assoc] at h
    obtain ⟨p1, h1, e1⟩ := hg 0 x rfl h
    obtain ⟨p2, h2, e2⟩ := up_go enc g l (k + 1) (fun q y hy => by
      have := @hg (q + 1) y (by simpa using hy)
      intro pre post hp
      rw [show k + 1 + q = k + (q + 1) by omega]
      exact this hp) h1
    refine ⟨p2, h2, ?_⟩
    show bindP (g k pre.length) _ = _
    rw [Nat.add_zero] at e1
    rw [e1, bindP_inl, e2]; rfl
theorem map_flat (r : List Int) : r.map textV = r.flatMap (fun v => [textV v]) := by
  induction r with
  | nil => rfl
  | cons x r ih => rw [List.map_cons, List.flatMap_cons, ih]; rfl
theorem mat_go {ws : List WordD} (n : Nat) (t : ByteArray) (m : Nat) (ls : List (List Int)) (hl : ls.length = m) (hr : ∀ r ∈ ls, r.length = m) (hv : ∀ (i : Nat) (r : List Int), ls[i]? = some r → ∀ (k : Nat) (v : Int), r[k]? = some v → 0 ≤ v ∧ v ≤ 1000000000 ∧ (i = k → v = 0))
    {pre post : List (List UInt8)} (h : texts ws = pre ++ (L t :: (ls.flatMap (fun r => r.map textV) ++ post))) : ∃ pre', texts ws = pre' ++ post ∧ matP ws n t m pre.length = .inl (ls, pre'.length) := by
  obtain ⟨p1, h1, e1⟩ := must_go n h
  subst hl
  obtain ⟨p2, h2, e2⟩ := up_go (fun r : List Int => r.map textV) (rowP ws n ls.length) ls 0 (fun q r hq => by
    intro pre post hp
    have hrl := hr r (List.mem_of_getElem? hq)
    have hp2 : texts ws = pre ++ (r.flatMap (fun v => [textV v]) ++ post) := by rw [hp, map_flat]
    obtain ⟨p3, h3, e3⟩ := up_go (fun v : Int => [textV v]) (cellP ws n q) r 0 (fun k v hk => by
      intro pre post hp
      obtain ⟨a, b, c⟩ := hv q r hq k v hk
      unfold cellP
      rw [Nat.zero_add]
      by_cases e : q = k
      · rw [if_pos e]
        exact num_go n hp a (by rw [c e]; omega) a (by omega)
      · rw [if_neg e]
        exact num_go n hp a b a (by omega)) hp2
    refine ⟨p3, h3, ?_⟩
    unfold rowP
    rw [Nat.zero_add, ← hrl]; exact e3) h1
  refine ⟨p2, h2, ?_⟩
  unfold matP
  rw [e1, bindP_inl]; exact e2
theorem instP_back {ws : List WordD} (n : Nat) {X : InstD} (K : ReadOk X) (h : texts ws = wordsI X) : instP ws n = .inl (X, ws.length) := by
  have hN : nodesN X = 1 + X.sats.length + X.custs.length := rfl
  have h0 : texts ws = [] ++ wordsI X := h
  unfold wordsI at h0
  obtain ⟨p1, h1, e1⟩ := must_go n h0
  obtain ⟨p2, h2, e2⟩ := num_go (lo := 0) (hi := 1000000000) n h1 K.fin.1 K.fin.2 K.fin.1 (by have := K.fin; omega)
  obtain ⟨p3, h3, e3⟩ := must_go n h2
  obtain ⟨p4, h4, e4⟩ := num_go (lo := 1) (hi := 60) n h3 K.tm.1 K.tm.2 (by have := K.tm; omega) (by have := K.tm; omega)
  obtain ⟨p5, h5, e5⟩ := num_go (lo := 0) (hi := 1000000000) n h4 K.tr.1 K.tr.2 K.tr.1 (by have := K.tr; omega)
  obtain ⟨p6, h6, e6⟩ := must_go n h5
  obtain ⟨p7, h7, e7⟩ := num_go (lo := 1) (hi := 60) n h6 K.bm.1 K.bm.2 (by have := K.bm; omega) (by have := K.bm; omega)
  obtain ⟨p8, h8, e8⟩ := num_go (lo := 0) (hi := 1000000000) n h7 K.br.1 K.br.2 K.br.1 (by have := K.br; omega)
  obtain ⟨p9, h9, e9⟩ := must_go n h8
  obtain ⟨p10, h10, e10⟩ := num_go (lo := 1) (hi := 12) n h9 (by have := K.s1; omega) (by have := K.s2; omega) (by omega) (by have := K.s2; omega)
  obtain ⟨p11, h11, e11⟩ := up_go (fun x : SatD => [textV x.room, textV x.hold]) (fun _ => satP ws n) X.sats 0 (fun q x hq => by
    intro pre post hp
    obtain ⟨⟨a, b⟩, c, d⟩ := K.sat x (List.mem_of_getElem? hq)
    obtain ⟨q1, g1, f1⟩ := num_go (lo := 0) (hi := 1000000000) n hp a b a (by omega)
    obtain ⟨q2, g2, f2⟩ := num_go (lo := 0) (hi := 1000000000) n g1 c d c (by omega)
    refine ⟨q2, g2, ?_⟩
    unfold satP
    rw [f1, bindP_inl, f2, bindP_inl]) h10
  obtain ⟨p12, h12, e12⟩ := must_go n h11
  obtain ⟨p13, h13, e13⟩ := num_go (lo := 1) (hi := 48) n h12 (by have := K.c1; omega) (by have := K.c2; omega) (by omega) (by have := K.c2; omega)
  obtain ⟨p14, h14, e14⟩ := up_go (fun x : CustD => [textV x.load, textV x.opn, textV x.close, textV x.stay]) (fun _ => custP ws n) X.custs 0 (fun q x hq => by
    intro pre post hp
    obtain ⟨⟨a, b⟩, ⟨c, d⟩, ⟨e, f⟩, g, h⟩ := K.cust x (List.mem_of_getElem? hq)
    obtain ⟨q1, g1, f1⟩ := num_go (lo := 1) (hi := 1000000000) n hp a b (by omega) (by omega)
    obtain ⟨q2, g2, f2⟩ := num_go (lo := 0) (hi := 1000000000) n g1 c d c (by omega)
    obtain ⟨q3, g3, f3⟩ := num_go (lo := x.opn) (hi := 1000000000) n g2 e f (by omega) (by omega)
    obtain ⟨q4, g4, f4⟩ := num_go (lo := 0) (hi := 1000000000) n g3 g h g (by omega)
    refine ⟨q4, g4, ?_⟩
    unfold custP
    rw [f1, bindP_inl, f2, bindP_inl, f3, bindP_inl, f4, bindP_inl]) h13
  obtain ⟨p15, h15, e15⟩ := mat_go n sCost (nodesN X) X.cost K.o K.ro K.co h14
  obtain ⟨p16, h16, e16⟩ := mat_go n sTime (nodesN X) X.time K.t K.rt K.ti h15
  obtain ⟨p17, h17, e17⟩ := must_go n h16
  have hlen : p17.length = ws.length := by
    have := congrArg List.length h17
    simpa [texts] using this.symm
  unfold instP
  rw [show (0 : Nat) = ([] : List (List UInt8)).length from rfl, e1, bindP_inl, e2, bindP_inl]
  unfold fleetP
  rw [e3, bindP_inl, e4, bindP_inl, e5, bindP_inl, bindP_inl, e6, bindP_inl, e7, bindP_inl, e8, bindP_inl, bindP_inl]
  unfold instP2
  rw [e9, bindP_inl, e10, bindP_inl, Int.toNat_natCast]
  rw [show upP (fun _ => satP ws n) X.sats.length 0 p10.length = .inl (X.sats, p11.length) from e11, bindP_inl]
  unfold instP3
  rw [e12, bindP_inl, e13, bindP_inl, Int.toNat_natCast]
  rw [show upP (fun _ => custP ws n) X.custs.length 0 p13.length = .inl (X.custs, p14.length) from e14, bindP_inl]
  unfold instP4
  rw [← hN, e15, bindP_inl, e16, bindP_inl, e17, bindP_inl, hlen]
/-- where the words hold no 'end' no instance is read. -/
theorem instP_noend {ws : List WordD} {n : Nat} (h : ∀ w ∈ texts ws, w ≠ L sEnd) {X : InstD} {j : Nat} : instP ws n ≠ .inl (X, j) := fun hi => by
  obtain ⟨_, i1, _, hi⟩ := bindP_ok hi
  obtain ⟨fin, i2, hf, hi⟩ := bindP_ok hi
  obtain ⟨t, i3, ht, hi⟩ := bindP_ok hi
  obtain ⟨b, i4, hb, hi⟩ := bindP_ok hi
  obtain ⟨_, i5, _, hi⟩ := bindP_ok hi
  obtain ⟨m, i6, hm, hi⟩ := bindP_ok hi
  obtain ⟨ss, i7, hs, hi⟩ := bindP_ok hi
  obtain ⟨_, i8, _, hi⟩ := bindP_ok hi
  obtain ⟨mc, i9, hmc, hi⟩ := bindP_ok hi
  obtain ⟨cs, i10, hc, hi⟩ := bindP_ok hi
  obtain ⟨co, i11, ho, hi⟩ := bindP_ok hi
  obtain ⟨ti, i12, hti, hi⟩ := bindP_ok hi
  obtain ⟨_, i13, he, hi⟩ := bindP_ok hi
  obtain ⟨_, hB⟩ := mustP_ok he
  have hl := isB_lt hB
  rw [isB_in hl, decide_eq_true_eq] at hB
  exact h (L ws[i12].text) (List.mem_map.2 ⟨ws[i12], List.getElem_mem hl, rfl⟩) (by rw [hB])
theorem placeN_le {ws : List WordD} {n : Nat} (h : ∀ x ∈ ws, x.pos < n) (i : Nat) : placeN ws i n ≤ n := by
  unfold placeN
  split
  · exact Nat.le_of_lt (h _ (List.getElem_mem _))
  · exact Nat.le_refl _
theorem parseW_noend {ws : List WordD} {n : Nat} (h : ∀ w ∈ texts ws, w ≠ L sEnd) (hp : ∀ x ∈ ws, x.pos < n) : ∃ (a : Nat) (c : Int), parseW ws n = .inr ((a : Int), c) ∧ a ≤ n ∧ c ≠ 0 := by
  unfold parseW
  cases hi : instP ws n with
  | inl y => obtain ⟨X, j⟩ := y; exact absurd hi (instP_noend h)
  | inr e =>
    obtain ⟨a, c⟩ := e
    obtain ⟨k, _, h2, h3⟩ := told_bad hi
    exact ⟨placeN ws k n, c, by dsimp only; rw [h3], placeN_le hp k, h2⟩
theorem parseW_back {ws : List WordD} (n : Nat) {X : InstD} (K : ReadOk X) (h : texts ws = wordsI X) : parseW ws n = .inl X := by
  unfold parseW
  rw [instP_back n K h]
  dsimp only
  rw [if_neg (Nat.lt_irrefl _)]
end Go.Proofs.Ytljcpgeggbbmfaa
