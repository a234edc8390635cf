/-
  The walks of word.Reader's methods (layer 5).
-/
import Derived.Test.YtljcpgeggbbmfaaSplit
import Derived.Test.YtljcpgeggbbmfaaParse
import Derived.Deep.QuietTactic
import Derived.BigQuiet
namespace Go.Proofs.Ytljcpgeggbbmfaa
set_option linter.unusedVariables false
set_option linter.unusedSimpArgs false
open Go.RowKit
/-- block p is a reader of the words ws of a text of n bytes, ahead of the i-th. -/
structure RdrIs (w : World) (p : Nat) (A : Option Addr) (C : Nat) (ws : List WordD) (i n : Nat) : Prop where
  blk : w.heap[p]? = some (.cells #[.slice A ws.length C, .int .i64 (i : Int), .int .i64 (n : Int)] 114 (0, 0))
  rd : Rd w A (ws.flatMap wordV)
  lt : ∀ a, A = some a → a.block < p
  hi : i ≤ ws.length
  le : ws.length ≤ 131073
theorem RdrIs.below {w w' : World} {p : Nat} {A : Option Addr} {C : Nat} {ws : List WordD} {i n : Nat} (h : RdrIs w p A C ws i n) (hb : Below w.heap.size w w') : RdrIs w' p A C ws i n :=
  ⟨(hb.block p (heap_lt h.blk)).trans h.blk, h.rd.below hb, h.lt, h.hi, h.le⟩
theorem RdrIs.drew {w : World} {p : Nat} {A : Option Addr} {C : Nat} {ws : List WordD} {i n : Nat} (h : RdrIs w p A C ws i n) : RdrIs w.drew p A C ws i n := ⟨h.blk, h.rd, h.lt, h.hi, h.le⟩
theorem RdrIs.set {w : World} {p : Nat} {A : Option Addr} {C : Nat} {ws : List WordD} {i n : Nat} (h : RdrIs w p A C ws i n) (j : Nat) (hj : j ≤ ws.length) : RdrIs (w.setCell ⟨p, 1, none⟩ (.int .i64 (j : Int))) p A C ws j n :=
  ⟨heap_set w p 1 _ _ _ h.blk, fun hne => by
    obtain ⟨b, off, e, hc⟩ := h.rd hne
    refine ⟨b, off, e, fun q u hu => ?_⟩
    have hlt := h.lt _ e
    have hb : b < p := hlt
    exact (World.cell?_of_block (heap_setCell_other w ⟨p, 1, none⟩ b _ (by show b ≠ p; omega))).trans (hc q u hu), h.lt, hj, h.le⟩
theorem RdrIs.cells {w : World} {p : Nat} {A : Option Addr} {C : Nat} {ws : List WordD} {i n : Nat} (h : RdrIs w p A C ws i n) : w.cell? ⟨p, 0, none⟩ = some (.slice A ws.length C) ∧ w.cell? ⟨p, 1, none⟩ = some (.int .i64 (i : Int)) ∧ w.cell? ⟨p, 2, none⟩ = some (.int .i64 (n : Int)) ∧ w.frozen? ⟨p, 1, none⟩ = false :=
  ⟨cell_of_row w p 0 _ _ _ h.blk, cell_of_row w p 1 _ _ _ h.blk, cell_of_row w p 2 _ _ _ h.blk, frozen_of_row w p 1 _ _ h.blk⟩
theorem wordV_get (l : List WordD) (k : Nat) (h : k < l.length) : (l.flatMap wordV)[k * 2]? = some (.string l[k].text) ∧ (l.flatMap wordV)[k * 2 + 1]? = some (.int .i64 (l[k].pos : Int)) := by
  induction l generalizing k with
  | nil => simp at h
  | cons s l ih =>
    cases k with
    | zero => exact ⟨rfl, rfl⟩
    | succ k =>
      have := ih k (by simpa using h)
      rw [List.flatMap_cons, show (k + 1) * 2 = k * 2 + 1 + 1 by omega]
      exact this
theorem Rd.word {w : World} {A : Option Addr} {l : List WordD} (h : Rd w A (l.flatMap wordV)) {k : Nat} (hk : k < l.length) :
    ∃ b off, A = some ⟨b, off, none⟩ ∧ w.cell? ⟨b, off + k * 2, none⟩ = some (.string l[k].text) ∧ w.cell? ⟨b, off + k * 2 + 1, none⟩ = some (.int .i64 (l[k].pos : Int)) := by
  obtain ⟨g1, g2⟩ := wordV_get l k hk
  obtain ⟨b, off, e, hc⟩ := h (fun e => by rw [e] at g1; cases g1)
  exact ⟨b, off, e, hc _ _ g1, hc _ _ g2⟩
/-- where the next word begins; behind the last one the text's length. -/
def placeN (ws : List WordD) (i n : Nat) : Nat := if h : i < ws.length then ws[i].pos else n
theorem placeN_in {ws : List WordD} {i n : Nat} (h : i < ws.length) : placeN ws i n = ws[i].pos := by unfold placeN; rw [dif_pos h]
theorem placeN_end {ws : List WordD} {i n : Nat} (h : ¬ i < ws.length) : placeN ws i n = n := by unfold placeN; rw [dif_neg h]
/-- what a method leaves that only looks: an ending, and what was there. -/
def Looks (w : World) (e0 : Ending) (e : Ending) (w' : World) : Prop := e = e0 ∧ ∃ nq, w' = w.drewN nq
set_option maxHeartbeats 1600000 in
theorem place_any (p : Nat) (A : Option Addr) (C : Nat) (ws : List WordD) (i n : Nat) (w : World) (R : RdrIs w p A C ws i n) :
    Calls Try.prog 70 #[.pointer (some ⟨p, 0, none⟩)] w (Looks w (.returned (.int .i64 (placeN ws i n : Int)))) := by
  obtain ⟨c0, c1, c2, _⟩ := R.cells
  by_cases h : i < ws.length
  · obtain ⟨b, off, rfl, hc1, hc2⟩ := R.rd.word h
    have k0 : (0 : Int) ≤ (i : Int) := by omega
    have k1 : (i : Int) < (ws.length : Int) := by omega
    have hp := Lib.hid (placeN_in (n := n) h)
    generalize ws[i] = x at *
    replace R := Lib.hid R
    go_enter Try.func70, Try.ntmps70
    go_wp2_with fail
    go_quiet (fail)
    go_wp2_with fail
    go_quiet (fail)
    go_wp2_with fail
    go_ret
    exact ⟨ret_int (by rw [hp.out]), _, by rw [World.drewN_drewN]⟩
  · have k1 : ¬ (i : Int) < (ws.length : Int) := by omega
    have hp := Lib.hid (placeN_end (n := n) h)
    replace R := Lib.hid R
    go_enter Try.func70, Try.ntmps70
    go_wp2_with fail
    go_quiet (fail)
    go_wp2_with fail
    go_ret
    exact ⟨ret_int (by rw [hp.out]), _, rfl⟩
set_option maxHeartbeats 1600000 in
theorem more_any (p : Nat) (A : Option Addr) (C : Nat) (ws : List WordD) (i n : Nat) (b : Bool) (hb : Hid (decide (i < ws.length) = b)) (w : World) (R : RdrIs w p A C ws i n) :
    Calls Try.prog 60 #[.pointer (some ⟨p, 0, none⟩)] w (Looks w (.returned (.bool b))) := by
  obtain ⟨c0, c1, c2, _⟩ := R.cells
  by_cases h : i < ws.length
  · have k1 : (i : Int) < (ws.length : Int) := by omega
    have hv := Lib.hid (decide_eq_true h)
    replace R := Lib.hid R
    go_enter Try.func60, Try.ntmps60
    go_wp2_with fail
    go_quiet (fail)
    go_wp2_with fail
    go_ret
    exact ⟨ret_bool (by rw [← hb.out, hv.out]), _, rfl⟩
  · have k1 : ¬ (i : Int) < (ws.length : Int) := by omega
    have hv := Lib.hid (decide_eq_false h)
    replace R := Lib.hid R
    go_enter Try.func60, Try.ntmps60
    go_wp2_with fail
    go_quiet (fail)
    go_wp2_with fail
    go_ret
    exact ⟨ret_bool (by rw [← hb.out, hv.out]), _, rfl⟩
/-- the fault that a reader throws. -/
def faultV (a c : Int) : Value := .iface 111 (.agg #[.int .i64 a, .int .i64 c])
def PanEnd (a c : Int) : Ending := .panicked [{ v := faultV a c, recovered := false }]
set_option maxHeartbeats 1600000 in
theorem fail_any (p : Nat) (A : Option Addr) (C : Nat) (ws : List WordD) (i n : Nat) (c : Int) (w : World) (R : RdrIs w p A C ws i n) :
    Calls Try.prog 61 #[.pointer (some ⟨p, 0, none⟩), .int .i64 c] w (Looks w (PanEnd (placeN ws i n : Int) c)) := by
  have hq := Lib.hid (place_any p A C ws i n w R)
  clear R
  go_enter Try.func61, Try.ntmps61
  go_wp2_with fail
  refine hq.out.mono ?_
  rintro e w' ⟨rfl, nq, rfl⟩
  go_wp2_with fail
  exact ⟨rfl, rfl, nq, rfl⟩
/-- what a method leaves that may go on: in memory only the reader's block has turned. -/
def Moved (w : World) (p : Nat) (A : Option Addr) (C : Nat) (ws : List WordD) (i n : Nat) (e0 : Ending) (e : Ending) (w' : World) : Prop := e = e0 ∧ RdrIs w' p A C ws i n ∧ w.grownBy w' (some p)
theorem RdrIs.drewN {w : World} {p : Nat} {A : Option Addr} {C : Nat} {ws : List WordD} {i n : Nat} (h : RdrIs w p A C ws i n) (q : Nat) : RdrIs (w.drewN q) p A C ws i n := ⟨h.blk, h.rd, h.lt, h.hi, h.le⟩
theorem grown_drewN (w : World) (q : Nat) (r : Option Nat) : w.grownBy (w.drewN q) r := ⟨rfl, rfl, rfl, Nat.le_refl _, fun _ _ _ => rfl⟩
theorem Looks.moved {w : World} {p : Nat} {A : Option Addr} {C : Nat} {ws : List WordD} {i n : Nat} {e0 e : Ending} {w' : World} (h : Looks w e0 e w') (R : RdrIs w p A C ws i n) : Moved w p A C ws i n e0 e w' := by
  obtain ⟨he, q, rfl⟩ := h
  exact ⟨he, R.drewN q, grown_drewN w q _⟩
/-- is the next word this? -/
def isB (ws : List WordD) (i : Nat) (t : ByteArray) : Bool := if h : i < ws.length then decide (ws[i].text = t) else false
theorem isB_end {ws : List WordD} {i : Nat} {t : ByteArray} (h : ¬ i < ws.length) : isB ws i t = false := by unfold isB; rw [dif_neg h]
theorem isB_in {ws : List WordD} {i : Nat} {t : ByteArray} (h : i < ws.length) : isB ws i t = decide (ws[i].text = t) := by unfold isB; rw [dif_pos h]
theorem isB_lt {ws : List WordD} {i : Nat} {t : ByteArray} (h : isB ws i t = true) : i < ws.length := by
  by_cases hi : i < ws.length
  · exact hi
  · rw [isB_end hi] at h; cases h
theorem toList_inj {a b : ByteArray} (h : a.toList = b.toList) : a = b := by
  rw [ByteArray.toList_eq, ByteArray.toList_eq] at h
  exact ByteArray.ext (Array.ext' h)
set_option maxHeartbeats 3200000 in
theorem is_no (p : Nat) (A : Option Addr) (C : Nat) (ws : List WordD) (i n : Nat) (t : ByteArray) (w : World) (R : RdrIs w p A C ws i n) (h : isB ws i t = false) :
    Calls Try.prog 62 #[.pointer (some ⟨p, 0, none⟩), .string t] w (Looks w (.returned (.bool false))) := by
  obtain ⟨c0, c1, c2, _⟩ := R.cells
  by_cases hi : i < ws.length
  · obtain ⟨b, off, rfl, hc1, hc2⟩ := R.rd.word hi
    have k0 : (0 : Int) ≤ (i : Int) := by omega
    have k1 : (i : Int) < (ws.length : Int) := by omega
    rw [isB_in hi, decide_eq_false_iff_not] at h
    generalize ws[i] = x at *
    have hq : (x.text.toList == t.toList) = false := by rw [beq_eq_false_iff_ne]; exact fun e => h (toList_inj e)
    replace R := Lib.hid R
    clear h
    go_enter Try.func62, Try.ntmps62
    go_wp2_with fail
    go_quiet (fail)
    go_wp2_with fail
    go_ret
    exact ⟨rfl, _, rfl⟩
  · have k1 : ¬ (i : Int) < (ws.length : Int) := by omega
    replace R := Lib.hid R
    clear h
    go_enter Try.func62, Try.ntmps62
    go_wp2_with fail
    go_quiet (fail)
    go_wp2_with fail
    go_ret
    exact ⟨rfl, _, rfl⟩
set_option maxHeartbeats 3200000 in
theorem is_yes (p : Nat) (A : Option Addr) (C : Nat) (ws : List WordD) (i n : Nat) (t : ByteArray) (w : World) (R : RdrIs w p A C ws i n) (h : isB ws i t = true) :
    Calls Try.prog 62 #[.pointer (some ⟨p, 0, none⟩), .string t] w (Moved w p A C ws (i + 1) n (.returned (.bool true))) := by
  obtain ⟨c0, c1, c2, c3⟩ := R.cells
  have hi := isB_lt h
  obtain ⟨b, off, rfl, hc1, hc2⟩ := R.rd.word hi
  have k0 : (0 : Int) ≤ (i : Int) := by omega
  have k1 : (i : Int) < (ws.length : Int) := by omega
  have k2 : (ws.length : Int) ≤ 131073 := by have := R.le; omega
  rw [isB_in hi, decide_eq_true_eq] at h
  generalize ws[i] = x at *
  have hq : (x.text.toList == t.toList) = true := by rw [beq_iff_eq, h]
  have hS := fun q => (R.drewN q).set (i + 1) hi
  have hG := fun q => grown_trans1 (grown_drewN w q (some p)) (grown_set (w.drewN q) ⟨p, 1, none⟩ (.int .i64 ((i + 1 : Nat) : Int)))
  have e1 : ((i + 1 : Nat) : Int) = (i : Int) + 1 := by omega
  rw [e1] at hS hG
  replace hS := Lib.hid hS
  replace hG := Lib.hid hG
  replace R := Lib.hid R
  clear h e1
  go_enter Try.func62, Try.ntmps62
  go_wp2_with fail
  go_quiet (fail)
  go_wp2_with fail
  go_ret
  exact ⟨rfl, hS.out _, hG.out _⟩
theorem isB_place {ws : List WordD} {i n : Nat} {t : ByteArray} : True := trivial
set_option maxHeartbeats 1600000 in
theorem must_yes (p : Nat) (A : Option Addr) (C : Nat) (ws : List WordD) (i n : Nat) (t : ByteArray) (w : World) (R : RdrIs w p A C ws i n) (h : isB ws i t = true) :
    Calls Try.prog 31 #[.pointer (some ⟨p, 0, none⟩), .string t] w (Moved w p A C ws (i + 1) n (.returned (.tuple #[]))) := by
  have hq := Lib.hid (is_yes p A C ws i n t w R h)
  clear R
  go_enter Try.func31, Try.ntmps31
  go_wp2_with fail
  refine hq.out.mono ?_
  rintro e w' ⟨rfl, hR, hG⟩
  replace hR := Lib.hid hR
  replace hG := Lib.hid hG
  go_wp2_with fail
  go_end0
  exact ⟨rfl, hR.out, hG.out⟩
set_option maxHeartbeats 1600000 in
theorem must_no (p : Nat) (A : Option Addr) (C : Nat) (ws : List WordD) (i n : Nat) (t : ByteArray) (w : World) (R : RdrIs w p A C ws i n) (h : isB ws i t = false) :
    Calls Try.prog 31 #[.pointer (some ⟨p, 0, none⟩), .string t] w (Looks w (PanEnd (placeN ws i n : Int) 5)) := by
  have hq := Lib.hid (is_no p A C ws i n t w R h)
  have hf := Lib.hid (fun q => fail_any p A C ws i n 5 (w.drewN q) (R.drewN q))
  clear R
  go_enter Try.func31, Try.ntmps31
  go_wp2_with fail
  refine hq.out.mono ?_
  rintro e w' ⟨rfl, nq, rfl⟩
  go_wp2_with fail
  refine (hf.out nq).mono ?_
  rintro e w' ⟨rfl, nq2, rfl⟩
  unfold PanEnd
  go_wp2_with fail
  exact ⟨rfl, rfl, _, rfl⟩
theorem parse_is (s : ByteArray) (v : Int) (b : Bool) (hv : Hid (parseV (L s) = v)) (hb : Hid (okNum (L s) = b)) (w : World) (hs : s.size ≤ 9223372036854775807) :
    Calls Try.prog 63 #[.string s] w fun e w' => e = .returned (.tuple #[.int .i64 v, .bool b]) ∧ Below w.heap.size w w' :=
  (parse_any s w hs).mono fun e w' ⟨he, hw⟩ => ⟨by unfold ParseEnd at he; rw [he, hv.out, hb.out], hw⟩
set_option maxHeartbeats 1600000 in
theorem num_none (p : Nat) (A : Option Addr) (C : Nat) (ws : List WordD) (i n : Nat) (from_ to_ : Int) (w : World) (R : RdrIs w p A C ws i n) (h : ¬ i < ws.length) :
    Calls Try.prog 32 #[.pointer (some ⟨p, 0, none⟩), .int .i64 from_, .int .i64 to_] w (Looks w (PanEnd (placeN ws i n : Int) 3)) := by
  obtain ⟨c0, c1, c2, _⟩ := R.cells
  have k1 : (ws.length : Int) ≤ (i : Int) := by omega
  have hf := Lib.hid (fun q => fail_any p A C ws i n 3 (w.drewN q) (R.drewN q))
  replace R := Lib.hid R
  go_enter Try.func32, Try.ntmps32
  go_wp2_with fail
  go_quiet (fail)
  go_wp2_with fail
  refine (hf.out _).mono ?_
  rintro e w' ⟨rfl, nq2, rfl⟩
  unfold PanEnd
  go_wp2_with fail
  exact ⟨rfl, rfl, _, rfl⟩
theorem below_grown {w w' : World} (h : Below w.heap.size w w') (p : Nat) : w.grownBy w' (some p) := ⟨h.os, h.tape, h.output, h.size, fun k hk _ => h.block k hk⟩
/-- what Number comes to, where there is a word: the ending, and where the reader stands behind it. -/
def numE (ws : List WordD) (i n : Nat) (x : WordD) (from_ to_ : Int) : Ending × Nat :=
  if okNum (L x.text) then (if parseV (L x.text) < from_ ∨ to_ < parseV (L x.text) then (PanEnd (placeN ws i n : Int) 2, i) else (.returned (.int .i64 (parseV (L x.text))), i + 1)) else (PanEnd (placeN ws i n : Int) 3, i)
set_option maxHeartbeats 8000000 in
set_option maxRecDepth 100000 in
theorem num_some (p : Nat) (A : Option Addr) (C : Nat) (ws : List WordD) (i n : Nat) (from_ to_ : Int) (w : World) (R : RdrIs w p A C ws i n) (h : i < ws.length) (hsz : ws[i].text.size ≤ 9223372036854775807) :
    Calls Try.prog 32 #[.pointer (some ⟨p, 0, none⟩), .int .i64 from_, .int .i64 to_] w (fun e w' => Moved w p A C ws (numE ws i n ws[i] from_ to_).2 n (numE ws i n ws[i] from_ to_).1 e w') := by
  obtain ⟨c0, c1, c2, c3⟩ := R.cells
  obtain ⟨b, off, rfl, hc1, hc2⟩ := R.rd.word h
  have k0 : (0 : Int) ≤ (i : Int) := by omega
  have k1 : (i : Int) < (ws.length : Int) := by omega
  have k3 : (ws.length : Int) ≤ 131073 := by have := R.le; omega
  have hi := Lib.hid h
  generalize ws[i] = x at *
  have hp := R.lt _ rfl
  have hpw := heap_lt R.blk
  have hbw : b < w.heap.size := by have : b < p := hp; omega
  have hE : Hid (numE ws i n x from_ to_ = if okNum (L x.text) then (if parseV (L x.text) < from_ ∨ to_ < parseV (L x.text) then (PanEnd (placeN ws i n : Int) 2, i) else (.returned (.int .i64 (parseV (L x.text))), i + 1)) else (PanEnd (placeN ws i n : Int) 3, i)) := Lib.hid rfl
  generalize numE ws i n x from_ to_ = E at *
  obtain ⟨v, hv⟩ : ∃ v, parseV (L x.text) = v := ⟨_, rfl⟩
  obtain ⟨ok, hok⟩ : ∃ ok, okNum (L x.text) = ok := ⟨_, rfl⟩
  rw [hv, hok] at hE
  replace hv := Lib.hid hv
  replace hok := Lib.hid hok
  have hb0 := Below.refl w.heap.size w
  have KS : ∀ w' : World, Below w.heap.size w w' → w'.cell? ⟨p, 0, none⟩ = some (.slice (some ⟨b, off, none⟩) ws.length C) ∧ w'.cell? ⟨p, 1, none⟩ = some (.int .i64 (i : Int)) ∧ w'.cell? ⟨b, off + i * 2, none⟩ = some (.string x.text) ∧ w'.frozen? ⟨p, 1, none⟩ = false ∧ Below w.heap.size w w' := fun w' hb => ⟨keep_cell hb c0, keep_cell hb c1, keep_cell hb hc1, by rw [World.frozen?_of_block (hb.block p hpw)]; exact c3, hb⟩
  have KB : ∀ w' : World, (w'.cell? ⟨p, 0, none⟩ = some (.slice (some ⟨b, off, none⟩) ws.length C) ∧ w'.cell? ⟨p, 1, none⟩ = some (.int .i64 (i : Int)) ∧ w'.cell? ⟨b, off + i * 2, none⟩ = some (.string x.text) ∧ w'.frozen? ⟨p, 1, none⟩ = false ∧ Below w.heap.size w w') → Below w.heap.size w w' := fun w' h => h.2.2.2.2
  replace KB := Lib.hid KB
  replace KS := Lib.hid KS
  replace R := Lib.hid R
  have hf := Lib.hid (fun (c : Int) (w' : World) (hb : Below w.heap.size w w') => fail_any p (some ⟨b, off, none⟩) C ws i n c w' (R.out.below hb))
  go_enter Try.func32, Try.ntmps32
  go_wp2_with fail
  go_quiet (fail)
  go_upto_region 3 with fail
  cases ok
  · go_region_held3 (fun w' => w'.cell? ⟨p, 0, none⟩ = some (.slice (some ⟨b, off, none⟩) ws.length C) ∧ w'.cell? ⟨p, 1, none⟩ = some (.int .i64 (i : Int)) ∧ w'.cell? ⟨b, off + i * 2, none⟩ = some (.string x.text) ∧ w'.frozen? ⟨p, 1, none⟩ = false ∧ Below w.heap.size w w')
      (first | exact KS.out _ (below_drewN hb0 _).drew | exact KS.out _ (keep_below (KB.out _ (by assumption)) (by assumption)))
      (first | (go_at_call 63; refine (parse_is x.text v false hv hok _ hsz).mono ?_; rintro e w1 ⟨rfl, hb⟩))
    have hB := KB.out _ (by assumption)
    have hfw := Lib.hid (hf.out 3 _ hB)
    go_wp2_with fail
    refine hfw.out.mono ?_
    rintro e w' ⟨rfl, nq2, rfl⟩
    unfold PanEnd
    go_wp2_with fail
    refine ⟨rfl, ?_⟩
    rw [hE.out]
    exact ⟨rfl, (R.out.below hB).drewN nq2, grown_trans1 (below_grown hB p) (grown_drewN _ _ _)⟩
  · by_cases hlo : v < from_
    · go_region_held3 (fun w' => w'.cell? ⟨p, 0, none⟩ = some (.slice (some ⟨b, off, none⟩) ws.length C) ∧ w'.cell? ⟨p, 1, none⟩ = some (.int .i64 (i : Int)) ∧ w'.cell? ⟨b, off + i * 2, none⟩ = some (.string x.text) ∧ w'.frozen? ⟨p, 1, none⟩ = false ∧ Below w.heap.size w w')
        (first | exact KS.out _ (below_drewN hb0 _).drew | exact KS.out _ (keep_below (KB.out _ (by assumption)) (by assumption)))
        (first | (go_at_call 63; refine (parse_is x.text v true hv hok _ hsz).mono ?_; rintro e w1 ⟨rfl, hb⟩))
      have hB := KB.out _ (by assumption)
      have hfw := Lib.hid (hf.out 2 _ hB)
      have hE2 := Lib.hid (hE.out.trans (by rw [if_pos trivial, if_pos (.inl hlo)]))
      go_wp2_with fail
      refine hfw.out.mono ?_
      rintro e w' ⟨rfl, nq2, rfl⟩
      unfold PanEnd
      go_wp2_with fail
      refine ⟨rfl, ?_⟩
      rw [hE2.out]
      exact ⟨rfl, (R.out.below hB).drewN nq2, grown_trans1 (below_grown hB p) (grown_drewN _ _ _)⟩
    · by_cases hhi : to_ < v
      · go_region_held3 (fun w' => w'.cell? ⟨p, 0, none⟩ = some (.slice (some ⟨b, off, none⟩) ws.length C) ∧ w'.cell? ⟨p, 1, none⟩ = some (.int .i64 (i : Int)) ∧ w'.cell? ⟨b, off + i * 2, none⟩ = some (.string x.text) ∧ w'.frozen? ⟨p, 1, none⟩ = false ∧ Below w.heap.size w w')
          (first | exact KS.out _ (below_drewN hb0 _).drew | exact KS.out _ (keep_below (KB.out _ (by assumption)) (by assumption)))
          (first | (go_at_call 63; refine (parse_is x.text v true hv hok _ hsz).mono ?_; rintro e w1 ⟨rfl, hb⟩))
        have hB := KB.out _ (by assumption)
        have hfw := Lib.hid (hf.out 2 _ hB)
        have hE2 := Lib.hid (hE.out.trans (by rw [if_pos trivial, if_pos (.inr hhi)]))
        go_wp2_with fail
        refine hfw.out.mono ?_
        rintro e w' ⟨rfl, nq2, rfl⟩
        unfold PanEnd
        go_wp2_with fail
        refine ⟨rfl, ?_⟩
        rw [hE2.out]
        exact ⟨rfl, (R.out.below hB).drewN nq2, grown_trans1 (below_grown hB p) (grown_drewN _ _ _)⟩
      · go_region_held3 (fun w' => w'.cell? ⟨p, 0, none⟩ = some (.slice (some ⟨b, off, none⟩) ws.length C) ∧ w'.cell? ⟨p, 1, none⟩ = some (.int .i64 (i : Int)) ∧ w'.cell? ⟨b, off + i * 2, none⟩ = some (.string x.text) ∧ w'.frozen? ⟨p, 1, none⟩ = false ∧ Below w.heap.size w w')
          (first | exact KS.out _ (below_drewN hb0 _).drew | exact KS.out _ (keep_below (KB.out _ (by assumption)) (by assumption)))
          (first | (go_at_call 63; refine (parse_is x.text v true hv hok _ hsz).mono ?_; rintro e w1 ⟨rfl, hb⟩))
        have hB := KB.out _ (by assumption)
        obtain ⟨_, d1, _, d3, _⟩ := KS.out _ hB
        have hE2 := Lib.hid (hE.out.trans (by rw [if_pos trivial, if_neg (by omega)]))
        have hS := (R.out.below hB).set (i + 1) hi.out
        have hG := grown_trans1 (below_grown hB p) (grown_set _ ⟨p, 1, none⟩ (.int .i64 ((i + 1 : Nat) : Int)))
        have e1 : ((i + 1 : Nat) : Int) = (i : Int) + 1 := by omega
        rw [e1] at hS hG
        replace hS := Lib.hid hS
        replace hG := Lib.hid hG
        clear e1
        go_wp2_with fail
        go_ret
        rw [hE2.out]
        exact ⟨rfl, hS.out, hG.out⟩
end Go.Proofs.Ytljcpgeggbbmfaa
