/-
  The document's teller: plain, and the walks (layer 12).
-/
import Derived.Test.YtljcpgeggbbmfaaPA
import Derived.Test.YtljcpgeggbbmfaaRefParse
import Derived.Deep.QuietTactic
import Derived.BigQuiet
import Derived.Test.YtljcpgeggbbmfaaRowsO
import Derived.Test.YtljcpgeggbbmfaaRefWords
import Derived.Deep.MidRow
namespace Go.Proofs.Ytljcpgeggbbmfaa
set_option linter.unusedVariables false
set_option linter.unusedSimpArgs false
open Go.RowKit
/-- where a teller stands, and its error. -/
abbrev TS := Nat × Int
def stick {α : Type} (d : α) (f : Nat → PR α) (s : TS) : α × TS := if s.2 = 0 then (match f s.1 with | .inl (x, j) => (x, (j, 0)) | .inr (_, c) => (d, (s.1, c))) else (d, s)
def tMust (ws : List WordD) (n : Nat) (t : ByteArray) (s : TS) : Unit × TS := stick () (mustP ws n t) s
def tNum (ws : List WordD) (n : Nat) (lo hi : Int) (s : TS) : Int × TS := stick 0 (numP ws n lo hi) s
def bindT {α β : Type} (x : α × TS) (f : α → TS → β × TS) : β × TS := f x.1 x.2
def upT {α : Type} (f : Nat → TS → α × TS) : Nat → Nat → TS → List α × TS
  | 0, _, s => ([], s)
  | m + 1, k, s => bindT (f k s) fun x s => bindT (upT f m (k + 1) s) fun xs s => (x :: xs, s)
/-- the teller does as the reader does, up to the first fault; then it stands. -/
structure Sim {α : Type} (ws : List WordD) (n : Nat) (f : Nat → PR α) (T : TS → α × TS) : Prop where
  stay : ∀ s : TS, s.2 ≠ 0 → (T s).2 = s
  good : ∀ i x j, f i = .inl (x, j) → T (i, 0) = (x, (j, 0))
  bad : ∀ i a c, f i = .inr (a, c) → ∃ k, (T (i, 0)).2 = (k, c) ∧ c ≠ 0 ∧ (placeN ws k n : Int) = a
theorem sim_stick {α : Type} {ws : List WordD} {n : Nat} (d : α) (f : Nat → PR α) (h : ∀ i a c, f i = .inr (a, c) → c ≠ 0 ∧ (placeN ws i n : Int) = a) : Sim ws n f (stick d f) := by
  refine ⟨fun s hs => ?_, fun i x j hf => ?_, fun i a c hf => ⟨i, ?_, h i a c hf⟩⟩
  · unfold stick; rw [if_neg hs]
  · unfold stick; rw [if_pos rfl]; dsimp only; rw [hf]
  · unfold stick; rw [if_pos rfl]; dsimp only; rw [hf]
theorem sim_bind {α β : Type} {ws : List WordD} {n : Nat} {f : Nat → PR α} {T : TS → α × TS} {g : α → Nat → PR β} {U : α → TS → β × TS} (h : Sim ws n f T) (hg : ∀ x, Sim ws n (g x) (U x)) : Sim ws n (fun i => bindP (f i) g) (fun s => bindT (T s) U) := by
  refine ⟨fun s hs => ?_, fun i x j hf => ?_, fun i a c hf => ?_⟩
  · show (U (T s).1 (T s).2).2 = s
    rw [h.stay s hs]; exact (hg _).stay s hs
  · obtain ⟨y, k, h1, h2⟩ := bindP_ok hf
    show U (T (i, 0)).1 (T (i, 0)).2 = _
    rw [h.good i y k h1]; exact (hg y).good k x j h2
  · show ∃ k, (U (T (i, 0)).1 (T (i, 0)).2).2 = (k, c) ∧ c ≠ 0 ∧ (placeN ws k n : Int) = a
    cases hfi : f i with
    | inl y =>
      obtain ⟨y, k⟩ := y
      rw [h.good i y k hfi]
      have hf2 : bindP (f i) g = .inr (a, c) := hf
      rw [hfi, bindP_inl] at hf2
      exact (hg y).bad k a c hf2
    | inr e =>
      obtain ⟨a', c'⟩ := e
      have hf2 : bindP (f i) g = .inr (a, c) := hf
      rw [hfi, bindP_inr] at hf2
      injection hf2 with hf2
      injection hf2 with e1 e2
      subst e1
      subst e2
      obtain ⟨k, h1, h2, h3⟩ := h.bad i _ _ hfi
      refine ⟨k, ?_, h2, h3⟩
      rw [h1]; exact (hg _).stay (k, _) h2
theorem sim_pure {α : Type} {ws : List WordD} {n : Nat} (x : α) : Sim ws n (fun i => .inl (x, i)) (fun s => (x, s)) :=
  ⟨fun s _ => rfl, fun i y j h => by injection h with h; injection h with h1 h2; subst h1; subst h2; rfl, fun i a c h => by cases h⟩
theorem sim_up {α : Type} {ws : List WordD} {n : Nat} {f : Nat → Nat → PR α} {T : Nat → TS → α × TS} (h : ∀ k, Sim ws n (f k) (T k)) : ∀ m k, Sim ws n (upP f m k) (upT T m k)
  | 0, k => sim_pure []
  | m + 1, k => sim_bind (h k) (fun x => sim_bind (sim_up h m (k + 1)) (fun xs => sim_pure (x :: xs)))
theorem sim_must (ws : List WordD) (n : Nat) (t : ByteArray) : Sim ws n (mustP ws n t) (tMust ws n t) := sim_stick () _ (fun i a c h => by
  unfold mustP at h
  split at h
  · cases h
  · injection h with h; injection h with h1 h2; exact ⟨by omega, h1⟩)
theorem sim_num (ws : List WordD) (n : Nat) (lo hi : Int) : Sim ws n (numP ws n lo hi) (tNum ws n lo hi) := sim_stick 0 _ (fun i a c h => by
  unfold numP at h
  split at h
  · split at h
    · split at h
      · injection h with h; injection h with h1 h2; exact ⟨by omega, h1⟩
      · cases h
    · injection h with h; injection h with h1 h2; exact ⟨by omega, h1⟩
  · injection h with h; injection h with h1 h2; exact ⟨by omega, h1⟩)
def fleetT (ws : List WordD) (n : Nat) (t : ByteArray) (s : TS) : (Int × Int) × TS :=
  bindT (tMust ws n t s) fun _ s => bindT (tNum ws n 1 60 s) fun m s => bindT (tNum ws n 0 1000000000 s) fun r s => ((m, r), s)
def satT (ws : List WordD) (n : Nat) (s : TS) : SatD × TS :=
  bindT (tNum ws n 0 1000000000 s) fun r s => bindT (tNum ws n 0 1000000000 s) fun h s => (⟨r, h⟩, s)
def custT (ws : List WordD) (n : Nat) (s : TS) : CustD × TS :=
  bindT (tNum ws n 1 1000000000 s) fun l s => bindT (tNum ws n 0 1000000000 s) fun o s => bindT (tNum ws n o 1000000000 s) fun c s => bindT (tNum ws n 0 1000000000 s) fun y s => (⟨l, o, c, y⟩, s)
def cellT (ws : List WordD) (n : Nat) (r k : Nat) (s : TS) : Int × TS := tNum ws n 0 (if r = k then 0 else 1000000000) s
def rowT (ws : List WordD) (n : Nat) (m r : Nat) (s : TS) : List Int × TS := upT (cellT ws n r) m 0 s
def matT (ws : List WordD) (n : Nat) (t : ByteArray) (m : Nat) (s : TS) : List (List Int) × TS := bindT (tMust ws n t s) fun _ s => upT (rowT ws n m) m 0 s
def instT4 (ws : List WordD) (n : Nat) (fin : Int) (t b : Int × Int) (sats : List SatD) (custs : List CustD) (s : TS) : InstD × TS :=
  bindT (matT ws n sCost (1 + sats.length + custs.length) s) fun co s => bindT (matT ws n sTime (1 + sats.length + custs.length) s) fun ti s =>
    bindT (tMust ws n sEnd s) fun _ s => (⟨fin, t.1, t.2, b.1, b.2, sats, custs, co, ti⟩, s)
def instT3 (ws : List WordD) (n : Nat) (fin : Int) (t b : Int × Int) (sats : List SatD) (s : TS) : InstD × TS :=
  bindT (tMust ws n sCusts s) fun _ s => bindT (tNum ws n 1 48 s) fun m s => bindT (upT (fun _ => custT ws n) m.toNat 0 s) fun cs s => instT4 ws n fin t b sats cs s
def instT2 (ws : List WordD) (n : Nat) (fin : Int) (t b : Int × Int) (s : TS) : InstD × TS :=
  bindT (tMust ws n sSats s) fun _ s => bindT (tNum ws n 1 12 s) fun m s => bindT (upT (fun _ => satT ws n) m.toNat 0 s) fun ss s => instT3 ws n fin t b ss s
def instT (ws : List WordD) (n : Nat) : InstD × TS :=
  bindT (tMust ws n sWharfage (0, 0)) fun _ s => bindT (tNum ws n 0 1000000000 s) fun fin s => bindT (fleetT ws n sTrucks s) fun t s => bindT (fleetT ws n sBikes s) fun b s => instT2 ws n fin t b s
theorem sim_inst (ws : List WordD) (n : Nat) : Sim ws n (fun i => bindP (mustP ws n sWharfage i) fun _ i => bindP (numP ws n 0 1000000000 i) fun fin i => bindP (fleetP ws n sTrucks i) fun t i => bindP (fleetP ws n sBikes i) fun b i => instP2 ws n fin t b i)
    (fun s => bindT (tMust ws n sWharfage s) fun _ s => bindT (tNum ws n 0 1000000000 s) fun fin s => bindT (fleetT ws n sTrucks s) fun t s => bindT (fleetT ws n sBikes s) fun b s => instT2 ws n fin t b s) := by
  have hF : ∀ t, Sim ws n (fleetP ws n t) (fleetT ws n t) := fun t => sim_bind (sim_must ws n t) fun _ => sim_bind (sim_num ws n 1 60) fun m => sim_bind (sim_num ws n 0 1000000000) fun r => sim_pure (m, r)
  have hS : Sim ws n (satP ws n) (satT ws n) := sim_bind (sim_num ws n 0 1000000000) fun r => sim_bind (sim_num ws n 0 1000000000) fun h => sim_pure _
  have hC : Sim ws n (custP ws n) (custT ws n) := sim_bind (sim_num ws n 1 1000000000) fun l => sim_bind (sim_num ws n 0 1000000000) fun o => sim_bind (sim_num ws n o 1000000000) fun c => sim_bind (sim_num ws n 0 1000000000) fun y => sim_pure _
  have hM : ∀ t m, Sim ws n (matP ws n t m) (matT ws n t m) := fun t m => sim_bind (sim_must ws n t) fun _ => sim_up (fun r => sim_up (fun k => sim_num ws n 0 _) m 0) m 0
  have h4 : ∀ fin t b ss cs, Sim ws n (instP4 ws n fin t b ss cs) (instT4 ws n fin t b ss cs) := fun fin t b ss cs => sim_bind (hM _ _) fun co => sim_bind (hM _ _) fun ti => sim_bind (sim_must ws n sEnd) fun _ => sim_pure _
  have h3 : ∀ fin t b ss, Sim ws n (instP3 ws n fin t b ss) (instT3 ws n fin t b ss) := fun fin t b ss => sim_bind (sim_must ws n sCusts) fun _ => sim_bind (sim_num ws n 1 48) fun m => sim_bind (sim_up (fun _ => hC) _ _) fun cs => h4 fin t b ss cs
  have h2 : ∀ fin t b, Sim ws n (instP2 ws n fin t b) (instT2 ws n fin t b) := fun fin t b => sim_bind (sim_must ws n sSats) fun _ => sim_bind (sim_num ws n 1 12) fun m => sim_bind (sim_up (fun _ => hS) _ _) fun ss => h3 fin t b ss
  exact sim_bind (sim_must ws n sWharfage) fun _ => sim_bind (sim_num ws n 0 1000000000) fun fin => sim_bind (hF sTrucks) fun t => sim_bind (hF sBikes) fun b => h2 fin t b
/-- what the document's answer is. -/
theorem told_ok {ws : List WordD} {n : Nat} {X : InstD} {i : Nat} (h : instP ws n = .inl (X, i)) : instT ws n = (X, (i, 0)) := (sim_inst ws n).good 0 X i h
theorem told_bad {ws : List WordD} {n : Nat} {a c : Int} (h : instP ws n = .inr (a, c)) : ∃ k, (instT ws n).2 = (k, c) ∧ c ≠ 0 ∧ (placeN ws k n : Int) = a := (sim_inst ws n).bad 0 a c h
theorem upT_goK {α β : Type} {f : Nat → TS → α × TS} {m k : Nat} {s : TS} (done : List α) (G : List α → TS → β × TS) :
    bindT (upT f (m + 1) k s) (fun xs j => G (done ++ xs) j) = bindT (upT f m (k + 1) (f k s).2) (fun xs j => G ((done ++ [(f k s).1]) ++ xs) j) := by
  show G (done ++ (f k s).1 :: (upT f m (k + 1) (f k s).2).1) _ = G ((done ++ [(f k s).1]) ++ (upT f m (k + 1) (f k s).2).1) _
  rw [List.append_assoc]; rfl
theorem upT_endK {α β : Type} {f : Nat → TS → α × TS} {k : Nat} {s : TS} (done : List α) (G : List α → TS → β × TS) : bindT (upT f 0 k s) (fun xs j => G (done ++ xs) j) = G done s := by
  show G (done ++ []) s = _; rw [List.append_nil]
theorem tNum_val (ws : List WordD) (n : Nat) (lo hi : Int) (s : TS) (h0 : 0 ≤ lo) (h1 : 0 ≤ hi) : 0 ≤ (tNum ws n lo hi s).1 ∧ (tNum ws n lo hi s).1 ≤ hi := by
  unfold tNum stick
  split
  · cases h : numP ws n lo hi s.1 with
    | inl y =>
      obtain ⟨v, j⟩ := y
      obtain ⟨a, b, _, _⟩ := numP_ok h
      exact ⟨by dsimp only; omega, b⟩
    | inr e => exact ⟨Int.le_refl _, h1⟩
  · exact ⟨Int.le_refl _, h1⟩
end Go.Proofs.Ytljcpgeggbbmfaa
namespace Go.Proofs.Ytljcpgeggbbmfaa
set_option linter.unusedVariables false
set_option linter.unusedSimpArgs false
open Go.RowKit
/-- block q is a teller of the words ws of a text of n bytes. -/
structure TelIs (w : World) (q : Nat) (A : Option Addr) (C : Nat) (ws : List WordD) (s : TS) (n : Nat) : Prop where
  blk : w.heap[q]? = some (.cells #[.slice A ws.length C, .int .i64 (s.1 : Int), .int .i64 (n : Int), .int .i64 s.2] 83 (0, 0))
  rd : Rd w A (ws.flatMap wordV)
  lt : ∀ a, A = some a → a.block < q
  hi : s.1 ≤ ws.length
  le : ws.length ≤ 131073
theorem TelIs.below {w w' : World} {q : Nat} {A : Option Addr} {C : Nat} {ws : List WordD} {s : TS} {n : Nat} (h : TelIs w q A C ws s n) (hb : Below w.heap.size w w') : TelIs w' q A C ws s n :=
  ⟨(hb.block q (heap_lt h.blk)).trans h.blk, h.rd.below hb, h.lt, h.hi, h.le⟩
theorem TelIs.drew {w : World} {q : Nat} {A : Option Addr} {C : Nat} {ws : List WordD} {s : TS} {n : Nat} (h : TelIs w q A C ws s n) : TelIs w.drew q A C ws s n := ⟨h.blk, h.rd, h.lt, h.hi, h.le⟩
theorem TelIs.drewN {w : World} {q : Nat} {A : Option Addr} {C : Nat} {ws : List WordD} {s : TS} {n : Nat} (h : TelIs w q A C ws s n) (k : Nat) : TelIs (w.drewN k) q A C ws s n := ⟨h.blk, h.rd, h.lt, h.hi, h.le⟩
theorem TelIs.cells {w : World} {q : Nat} {A : Option Addr} {C : Nat} {ws : List WordD} {s : TS} {n : Nat} (h : TelIs w q A C ws s n) : w.cell? ⟨q, 0, none⟩ = some (.slice A ws.length C) ∧ w.cell? ⟨q, 1, none⟩ = some (.int .i64 (s.1 : Int)) ∧ w.cell? ⟨q, 2, none⟩ = some (.int .i64 (n : Int)) ∧ w.cell? ⟨q, 3, none⟩ = some (.int .i64 s.2) ∧ w.frozen? ⟨q, 1, none⟩ = false ∧ w.frozen? ⟨q, 3, none⟩ = false :=
  ⟨cell_of_row w q 0 _ _ _ h.blk, cell_of_row w q 1 _ _ _ h.blk, cell_of_row w q 2 _ _ _ h.blk, cell_of_row w q 3 _ _ _ h.blk, frozen_of_row w q 1 _ _ h.blk, frozen_of_row w q 3 _ _ h.blk⟩
theorem TelIs.rd_set {w : World} {q : Nat} {A : Option Addr} {C : Nat} {ws : List WordD} {s : TS} {n : Nat} (h : TelIs w q A C ws s n) (j : Nat) (u : Value) : Rd (w.setCell ⟨q, j, none⟩ u) A (ws.flatMap wordV) := fun hne => by
  obtain ⟨b, off, e, hc⟩ := h.rd hne
  refine ⟨b, off, e, fun k u' hu => ?_⟩
  have hb : b < q := h.lt _ e
  exact (World.cell?_of_block (heap_setCell_other w ⟨q, j, none⟩ b _ (by show b ≠ q; omega))).trans (hc k u' hu)
theorem TelIs.setI {w : World} {q : Nat} {A : Option Addr} {C : Nat} {ws : List WordD} {s : TS} {n : Nat} (h : TelIs w q A C ws s n) (j : Nat) (hj : j ≤ ws.length) : TelIs (w.setCell ⟨q, 1, none⟩ (.int .i64 (j : Int))) q A C ws (j, s.2) n :=
  ⟨heap_set w q 1 _ _ _ h.blk, h.rd_set _ _, h.lt, hj, h.le⟩
theorem TelIs.setC {w : World} {q : Nat} {A : Option Addr} {C : Nat} {ws : List WordD} {s : TS} {n : Nat} (h : TelIs w q A C ws s n) (c : Int) : TelIs (w.setCell ⟨q, 3, none⟩ (.int .i64 c)) q A C ws (s.1, c) n :=
  ⟨heap_set w q 3 _ _ _ h.blk, h.rd_set _ _, h.lt, h.hi, h.le⟩
def TelEnd (w : World) (q : Nat) (A : Option Addr) (C : Nat) (ws : List WordD) (n : Nat) (v : Value) (s' : TS) (e : Ending) (w' : World) : Prop := e = .returned v ∧ TelIs w' q A C ws s' n ∧ w.grownBy w' (some q)
theorem tMust_stay {ws : List WordD} {n : Nat} {t : ByteArray} {i : Nat} {c : Int} (h : c ≠ 0) : (tMust ws n t (i, c)).2 = (i, c) := by unfold tMust stick; rw [if_neg h]
theorem tMust_yes {ws : List WordD} {n : Nat} {t : ByteArray} {i : Nat} (h : isB ws i t = true) : (tMust ws n t (i, 0)).2 = (i + 1, 0) := by unfold tMust stick mustP; rw [if_pos rfl]; dsimp only; rw [h]; rfl
theorem tMust_no {ws : List WordD} {n : Nat} {t : ByteArray} {i : Nat} (h : isB ws i t = false) : (tMust ws n t (i, 0)).2 = (i, 5) := by unfold tMust stick mustP; rw [if_pos rfl]; dsimp only; rw [h]; rfl
set_option maxHeartbeats 8000000 in
set_option maxRecDepth 100000 in
theorem tmust_any (q : Nat) (A : Option Addr) (C : Nat) (ws : List WordD) (n : Nat) (t : ByteArray) (s : TS) (w : World) (R : TelIs w q A C ws s n) :
    Calls Try.prog 39 #[.pointer (some ⟨q, 0, none⟩), .string t] w (TelEnd w q A C ws n (.tuple #[]) (tMust ws n t s).2) := by
  obtain ⟨c0, c1, c2, c3, f1, f3⟩ := R.cells
  obtain ⟨i, c⟩ := s
  dsimp only at c1 c3
  by_cases hc : c = 0
  rotate_left
  · have hne : (c != 0) = true := by rw [bne_iff_ne]; exact hc
    have hE := Lib.hid (tMust_stay (ws := ws) (n := n) (t := t) (i := i) hc)
    replace R := Lib.hid R
    go_enter Try.func39, Try.ntmps39
    go_wp2_with fail
    go_end0
    exact ⟨rfl, by rw [hE.out]; exact R.out, grown_drewN w 0 _⟩
  subst hc
  by_cases hi : i < ws.length
  · obtain ⟨b, off, rfl, hc1, hc2⟩ := R.rd.word hi
    have k0 : (0 : Int) ≤ (i : Int) := by omega
    have k1 : (i : Int) < (ws.length : Int) := by omega
    have k2 : (ws.length : Int) ≤ 131073 := by have := R.le; omega
    have k3 : ¬ (ws.length : Int) ≤ (i : Int) := by omega
    have hin := isB_in (t := t) hi
    generalize ws[i] = x at *
    by_cases hx : x.text = t
    · have hq : (x.text.toList == t.toList) = true := by rw [beq_iff_eq, hx]
      have hE := Lib.hid (tMust_yes (n := n) (show isB ws i t = true by rw [hin, decide_eq_true_eq]; exact hx))
      have hS := fun k => (R.drewN k).setI (i + 1) hi
      have hG := fun k => grown_trans1 (grown_drewN w k (some q)) (grown_set (w.drewN k) ⟨q, 1, none⟩ (.int .i64 ((i + 1 : Nat) : Int)))
      have e1 : ((i + 1 : Nat) : Int) = (i : Int) + 1 := by omega
      rw [e1] at hS hG
      replace hS := Lib.hid hS
      replace hG := Lib.hid hG
      replace R := Lib.hid R
      clear e1 hx hin
      go_enter Try.func39, Try.ntmps39
      go_wp2_with fail
      go_quiet (fail)
      go_wp2_with fail
      go_end0
      exact ⟨rfl, by rw [hE.out]; exact hS.out _, hG.out _⟩
    · have hq : (x.text.toList == t.toList) = false := by rw [beq_eq_false_iff_ne]; exact fun e => hx (toList_inj e)
      have hE := Lib.hid (tMust_no (n := n) (show isB ws i t = false by rw [hin, decide_eq_false_iff_not]; exact hx))
      have hS := Lib.hid (fun k => (R.drewN k).setC 5)
      have hG := Lib.hid (fun k => grown_trans1 (grown_drewN w k (some q)) (grown_set (w.drewN k) ⟨q, 3, none⟩ (.int .i64 5)))
      replace R := Lib.hid R
      clear hx hin
      go_enter Try.func39, Try.ntmps39
      go_wp2_with fail
      go_quiet (fail)
      go_wp2_with fail
      go_end0
      exact ⟨rfl, by rw [hE.out]; exact hS.out _, hG.out _⟩
  · have k3 : (ws.length : Int) ≤ (i : Int) := by omega
    have hE := Lib.hid (tMust_no (n := n) (t := t) (isB_end hi))
    have hS := Lib.hid (fun k => (R.drewN k).setC 5)
    have hG := Lib.hid (fun k => grown_trans1 (grown_drewN w k (some q)) (grown_set (w.drewN k) ⟨q, 3, none⟩ (.int .i64 5)))
    replace R := Lib.hid R
    go_enter Try.func39, Try.ntmps39
    go_wp2_with fail
    go_quiet (fail)
    go_wp2_with fail
    go_end0
    exact ⟨rfl, by rw [hE.out]; exact hS.out _, hG.out _⟩
/-- a call that leaves the world, in a quiet region behind another one. -/
theorem quiet_again {P : Program} {f : FuncId} {args : Array Value} {w : World} {a m : Nat} {v : Value} (h : Calls P f args (w.drewN (a + m)) fun e w' => e = .returned v ∧ w.drewN (a + m) = w') :
    Calls P f args (w.drewN (a + m)) fun e w'' => e = .returned v ∧ ∃ k, w'' = w.drewN (a + k) := h.mono fun _ _ ⟨he, hm⟩ => ⟨he, m, hm.symm⟩
theorem tNum_stay {ws : List WordD} {n : Nat} {lo hi : Int} {i : Nat} {c : Int} (h : c ≠ 0) : tNum ws n lo hi (i, c) = (0, (i, c)) := by unfold tNum stick; rw [if_neg h]
theorem tNum_ok {ws : List WordD} {n : Nat} {lo hi : Int} {i : Nat} {v : Int} {j : Nat} (h : numP ws n lo hi i = .inl (v, j)) : tNum ws n lo hi (i, 0) = (v, (j, 0)) := by unfold tNum stick; rw [if_pos rfl]; dsimp only; rw [h]
theorem tNum_bad {ws : List WordD} {n : Nat} {lo hi : Int} {i : Nat} {a c : Int} (h : numP ws n lo hi i = .inr (a, c)) : tNum ws n lo hi (i, 0) = (0, (i, c)) := by unfold tNum stick; rw [if_pos rfl]; dsimp only; rw [h]
theorem refParse_is12 (s : ByteArray) (v : Int) (b : Bool) (hv : Hid (parseV (L s) = v)) (hb : Hid (okNum (L s) = b)) (w : World) (hs : s.size ≤ 9223372036854775807) :
    Calls Try.prog 64 #[.string s] w fun e w' => e = .returned (.tuple #[.int .i64 v, .bool b]) ∧ w = w' :=
  (refParse_any s w hs).mono fun e w' ⟨he, hw⟩ => ⟨by unfold ParseEnd at he; rw [he, hv.out, hb.out], hw⟩
set_option maxHeartbeats 16000000 in
set_option maxRecDepth 100000 in
theorem tnum_any (q : Nat) (A : Option Addr) (C : Nat) (ws : List WordD) (n : Nat) (lo hi : Int) (hsz : Hid (∀ x ∈ ws, x.text.size ≤ 9223372036854775807)) (s : TS) (w : World) (R : TelIs w q A C ws s n) :
    Calls Try.prog 40 #[.pointer (some ⟨q, 0, none⟩), .int .i64 lo, .int .i64 hi] w (TelEnd w q A C ws n (.int .i64 (tNum ws n lo hi s).1) (tNum ws n lo hi s).2) := by
  obtain ⟨c0, c1, c2, c3, f1, f3⟩ := R.cells
  obtain ⟨i, c⟩ := s
  dsimp only at c1 c3
  by_cases hc : c = 0
  rotate_left
  · have hne : (c != 0) = true := by rw [bne_iff_ne]; exact hc
    have hE := Lib.hid (tNum_stay (ws := ws) (n := n) (lo := lo) (hi := hi) (i := i) hc)
    replace R := Lib.hid R
    go_enter Try.func40, Try.ntmps40
    go_wp2_with fail
    go_ret
    exact ⟨by rw [hE.out]; rfl, by rw [hE.out]; exact R.out, grown_drewN w 0 _⟩
  subst hc
  have BADEND : ∀ (a cc : Int), numP ws n lo hi i = .inr (a, cc) → Hid (tNum ws n lo hi (i, 0) = (0, (i, cc))) := fun a cc h => Lib.hid (tNum_bad h)
  by_cases hil : i < ws.length
  · have hwsz := hsz.out _ (List.getElem_mem hil)
    have hnp : numP ws n lo hi i = if okNum (L ws[i].text) then (if parseV (L ws[i].text) < lo ∨ hi < parseV (L ws[i].text) then .inr ((placeN ws i n : Int), 2) else .inl (parseV (L ws[i].text), i + 1)) else .inr ((placeN ws i n : Int), 3) := by unfold numP; rw [dif_pos hil]
    obtain ⟨b, off, rfl, hc1, hc2⟩ := R.rd.word hil
    have k0 : (0 : Int) ≤ (i : Int) := by omega
    have k1 : (i : Int) < (ws.length : Int) := by omega
    have k2 : (ws.length : Int) ≤ 131073 := by have := R.le; omega
    have k3 : ¬ (ws.length : Int) ≤ (i : Int) := by omega
    generalize ws[i] = x at *
    obtain ⟨v, hv⟩ : ∃ v, parseV (L x.text) = v := ⟨_, rfl⟩
    obtain ⟨ok, hok⟩ : ∃ ok, okNum (L x.text) = ok := ⟨_, rfl⟩
    rw [hv, hok] at hnp
    replace hv := Lib.hid hv
    replace hok := Lib.hid hok
    cases ok
    · have hE := BADEND _ _ (by rw [hnp]; rfl)
      have hS := Lib.hid (fun k => (R.drewN k).setC 3)
      have hG := Lib.hid (fun k => grown_trans1 (grown_drewN w k (some q)) (grown_set (w.drewN k) ⟨q, 3, none⟩ (.int .i64 3)))
      replace R := Lib.hid R
      clear hnp BADEND
      go_enter Try.func40, Try.ntmps40
      go_wp2_with fail
      go_quiet (fail)
      go_wp2_with fail
      go_quiet ((go_at_call 64; exact quiet_again (refParse_is12 x.text v false hv hok _ hwsz)))
      go_wp2_with fail
      go_ret
      exact ⟨by rw [hE.out]; rfl, by rw [hE.out]; first | exact hS.out _ | (rw [World.drewN_drewN]; exact hS.out _), by first | exact hG.out _ | (rw [World.drewN_drewN]; exact hG.out _)⟩
    · by_cases hlo : v < lo
      · have hE := BADEND _ _ (by rw [hnp, if_pos rfl, if_pos (.inl hlo)])
        have hS := Lib.hid (fun k => (R.drewN k).setC 2)
        have hG := Lib.hid (fun k => grown_trans1 (grown_drewN w k (some q)) (grown_set (w.drewN k) ⟨q, 3, none⟩ (.int .i64 2)))
        replace R := Lib.hid R
        clear hnp BADEND
        go_enter Try.func40, Try.ntmps40
        go_wp2_with fail
        go_quiet (fail)
        go_wp2_with fail
        go_quiet ((go_at_call 64; exact quiet_again (refParse_is12 x.text v true hv hok _ hwsz)))
        go_wp2_with fail
        go_ret
        exact ⟨by rw [hE.out]; rfl, by rw [hE.out]; first | exact hS.out _ | (rw [World.drewN_drewN]; exact hS.out _), by first | exact hG.out _ | (rw [World.drewN_drewN]; exact hG.out _)⟩
      · by_cases hhi : hi < v
        · have hE := BADEND _ _ (by rw [hnp, if_pos rfl, if_pos (.inr hhi)])
          have hS := Lib.hid (fun k => (R.drewN k).setC 2)
          have hG := Lib.hid (fun k => grown_trans1 (grown_drewN w k (some q)) (grown_set (w.drewN k) ⟨q, 3, none⟩ (.int .i64 2)))
          replace R := Lib.hid R
          clear hnp BADEND
          go_enter Try.func40, Try.ntmps40
          go_wp2_with fail
          go_quiet (fail)
          go_wp2_with fail
          go_quiet ((go_at_call 64; exact quiet_again (refParse_is12 x.text v true hv hok _ hwsz)))
          go_wp2_with fail
          go_ret
          exact ⟨by rw [hE.out]; rfl, by rw [hE.out]; first | exact hS.out _ | (rw [World.drewN_drewN]; exact hS.out _), by first | exact hG.out _ | (rw [World.drewN_drewN]; exact hG.out _)⟩
        · have hE := Lib.hid (tNum_ok (show numP ws n lo hi i = .inl (v, i + 1) by rw [hnp, if_pos rfl, if_neg (by omega)]))
          have hS := fun k => (R.drewN k).setI (i + 1) hil
          have hG := fun k => grown_trans1 (grown_drewN w k (some q)) (grown_set (w.drewN k) ⟨q, 1, none⟩ (.int .i64 ((i + 1 : Nat) : Int)))
          have e1 : ((i + 1 : Nat) : Int) = (i : Int) + 1 := by omega
          rw [e1] at hS hG
          replace hS := Lib.hid hS
          replace hG := Lib.hid hG
          replace R := Lib.hid R
          clear hnp BADEND e1
          go_enter Try.func40, Try.ntmps40
          go_wp2_with fail
          go_quiet (fail)
          go_wp2_with fail
          go_quiet ((go_at_call 64; exact quiet_again (refParse_is12 x.text v true hv hok _ hwsz)))
          go_wp2_with fail
          go_ret
          exact ⟨by rw [hE.out]; rfl, by rw [hE.out]; first | exact hS.out _ | (rw [World.drewN_drewN]; exact hS.out _), by first | exact hG.out _ | (rw [World.drewN_drewN]; exact hG.out _)⟩
  · have k3 : (ws.length : Int) ≤ (i : Int) := by omega
    have hE := BADEND _ _ (by unfold numP; rw [dif_neg hil])
    have hS := Lib.hid (fun k => (R.drewN k).setC 3)
    have hG := Lib.hid (fun k => grown_trans1 (grown_drewN w k (some q)) (grown_set (w.drewN k) ⟨q, 3, none⟩ (.int .i64 3)))
    replace R := Lib.hid R
    clear BADEND
    go_enter Try.func40, Try.ntmps40
    go_wp2_with fail
    go_quiet (fail)
    go_wp2_with fail
    go_ret
    exact ⟨by rw [hE.out]; rfl, by rw [hE.out]; first | exact hS.out _ | (rw [World.drewN_drewN]; exact hS.out _), by first | exact hG.out _ | (rw [World.drewN_drewN]; exact hG.out _)⟩
set_option maxHeartbeats 1600000 in
theorem tat_any (q : Nat) (A : Option Addr) (C : Nat) (ws : List WordD) (n : Nat) (s : TS) (w : World) (R : TelIs w q A C ws s n) :
    Calls Try.prog 42 #[.pointer (some ⟨q, 0, none⟩)] w (Looks w (.returned (.int .i64 (placeN ws s.1 n : Int)))) := by
  obtain ⟨c0, c1, c2, c3, f1, f3⟩ := R.cells
  obtain ⟨i, c⟩ := s
  dsimp only at c1 c3
  by_cases h : i < ws.length
  · obtain ⟨b, off, rfl, hc1, hc2⟩ := R.rd.word h
    have k0 : (0 : Int) ≤ (i : Int) := by omega
    have k1 : (i : Int) < (ws.length : Int) := by omega
    have hp := Lib.hid (placeN_in (n := n) h)
    generalize ws[i] = x at *
    replace R := Lib.hid R
    go_enter Try.func42, Try.ntmps42
    go_wp2_with fail
    go_quiet (fail)
    go_wp2_with fail
    go_quiet (fail)
    go_wp2_with fail
    go_ret
    exact ⟨ret_int (by rw [hp.out]), _, by rw [World.drewN_drewN]⟩
  · have k1 : ¬ (i : Int) < (ws.length : Int) := by omega
    have hp := Lib.hid (placeN_end (n := n) h)
    replace R := Lib.hid R
    go_enter Try.func42, Try.ntmps42
    go_wp2_with fail
    go_quiet (fail)
    go_wp2_with fail
    go_ret
    exact ⟨ret_int (by rw [hp.out]), _, rfl⟩
end Go.Proofs.Ytljcpgeggbbmfaa
namespace Go.Proofs.Ytljcpgeggbbmfaa
set_option linter.unusedVariables false
set_option linter.unusedSimpArgs false
open Go.RowKit
theorem tel_any {w1 w2 : World} {q : Nat} {A : Option Addr} {C : Nat} {ws : List WordD} {s : TS} {n : Nat} (h : TelIs w1 q A C ws s n) {r : Option Nat} (hg : w1.grownBy w2 r) (hr : ∀ g, r = some g → q < g) : TelIs w2 q A C ws s n := by
  refine ⟨(hg.block q (heap_lt h.blk) (fun e => ?_)).trans h.blk, fun hne => ?_, h.lt, h.hi, h.le⟩
  · have := hr q (by first | exact e | exact e.symm); omega
  · obtain ⟨b, off, e, hc⟩ := h.rd hne
    have hlt : b < q := h.lt _ e
    exact ⟨b, off, e, fun k u hu => (World.cell?_of_block (hg.block b (by have := heap_lt h.blk; omega) (fun e => by have := hr b (by first | exact e | exact e.symm); omega))).trans (hc k u hu)⟩
def TMatEnd (w : World) (q : Nat) (A : Option Addr) (C : Nat) (ws : List WordD) (n : Nat) (y : List (List Int) × TS) (e : Ending) (w' : World) : Prop :=
  w.grownBy w' (some q) ∧ ∃ A' C' hs, e = .returned (.slice A' y.1.length C') ∧ TelIs w' q A C ws y.2 n ∧ RowsOwn w.heap.size w' (.slice A' y.1.length C') y.1 hs
set_option maxHeartbeats 16000000 in
set_option maxRecDepth 100000 in
theorem trow_any (q : Nat) (A : Option Addr) (C : Nat) (ws : List WordD) (n : Nat) (t : ByteArray) (m : Nat) (hm : m ≤ 1000) (hsz : Hid (∀ x ∈ ws, x.text.size ≤ 9223372036854775807)) (s : TS) (w : World) (R : TelIs w q A C ws s n) :
    Calls Try.prog 41 #[.pointer (some ⟨q, 0, none⟩), .string t, .int .i64 m] w (TMatEnd w q A C ws n (matT ws n t m s)) := by
  have hp := heap_lt R.blk
  obtain ⟨i0, hi0, hz0, hz1, hz2⟩ := info_parts info_i64
  obtain ⟨i1, hi1, hy0, hy1, hy2⟩ := info_parts info_row
  replace R := Lib.hid R
  go_enter Try.func41, Try.ntmps41
  go_wp2_with fail
  refine (tmust_any q A C ws n t s _ R.out).mono ?_
  rintro e w1 ⟨rfl, hR, hG⟩
  have HM : Hid (matT ws n t m s = bindT (upT (rowT ws n m) (m - 0) 0 (tMust ws n t s).2) (fun xs j => ([] ++ xs, j))) := Lib.hid rfl
  generalize (tMust ws n t s).2 = s1 at *
  replace hG := Lib.hid hG
  replace hR := Lib.hid hR
  clear R
  go_wp2_with fail
  go_loopw [7, 15] (fun v ix wr => ∃ (r : Nat) (s' : TS) (done : List (List Int)) (hs : List Value), r ≤ m ∧ ix = .int .i64 r ∧ Hid (done.length = r) ∧ Hid (matT ws n t m s = bindT (upT (rowT ws n m) (m - r) r s') (fun xs j => (done ++ xs, j))) ∧ TelIs wr q A C ws s' n ∧ RowsOwn w.heap.size wr v done hs ∧ w.grownBy wr (some q)) (fun _ ix _ => m - (intOf ix).toNat)
  case atStart => exact ⟨0, s1, [], [], Nat.zero_le _, rfl, Lib.hid rfl, HM, hR.out, RowsOwn.nil _ _, hG.out⟩
  case round =>
    obtain ⟨r, s', done, hs, hr, rfl, HL, HQ, R1, HO, G1⟩ := hrel
    clear HM hG hR
    obtain ⟨A0, C0, hv⟩ := own_val HO.own
    subst hv
    replace R1 := Lib.hid R1
    replace HO := Lib.hid HO
    replace G1 := Lib.hid G1
    by_cases hrm : r < m
    · have HQ2 : Hid (matT ws n t m s = bindT (upT (rowT ws n m) (m - (r + 1)) (r + 1) (rowT ws n m r s').2) (fun xs j => ((done ++ [(rowT ws n m r s').1]) ++ xs, j))) := Lib.hid (by
        rw [HQ.out, show m - r = (m - (r + 1)) + 1 by omega]
        exact upT_goK done (fun xs j => (xs, j)))
      have HR0 : Hid (rowT ws n m r s' = bindT (upT (cellT ws n r) (m - 0) 0 s') (fun xs j => ([] ++ xs, j))) := Lib.hid rfl
      obtain ⟨M, hM⟩ : ∃ M, wr.heap.size = M := ⟨_, rfl⟩
      have HBL : ∀ (q : Nat) (a : Addr) (n C : Nat), hs[q]? = some (.slice (some a) n C) → a.block < M := fun q a n C h => by rw [← hM]; exact HO.out.blocks q a n C h
      replace HBL := Lib.hid HBL
      have hwM : w.heap.size ≤ M := by rw [← hM]; exact G1.out.size
      replace hM := Lib.hid hM
      clear HQ
      go_wp2_with fail
      go_loopw [9, 19] (fun v ix wq => ∃ (k : Nat) (s2 : TS) (row : List Int), k ≤ m ∧ ix = .int .i64 k ∧ Hid (row.length = k) ∧ Hid (rowT ws n m r s' = bindT (upT (cellT ws n r) (m - k) k s2) (fun xs j => (row ++ xs, j))) ∧ TelIs wq q A C ws s2 n ∧ RowsOwn w.heap.size wq (.slice A0 done.length C0) done hs ∧ wq.ownsRow M 2 1 v row.length (i64s row) ∧ w.grownBy wq (some q) ∧ M ≤ wq.heap.size) (fun _ ix _ => m - (intOf ix).toNat)
      case atStart => exact ⟨0, s', [], Nat.zero_le _, rfl, Lib.hid rfl, HR0, R1.out, HO.out, World.ownsRow_nil _ _ _ _, G1.out, Nat.le_of_eq hM.out.symm⟩
      case round =>
        obtain ⟨k, s2, row, hk, rfl, HL2, HP, R2, HO2, HX, G2, hMq⟩ := hrel
        clear R1 HO G1 HR0
        obtain ⟨A1, C1, hv1⟩ := own_val HX
        subst hv1
        replace R2 := Lib.hid R2
        replace HO2 := Lib.hid HO2
        replace HX := Lib.hid HX
        replace G2 := Lib.hid G2
        by_cases hkm : k < m
        · have HP2 : Hid (rowT ws n m r s' = bindT (upT (cellT ws n r) (m - (k + 1)) (k + 1) (cellT ws n r k s2).2) (fun xs j => ((row ++ [(cellT ws n r k s2).1]) ++ xs, j))) := Lib.hid (by
            rw [HP.out, show m - k = (m - (k + 1)) + 1 by omega]
            exact upT_goK row (fun xs j => (xs, j)))
          clear HP
          by_cases hrk : r = k
          · subst hrk
            have hcell : Hid (cellT ws n r r s2 = tNum ws n 0 0 s2) := Lib.hid (by unfold cellT; rw [if_pos rfl])
            go_wp2_with fail
            refine (tnum_any q A C ws n 0 0 hsz s2 _ R2.out).mono ?_
            rintro e w5 ⟨rfl, hR, hG⟩
            rw [← hcell.out] at hR ⊢
            obtain ⟨x, s3, hy⟩ : ∃ (x : Int) (s3 : TS), cellT ws n r r s2 = (x, s3) := ⟨_, _, rfl⟩
            rw [hy] at hR HP2 ⊢
            dsimp only at hR HP2 ⊢
            have HE := HP2
            have G3 := Lib.hid (grown_trans1 G2.out hG)
            have HO3 := Lib.hid (HO2.out.grownG hG hp)
            have HX3 := Lib.hid (own_grownG HX.out hG (Nat.lt_of_lt_of_le hp hwM))
            have R3 := Lib.hid hR
            replace hMq : M ≤ w5.heap.size := Nat.le_trans hMq hG.size
            clear hG hR G2 HO2 HX R2 HP2 hcell hy
            have hw5 : w.heap.size ≤ w5.heap.size := G3.out.size
            have hrl : row.length = r := HL2.out
            have HOWN := Lib.hid (HX3.out.alloc (.cells #[.int .i64 x] 2))
            have HNEW : Hid (∀ (q : Nat) (u : Value), [Value.int .i64 x][q]? = some u → (w5.alloc (.cells #[.int .i64 x] 2)).cell? ((⟨w5.heap.size, 0, none⟩ : Addr).add q) = some u) := Lib.hid (fun q u hu => cells_new _ _ _ q u (by simpa using hu))
            replace hrl := Lib.hid hrl
            go_wp2_with (first | (at_builtin; refine wpList_append_own _ rfl _ _ 53 rfl M 2 i0 (.int .i64 0) 1 8 Try.underlying53 hi0 hz0 hz1 hz2 rfl (by decide) _ row.length _ rfl HOWN.out ⟨w5.heap.size, 0, none⟩ 1 1 [.int .i64 x] rfl rfl HNEW.out (fun x hx => by simp at hx; subst hx; rfl) (by have := hrl.out; unfold maxLen; omega) (by have := hrl.out; omega) (by simp; omega) ?_; intro v' w6 hown2 hgrow _))
            go_roundw
            case rel =>
              have hap : ∀ g, (Value.slice A1 row.length C1).ownBlock = some g → M ≤ g := fun g hg => (own_lt HX3.out hg).1
              have hba : w5.grownBy (w5.alloc (.cells #[.int .i64 x] 2)) none := grown_of_below ((Below.refl _ _).alloc (Nat.le_refl _) _)
              have hal : Below w5.heap.size w5 (w5.alloc (.cells #[.int .i64 x] 2)) := (Below.refl _ _).alloc (Nat.le_refl _) _
              refine ⟨r + 1, s3, row ++ [x], by omega, by go_num, Lib.hid (by rw [List.length_append, hrl.out]; rfl), HE, ?_, ?_, ?_, ?_, ?_⟩
              · exact tel_any (tel_any R3.out hba (fun g hg => by cases hg)) hgrow (fun g hg => by have := hap g hg; omega)
              · exact (HO3.out.below hal).grown hgrow (own_types (own_below HO3.out.own hal) (own_below HX3.out hal) (by decide)) (fun q A n C hq => by
                  cases A with
                  | none => exact .inl rfl
                  | some a => exact .inr (fun e => by have h1 := HBL.out q a n C hq; have h2 := hap a.block e.symm; omega))
              · rw [List.length_append, i64s_snocP]; exact hown2
              · exact grown_any (grown_any G3.out hba (fun g hg => by cases hg)) hgrow (fun g hg => Nat.le_trans hwM (hap g hg))
              · exact Nat.le_trans hMq (Nat.le_trans (by simp) hgrow.size)
            case measure => simp [intOf]; omega
          · have hcell : Hid (cellT ws n r k s2 = tNum ws n 0 1000000000 s2) := Lib.hid (by unfold cellT; rw [if_neg hrk])
            have hne : ¬ (r : Int) = (k : Int) := by omega
            go_wp2_with fail
            refine (tnum_any q A C ws n 0 1000000000 hsz s2 _ R2.out).mono ?_
            rintro e w5 ⟨rfl, hR, hG⟩
            rw [← hcell.out] at hR ⊢
            obtain ⟨x, s3, hy⟩ : ∃ (x : Int) (s3 : TS), cellT ws n r k s2 = (x, s3) := ⟨_, _, rfl⟩
            rw [hy] at hR HP2 ⊢
            dsimp only at hR HP2 ⊢
            have HE := HP2
            have G3 := Lib.hid (grown_trans1 G2.out hG)
            have HO3 := Lib.hid (HO2.out.grownG hG hp)
            have HX3 := Lib.hid (own_grownG HX.out hG (Nat.lt_of_lt_of_le hp hwM))
            have R3 := Lib.hid hR
            replace hMq : M ≤ w5.heap.size := Nat.le_trans hMq hG.size
            clear hG hR G2 HO2 HX R2 HP2 hcell hy
            have hw5 : w.heap.size ≤ w5.heap.size := G3.out.size
            have hrl : row.length = k := HL2.out
            have HOWN := Lib.hid (HX3.out.alloc (.cells #[.int .i64 x] 2))
            have HNEW : Hid (∀ (q : Nat) (u : Value), [Value.int .i64 x][q]? = some u → (w5.alloc (.cells #[.int .i64 x] 2)).cell? ((⟨w5.heap.size, 0, none⟩ : Addr).add q) = some u) := Lib.hid (fun q u hu => cells_new _ _ _ q u (by simpa using hu))
            replace hrl := Lib.hid hrl
            go_wp2_with (first | (at_builtin; refine wpList_append_own _ rfl _ _ 53 rfl M 2 i0 (.int .i64 0) 1 8 Try.underlying53 hi0 hz0 hz1 hz2 rfl (by decide) _ row.length _ rfl HOWN.out ⟨w5.heap.size, 0, none⟩ 1 1 [.int .i64 x] rfl rfl HNEW.out (fun x hx => by simp at hx; subst hx; rfl) (by have := hrl.out; unfold maxLen; omega) (by have := hrl.out; omega) (by simp; omega) ?_; intro v' w6 hown2 hgrow _))
            go_roundw
            case rel =>
              have hap : ∀ g, (Value.slice A1 row.length C1).ownBlock = some g → M ≤ g := fun g hg => (own_lt HX3.out hg).1
              have hba : w5.grownBy (w5.alloc (.cells #[.int .i64 x] 2)) none := grown_of_below ((Below.refl _ _).alloc (Nat.le_refl _) _)
              have hal : Below w5.heap.size w5 (w5.alloc (.cells #[.int .i64 x] 2)) := (Below.refl _ _).alloc (Nat.le_refl _) _
              refine ⟨k + 1, s3, row ++ [x], by omega, by go_num, Lib.hid (by rw [List.length_append, hrl.out]; rfl), HE, ?_, ?_, ?_, ?_, ?_⟩
              · exact tel_any (tel_any R3.out hba (fun g hg => by cases hg)) hgrow (fun g hg => by have := hap g hg; omega)
              · exact (HO3.out.below hal).grown hgrow (own_types (own_below HO3.out.own hal) (own_below HX3.out hal) (by decide)) (fun q A n C hq => by
                  cases A with
                  | none => exact .inl rfl
                  | some a => exact .inr (fun e => by have h1 := HBL.out q a n C hq; have h2 := hap a.block e.symm; omega))
              · rw [List.length_append, i64s_snocP]; exact hown2
              · exact grown_any (grown_any G3.out hba (fun g hg => by cases hg)) hgrow (fun g hg => Nat.le_trans hwM (hap g hg))
              · exact Nat.le_trans hMq (Nat.le_trans (by simp) hgrow.size)
            case measure => simp [intOf]; omega
        · obtain rfl : k = m := by omega
          have hrow : Hid (rowT ws n k r s' = (row, s2)) := Lib.hid (by rw [HP.out, Nat.sub_self]; exact upT_endK row (fun xs j => (xs, j)))
          have HE : Hid (matT ws n t k s = bindT (upT (rowT ws n k) (k - (r + 1)) (r + 1) s2) (fun xs j => ((done ++ [row]) ++ xs, j))) := Lib.hid (by rw [HQ2.out, hrow.out])
          clear HP HQ2 hrow
          have hrl : done.length = r := HL.out
          replace hrl := Lib.hid hrl
          have hww := G2.out.size
          have HOWN := Lib.hid (HO2.out.own.alloc (.cells #[.slice A1 row.length C1] 53))
          have HNEW : Hid (∀ (q : Nat) (u : Value), [Value.slice A1 row.length C1][q]? = some u → (wr.alloc (.cells #[.slice A1 row.length C1] 53)).cell? ((⟨wr.heap.size, 0, none⟩ : Addr).add q) = some u) := Lib.hid (fun q u hu => cells_new _ _ _ q u (by simpa using hu))
          go_wp2_with (first | (at_builtin; refine wpList_append_own _ rfl _ _ 27 rfl w.heap.size 53 i1 (.slice none 0 0) 1 24 Try.underlying27 hi1 hy0 hy1 hy2 rfl (by decide) _ done.length _ rfl HOWN.out ⟨wr.heap.size, 0, none⟩ 1 1 [.slice A1 row.length C1] rfl rfl HNEW.out (fun x hx => by simp at hx; subst hx; rfl) (by have := hrl.out; unfold maxLen; omega) (by have := hrl.out; omega) (by simp; omega) ?_; intro v' w6 hown2 hgrow _))
          go_roundw
          case rel =>
            have hap : ∀ g, (Value.slice A0 done.length C0).ownBlock = some g → w.heap.size ≤ g := fun g hg => (own_lt HO2.out.own hg).1
            have hba : wr.grownBy (wr.alloc (.cells #[.slice A1 row.length C1] 53)) none := grown_of_below ((Below.refl _ _).alloc (Nat.le_refl _) _)
            refine ⟨r + 1, s2, done ++ [row], hs ++ [.slice A1 row.length C1], by omega, by go_num, Lib.hid (by rw [List.length_append, hrl.out]; rfl), HE, ?_, ?_, ?_⟩
            · exact tel_any (tel_any R2.out hba (fun g hg => by cases hg)) hgrow (fun g hg => by have := hap g hg; omega)
            · exact HO2.out.push (own_base HX.out hwM) _ hown2 hgrow
            · exact grown_any (grown_any G2.out hba (fun g hg => by cases hg)) hgrow hap
          case measure => simp [intOf]; omega
    · obtain rfl : r = m := by omega
      have hmat : Hid (matT ws n t r s = (done, s')) := Lib.hid (by rw [HQ.out, Nat.sub_self]; exact upT_endK done (fun xs j => (xs, j)))
      clear HQ HL
      go_wp2_with fail
      go_ret
      exact ⟨G1.out, A0, C0, hs, by rw [hmat.out]; rfl, by rw [hmat.out]; exact R1.out, by rw [hmat.out]; exact HO.out⟩
end Go.Proofs.Ytljcpgeggbbmfaa
namespace Go.Proofs.Ytljcpgeggbbmfaa
set_option linter.unusedVariables false
set_option linter.unusedSimpArgs false
open Go.RowKit
structure TB (w1 : World) (p bx : Nat) (A : Option Addr) (C : Nat) (ws : List WordD) (n : Nat) (s : TS) (X : InstD) (h : HdD) (h7 h8 : List Value) (wr : World) : Prop where
  R : TelIs wr p A C ws s n
  box : wr.heap[bx]? = some (.cells (instC X h) 29 (0, 0))
  chg : Chg (fun k => k = p ∨ k = bx) w1 wr
  o5 : wr.ownsRow w1.heap.size 62 2 (.slice h.sa X.sats.length h.sc) X.sats.length (X.sats.flatMap satV)
  o6 : wr.ownsRow w1.heap.size 66 4 (.slice h.ca X.custs.length h.cc) X.custs.length (X.custs.flatMap custV)
  o7 : RowsOwn w1.heap.size wr (.slice h.oa X.cost.length h.oc) X.cost h7
  o8 : RowsOwn w1.heap.size wr (.slice h.ta X.time.length h.tc) X.time h8
/-- a store into the instance's box leaves the reader. -/
theorem TelIs.boxed {w : World} {p : Nat} {A : Option Addr} {C : Nat} {ws : List WordD} {s : TS} {n bx : Nat} {X : InstD} {hd : HdD} {T : TypeId} (h : TelIs w p A C ws s n) (hB : w.heap[bx]? = some (.cells (instC X hd) T (0, 0))) (hne : bx ≠ p) (j : Nat) (u : Value) :
    TelIs (w.setCell ⟨bx, j, none⟩ u) p A C ws s n := by
  refine ⟨(heap_setCell_other w ⟨bx, j, none⟩ p u (fun e => hne e.symm)).trans h.blk, fun hn => ?_, h.lt, h.hi, h.le⟩
  obtain ⟨b, off, e, hc⟩ := h.rd hn
  have hb : b ≠ bx := fun e2 => by
    subst e2
    cases ws with
    | nil => exact hn rfl
    | cons x ws =>
      have h0 := hc 0 (.string x.text) rfl
      rw [cell_of_row w b _ _ _ _ hB] at h0
      exact inst_no_string X hd _ _ h0
  exact ⟨b, off, e, fun q u' hu => (World.cell?_of_block (heap_setCell_other w ⟨bx, j, none⟩ b u hb)).trans (hc q u' hu)⟩
section
variable {w1 wr w' : World} {p bx : Nat} {A : Option Addr} {C : Nat} {ws : List WordD} {n : Nat} {s : TS} {X : InstD} {h : HdD} {h7 h8 : List Value}
theorem TB.moved (H : TB w1 p bx A C ws n s X h h7 h8 wr) {s2 : TS} (hR : TelIs w' p A C ws s2 n) (hg : wr.grownBy w' (some p)) (hne : bx ≠ p) (hp : p < w1.heap.size) : TB w1 p bx A C ws n s2 X h h7 h8 w' :=
  ⟨hR, (hg.block bx (heap_lt H.box) (fun e => hne (by injection e))).trans H.box, H.chg.grownAny hg (fun g e => .inl (.inl (by injection e with e; exact e.symm))), own_grownG H.o5 hg hp, own_grownG H.o6 hg hp, H.o7.grownG hg hp, H.o8.grownG hg hp⟩
theorem TB.below (H : TB w1 p bx A C ws n s X h h7 h8 wr) (hb : Below wr.heap.size wr w') : TB w1 p bx A C ws n s X h h7 h8 w' :=
  ⟨H.R.below hb, (hb.block bx (heap_lt H.box)).trans H.box, H.chg.trans (Chg.below hb), own_below H.o5 hb, own_below H.o6 hb, H.o7.below hb, H.o8.below hb⟩
/-- a store into the box: what lies elsewhere is kept. -/
theorem TB.put (H : TB w1 p bx A C ws n s X h h7 h8 wr) (hne : bx ≠ p) (hbx : bx < w1.heap.size) (j : Nat) (u : Value) {X' : InstD} {h' : HdD} (hc : (instC X h).setIfInBounds j u = instC X' h')
    (k5 : (wr.setCell ⟨bx, j, none⟩ u).ownsRow w1.heap.size 62 2 (.slice h'.sa X'.sats.length h'.sc) X'.sats.length (X'.sats.flatMap satV))
    (k6 : (wr.setCell ⟨bx, j, none⟩ u).ownsRow w1.heap.size 66 4 (.slice h'.ca X'.custs.length h'.cc) X'.custs.length (X'.custs.flatMap custV))
    {g7 g8 : List Value} (k7 : RowsOwn w1.heap.size (wr.setCell ⟨bx, j, none⟩ u) (.slice h'.oa X'.cost.length h'.oc) X'.cost g7) (k8 : RowsOwn w1.heap.size (wr.setCell ⟨bx, j, none⟩ u) (.slice h'.ta X'.time.length h'.tc) X'.time g8) : TB w1 p bx A C ws n s X' h' g7 g8 (wr.setCell ⟨bx, j, none⟩ u) :=
  ⟨H.R.boxed H.box hne j u, by rw [heap_set wr bx j _ _ u H.box, hc], H.chg.grownAny (grown_set wr ⟨bx, j, none⟩ u) (fun g e => .inl (.inr (by injection e with e; exact e.symm))), k5, k6, k7, k8⟩
theorem TB.fin (H : TB w1 p bx A C ws n s X h h7 h8 wr) (hne : bx ≠ p) (hbx : bx < w1.heap.size) (v : Int) : TB w1 p bx A C ws n s { X with fin := v } h h7 h8 (wr.setCell ⟨bx, 0, none⟩ (.int .i64 v)) :=
  H.put hne hbx 0 (.int .i64 v) (X' := { X with fin := v }) (h' := h) rfl (own_set H.o5 hbx _ _) (own_set H.o6 hbx _ _) (H.o7.set hbx _ _) (H.o8.set hbx _ _)
theorem TB.tm (H : TB w1 p bx A C ws n s X h h7 h8 wr) (hne : bx ≠ p) (hbx : bx < w1.heap.size) (v : Int) : TB w1 p bx A C ws n s { X with tm := v } h h7 h8 (wr.setCell ⟨bx, 1, none⟩ (.int .i64 v)) :=
  H.put hne hbx 1 (.int .i64 v) (X' := { X with tm := v }) (h' := h) rfl (own_set H.o5 hbx _ _) (own_set H.o6 hbx _ _) (H.o7.set hbx _ _) (H.o8.set hbx _ _)
theorem TB.tr (H : TB w1 p bx A C ws n s X h h7 h8 wr) (hne : bx ≠ p) (hbx : bx < w1.heap.size) (v : Int) : TB w1 p bx A C ws n s { X with tr := v } h h7 h8 (wr.setCell ⟨bx, 2, none⟩ (.int .i64 v)) :=
  H.put hne hbx 2 (.int .i64 v) (X' := { X with tr := v }) (h' := h) rfl (own_set H.o5 hbx _ _) (own_set H.o6 hbx _ _) (H.o7.set hbx _ _) (H.o8.set hbx _ _)
theorem TB.bm (H : TB w1 p bx A C ws n s X h h7 h8 wr) (hne : bx ≠ p) (hbx : bx < w1.heap.size) (v : Int) : TB w1 p bx A C ws n s { X with bm := v } h h7 h8 (wr.setCell ⟨bx, 3, none⟩ (.int .i64 v)) :=
  H.put hne hbx 3 (.int .i64 v) (X' := { X with bm := v }) (h' := h) rfl (own_set H.o5 hbx _ _) (own_set H.o6 hbx _ _) (H.o7.set hbx _ _) (H.o8.set hbx _ _)
theorem TB.br (H : TB w1 p bx A C ws n s X h h7 h8 wr) (hne : bx ≠ p) (hbx : bx < w1.heap.size) (v : Int) : TB w1 p bx A C ws n s { X with br := v } h h7 h8 (wr.setCell ⟨bx, 4, none⟩ (.int .i64 v)) :=
  H.put hne hbx 4 (.int .i64 v) (X' := { X with br := v }) (h' := h) rfl (own_set H.o5 hbx _ _) (own_set H.o6 hbx _ _) (H.o7.set hbx _ _) (H.o8.set hbx _ _)
theorem TB.cost (H : TB w1 p bx A C ws n s X h h7 h8 wr) (hne : bx ≠ p) (hbx : bx < w1.heap.size) {ls : List (List Int)} {A' : Option Addr} {C' : Nat} {g7 : List Value} (ho : RowsOwn w1.heap.size wr (.slice A' ls.length C') ls g7) : TB w1 p bx A C ws n s { X with cost := ls } { h with oa := A', oc := C' } g7 h8 (wr.setCell ⟨bx, 7, none⟩ (.slice A' ls.length C')) :=
  H.put hne hbx 7 (.slice A' ls.length C') (X' := { X with cost := ls }) (h' := { h with oa := A', oc := C' }) rfl (own_set H.o5 hbx _ _) (own_set H.o6 hbx _ _) (ho.set hbx _ _) (H.o8.set hbx _ _)
theorem TB.time (H : TB w1 p bx A C ws n s X h h7 h8 wr) (hne : bx ≠ p) (hbx : bx < w1.heap.size) {ls : List (List Int)} {A' : Option Addr} {C' : Nat} {g8 : List Value} (ho : RowsOwn w1.heap.size wr (.slice A' ls.length C') ls g8) : TB w1 p bx A C ws n s { X with time := ls } { h with ta := A', tc := C' } h7 g8 (wr.setCell ⟨bx, 8, none⟩ (.slice A' ls.length C')) :=
  H.put hne hbx 8 (.slice A' ls.length C') (X' := { X with time := ls }) (h' := { h with ta := A', tc := C' }) rfl (own_set H.o5 hbx _ _) (own_set H.o6 hbx _ _) (H.o7.set hbx _ _) (ho.set hbx _ _)
/-- one satellite more. -/
theorem TB.sat (H : TB w1 p bx A C ws n s X h h7 h8 wr) (hne : bx ≠ p) (hbx : bx < w1.heap.size) (hp : p < w1.heap.size) (x : SatD) (o : Obj) {w2 : World} {A' : Option Addr} {C' : Nat}
    (hown : w2.ownsRow w1.heap.size 62 2 (.slice A' (X.sats.length + 1) C') (X.sats.length + 1) (X.sats.flatMap satV ++ satV x)) (hg : (wr.alloc o).grownBy w2 (Value.slice h.sa X.sats.length h.sc).ownBlock) :
    w2.cell? ⟨bx, 5, none⟩ = some (.slice h.sa X.sats.length h.sc) ∧ w2.frozen? ⟨bx, 5, none⟩ = false ∧ TB w1 p bx A C ws n s { X with sats := X.sats ++ [x] } { h with sa := A', sc := C' } h7 h8 (w2.setCell ⟨bx, 5, none⟩ (.slice A' (X.sats.length + 1) C')) := by
  have Ha := H.below ((Below.refl _ _).alloc (Nat.le_refl _) o)
  have hap : ∀ g, (Value.slice h.sa X.sats.length h.sc).ownBlock = some g → w1.heap.size ≤ g := fun g hg => (own_lt H.o5 hg).1
  have hB2 : w2.heap[bx]? = some (.cells (instC X h) 29 (0, 0)) := (hg.block bx (heap_lt Ha.box) (fun e => by have := hap bx (by first | exact e | exact e.symm); omega)).trans Ha.box
  have hl : (X.sats ++ [x]).length = X.sats.length + 1 := by simp
  have H2 : TB w1 p bx A C ws n s X h h7 h8 w2 → True := fun _ => trivial
  have k6 := Ha.o6.kept hg (own_types Ha.o6 Ha.o5 (by decide))
  have k7 := Ha.o7.typed Ha.o5 (by decide) (by decide) hg
  have k8 := Ha.o8.typed Ha.o5 (by decide) (by decide) hg
  have kR := tel_any Ha.R hg (fun g e => by have := hap g e; omega)
  refine ⟨cell_of_row w2 bx 5 _ _ _ hB2, frozen_of_row w2 bx 5 _ _ hB2, kR.boxed hB2 hne 5 _, ?_, (Ha.chg.grownAny hg (fun g e => .inr (hap g e))).grownAny (grown_set w2 ⟨bx, 5, none⟩ _) (fun g e => .inl (.inr (by injection e with e; exact e.symm))), ?_, own_set k6 hbx _ _, k7.set hbx _ _, k8.set hbx _ _⟩
  · rw [heap_set w2 bx 5 _ _ _ hB2]
    unfold instC
    rw [hl]; rfl
  · rw [show ({ X with sats := X.sats ++ [x] } : InstD).sats = X.sats ++ [x] from rfl, hl, List.flatMap_append]
    have := own_set hown hbx 5 (.slice A' (X.sats.length + 1) C')
    simpa using this
/-- one customer more. -/
theorem TB.cust (H : TB w1 p bx A C ws n s X h h7 h8 wr) (hne : bx ≠ p) (hbx : bx < w1.heap.size) (hp : p < w1.heap.size) (x : CustD) (o : Obj) {w2 : World} {A' : Option Addr} {C' : Nat}
    (hown : w2.ownsRow w1.heap.size 66 4 (.slice A' (X.custs.length + 1) C') (X.custs.length + 1) (X.custs.flatMap custV ++ custV x)) (hg : (wr.alloc o).grownBy w2 (Value.slice h.ca X.custs.length h.cc).ownBlock) :
    w2.cell? ⟨bx, 6, none⟩ = some (.slice h.ca X.custs.length h.cc) ∧ w2.frozen? ⟨bx, 6, none⟩ = false ∧ TB w1 p bx A C ws n s { X with custs := X.custs ++ [x] } { h with ca := A', cc := C' } h7 h8 (w2.setCell ⟨bx, 6, none⟩ (.slice A' (X.custs.length + 1) C')) := by
  have Ha := H.below ((Below.refl _ _).alloc (Nat.le_refl _) o)
  have hap : ∀ g, (Value.slice h.ca X.custs.length h.cc).ownBlock = some g → w1.heap.size ≤ g := fun g hg => (own_lt H.o6 hg).1
  have hB2 : w2.heap[bx]? = some (.cells (instC X h) 29 (0, 0)) := (hg.block bx (heap_lt Ha.box) (fun e => by have := hap bx (by first | exact e | exact e.symm); omega)).trans Ha.box
  have hl : (X.custs ++ [x]).length = X.custs.length + 1 := by simp
  have k5 := Ha.o5.kept hg (own_types Ha.o5 Ha.o6 (by decide))
  have k7 := Ha.o7.typed Ha.o6 (by decide) (by decide) hg
  have k8 := Ha.o8.typed Ha.o6 (by decide) (by decide) hg
  have kR := tel_any Ha.R hg (fun g e => by have := hap g e; omega)
  refine ⟨cell_of_row w2 bx 6 _ _ _ hB2, frozen_of_row w2 bx 6 _ _ hB2, kR.boxed hB2 hne 6 _, ?_, (Ha.chg.grownAny hg (fun g e => .inr (hap g e))).grownAny (grown_set w2 ⟨bx, 6, none⟩ _) (fun g e => .inl (.inr (by injection e with e; exact e.symm))), own_set k5 hbx _ _, ?_, k7.set hbx _ _, k8.set hbx _ _⟩
  · rw [heap_set w2 bx 6 _ _ _ hB2]
    unfold instC
    rw [hl]; rfl
  · rw [show ({ X with custs := X.custs ++ [x] } : InstD).custs = X.custs ++ [x] from rfl, hl, List.flatMap_append]
    have := own_set hown hbx 6 (.slice A' (X.custs.length + 1) C')
    simpa using this
theorem TB.drew (H : TB w1 p bx A C ws n s X h h7 h8 wr) : TB w1 p bx A C ws n s X h h7 h8 wr.drew := H.below (Below.refl _ _).drew
theorem TB.cells (H : TB w1 p bx A C ws n s X h h7 h8 wr) (j : Nat) (u : Value) (hu : (instC X h)[j]? = some u) : wr.cell? ⟨bx, j, none⟩ = some u ∧ wr.frozen? ⟨bx, j, none⟩ = false :=
  ⟨(cell_of_row wr bx j _ _ _ H.box).trans hu, frozen_of_row wr bx j _ _ H.box⟩
end
end Go.Proofs.Ytljcpgeggbbmfaa
namespace Go.Proofs.Ytljcpgeggbbmfaa
set_option linter.unusedVariables false
set_option linter.unusedSimpArgs false
open Go.RowKit
theorem twords_ok (s : ByteArray) (w : World) (h2 : s.size ≤ 131072) (hok : okAll s = true) :
    Calls Try.prog 18 #[.string s] w fun e w' => ∃ A C, e = .returned (.tuple #[.slice A (wordsL s).length C, .int .i64 (-1)]) ∧ w'.ownsRow w.heap.size 48 2 (.slice A (wordsL s).length C) (wordsL s).length ((wordsL s).flatMap wordV) ∧ Below w.heap.size w w' :=
  (words_any s w h2).mono fun e w' h => by
    rcases h with ⟨k, hb, _⟩ | ⟨_, A, C, h1, h3, h4⟩
    · rw [bad_all hb] at hok; cases hok
    · exact ⟨A, C, h1, h3, h4⟩
theorem twords_bad (s : ByteArray) (w : World) (h2 : s.size ≤ 131072) {k : Nat} (hk : IsBad s k) :
    Calls Try.prog 18 #[.string s] w fun e w' => e = .returned (.tuple #[.slice none 0 0, .int .i64 (k : Int)]) ∧ Below w.heap.size w w' :=
  (words_any s w h2).mono fun e w' h => by
    rcases h with ⟨j, hb, he, hw⟩ | ⟨hok, _⟩
    · rw [bad_unique hb hk] at he; exact ⟨he, hw⟩
    · rw [bad_all hk] at hok; cases hok
theorem bindT_is {α β : Type} {x : α × TS} {f : α → TS → β × TS} {r : β × TS} {a : α} {s : TS} (h : r = bindT x f) (hx : x = (a, s)) : r = f a s := by rw [h, hx]; rfl
theorem tmust_is (q : Nat) (A : Option Addr) (C : Nat) (ws : List WordD) (n : Nat) (t : ByteArray) (s : TS) {u : Unit} {s2 : TS} (hy : tMust ws n t s = (u, s2)) (w : World) (R : TelIs w q A C ws s n) :
    Calls Try.prog 39 #[.pointer (some ⟨q, 0, none⟩), .string t] w (TelEnd w q A C ws n (.tuple #[]) s2) := by
  have := tmust_any q A C ws n t s w R
  rw [hy] at this; exact this
theorem tnum_is (q : Nat) (A : Option Addr) (C : Nat) (ws : List WordD) (n : Nat) (lo hi : Int) (hsz : Hid (∀ x ∈ ws, x.text.size ≤ 9223372036854775807)) (s : TS) {v : Int} {s2 : TS} (hy : tNum ws n lo hi s = (v, s2)) (w : World) (R : TelIs w q A C ws s n) :
    Calls Try.prog 40 #[.pointer (some ⟨q, 0, none⟩), .int .i64 lo, .int .i64 hi] w (TelEnd w q A C ws n (.int .i64 v) s2) := by
  have := tnum_any q A C ws n lo hi hsz s w R
  rw [hy] at this; exact this
theorem tmat_is (q : Nat) (A : Option Addr) (C : Nat) (ws : List WordD) (n : Nat) (t : ByteArray) (m : Nat) (hm : m ≤ 1000) (hsz : Hid (∀ x ∈ ws, x.text.size ≤ 9223372036854775807)) (s : TS) {ls : List (List Int)} {s2 : TS} (hy : matT ws n t m s = (ls, s2)) (w : World) (R : TelIs w q A C ws s n) :
    Calls Try.prog 41 #[.pointer (some ⟨q, 0, none⟩), .string t, .int .i64 m] w fun e w' => w.grownBy w' (some q) ∧ ∃ A' C' hs, e = .returned (.slice A' ls.length C') ∧ TelIs w' q A C ws s2 n ∧ RowsOwn w.heap.size w' (.slice A' ls.length C') ls hs := by
  have := trow_any q A C ws n t m hm hsz s w R
  rw [hy] at this; exact this
theorem wp_zero {P : Program} {op : Oper} {a : Act} {w : World} {K : Act → World → Prop} {Q : Exit → Act → World → Prop} (ty : TypeId) (x y : Operand) (ho : op.op = .store ty x y) (g : Nat) (hx : a.eval x = .pointer (some ⟨g, 0, none⟩)) (hy : a.eval y = .agg #[.int .i64 0, .int .i64 0, .int .i64 0, .int .i64 0, .int .i64 0, .slice none 0 0, .slice none 0 0, .slice none 0 0, .slice none 0 0])
    (hB : w.heap[g]? = some (.cells #[.int .i64 0, .int .i64 0, .int .i64 0, .int .i64 0, .int .i64 0, .slice none 0 0, .slice none 0 0, .slice none 0 0, .slice none 0 0] 29 (0, 0))) (hi : (P.info? ty).map (·.size) = some 9) (hK : ∀ w', w'.heap[g]? = some (.cells #[.int .i64 0, .int .i64 0, .int .i64 0, .int .i64 0, .int .i64 0, .slice none 0 0, .slice none 0 0, .slice none 0 0, .slice none 0 0] 29 (0, 0)) → w.grownBy w' (some g) → K (a.put op.dst undef) w') : op.wp P a w K Q := by
  obtain ⟨h1, h2⟩ := set9 w g 29 _ _ _ _ _ _ _ _ _ (.int .i64 0) (.int .i64 0) (.int .i64 0) (.int .i64 0) (.int .i64 0) (.slice none 0 0) (.slice none 0 0) (.slice none 0 0) (.slice none 0 0) hB
  exact wp_store_mid ty x y ho g 0 #[.int .i64 0, .int .i64 0, .int .i64 0, .int .i64 0, .int .i64 0, .slice none 0 0, .slice none 0 0, .slice none 0 0, .slice none 0 0] hx hy (there9 hB) hi (by kernel_rfl) (hK _ h1 h2)
theorem tmat_isI (q : Nat) (A : Option Addr) (C : Nat) (ws : List WordD) (n : Nat) (t : ByteArray) (m : Nat) (hm : m ≤ 1000) (mi : Int) (hmi : mi = (m : Int)) (hsz : Hid (∀ x ∈ ws, x.text.size ≤ 9223372036854775807)) (s : TS) {ls : List (List Int)} {s2 : TS} (hy : matT ws n t m s = (ls, s2)) (w : World) (R : TelIs w q A C ws s n) :
    Calls Try.prog 41 #[.pointer (some ⟨q, 0, none⟩), .string t, .int .i64 mi] w fun e w' => w.grownBy w' (some q) ∧ ∃ A' C' hs, e = .returned (.slice A' ls.length C') ∧ TelIs w' q A C ws s2 n ∧ RowsOwn w.heap.size w' (.slice A' ls.length C') ls hs := by
  subst hmi
  exact tmat_is q A C ws n t m hm hsz s hy w R
theorem told_parse {ws : List WordD} {n : Nat} {X : InstD} {s : TS} (h : instT ws n = (X, s)) : (s.2 ≠ 0 → parseW ws n = .inr ((placeN ws s.1 n : Int), s.2)) ∧ (s.2 = 0 → s.1 < ws.length → parseW ws n = .inr ((placeN ws s.1 n : Int), 6)) ∧ (s.2 = 0 → ¬ s.1 < ws.length → parseW ws n = .inl X ∧ ReadOk X) := by
  unfold parseW
  cases hi : instP ws n with
  | inl y =>
    obtain ⟨Y, i⟩ := y
    rw [told_ok hi] at h
    injection h with h1 h2
    subst h1
    subst h2
    exact ⟨fun h => absurd rfl h, fun _ h => by dsimp only at h ⊢; rw [if_pos h], fun _ h => ⟨by dsimp only at h ⊢; rw [if_neg h], instP_ok hi⟩⟩
  | inr e =>
    obtain ⟨a, c⟩ := e
    obtain ⟨k, h1, h2, h3⟩ := told_bad hi
    rw [h] at h1
    dsimp only at h1
    subst h1
    exact ⟨fun _ => by dsimp only; rw [h3], fun h => absurd h h2, fun h => absurd h h2⟩
theorem satT_is {ws : List WordD} {n : Nat} {s s1 s2 : TS} {r h : Int} (h1 : tNum ws n 0 1000000000 s = (r, s1)) (h2 : tNum ws n 0 1000000000 s1 = (h, s2)) : satT ws n s = (⟨r, h⟩, s2) := by
  unfold satT bindT
  rw [h1]; dsimp only; rw [h2]
theorem custT_is {ws : List WordD} {n : Nat} {s s1 s2 s3 s4 : TS} {l o c y : Int} (h1 : tNum ws n 1 1000000000 s = (l, s1)) (h2 : tNum ws n 0 1000000000 s1 = (o, s2)) (h3 : tNum ws n o 1000000000 s2 = (c, s3)) (h4 : tNum ws n 0 1000000000 s3 = (y, s4)) : custT ws n s = (⟨l, o, c, y⟩, s4) := by
  unfold custT bindT
  rw [h1]; dsimp only; rw [h2]; dsimp only; rw [h3]; dsimp only; rw [h4]
theorem tel_setNew {w : World} {q : Nat} {A : Option Addr} {C : Nat} {ws : List WordD} {s : TS} {n g : Nat} (h : TelIs w q A C ws s n) (hg : q < g) (j : Nat) (u : Value) : TelIs (w.setCell ⟨g, j, none⟩ u) q A C ws s n :=
  ⟨(Below.heap_setCell w ⟨g, j, none⟩ u q (by show q ≠ g; omega)).trans h.blk, fun hne => by
    obtain ⟨b, off, e, hc⟩ := h.rd hne
    have hlt : b < q := h.lt _ e
    exact ⟨b, off, e, fun k u' hu => (World.cell?_of_block (Below.heap_setCell w ⟨g, j, none⟩ u b (by show b ≠ g; omega))).trans (hc k u' hu)⟩, h.lt, h.hi, h.le⟩
set_option maxHeartbeats 32000000 in
set_option maxRecDepth 100000 in
theorem reads_fine (s : ByteArray) (h2 : s.size ≤ 131072) (hok : okAll s = true) (w : World) :
    Calls Try.prog 16 #[.string s] w (POut (parseW (wordsL s) s.size) w) := by
  have hW := Lib.hid (fun w' => twords_ok s w' h2 hok)
  obtain ⟨is, his, hs0, hs1, hs2⟩ := info_parts info_sat
  obtain ⟨ic, hic, hc0, hc1, hc2⟩ := info_parts info_cust
  have hsz : Hid (∀ x ∈ wordsL s, x.text.size ≤ 9223372036854775807) := Lib.hid (fun x hx => by
    obtain ⟨_, e, h1, h2, _⟩ := wordsL_pos s x hx
    rw [h1, ByteArray.size_extract]; omega)
  have hwl := Lib.hid (wordsL_len s)
  have hb0 : Below w.heap.size w (w.alloc (.cells #[.int .i64 0, .int .i64 0, .int .i64 0, .int .i64 0, .int .i64 0, .slice none 0 0, .slice none 0 0, .slice none 0 0, .slice none 0 0] 29)) := (Below.refl _ _).alloc (Nat.le_refl _) _
  have br0 := heap_alloc_new w (.cells #[.int .i64 0, .int .i64 0, .int .i64 0, .int .i64 0, .int .i64 0, .slice none 0 0, .slice none 0 0, .slice none 0 0, .slice none 0 0] 29)
  replace hb0 := Lib.hid hb0
  replace br0 := Lib.hid br0
  go_enter Try.func16, Try.ntmps16
  go_wp2_with fail
  refine (hW.out _).mono ?_
  rintro e w2 ⟨A, C, rfl, hO, hb⟩
  have hge : w.heap.size < w2.heap.size := Nat.lt_of_lt_of_le (heap_lt br0.out) hb.size
  have BR := (hb.block _ (heap_lt br0.out)).trans br0.out
  have hb1 := hb0.out.trans (hb.mono hb0.out.size)
  have hal : Below w2.heap.size w2 ((w2.alloc (.cells #[.slice A (wordsL s).length C, .int .i64 0, .int .i64 (s.size : Int), .int .i64 0] 83)).alloc (.cells #[.int .i64 0, .int .i64 0, .int .i64 0, .int .i64 0, .int .i64 0, .slice none 0 0, .slice none 0 0, .slice none 0 0, .slice none 0 0] 29)) := ((Below.refl _ _).alloc (Nat.le_refl _) _).alloc (by simp) _
  have t1 : (((w2.alloc (.cells #[.slice A (wordsL s).length C, .int .i64 0, .int .i64 (s.size : Int), .int .i64 0] 83)).alloc (.cells #[.int .i64 0, .int .i64 0, .int .i64 0, .int .i64 0, .int .i64 0, .slice none 0 0, .slice none 0 0, .slice none 0 0, .slice none 0 0] 29))).heap[w2.heap.size]? = some (.cells #[.slice A (wordsL s).length C, .int .i64 0, .int .i64 (s.size : Int), .int .i64 0] 83) := (Below.heap_alloc _ _ _ (by simp)).trans (heap_alloc_new w2 _)
  have t2 : (((w2.alloc (.cells #[.slice A (wordsL s).length C, .int .i64 0, .int .i64 (s.size : Int), .int .i64 0] 83)).alloc (.cells #[.int .i64 0, .int .i64 0, .int .i64 0, .int .i64 0, .int .i64 0, .slice none 0 0, .slice none 0 0, .slice none 0 0, .slice none 0 0] 29))).heap[w2.heap.size + 1]? = some (.cells #[.int .i64 0, .int .i64 0, .int .i64 0, .int .i64 0, .int .i64 0, .slice none 0 0, .slice none 0 0, .slice none 0 0, .slice none 0 0] 29) := by have := heap_alloc_new (w2.alloc (.cells #[.slice A (wordsL s).length C, .int .i64 0, .int .i64 (s.size : Int), .int .i64 0] 83)) (.cells #[.int .i64 0, .int .i64 0, .int .i64 0, .int .i64 0, .int .i64 0, .slice none 0 0, .slice none 0 0, .slice none 0 0, .slice none 0 0] 29); rwa [show (w2.alloc (.cells #[.slice A (wordsL s).length C, .int .i64 0, .int .i64 (s.size : Int), .int .i64 0] 83)).heap.size = w2.heap.size + 1 by simp] at this
  have HB : Hid (TB ((w2.alloc (.cells #[.slice A (wordsL s).length C, .int .i64 0, .int .i64 (s.size : Int), .int .i64 0] 83)).alloc (.cells #[.int .i64 0, .int .i64 0, .int .i64 0, .int .i64 0, .int .i64 0, .slice none 0 0, .slice none 0 0, .slice none 0 0, .slice none 0 0] 29)) w2.heap.size (w2.heap.size + 1) A C (wordsL s) s.size (0, 0) ⟨0, 0, 0, 0, 0, [], [], [], []⟩ ⟨none, 0, none, 0, none, 0, none, 0⟩ [] [] ((w2.alloc (.cells #[.slice A (wordsL s).length C, .int .i64 0, .int .i64 (s.size : Int), .int .i64 0] 83)).alloc (.cells #[.int .i64 0, .int .i64 0, .int .i64 0, .int .i64 0, .int .i64 0, .slice none 0 0, .slice none 0 0, .slice none 0 0, .slice none 0 0] 29))) := Lib.hid ⟨⟨t1, (own_rd' hO).below hal, fun a ha => (own_lt hO (g := a.block) (by rw [ha]; rfl)).2, Nat.zero_le _, by have := hwl.out; omega⟩, t2, Chg.refl _ _, World.ownsRow_nil _ _ _ _, World.ownsRow_nil _ _ _ _, RowsOwn.nil _ _, RowsOwn.nil _ _⟩
  have hsz1 : (((w2.alloc (.cells #[.slice A (wordsL s).length C, .int .i64 0, .int .i64 (s.size : Int), .int .i64 0] 83)).alloc (.cells #[.int .i64 0, .int .i64 0, .int .i64 0, .int .i64 0, .int .i64 0, .slice none 0 0, .slice none 0 0, .slice none 0 0, .slice none 0 0] 29))).heap.size = w2.heap.size + 2 := by simp
  have BR1 := Lib.hid ((hal.block _ hge).trans BR)
  have HB1 := Lib.hid (hb1.trans (hal.mono (Nat.le_of_lt hge)))
  have hbsz : w2.heap.size + 1 < (((w2.alloc (.cells #[.slice A (wordsL s).length C, .int .i64 0, .int .i64 (s.size : Int), .int .i64 0] 83)).alloc (.cells #[.int .i64 0, .int .i64 0, .int .i64 0, .int .i64 0, .int .i64 0, .slice none 0 0, .slice none 0 0, .slice none 0 0, .slice none 0 0] 29))).heap.size := by omega
  have hpsz : w2.heap.size < (((w2.alloc (.cells #[.slice A (wordsL s).length C, .int .i64 0, .int .i64 (s.size : Int), .int .i64 0] 83)).alloc (.cells #[.int .i64 0, .int .i64 0, .int .i64 0, .int .i64 0, .int .i64 0, .slice none 0 0, .slice none 0 0, .slice none 0 0, .slice none 0 0] 29))).heap.size := by omega
  replace hsz1 := Lib.hid hsz1
  clear hb hb0 br0 hO BR hb1 hal t1 t2
  have hneg : ¬ (0 : Int) ≤ -1 := by decide
  have HQ : Hid (instT (wordsL s) s.size = bindT (tMust (wordsL s) s.size sWharfage (0, 0)) fun _ r => bindT (tNum (wordsL s) s.size 0 1000000000 r) fun fin r => bindT (fleetT (wordsL s) s.size sTrucks r) fun t r => bindT (fleetT (wordsL s) s.size sBikes r) fun b r => instT2 (wordsL s) s.size fin t b r) := Lib.hid rfl
  go_wp2_with fail
  generalize hwone : ((w2.alloc (.cells #[.slice A (wordsL s).length C, .int .i64 0, .int .i64 (s.size : Int), .int .i64 0] 83)).alloc (.cells #[.int .i64 0, .int .i64 0, .int .i64 0, .int .i64 0, .int .i64 0, .slice none 0 0, .slice none 0 0, .slice none 0 0, .slice none 0 0] 29)) = w1 at *
  generalize hqq : w2.heap.size = q at *
  generalize hws : wordsL s = ws at *
  generalize hg : w.heap.size = g at *
  replace hg := Lib.hid hg
  have hne : q + 1 ≠ q := by omega
  have hq1 : q + 1 = q + 1 := rfl
  obtain ⟨bx, hbx0⟩ : ∃ bx, q + 1 = bx := ⟨_, rfl⟩
  rw [hbx0] at HB hbsz hne ⊢
  have hbq : bx = q + 1 := hbx0.symm
  replace hbq := Lib.hid hbq
  clear hbx0 hq1 hwone hqq hws hW
  obtain ⟨ur1, r1, hy⟩ : ∃ (uu : Unit) (rr : TS), tMust ws s.size sWharfage (0, 0) = (uu, rr) := ⟨_, _, rfl⟩
  refine (tmust_is q A C ws s.size sWharfage (0, 0) hy _ HB.out.R).mono ?_
  rintro e x1 ⟨rfl, hR, hG⟩
  replace HB := Lib.hid (HB.out.moved hR hG hne hpsz)
  replace HQ := Lib.hid (bindT_is HQ.out hy)
  clear hy hR hG
  go_wp2_with fail
  obtain ⟨fin, r2, hy⟩ : ∃ (vv : Int) (rr : TS), tNum ws s.size 0 1000000000 r1 = (vv, rr) := ⟨_, _, rfl⟩
  refine (tnum_is q A C ws s.size 0 1000000000 hsz r1 hy _ HB.out.R).mono ?_
  rintro e x2 ⟨rfl, hR, hG⟩
  replace HB := Lib.hid (HB.out.moved hR hG hne hpsz)
  replace HQ := Lib.hid (bindT_is HQ.out hy)
  clear hy hR hG
  obtain ⟨c0, f0⟩ := HB.out.cells 0 _ rfl
  replace HB := Lib.hid (HB.out.fin hne hbsz fin)
  go_wp2_with fail
  clear c0 f0
  generalize x2.setCell ⟨bx, 0, none⟩ (.int .i64 fin) = y2 at *
  replace HQ : Hid (instT ws s.size = bindT (tMust ws s.size sTrucks r2) fun _ r => bindT (tNum ws s.size 1 60 r) fun m r => bindT (tNum ws s.size 0 1000000000 r) fun z r => bindT (fleetT ws s.size sBikes r) fun b r => instT2 ws s.size fin (m, z) b r) := Lib.hid HQ.out
  obtain ⟨ur3, r3, hy⟩ : ∃ (uu : Unit) (rr : TS), tMust ws s.size sTrucks r2 = (uu, rr) := ⟨_, _, rfl⟩
  refine (tmust_is q A C ws s.size sTrucks r2 hy _ HB.out.R).mono ?_
  rintro e x3 ⟨rfl, hR, hG⟩
  replace HB := Lib.hid (HB.out.moved hR hG hne hpsz)
  replace HQ := Lib.hid (bindT_is HQ.out hy)
  clear hy hR hG
  go_wp2_with fail
  obtain ⟨tm, r4, hy⟩ : ∃ (vv : Int) (rr : TS), tNum ws s.size 1 60 r3 = (vv, rr) := ⟨_, _, rfl⟩
  refine (tnum_is q A C ws s.size 1 60 hsz r3 hy _ HB.out.R).mono ?_
  rintro e x4 ⟨rfl, hR, hG⟩
  replace HB := Lib.hid (HB.out.moved hR hG hne hpsz)
  replace HQ := Lib.hid (bindT_is HQ.out hy)
  clear hy hR hG
  obtain ⟨c0, f0⟩ := HB.out.cells 1 _ rfl
  replace HB := Lib.hid (HB.out.tm hne hbsz tm)
  go_wp2_with fail
  clear c0 f0
  generalize x4.setCell ⟨bx, 1, none⟩ (.int .i64 tm) = y4 at *
  obtain ⟨tr, r5, hy⟩ : ∃ (vv : Int) (rr : TS), tNum ws s.size 0 1000000000 r4 = (vv, rr) := ⟨_, _, rfl⟩
  refine (tnum_is q A C ws s.size 0 1000000000 hsz r4 hy _ HB.out.R).mono ?_
  rintro e x5 ⟨rfl, hR, hG⟩
  replace HB := Lib.hid (HB.out.moved hR hG hne hpsz)
  replace HQ := Lib.hid (bindT_is HQ.out hy)
  clear hy hR hG
  obtain ⟨c0, f0⟩ := HB.out.cells 2 _ rfl
  replace HB := Lib.hid (HB.out.tr hne hbsz tr)
  go_wp2_with fail
  clear c0 f0
  generalize x5.setCell ⟨bx, 2, none⟩ (.int .i64 tr) = y5 at *
  replace HQ : Hid (instT ws s.size = bindT (tMust ws s.size sBikes r5) fun _ r => bindT (tNum ws s.size 1 60 r) fun m r => bindT (tNum ws s.size 0 1000000000 r) fun z r => instT2 ws s.size fin (tm, tr) (m, z) r) := Lib.hid HQ.out
  obtain ⟨ur6, r6, hy⟩ : ∃ (uu : Unit) (rr : TS), tMust ws s.size sBikes r5 = (uu, rr) := ⟨_, _, rfl⟩
  refine (tmust_is q A C ws s.size sBikes r5 hy _ HB.out.R).mono ?_
  rintro e x6 ⟨rfl, hR, hG⟩
  replace HB := Lib.hid (HB.out.moved hR hG hne hpsz)
  replace HQ := Lib.hid (bindT_is HQ.out hy)
  clear hy hR hG
  go_wp2_with fail
  obtain ⟨bm, r7, hy⟩ : ∃ (vv : Int) (rr : TS), tNum ws s.size 1 60 r6 = (vv, rr) := ⟨_, _, rfl⟩
  refine (tnum_is q A C ws s.size 1 60 hsz r6 hy _ HB.out.R).mono ?_
  rintro e x7 ⟨rfl, hR, hG⟩
  replace HB := Lib.hid (HB.out.moved hR hG hne hpsz)
  replace HQ := Lib.hid (bindT_is HQ.out hy)
  clear hy hR hG
  obtain ⟨c0, f0⟩ := HB.out.cells 3 _ rfl
  replace HB := Lib.hid (HB.out.bm hne hbsz bm)
  go_wp2_with fail
  clear c0 f0
  generalize x7.setCell ⟨bx, 3, none⟩ (.int .i64 bm) = y7 at *
  obtain ⟨br, r8, hy⟩ : ∃ (vv : Int) (rr : TS), tNum ws s.size 0 1000000000 r7 = (vv, rr) := ⟨_, _, rfl⟩
  refine (tnum_is q A C ws s.size 0 1000000000 hsz r7 hy _ HB.out.R).mono ?_
  rintro e x8 ⟨rfl, hR, hG⟩
  replace HB := Lib.hid (HB.out.moved hR hG hne hpsz)
  replace HQ := Lib.hid (bindT_is HQ.out hy)
  clear hy hR hG
  obtain ⟨c0, f0⟩ := HB.out.cells 4 _ rfl
  replace HB := Lib.hid (HB.out.br hne hbsz br)
  go_wp2_with fail
  clear c0 f0
  generalize x8.setCell ⟨bx, 4, none⟩ (.int .i64 br) = y8 at *
  replace HQ : Hid (instT ws s.size = bindT (tMust ws s.size sSats r8) fun _ r => bindT (tNum ws s.size 1 12 r) fun m r => bindT (upT (fun _ => satT ws s.size) m.toNat 0 r) fun ss r => instT3 ws s.size fin (tm, tr) (bm, br) ss r) := Lib.hid HQ.out
  obtain ⟨ur9, r9, hy⟩ : ∃ (uu : Unit) (rr : TS), tMust ws s.size sSats r8 = (uu, rr) := ⟨_, _, rfl⟩
  refine (tmust_is q A C ws s.size sSats r8 hy _ HB.out.R).mono ?_
  rintro e x9 ⟨rfl, hR, hG⟩
  replace HB := Lib.hid (HB.out.moved hR hG hne hpsz)
  replace HQ := Lib.hid (bindT_is HQ.out hy)
  clear hy hR hG
  go_wp2_with fail
  obtain ⟨m1, r10, hy⟩ : ∃ (vv : Int) (rr : TS), tNum ws s.size 1 12 r9 = (vv, rr) := ⟨_, _, rfl⟩
  refine (tnum_is q A C ws s.size 1 12 hsz r9 hy _ HB.out.R).mono ?_
  rintro e x10 ⟨rfl, hR, hG⟩
  replace HB := Lib.hid (HB.out.moved hR hG hne hpsz)
  have hv := tNum_val ws s.size 1 12 r9 (by decide) (by decide)
  rw [hy] at hv
  dsimp only at hv
  replace HQ := Lib.hid (bindT_is HQ.out hy)
  clear hy hR hG
  obtain ⟨mN, rfl⟩ : ∃ mN : Nat, m1 = (mN : Int) := ⟨m1.toNat, by omega⟩
  have hmN : mN ≤ 12 := by omega
  clear hv
  replace HQ : Hid (instT ws s.size = bindT (upT (fun _ => satT ws s.size) (mN - 0) 0 r10) (fun xs j => instT3 ws s.size fin (tm, tr) (bm, br) ([] ++ xs) j)) := Lib.hid HQ.out
  go_wp2_with fail
  go_loopw [55] (fun ix wr => ∃ (k : Nat) (r : TS) (l : List SatD) (sa : Option Addr) (sc : Nat), k ≤ mN ∧ ix = .int .i64 k ∧ Hid (l.length = k) ∧ Hid (instT ws s.size = bindT (upT (fun _ => satT ws s.size) (mN - k) k r) (fun xs j => instT3 ws s.size fin (tm, tr) (bm, br) (l ++ xs) j)) ∧ TB w1 q bx A C ws s.size r ⟨fin, tm, tr, bm, br, l, [], [], []⟩ ⟨sa, sc, none, 0, none, 0, none, 0⟩ [] [] wr) (fun ix _ => mN - (intOf ix).toNat)
  case atStart => exact ⟨0, r10, [], none, 0, Nat.zero_le _, rfl, Lib.hid rfl, HQ, HB.out⟩
  case round =>
    obtain ⟨k, r, l, sa, sc, hk, rfl, HL, HQ2, HB2⟩ := hrel
    clear HQ HB
    have HB := Lib.hid HB2
    have HQ := HQ2
    clear HB2 HQ2
    by_cases hkm : k < mN
    · have HGo : Hid (instT ws s.size = bindT (upT (fun _ => satT ws s.size) (mN - (k + 1)) (k + 1) (satT ws s.size r).2) (fun xs j => instT3 ws s.size fin (tm, tr) (bm, br) ((l ++ [(satT ws s.size r).1]) ++ xs) j)) := Lib.hid (by
        rw [HQ.out, show mN - k = (mN - (k + 1)) + 1 by omega]
        exact upT_goK (f := fun _ => satT ws s.size) (k := k) l (fun xs j => instT3 ws s.size fin (tm, tr) (bm, br) xs j))
      clear HQ
      have hl : l.length = k := HL.out
      replace hl := Lib.hid hl
      obtain ⟨rm, ra, hya⟩ : ∃ (v : Int) (t : TS), tNum ws s.size 0 1000000000 r = (v, t) := ⟨_, _, rfl⟩
      obtain ⟨hd, rb, hyb⟩ : ∃ (v : Int) (t : TS), tNum ws s.size 0 1000000000 ra = (v, t) := ⟨_, _, rfl⟩
      have hsat := satT_is hya hyb
      have hGo := HGo.out
      rw [hsat] at hGo
      dsimp only at hGo
      replace hGo := Lib.hid hGo
      replace hya := Lib.hid hya
      replace hyb := Lib.hid hyb
      clear HGo hsat
      go_wp2_with fail
      refine (tnum_is q A C ws s.size 0 1000000000 hsz r hya.out _ HB.out.R).mono ?_
      rintro e x11 ⟨rfl, hR, hG⟩
      replace HB := Lib.hid (HB.out.moved hR hG hne hpsz)
      clear hR hG
      go_upto_region 18 with fail
      have c5 := (HB.out.cells 5 _ rfl).1
      have HBd := Lib.hid HB.out.drew
      refine wp_region_N (fun j => decide (j < 8)) (fun wz => wz.cell? ⟨bx, 5, none⟩ = some (.slice sa l.length sc)) (by kernel_rfl) (by exact c5) (fun hShut hHeld => ?_)
      refine wpAnyN_take_0 (v := ?v1n) ?_ ?_ ?_ ?_ ?_ ?hy1n ?_ ?_ ?_
      case hy1n =>
        refine Or.inl ⟨by rfl, ?_⟩
        intro w hSw
        try dsimp only at hSw
        go_simp
        try with_reducible rfl
      · kernel_rfl
      · kernel_rfl
      · kernel_rfl
      · kernel_rfl
      · exact fun _ _ _ h => h
      · exact hHeld
      · exact hShut
      clear hShut
      intro hShut
      try simp only [Act.put, List.setIfInBounds_toArray, List.set_cons_zero, List.set_cons_succ]
      refine wpAnyN_take_1 (v := ?v2n) ?_ ?_ ?_ ?_ ?_ ?hy2n ?_ ?_ ?_
      case hy2n =>
        refine Or.inl ⟨by rfl, ?_⟩
        intro w hSw
        try dsimp only at hSw
        go_simp
        try with_reducible rfl
      · kernel_rfl
      · kernel_rfl
      · kernel_rfl
      · kernel_rfl
      · exact fun _ _ _ h => h
      · exact hHeld
      · exact hShut
      clear hShut
      intro hShut
      try simp only [Act.put, List.setIfInBounds_toArray, List.set_cons_zero, List.set_cons_succ]
      refine wpAnyN_take_2 (v := ?v3n) ?_ ?_ ?_ ?_ ?_ ?hy3n ?_ ?_ ?_
      case hy3n =>
        refine Or.inl ⟨by rfl, ?_⟩
        intro w hSw
        try dsimp only at hSw
        go_simp
        try with_reducible rfl
      · kernel_rfl
      · kernel_rfl
      · kernel_rfl
      · kernel_rfl
      · exact fun _ _ _ h => h
      · exact hHeld
      · exact hShut
      clear hShut
      intro hShut
      try simp only [Act.put, List.setIfInBounds_toArray, List.set_cons_zero, List.set_cons_succ]
      refine wpAnyN_take_3 (v := ?v4n) ?_ ?_ ?_ ?_ ?_ ?hy4n ?_ ?_ ?_
      case hy4n =>
        refine Or.inl ⟨by rfl, ?_⟩
        intro w hSw
        try dsimp only at hSw
        go_simp
        try with_reducible rfl
      · kernel_rfl
      · kernel_rfl
      · kernel_rfl
      · kernel_rfl
      · exact fun _ _ _ h => h
      · exact hHeld
      · exact hShut
      clear hShut
      intro hShut
      try simp only [Act.put, List.setIfInBounds_toArray, List.set_cons_zero, List.set_cons_succ]
      refine wpAnyN_one_4 (by kernel_rfl) (by exact hShut) (fun K hK => ?_)
      go_simp
      refine (tnum_is q A C ws s.size 0 1000000000 hsz ra hyb.out _ (by exact HBd.out.R)).mono ?_
      rintro e w8 ⟨rfl, hR, hG⟩
      have HB5 := Lib.hid (HBd.out.moved hR hG hne hpsz)
      clear hR hG HBd HB c5
      have c5 := (HB5.out.cells 5 _ rfl).1
      go_wp2_with fail
      refine hK.out _ _ (fun _ => (by exact c5)) (fun hH hS2 => ?_)
      clear hK K hHeld hShut
      have hShut := hS2
      clear hS2
      have hHeld := hH rfl
      clear hH
      try simp only [Act.put, List.setIfInBounds_toArray, List.set_cons_zero, List.set_cons_succ]
      refine wpAnyN_one_5 (by kernel_rfl) (by exact hShut) (fun K hK => ?_)
      go_simp
      refine hK.out _ _ (fun _ => (by exact c5)) (fun hH hS2 => ?_)
      clear hK K hHeld hShut
      have hShut := hS2
      clear hS2
      have hHeld := hH rfl
      clear hH
      try simp only [Act.put, List.setIfInBounds_toArray, List.set_cons_zero, List.set_cons_succ]
      refine wpAnyN_one_6 (by kernel_rfl) (by exact hShut) (fun K hK => ?_)
      go_simp
      refine hK.out _ _ (fun _ => (by exact keep_cell ((Below.refl _ _).alloc (Nat.le_refl _) _) c5)) (fun hH hS2 => ?_)
      clear hK K hHeld hShut
      have hShut := hS2
      clear hS2
      have hHeld := hH rfl
      clear hH
      try simp only [Act.put, List.setIfInBounds_toArray, List.set_cons_zero, List.set_cons_succ]
      have hw8 : w1.heap.size ≤ w8.heap.size := HB5.out.chg.size
      have HOWN := Lib.hid (HB5.out.o5.alloc (.cells #[.int .i64 rm, .int .i64 hd] 62))
      have HNEW : Hid (∀ (q : Nat) (u : Value), [.int .i64 rm, .int .i64 hd][q]? = some u → (w8.alloc (.cells #[.int .i64 rm, .int .i64 hd] 62)).cell? ((⟨w8.heap.size, 0, none⟩ : Addr).add q) = some u) := Lib.hid (fun q u hu => cells_new _ _ _ q u (by simpa using hu))
      refine wpAnyN_one_7 (by kernel_rfl) (by exact hShut) (fun K hK => ?_)
      refine if_true_P (by rfl) ?_
      refine wp_append_own _ (.tmp 60) (.tmp 65) 25 rfl w1.heap.size 62 is (.agg #[.int .i64 0, .int .i64 0]) 2 16 Try.underlying25 his hs0 hs1 hs2 rfl (by decide) (.slice sa l.length sc) l.length (l.flatMap satV) (by first | rfl | simp [Act.eval, Act.put]) (by first | exact HOWN.out | exact HOWN.out.drew | exact HOWN.out.drew.drew) ⟨w8.heap.size, 0, none⟩ 1 1 [.int .i64 rm, .int .i64 hd] (by first | rfl | simp [Act.eval, Act.put]) rfl HNEW.out (fun x hx => by simp at hx; rcases hx with rfl | rfl <;> rfl) (by have := hl.out; unfold maxLen; omega) (by have := hl.out; omega) (by show w1.heap.size ≤ (w8.alloc _).heap.size; simp; omega) ?_
      intro v' w9 hown2 hgrow _
      obtain ⟨A', C', hv'⟩ := own_val hown2
      subst hv'
      have hgrow2 : (w8.alloc (.cells #[.int .i64 rm, .int .i64 hd] 62)).grownBy w9 (Value.slice sa l.length sc).ownBlock := by first | exact hgrow | exact grown_undrewP hgrow | exact grown_undrewP (grown_undrewP hgrow)
      obtain ⟨d5, f5, HZ⟩ := HB5.out.sat hne hbsz hpsz ⟨rm, hd⟩ _ hown2 hgrow2
      replace HZ := Lib.hid HZ
      clear hown2 hgrow hgrow2 HOWN HNEW
      refine hK.out _ _ (fun _ => (by exact d5)) (fun hH hS2 => ?_)
      clear hK K hHeld hShut
      have hShut := hS2
      clear hS2
      have hHeld := hH rfl
      clear hH
      try simp only [Act.put, List.setIfInBounds_toArray, List.set_cons_zero, List.set_cons_succ]
      refine wpAnyN_one_8 (by kernel_rfl) (by exact hShut) (fun K hK => ?_)
      go_simp
      refine hK.out _ _ (fun h => absurd h (by decide)) (fun _ hS2 => ?_)
      clear hK K hShut
      have hShut := hS2
      clear hS2
      try simp only [Act.put, List.setIfInBounds_toArray, List.set_cons_zero, List.set_cons_succ]
      refine wpAnyN_one_9 (by kernel_rfl) (by exact hShut) (fun K hK => ?_)
      go_simp
      refine hK.out _ _ (fun h => absurd h (by decide)) (fun _ hS2 => ?_)
      clear hK K hShut
      have hShut := hS2
      clear hS2
      try simp only [Act.put, List.setIfInBounds_toArray, List.set_cons_zero, List.set_cons_succ]
      refine wpAnyN_done (by kernel_rfl) ?_ _
      clear hShut hHeld
      go_wp2_with fail
      go_roundw
      case rel =>
        refine ⟨k + 1, rb, l ++ [⟨rm, hd⟩], A', C', by omega, by go_num, Lib.hid (by rw [List.length_append, hl.out]; rfl), ?_, ?_⟩
        · exact hGo
        · exact HZ.out
      case measure => simp [intOf]; omega
    · obtain rfl : k = mN := by omega
      have hl : l.length ≤ 12 := by have := HL.out; omega
      replace HQ : Hid (instT ws s.size = instT3 ws s.size fin (tm, tr) (bm, br) l r) := Lib.hid (by rw [HQ.out, Nat.sub_self, upT_endK])
      clear HL
      generalize hsats : l = sats at *
      clear hsats
      generalize sa = ha at *
      generalize sc = hc at *
      replace HQ : Hid (instT ws s.size = bindT (tMust ws s.size sCusts r) fun _ r => bindT (tNum ws s.size 1 48 r) fun m r => bindT (upT (fun _ => custT ws s.size) m.toNat 0 r) fun cs r => instT4 ws s.size fin (tm, tr) (bm, br) sats cs r) := Lib.hid HQ.out
      go_wp2_with fail
      obtain ⟨ur11, r11, hy⟩ : ∃ (uu : Unit) (rr : TS), tMust ws s.size sCusts r = (uu, rr) := ⟨_, _, rfl⟩
      refine (tmust_is q A C ws s.size sCusts r hy _ HB.out.R).mono ?_
      rintro e x12 ⟨rfl, hR, hG⟩
      replace HB := Lib.hid (HB.out.moved hR hG hne hpsz)
      replace HQ := Lib.hid (bindT_is HQ.out hy)
      clear hy hR hG
      go_wp2_with fail
      obtain ⟨m1, r12, hy⟩ : ∃ (vv : Int) (rr : TS), tNum ws s.size 1 48 r11 = (vv, rr) := ⟨_, _, rfl⟩
      refine (tnum_is q A C ws s.size 1 48 hsz r11 hy _ HB.out.R).mono ?_
      rintro e x13 ⟨rfl, hR, hG⟩
      replace HB := Lib.hid (HB.out.moved hR hG hne hpsz)
      have hv := tNum_val ws s.size 1 48 r11 (by decide) (by decide)
      rw [hy] at hv
      dsimp only at hv
      replace HQ := Lib.hid (bindT_is HQ.out hy)
      clear hy hR hG
      obtain ⟨mC, rfl⟩ : ∃ mC : Nat, m1 = (mC : Int) := ⟨m1.toNat, by omega⟩
      have hmC : mC ≤ 48 := by omega
      clear hv
      replace HQ : Hid (instT ws s.size = bindT (upT (fun _ => custT ws s.size) (mC - 0) 0 r12) (fun xs j => instT4 ws s.size fin (tm, tr) (bm, br) sats ([] ++ xs) j)) := Lib.hid HQ.out
      go_wp2_with fail
      go_loopw [73] (fun ix wr => ∃ (k : Nat) (r : TS) (l : List CustD) (sa : Option Addr) (sc : Nat), k ≤ mC ∧ ix = .int .i64 k ∧ Hid (l.length = k) ∧ Hid (instT ws s.size = bindT (upT (fun _ => custT ws s.size) (mC - k) k r) (fun xs j => instT4 ws s.size fin (tm, tr) (bm, br) sats (l ++ xs) j)) ∧ TB w1 q bx A C ws s.size r ⟨fin, tm, tr, bm, br, sats, l, [], []⟩ ⟨ha, hc, sa, sc, none, 0, none, 0⟩ [] [] wr) (fun ix _ => mC - (intOf ix).toNat)
      case atStart => exact ⟨0, r12, [], none, 0, Nat.zero_le _, rfl, Lib.hid rfl, HQ, HB.out⟩
      case round =>
        obtain ⟨k, r, l, sa, sc, hk, rfl, HL, HQ2, HB2⟩ := hrel
        clear HQ HB
        have HB := Lib.hid HB2
        have HQ := HQ2
        clear HB2 HQ2
        by_cases hkm : k < mC
        · have HGo : Hid (instT ws s.size = bindT (upT (fun _ => custT ws s.size) (mC - (k + 1)) (k + 1) (custT ws s.size r).2) (fun xs j => instT4 ws s.size fin (tm, tr) (bm, br) sats ((l ++ [(custT ws s.size r).1]) ++ xs) j)) := Lib.hid (by
            rw [HQ.out, show mC - k = (mC - (k + 1)) + 1 by omega]
            exact upT_goK (f := fun _ => custT ws s.size) (k := k) l (fun xs j => instT4 ws s.size fin (tm, tr) (bm, br) sats xs j))
          clear HQ
          have hl : l.length = k := HL.out
          replace hl := Lib.hid hl
          obtain ⟨l1, ra, hy1⟩ : ∃ (v : Int) (t : TS), tNum ws s.size 1 1000000000 r = (v, t) := ⟨_, _, rfl⟩
          obtain ⟨o1, rb, hy2⟩ : ∃ (v : Int) (t : TS), tNum ws s.size 0 1000000000 ra = (v, t) := ⟨_, _, rfl⟩
          obtain ⟨q1, rc, hy3⟩ : ∃ (v : Int) (t : TS), tNum ws s.size o1 1000000000 rb = (v, t) := ⟨_, _, rfl⟩
          obtain ⟨y1, rd, hy4⟩ : ∃ (v : Int) (t : TS), tNum ws s.size 0 1000000000 rc = (v, t) := ⟨_, _, rfl⟩
          have hcu := custT_is hy1 hy2 hy3 hy4
          have hGo := HGo.out
          rw [hcu] at hGo
          dsimp only at hGo
          replace hGo := Lib.hid hGo
          replace hy1 := Lib.hid hy1
          replace hy2 := Lib.hid hy2
          replace hy3 := Lib.hid hy3
          replace hy4 := Lib.hid hy4
          clear HGo hcu
          have hw1r := HB.out.chg.size
          have G := Lib.hid (grown_alloc wr (.cells #[.int .i64 0, .int .i64 0, .int .i64 0, .int .i64 0] 66) q)
          have R := Lib.hid (HB.out.R.below ((Below.refl _ _).alloc (Nat.le_refl _) (.cells #[.int .i64 0, .int .i64 0, .int .i64 0, .int .i64 0] 66)))
          have D := Lib.hid (heap_alloc_new wr (.cells #[.int .i64 0, .int .i64 0, .int .i64 0, .int .i64 0] 66))
          have hwcb : Hid (wr.heap.size ≤ wr.heap.size) := Lib.hid (Nat.le_refl _)
          have hqcb : q < wr.heap.size := by omega
          have hcb : wr.heap.size ≠ q := by omega
          go_wp2_with fail
          generalize hcbe : wr.heap.size = cb at D hqcb hcb ⊢
          have hwcb : Hid (wr.heap.size ≤ cb) := Lib.hid (Nat.le_of_eq hcbe)
          replace hcbe := Lib.hid hcbe
          refine (tnum_is q A C ws s.size 1 1000000000 hsz r hy1.out _ R.out).mono ?_
          rintro e x14 ⟨rfl, hR, hG⟩
          replace G := Lib.hid (grown_trans1 G.out hG)
          replace D := Lib.hid (row_kept D.out hG hcb)
          replace R := Lib.hid hR
          clear hR hG
          obtain ⟨d0, d1, d2, d3, e0, e1, e2, e3⟩ := row4 D.out
          have D2 := Lib.hid (heap_set x14 cb 0 _ _ (.int .i64 l1) D.out)
          replace R := Lib.hid (tel_setNew R.out hqcb 0 (.int .i64 l1))
          replace G := Lib.hid (grown_setNew G.out (a := ⟨cb, 0, none⟩) hwcb.out (.int .i64 l1))
          clear D
          go_wp2_with fail
          clear d0 d1 d2 d3 e0 e1 e2 e3
          generalize x14.setCell ⟨cb, 0, none⟩ (.int .i64 l1) = y14 at *
          have D : Hid (y14.heap[cb]? = some (.cells #[.int .i64 l1, .int .i64 0, .int .i64 0, .int .i64 0] 66 (0, 0))) := Lib.hid D2.out
          clear D2
          refine (tnum_is q A C ws s.size 0 1000000000 hsz ra hy2.out _ R.out).mono ?_
          rintro e x15 ⟨rfl, hR, hG⟩
          replace G := Lib.hid (grown_trans1 G.out hG)
          replace D := Lib.hid (row_kept D.out hG hcb)
          replace R := Lib.hid hR
          clear hR hG
          obtain ⟨d0, d1, d2, d3, e0, e1, e2, e3⟩ := row4 D.out
          have D2 := Lib.hid (heap_set x15 cb 1 _ _ (.int .i64 o1) D.out)
          replace R := Lib.hid (tel_setNew R.out hqcb 1 (.int .i64 o1))
          replace G := Lib.hid (grown_setNew G.out (a := ⟨cb, 1, none⟩) hwcb.out (.int .i64 o1))
          clear D
          go_upto_region 26 with fail
          clear d0 d1 d2 d3 e0 e1 e2 e3
          generalize x15.setCell ⟨cb, 1, none⟩ (.int .i64 o1) = y15 at *
          have D : Hid (y15.heap[cb]? = some (.cells #[.int .i64 l1, .int .i64 o1, .int .i64 0, .int .i64 0] 66 (0, 0))) := Lib.hid D2.out
          clear D2
          obtain ⟨d0, d1, d2, d3, e0, e1, e2, e3⟩ := row4 D.out
          go_wp2_with fail
          clear d0 d1 d2 d3 e0 e1 e2 e3
          refine (tnum_is q A C ws s.size o1 1000000000 hsz rb hy3.out _ R.out).mono ?_
          rintro e x16 ⟨rfl, hR, hG⟩
          replace G := Lib.hid (grown_trans1 G.out hG)
          replace D := Lib.hid (row_kept D.out hG hcb)
          replace R := Lib.hid hR
          clear hR hG
          obtain ⟨d0, d1, d2, d3, e0, e1, e2, e3⟩ := row4 D.out
          have D2 := Lib.hid (heap_set x16 cb 2 _ _ (.int .i64 q1) D.out)
          replace R := Lib.hid (tel_setNew R.out hqcb 2 (.int .i64 q1))
          replace G := Lib.hid (grown_setNew G.out (a := ⟨cb, 2, none⟩) hwcb.out (.int .i64 q1))
          clear D
          go_wp2_with fail
          clear d0 d1 d2 d3 e0 e1 e2 e3
          generalize x16.setCell ⟨cb, 2, none⟩ (.int .i64 q1) = y16 at *
          have D : Hid (y16.heap[cb]? = some (.cells #[.int .i64 l1, .int .i64 o1, .int .i64 q1, .int .i64 0] 66 (0, 0))) := Lib.hid D2.out
          clear D2
          refine (tnum_is q A C ws s.size 0 1000000000 hsz rc hy4.out _ R.out).mono ?_
          rintro e x17 ⟨rfl, hR, hG⟩
          replace G := Lib.hid (grown_trans1 G.out hG)
          replace D := Lib.hid (row_kept D.out hG hcb)
          replace R := Lib.hid hR
          clear hR hG
          obtain ⟨d0, d1, d2, d3, e0, e1, e2, e3⟩ := row4 D.out
          have D2 := Lib.hid (heap_set x17 cb 3 _ _ (.int .i64 y1) D.out)
          replace R := Lib.hid (tel_setNew R.out hqcb 3 (.int .i64 y1))
          replace G := Lib.hid (grown_setNew G.out (a := ⟨cb, 3, none⟩) hwcb.out (.int .i64 y1))
          clear D
          go_upto_region 28 with fail
          clear d0 d1 d2 d3 e0 e1 e2 e3
          generalize x17.setCell ⟨cb, 3, none⟩ (.int .i64 y1) = y17 at *
          have D : Hid (y17.heap[cb]? = some (.cells #[.int .i64 l1, .int .i64 o1, .int .i64 q1, .int .i64 y1] 66 (0, 0))) := Lib.hid D2.out
          clear D2
          obtain ⟨d0, d1, d2, d3, e0, e1, e2, e3⟩ := row4 D.out
          have HB5 := Lib.hid (HB.out.moved R.out G.out hne hpsz)
          clear G R HB D
          have c6 := (HB5.out.cells 6 _ rfl).1
          have hw8 : w1.heap.size ≤ y17.heap.size := HB5.out.chg.size
          have HOWN := Lib.hid (HB5.out.o6.alloc (.cells #[.int .i64 l1, .int .i64 o1, .int .i64 q1, .int .i64 y1] 66))
          have HNEW : Hid (∀ (q : Nat) (u : Value), [.int .i64 l1, .int .i64 o1, .int .i64 q1, .int .i64 y1][q]? = some u → (y17.alloc (.cells #[.int .i64 l1, .int .i64 o1, .int .i64 q1, .int .i64 y1] 66)).cell? ((⟨y17.heap.size, 0, none⟩ : Addr).add q) = some u) := Lib.hid (fun q u hu => cells_new _ _ _ q u (by simpa using hu))
          go_wp2_with (first | (at_builtin; refine wpList_append_own _ rfl _ _ 26 rfl w1.heap.size 66 ic (.agg #[.int .i64 0, .int .i64 0, .int .i64 0, .int .i64 0]) 4 32 Try.underlying26 hic hc0 hc1 hc2 rfl (by decide) _ l.length _ rfl HOWN.out ⟨y17.heap.size, 0, none⟩ 1 1 [.int .i64 l1, .int .i64 o1, .int .i64 q1, .int .i64 y1] rfl rfl HNEW.out (fun x hx => by simp at hx; rcases hx with rfl | rfl | rfl | rfl <;> rfl) (by have := hl.out; unfold maxLen; omega) (by have := hl.out; omega) (by simp; omega) ?_; intro v' w9 hown2 hgrow _; obtain ⟨A', C', hv'⟩ := own_val hown2; subst hv'; obtain ⟨d5, f5, HZ⟩ := HB5.out.cust hne hbsz hpsz ⟨l1, o1, q1, y1⟩ _ hown2 hgrow; replace HZ := Lib.hid HZ; clear hown2 hgrow HOWN HNEW))
          go_roundw
          case rel =>
            refine ⟨k + 1, rd, l ++ [⟨l1, o1, q1, y1⟩], A', C', by omega, by go_num, Lib.hid (by rw [List.length_append, hl.out]; rfl), ?_, ?_⟩
            · exact hGo
            · exact HZ.out
          case measure => simp [intOf]; omega
        · obtain rfl : k = mC := by omega
          have hl2 : l.length ≤ 48 := by have := HL.out; omega
          replace HQ : Hid (instT ws s.size = instT4 ws s.size fin (tm, tr) (bm, br) sats l r) := Lib.hid (by rw [HQ.out, Nat.sub_self, upT_endK])
          clear HL
          replace HQ : Hid (instT ws s.size = bindT (matT ws s.size sCost (1 + sats.length + l.length) r) fun co r => bindT (matT ws s.size sTime (1 + sats.length + l.length) r) fun ti r => bindT (tMust ws s.size sEnd r) fun _ r => (⟨fin, tm, tr, bm, br, sats, l, co, ti⟩, r)) := Lib.hid HQ.out
          obtain ⟨c5, f5⟩ := HB.out.cells 5 _ rfl
          obtain ⟨c6, f6⟩ := HB.out.cells 6 _ rfl
          obtain ⟨co, ra, hy⟩ : ∃ (vv : List (List Int)) (rr : TS), matT ws s.size sCost (1 + sats.length + l.length) r = (vv, rr) := ⟨_, _, rfl⟩
          go_wp2_with fail
          clear c5 f5 c6 f6
          refine (tmat_isI q A C ws s.size sCost (1 + sats.length + l.length) (by omega) _ (by omega) hsz r hy _ HB.out.R).mono ?_
          rintro e x20 ⟨hG, oa, oc, h7, rfl, hR, hO⟩
          have hO2 := Lib.hid (hO.base HB.out.chg.size)
          replace HB := Lib.hid (HB.out.moved hR hG hne hpsz)
          replace HQ := Lib.hid (bindT_is HQ.out hy)
          clear hy hR hG hO
          obtain ⟨c7, f7⟩ := HB.out.cells 7 _ rfl
          replace HB := Lib.hid (HB.out.cost hne hbsz hO2.out)
          clear hO2
          go_upto_region 32 with fail
          clear c7 f7
          generalize x20.setCell ⟨bx, 7, none⟩ (.slice oa co.length oc) = y20 at *
          obtain ⟨ti, rb, hy⟩ : ∃ (vv : List (List Int)) (rr : TS), matT ws s.size sTime (1 + sats.length + l.length) ra = (vv, rr) := ⟨_, _, rfl⟩
          go_wp2_with fail
          refine (tmat_isI q A C ws s.size sTime (1 + sats.length + l.length) (by omega) _ (by omega) hsz ra hy _ HB.out.R).mono ?_
          rintro e x21 ⟨hG, ta, tc, h8, rfl, hR, hO⟩
          have hO2 := Lib.hid (hO.base HB.out.chg.size)
          replace HB := Lib.hid (HB.out.moved hR hG hne hpsz)
          replace HQ := Lib.hid (bindT_is HQ.out hy)
          clear hy hR hG hO
          obtain ⟨c8, f8⟩ := HB.out.cells 8 _ rfl
          replace HB := Lib.hid (HB.out.time hne hbsz hO2.out)
          clear hO2
          go_wp2_with fail
          clear c8 f8
          generalize x21.setCell ⟨bx, 8, none⟩ (.slice ta ti.length tc) = y21 at *
          obtain ⟨u0, re, hy⟩ : ∃ (uu : Unit) (rr : TS), tMust ws s.size sEnd rb = (uu, rr) := ⟨_, _, rfl⟩
          refine (tmust_is q A C ws s.size sEnd rb hy _ HB.out.R).mono ?_
          rintro e x22 ⟨rfl, hR, hG⟩
          replace HB := Lib.hid (HB.out.moved hR hG hne hpsz)
          have HQ9 := bindT_is HQ.out hy
          have HP := Lib.hid (told_parse HQ9)
          clear hy hR hG HQ HQ9
          obtain ⟨i, c⟩ := re
          have BR2 := Lib.hid ((HB.out.chg.block g (heap_lt BR1.out) (by have := hbq.out; omega)).trans BR1.out)
          have HB2 := Lib.hid (HB1.out.trans (HB.out.chg.to_below (B := g) (fun k hk => by have := hbq.out; omega) (by omega)))
          have hsz2 := HB.out.chg.size
          clear BR1 HB1
          by_cases hc : c = 0
          rotate_left
          · have hne0 : (c == 0) = false := by rw [beq_eq_false_iff_ne]; exact hc
            have hne1 : (c != 0) = true := by rw [bne_iff_ne]; exact hc
            have hne2 : decide (c = 0) = false := decide_eq_false hc
            have HPE : Hid (parseW ws s.size = .inr ((placeN ws i s.size : Int), c)) := Lib.hid (HP.out.1 hc)
            have hcne := Lib.hid hc
            obtain ⟨k0, k1, _, k3, _, _⟩ := HB.out.R.cells
            dsimp only at k1 k3
            have R37 := fun nq => HB.out.R.drewN nq
            have BR7 : ∀ nq, (x22.drewN nq).heap[g]? = some (.cells #[.int .i64 0, .int .i64 0, .int .i64 0, .int .i64 0, .int .i64 0, .slice none 0 0, .slice none 0 0, .slice none 0 0, .slice none 0 0] 29 (0, 0)) := fun nq => BR2.out
            have HB7 : ∀ nq, Below g w (x22.drewN nq) := fun nq => below_drewN HB2.out nq
            replace R37 := Lib.hid R37
            replace BR7 := Lib.hid BR7
            replace HB7 := Lib.hid HB7
            clear HP HB BR2 HB2
            go_wp2_with fail
            go_quiet (fail)
            rename_i nq
            replace R37 := Lib.hid (R37.out nq)
            replace BR7 := Lib.hid (BR7.out nq)
            replace HB7 := Lib.hid (HB7.out nq)
            have k3' : (x22.drewN nq).cell? ⟨q, 3, none⟩ = some (.int .i64 c) := k3
            generalize x22.drewN nq = v7 at *
            clear k0 k1 k3
            go_upto_region 37 with fail
            clear k3'
            obtain ⟨_, _, _, k3, _, _⟩ := R37.out.cells
            dsimp only at k3
            refine wp_region_N (fun j => decide (j < 9)) (fun wz => wz.cell? ⟨q, 3, none⟩ = some (.int .i64 c)) (by kernel_rfl) (by exact k3) (fun hShut hHeld => ?_)
            refine wpAnyN_take_0 (v := ?v5n) ?_ ?_ ?_ ?_ ?_ ?hy5n ?_ ?_ ?_
            case hy5n =>
              refine Or.inl ⟨by rfl, ?_⟩
              intro w hSw
              try dsimp only at hSw
              go_simp
              try with_reducible rfl
            · kernel_rfl
            · kernel_rfl
            · kernel_rfl
            · kernel_rfl
            · exact fun _ _ _ h => h
            · exact hHeld
            · exact hShut
            clear hShut
            intro hShut
            try simp only [Act.put, List.setIfInBounds_toArray, List.set_cons_zero, List.set_cons_succ]
            refine wpAnyN_take_1 (v := ?v6n) ?_ ?_ ?_ ?_ ?_ ?hy6n ?_ ?_ ?_
            case hy6n =>
              refine Or.inl ⟨by rfl, ?_⟩
              intro w hSw
              try dsimp only at hSw
              go_simp
              try with_reducible rfl
            · kernel_rfl
            · kernel_rfl
            · kernel_rfl
            · kernel_rfl
            · exact fun _ _ _ h => h
            · exact hHeld
            · exact hShut
            clear hShut
            intro hShut
            try simp only [Act.put, List.setIfInBounds_toArray, List.set_cons_zero, List.set_cons_succ]
            refine wpAnyN_take_3 (v := ?v7n) ?_ ?_ ?_ ?_ ?_ ?hy7n ?_ ?_ ?_
            case hy7n =>
              refine Or.inl ⟨by rfl, ?_⟩
              intro w hSw
              try dsimp only at hSw
              go_simp
              try with_reducible rfl
            · kernel_rfl
            · kernel_rfl
            · kernel_rfl
            · kernel_rfl
            · exact fun _ _ _ h => h
            · exact hHeld
            · exact hShut
            clear hShut
            intro hShut
            try simp only [Act.put, List.setIfInBounds_toArray, List.set_cons_zero, List.set_cons_succ]
            refine wpAnyN_take_4 (v := ?v8n) ?_ ?_ ?_ ?_ ?_ ?hy8n ?_ ?_ ?_
            case hy8n =>
              refine Or.inl ⟨by rfl, ?_⟩
              intro w hSw
              try dsimp only at hSw
              go_simp
              try with_reducible rfl
            · kernel_rfl
            · kernel_rfl
            · kernel_rfl
            · kernel_rfl
            · exact fun _ _ _ h => h
            · exact hHeld
            · exact hShut
            clear hShut
            intro hShut
            try simp only [Act.put, List.setIfInBounds_toArray, List.set_cons_zero, List.set_cons_succ]
            refine wpAnyN_take_5 (v := ?v9n) ?_ ?_ ?_ ?_ ?_ ?hy9n ?_ ?_ ?_
            case hy9n =>
              refine Or.inl ⟨by rfl, ?_⟩
              intro w hSw
              try dsimp only at hSw
              go_simp
              try with_reducible rfl
            · kernel_rfl
            · kernel_rfl
            · kernel_rfl
            · kernel_rfl
            · exact fun _ _ _ h => h
            · exact hHeld
            · exact hShut
            clear hShut
            intro hShut
            try simp only [Act.put, List.setIfInBounds_toArray, List.set_cons_zero, List.set_cons_succ]
            refine wpAnyN_take_6 (v := ?v10n) ?_ ?_ ?_ ?_ ?_ ?hy10n ?_ ?_ ?_
            case hy10n =>
              refine Or.inl ⟨by rfl, ?_⟩
              intro w hSw
              try dsimp only at hSw
              go_simp
              try with_reducible rfl
            · kernel_rfl
            · kernel_rfl
            · kernel_rfl
            · kernel_rfl
            · exact fun _ _ _ h => h
            · exact hHeld
            · exact hShut
            clear hShut
            intro hShut
            try simp only [Act.put, List.setIfInBounds_toArray, List.set_cons_zero, List.set_cons_succ]
            refine wpAnyN_one_2 (by kernel_rfl) (by exact hShut) (fun K hK => ?_)
            go_simp
            refine (tat_any q A C ws s.size (i, c) _ (by exact R37.out.drew)).mono ?_
            rintro e w6 ⟨rfl, nq6, hw6⟩
            have hb6 : Below v7.heap.size v7 w6 := by rw [hw6]; exact below_drewN (Below.refl _ _).drew nq6
            clear hw6
            have k6 := keep_cell hb6 k3
            go_wp2_with fail
            refine hK.out _ _ (fun _ => (by exact k6)) (fun hH hS2 => ?_)
            clear hK K hHeld hShut
            have hShut := hS2
            clear hS2
            have hHeld := hH rfl
            clear hH
            try simp only [Act.put, List.setIfInBounds_toArray, List.set_cons_zero, List.set_cons_succ]
            have BR8 := Lib.hid ((hb6.block g (heap_lt BR7.out)).trans BR7.out)
            have HB8 := Lib.hid (HB7.out.trans (hb6.mono (Nat.le_of_lt (heap_lt BR7.out))))
            clear hb6 k3
            refine wpAnyN_one_7 (by kernel_rfl) (by exact hShut) (fun K hK => ?_)
            refine if_true_P (by rfl) ?_
            refine wp_zero 29 (.tmp 2) (.tmp 139) rfl g (by first | rfl | simp [Act.eval, Act.put]) (by first | rfl | simp [Act.eval, Act.put]) BR8.out (by kernel_rfl) (fun w8 hz1 hz2 => ?_)
            have k8 := (World.cell?_of_block (hz2.block q (by have := lt_of_cell k6; exact this) (fun e => by have := Option.some.inj e; omega))).trans k6
            have HB9 : Hid (Below g w w8) := Lib.hid ⟨hz2.os.trans HB8.out.os, hz2.tape.trans HB8.out.tape, hz2.output.trans HB8.out.output, Nat.le_trans HB8.out.size hz2.size, fun k hk => (hz2.block k (Nat.lt_trans hk (heap_lt BR8.out)) (fun e => by have := Option.some.inj e; omega)).trans (HB8.out.block k hk)⟩
            have BR9 := Lib.hid hz1
            clear hz1 hz2 HB8 BR8 k6
            refine hK.out _ _ (fun _ => (by exact k8)) (fun hH hS2 => ?_)
            clear hK K hHeld hShut
            have hShut := hS2
            clear hS2
            have hHeld := hH rfl
            clear hH
            try simp only [Act.put, List.setIfInBounds_toArray, List.set_cons_zero, List.set_cons_succ]
            refine wpAnyN_one_8 (by kernel_rfl) (by exact hShut) (fun K hK => ?_)
            go_simp
            refine hK.out _ _ (fun _ => (by exact k8)) (fun hH hS2 => ?_)
            clear hK K hHeld hShut
            have hShut := hS2
            clear hS2
            have hHeld := hH rfl
            clear hH
            try simp only [Act.put, List.setIfInBounds_toArray, List.set_cons_zero, List.set_cons_succ]
            refine wpAnyN_one_9 (by kernel_rfl) (by exact hShut) (fun K hK => ?_)
            go_simp
            refine hK.out _ _ (fun h => absurd h (by decide)) (fun _ hS2 => ?_)
            clear hK K hShut
            have hShut := hS2
            clear hS2
            try simp only [Act.put, List.setIfInBounds_toArray, List.set_cons_zero, List.set_cons_succ]
            refine wpAnyN_done (by kernel_rfl) ?_ _
            clear hShut hHeld
            go_wp2_with fail
            generalize (placeN ws i s.size : Int) = pl at *
            obtain ⟨⟨p0, p1, p2, p3, p4, p5, p6, p7, p8⟩, _⟩ := row9 BR9.out
            exact bodyPost_ret (v := .tuple #[.agg #[.int .i64 0, .int .i64 0, .int .i64 0, .int .i64 0, .int .i64 0, .slice none 0 0, .slice none 0 0, .slice none 0 0, .slice none 0 0], .int .i64 pl, .int .i64 c]) (by simp [results, Try.results16, go_sem, p0, p1, p2, p3, p4, p5, p6, p7, p8]) rfl ⟨by rw [hg.out]; exact HB9.out, .inr ⟨pl, c, HPE.out, hcne.out, rfl⟩⟩
          subst hc
          by_cases hlt : i < ws.length
          · have HPE : Hid (parseW ws s.size = .inr ((placeN ws i s.size : Int), 6)) := Lib.hid (HP.out.2.1 rfl hlt)
            have hcne : Hid ((6 : Int) ≠ 0) := Lib.hid (by decide)
            have k5 : (i : Int) < (ws.length : Int) := by omega
            obtain ⟨k0, k1, _, k3, _, k6⟩ := HB.out.R.cells
            dsimp only at k1 k3
            have R37 := Lib.hid (fun nq => (HB.out.R.drewN nq).setC 6)
            have BR7 : ∀ nq, ((x22.drewN nq).setCell ⟨q, 3, none⟩ (.int .i64 6)).heap[g]? = some (.cells #[.int .i64 0, .int .i64 0, .int .i64 0, .int .i64 0, .int .i64 0, .slice none 0 0, .slice none 0 0, .slice none 0 0, .slice none 0 0] 29 (0, 0)) := fun nq => (heap_setCell_other (x22.drewN nq) ⟨q, 3, none⟩ g _ (by show g ≠ q; omega)).trans BR2.out
            have HB7 : ∀ nq, Below g w ((x22.drewN nq).setCell ⟨q, 3, none⟩ (.int .i64 6)) := fun nq => (below_drewN HB2.out nq).setCell (by show g ≤ q; omega) _
            replace BR7 := Lib.hid BR7
            replace HB7 := Lib.hid HB7
            clear HP HB BR2 HB2
            go_wp2_with fail
            go_quiet (fail)
            rename_i nq
            replace R37 := Lib.hid (R37.out nq)
            replace BR7 := Lib.hid (BR7.out nq)
            replace HB7 := Lib.hid (HB7.out nq)
            have k3' : (x22.drewN nq).cell? ⟨q, 3, none⟩ = some (.int .i64 0) := k3
            have k6' : (x22.drewN nq).frozen? ⟨q, 3, none⟩ = false := k6
            generalize x22.drewN nq = v6 at *
            clear k0 k1 k3 k6 hlt k5
            go_upto_region 36 with fail
            clear k3' k6'
            generalize v6.setCell ⟨q, 3, none⟩ (.int .i64 6) = v7 at *
            obtain ⟨_, _, _, k3', _, _⟩ := R37.out.cells
            dsimp only at k3'
            go_upto_region 37 with fail
            clear k3'
            obtain ⟨_, _, _, k3, _, _⟩ := R37.out.cells
            dsimp only at k3
            refine wp_region_N (fun j => decide (j < 9)) (fun wz => wz.cell? ⟨q, 3, none⟩ = some (.int .i64 6)) (by kernel_rfl) (by exact k3) (fun hShut hHeld => ?_)
            refine wpAnyN_take_0 (v := ?v11n) ?_ ?_ ?_ ?_ ?_ ?hy11n ?_ ?_ ?_
            case hy11n =>
              refine Or.inl ⟨by rfl, ?_⟩
              intro w hSw
              try dsimp only at hSw
              go_simp
              try with_reducible rfl
            · kernel_rfl
            · kernel_rfl
            · kernel_rfl
            · kernel_rfl
            · exact fun _ _ _ h => h
            · exact hHeld
            · exact hShut
            clear hShut
            intro hShut
            try simp only [Act.put, List.setIfInBounds_toArray, List.set_cons_zero, List.set_cons_succ]
            refine wpAnyN_take_1 (v := ?v12n) ?_ ?_ ?_ ?_ ?_ ?hy12n ?_ ?_ ?_
            case hy12n =>
              refine Or.inl ⟨by rfl, ?_⟩
              intro w hSw
              try dsimp only at hSw
              go_simp
              try with_reducible rfl
            · kernel_rfl
            · kernel_rfl
            · kernel_rfl
            · kernel_rfl
            · exact fun _ _ _ h => h
            · exact hHeld
            · exact hShut
            clear hShut
            intro hShut
            try simp only [Act.put, List.setIfInBounds_toArray, List.set_cons_zero, List.set_cons_succ]
            refine wpAnyN_take_3 (v := ?v13n) ?_ ?_ ?_ ?_ ?_ ?hy13n ?_ ?_ ?_
            case hy13n =>
              refine Or.inl ⟨by rfl, ?_⟩
              intro w hSw
              try dsimp only at hSw
              go_simp
              try with_reducible rfl
            · kernel_rfl
            · kernel_rfl
            · kernel_rfl
            · kernel_rfl
            · exact fun _ _ _ h => h
            · exact hHeld
            · exact hShut
            clear hShut
            intro hShut
            try simp only [Act.put, List.setIfInBounds_toArray, List.set_cons_zero, List.set_cons_succ]
            refine wpAnyN_take_4 (v := ?v14n) ?_ ?_ ?_ ?_ ?_ ?hy14n ?_ ?_ ?_
            case hy14n =>
              refine Or.inl ⟨by rfl, ?_⟩
              intro w hSw
              try dsimp only at hSw
              go_simp
              try with_reducible rfl
            · kernel_rfl
            · kernel_rfl
            · kernel_rfl
            · kernel_rfl
            · exact fun _ _ _ h => h
            · exact hHeld
            · exact hShut
            clear hShut
            intro hShut
            try simp only [Act.put, List.setIfInBounds_toArray, List.set_cons_zero, List.set_cons_succ]
            refine wpAnyN_take_5 (v := ?v15n) ?_ ?_ ?_ ?_ ?_ ?hy15n ?_ ?_ ?_
            case hy15n =>
              refine Or.inl ⟨by rfl, ?_⟩
              intro w hSw
              try dsimp only at hSw
              go_simp
              try with_reducible rfl
            · kernel_rfl
            · kernel_rfl
            · kernel_rfl
            · kernel_rfl
            · exact fun _ _ _ h => h
            · exact hHeld
            · exact hShut
            clear hShut
            intro hShut
            try simp only [Act.put, List.setIfInBounds_toArray, List.set_cons_zero, List.set_cons_succ]
            refine wpAnyN_take_6 (v := ?v16n) ?_ ?_ ?_ ?_ ?_ ?hy16n ?_ ?_ ?_
            case hy16n =>
              refine Or.inl ⟨by rfl, ?_⟩
              intro w hSw
              try dsimp only at hSw
              go_simp
              try with_reducible rfl
            · kernel_rfl
            · kernel_rfl
            · kernel_rfl
            · kernel_rfl
            · exact fun _ _ _ h => h
            · exact hHeld
            · exact hShut
            clear hShut
            intro hShut
            try simp only [Act.put, List.setIfInBounds_toArray, List.set_cons_zero, List.set_cons_succ]
            refine wpAnyN_one_2 (by kernel_rfl) (by exact hShut) (fun K hK => ?_)
            go_simp
            refine (tat_any q A C ws s.size (i, 6) _ (by exact R37.out.drew)).mono ?_
            rintro e w6 ⟨rfl, nq6, hw6⟩
            have hb6 : Below v7.heap.size v7 w6 := by rw [hw6]; exact below_drewN (Below.refl _ _).drew nq6
            clear hw6
            have k6 := keep_cell hb6 k3
            go_wp2_with fail
            refine hK.out _ _ (fun _ => (by exact k6)) (fun hH hS2 => ?_)
            clear hK K hHeld hShut
            have hShut := hS2
            clear hS2
            have hHeld := hH rfl
            clear hH
            try simp only [Act.put, List.setIfInBounds_toArray, List.set_cons_zero, List.set_cons_succ]
            have BR8 := Lib.hid ((hb6.block g (heap_lt BR7.out)).trans BR7.out)
            have HB8 := Lib.hid (HB7.out.trans (hb6.mono (Nat.le_of_lt (heap_lt BR7.out))))
            clear hb6 k3
            refine wpAnyN_one_7 (by kernel_rfl) (by exact hShut) (fun K hK => ?_)
            refine if_true_P (by rfl) ?_
            refine wp_zero 29 (.tmp 2) (.tmp 139) rfl g (by first | rfl | simp [Act.eval, Act.put]) (by first | rfl | simp [Act.eval, Act.put]) BR8.out (by kernel_rfl) (fun w8 hz1 hz2 => ?_)
            have k8 := (World.cell?_of_block (hz2.block q (by have := lt_of_cell k6; exact this) (fun e => by have := Option.some.inj e; omega))).trans k6
            have HB9 : Hid (Below g w w8) := Lib.hid ⟨hz2.os.trans HB8.out.os, hz2.tape.trans HB8.out.tape, hz2.output.trans HB8.out.output, Nat.le_trans HB8.out.size hz2.size, fun k hk => (hz2.block k (Nat.lt_trans hk (heap_lt BR8.out)) (fun e => by have := Option.some.inj e; omega)).trans (HB8.out.block k hk)⟩
            have BR9 := Lib.hid hz1
            clear hz1 hz2 HB8 BR8 k6
            refine hK.out _ _ (fun _ => (by exact k8)) (fun hH hS2 => ?_)
            clear hK K hHeld hShut
            have hShut := hS2
            clear hS2
            have hHeld := hH rfl
            clear hH
            try simp only [Act.put, List.setIfInBounds_toArray, List.set_cons_zero, List.set_cons_succ]
            refine wpAnyN_one_8 (by kernel_rfl) (by exact hShut) (fun K hK => ?_)
            go_simp
            refine hK.out _ _ (fun _ => (by exact k8)) (fun hH hS2 => ?_)
            clear hK K hHeld hShut
            have hShut := hS2
            clear hS2
            have hHeld := hH rfl
            clear hH
            try simp only [Act.put, List.setIfInBounds_toArray, List.set_cons_zero, List.set_cons_succ]
            refine wpAnyN_one_9 (by kernel_rfl) (by exact hShut) (fun K hK => ?_)
            go_simp
            refine hK.out _ _ (fun h => absurd h (by decide)) (fun _ hS2 => ?_)
            clear hK K hShut
            have hShut := hS2
            clear hS2
            try simp only [Act.put, List.setIfInBounds_toArray, List.set_cons_zero, List.set_cons_succ]
            refine wpAnyN_done (by kernel_rfl) ?_ _
            clear hShut hHeld
            go_wp2_with fail
            generalize (placeN ws i s.size : Int) = pl at *
            obtain ⟨⟨p0, p1, p2, p3, p4, p5, p6, p7, p8⟩, _⟩ := row9 BR9.out
            exact bodyPost_ret (v := .tuple #[.agg #[.int .i64 0, .int .i64 0, .int .i64 0, .int .i64 0, .int .i64 0, .slice none 0 0, .slice none 0 0, .slice none 0 0, .slice none 0 0], .int .i64 pl, .int .i64 6]) (by simp [results, Try.results16, go_sem, p0, p1, p2, p3, p4, p5, p6, p7, p8]) rfl ⟨by rw [hg.out]; exact HB9.out, .inr ⟨pl, 6, HPE.out, hcne.out, rfl⟩⟩
          · obtain ⟨HPE, HK⟩ := HP.out.2.2 rfl hlt
            replace HPE := Lib.hid HPE
            have k5 : ¬ (i : Int) < (ws.length : Int) := by omega
            obtain ⟨k0, k1, _, k3, _, k6⟩ := HB.out.R.cells
            dsimp only at k1 k3
            have BR7 : ∀ nq, (x22.drewN nq).heap[g]? = some (.cells #[.int .i64 0, .int .i64 0, .int .i64 0, .int .i64 0, .int .i64 0, .slice none 0 0, .slice none 0 0, .slice none 0 0, .slice none 0 0] 29 (0, 0)) := fun nq => BR2.out
            have HB7 : ∀ nq, Below g w (x22.drewN nq) := fun nq => below_drewN HB2.out nq
            have HX7 : ∀ nq, (x22.drewN nq).heap[bx]? = some (.cells #[.int .i64 fin, .int .i64 tm, .int .i64 tr, .int .i64 bm, .int .i64 br, .slice ha sats.length hc, .slice sa l.length sc, .slice oa co.length oc, .slice ta ti.length tc] 29 (0, 0)) := fun nq => HB.out.box
            have HI7 : ∀ nq, ∀ w' : World, (∀ k, k ≠ g → w'.heap[k]? = (x22.drewN nq).heap[k]?) → InstIs w' ⟨fin, tm, tr, bm, br, sats, l, co, ti⟩ ⟨ha, hc, sa, sc, oa, oc, ta, tc⟩ := fun nq w' hw => HK.is (B := w1.heap.size)
              (own_heap HB.out.o5 (fun k hk => hw k (by omega))) (own_heap HB.out.o6 (fun k hk => hw k (by omega))) (HB.out.o7.heap (fun k hk => hw k (by omega))) (HB.out.o8.heap (fun k hk => hw k (by omega)))
            replace BR7 := Lib.hid BR7
            replace HB7 := Lib.hid HB7
            replace HX7 := Lib.hid HX7
            replace HI7 := Lib.hid HI7
            replace HK := Lib.hid HK
            clear HP HB BR2 HB2
            go_wp2_with fail
            go_quiet (fail)
            rename_i nq
            replace BR7 := Lib.hid (BR7.out nq)
            replace HB7 := Lib.hid (HB7.out nq)
            replace HX7 := Lib.hid (HX7.out nq)
            replace HI7 := Lib.hid (HI7.out nq)
            have k3' : (x22.drewN nq).cell? ⟨q, 3, none⟩ = some (.int .i64 0) := k3
            generalize x22.drewN nq = v7 at *
            clear k0 k1 k3 k6 hlt k5
            go_upto_region 38 with fail
            clear k3'
            obtain ⟨⟨q0, q1, q2, q3, q4, q5, q6, q7, q8⟩, _⟩ := row9 HX7.out
            obtain ⟨⟨p0, p1, p2, p3, p4, p5, p6, p7, p8⟩, hfz⟩ := row9 BR7.out
            have f0 := hfz 0
            have f1 := hfz 1
            have f2 := hfz 2
            have f3 := hfz 3
            have f4 := hfz 4
            have f5 := hfz 5
            have f6 := hfz 6
            have f7 := hfz 7
            have f8 := hfz 8
            clear hfz
            obtain ⟨e1, e2, e3⟩ := ninep_set v7 g 29 (.int .i64 fin) (.int .i64 tm) (.int .i64 tr) (.int .i64 bm) (.int .i64 br) (.slice ha sats.length hc) (.slice sa l.length sc) (.slice oa co.length oc) (.slice ta ti.length tc) BR7.out HB7.out (Nat.le_refl g)
            have e1' := Lib.hid e1
            have e2' := Lib.hid e2
            have e3' := Lib.hid (HI7.out _ e3)
            clear e1 e2 e3 HI7
            go_wp2_with fail
            clear p0 p1 p2 p3 p4 p5 p6 p7 p8 f0 f1 f2 f3 f4 f5 f6 f7 f8 q0 q1 q2 q3 q4 q5 q6 q7 q8
            generalize (((((((((v7.setCell ⟨g, 0, none⟩ (.int .i64 fin)).setCell ⟨g, 1, none⟩ (.int .i64 tm)).setCell ⟨g, 2, none⟩ (.int .i64 tr)).setCell ⟨g, 3, none⟩ (.int .i64 bm)).setCell ⟨g, 4, none⟩ (.int .i64 br)).setCell ⟨g, 5, none⟩ (.slice ha sats.length hc)).setCell ⟨g, 6, none⟩ (.slice sa l.length sc)).setCell ⟨g, 7, none⟩ (.slice oa co.length oc)).setCell ⟨g, 8, none⟩ (.slice ta ti.length tc)) = W9 at *
            obtain ⟨⟨p0, p1, p2, p3, p4, p5, p6, p7, p8⟩, _⟩ := row9 e1'.out
            exact bodyPost_ret (v := .tuple #[.agg #[.int .i64 fin, .int .i64 tm, .int .i64 tr, .int .i64 bm, .int .i64 br, .slice ha sats.length hc, .slice sa l.length sc, .slice oa co.length oc, .slice ta ti.length tc], .int .i64 0, .int .i64 0]) (by simp [results, Try.results16, go_sem, p0, p1, p2, p3, p4, p5, p6, p7, p8]) rfl ⟨by rw [hg.out]; exact e2'.out, .inl ⟨⟨fin, tm, tr, bm, br, sats, l, co, ti⟩, ⟨ha, hc, sa, sc, oa, oc, ta, tc⟩, HPE.out, HK.out, rfl, e3'.out⟩⟩
end Go.Proofs.Ytljcpgeggbbmfaa
namespace Go.Proofs.Ytljcpgeggbbmfaa
set_option linter.unusedVariables false
set_option linter.unusedSimpArgs false
open Go.RowKit
set_option maxHeartbeats 16000000 in
set_option maxRecDepth 100000 in
theorem reads_bad (s : ByteArray) (h2 : s.size ≤ 131072) {k : Nat} (hk : IsBad s k) (w : World) :
    Calls Try.prog 16 #[.string s] w (POut (.inr ((k : Int), 3)) w) := by
  have hS : Hid (∀ w' : World, Calls Try.prog 18 #[.string s] w' fun e w2 => e = .returned (.tuple #[.slice none 0 0, .int .i64 (k : Int)]) ∧ Below w'.heap.size w' w2) := Lib.hid (fun w' => twords_bad s w' h2 hk)
  have hb0 : Below w.heap.size w (w.alloc (.cells #[.int .i64 0, .int .i64 0, .int .i64 0, .int .i64 0, .int .i64 0, .slice none 0 0, .slice none 0 0, .slice none 0 0, .slice none 0 0] 29)) := (Below.refl _ _).alloc (Nat.le_refl _) _
  have br0 := heap_alloc_new w (.cells #[.int .i64 0, .int .i64 0, .int .i64 0, .int .i64 0, .int .i64 0, .slice none 0 0, .slice none 0 0, .slice none 0 0, .slice none 0 0] 29)
  replace hb0 := Lib.hid hb0
  replace br0 := Lib.hid br0
  obtain ⟨a, ha⟩ : ∃ a : Int, (k : Int) = a := ⟨_, rfl⟩
  have ha0 : (0 : Int) ≤ a := by omega
  rw [ha] at hS
  rw [ha]
  clear ha hk
  go_enter Try.func16, Try.ntmps16
  go_wp2_with fail
  refine (hS.out _).mono ?_
  rintro e w3 ⟨rfl, hb⟩
  have BR := Lib.hid ((hb.block _ (heap_lt br0.out)).trans br0.out)
  have HBel := Lib.hid (hb0.out.trans (hb.mono hb0.out.size))
  clear hb br0 hb0
  generalize hg : w.heap.size = g at *
  replace hg := Lib.hid hg
  obtain ⟨⟨c0, c1, c2, c3, c4, c5, c6, c7, c8⟩, hfz⟩ := row9 BR.out
  have f0 := hfz 0
  have f1 := hfz 1
  have f2 := hfz 2
  have f3 := hfz 3
  have f4 := hfz 4
  have f5 := hfz 5
  have f6 := hfz 6
  have f7 := hfz 7
  have f8 := hfz 8
  clear hfz
  obtain ⟨e1, e2, _⟩ := ninep_set w3 g 29 (.int .i64 0) (.int .i64 0) (.int .i64 0) (.int .i64 0) (.int .i64 0) (.slice none 0 0) (.slice none 0 0) (.slice none 0 0) (.slice none 0 0) BR.out HBel.out (Nat.le_refl g)
  have e1' := Lib.hid e1
  have e2' := Lib.hid e2
  clear e1 e2
  go_wp2_with fail
  clear c0 c1 c2 c3 c4 c5 c6 c7 c8 f0 f1 f2 f3 f4 f5 f6 f7 f8
  generalize (((((((((w3.setCell ⟨g, 0, none⟩ (.int .i64 0)).setCell ⟨g, 1, none⟩ (.int .i64 0)).setCell ⟨g, 2, none⟩ (.int .i64 0)).setCell ⟨g, 3, none⟩ (.int .i64 0)).setCell ⟨g, 4, none⟩ (.int .i64 0)).setCell ⟨g, 5, none⟩ (.slice none 0 0)).setCell ⟨g, 6, none⟩ (.slice none 0 0)).setCell ⟨g, 7, none⟩ (.slice none 0 0)).setCell ⟨g, 8, none⟩ (.slice none 0 0)) = W9 at *
  obtain ⟨⟨c0, c1, c2, c3, c4, c5, c6, c7, c8⟩, _⟩ := row9 e1'.out
  exact bodyPost_ret (v := .tuple #[.agg #[.int .i64 0, .int .i64 0, .int .i64 0, .int .i64 0, .int .i64 0, .slice none 0 0, .slice none 0 0, .slice none 0 0, .slice none 0 0], .int .i64 a, .int .i64 3]) (by simp [results, Try.results16, go_sem, c0, c1, c2, c3, c4, c5, c6, c7, c8]) rfl ⟨by rw [hg.out]; exact e2'.out, .inr ⟨a, 3, rfl, by decide, rfl⟩⟩
/-- both readings, of any text of no more than so many bytes. -/
theorem both_read (s : ByteArray) (h2 : s.size ≤ 131072) : ∃ r : InstD ⊕ (Int × Int), (∀ w, Calls Try.prog 14 #[.string s] w (POut r w)) ∧ ∀ w, Calls Try.prog 16 #[.string s] w (POut r w) := by
  rcases bad_or s with hok | ⟨k, hk⟩
  · exact ⟨_, fun w => parse_fine s h2 hok w, fun w => reads_fine s h2 hok w⟩
  · exact ⟨_, fun w => parse_bad s h2 hk w, fun w => reads_bad s h2 hk w⟩
theorem same_self (X : InstD) (h h' : HdD) (w : World) (IX : InstIs w X h) (IY : InstIs w X h') :
    Calls Try.prog 17 #[.agg (instC X h), .agg (instC X h')] w fun e w' => e = .returned (.bool true) ∧ Below w.heap.size w w' :=
  (samel_any X X h h' w IX IY).mono fun e w' ⟨he, hb⟩ => ⟨by rw [he, sameB_self], hb⟩
def inst00 : InstD := ⟨0, 0, 0, 0, 0, [], [], [], []⟩
theorem inst00_is (w : World) : InstIs w ⟨0, 0, 0, 0, 0, [], [], [], []⟩ ⟨none, 0, none, 0, none, 0, none, 0⟩ :=
  ⟨fun h => absurd rfl h, fun h => absurd rfl h, ⟨[], rfl, fun h => absurd rfl h, fun i r h => by simp at h⟩, ⟨[], rfl, fun h => absurd rfl h, fun i r h => by simp at h⟩, Nat.zero_le _, Nat.zero_le _, Nat.zero_le _, Nat.zero_le _⟩
/-- both outcomes as one: an instance in memory, a place, an error. -/
theorem POut.one {r : InstD ⊕ (Int × Int)} : ∃ (X : InstD) (a c : Int), ∀ (w : World) (e : Ending) (w' : World), POut r w e w' → Below w.heap.size w w' ∧ ∃ h, e = .returned (.tuple #[.agg (instC X h), .int .i64 a, .int .i64 c]) ∧ InstIs w' X h := by
  cases r with
  | inl X =>
    refine ⟨X, 0, 0, fun w e w' ⟨hb, h⟩ => ⟨hb, ?_⟩⟩
    rcases h with ⟨Y, h, hr, _, he, HI⟩ | ⟨a, c, hr, _⟩
    · injection hr with hr; subst hr; exact ⟨h, he, HI⟩
    · cases hr
  | inr y =>
    obtain ⟨a, c⟩ := y
    refine ⟨⟨0, 0, 0, 0, 0, [], [], [], []⟩, a, c, fun w e w' ⟨hb, h⟩ => ⟨hb, ?_⟩⟩
    rcases h with ⟨Y, h, hr, _⟩ | ⟨a', c', hr, _, he⟩
    · cases hr
    · injection hr with hr; injection hr with h1 h2; subst h1; subst h2; exact ⟨⟨none, 0, none, 0, none, 0, none, 0⟩, he, inst00_is _⟩
set_option maxHeartbeats 16000000 in
set_option maxRecDepth 100000 in
theorem walk_ParseReads (w : World) (s : ByteArray) (hs : s.size ≤ 9223372036854775807) :
    Calls Try.prog 4 #[.string s] w fun e w' => e = .returned (.bool true) ∧ Below w.heap.size w w' := by
  by_cases hl : 3000 < s.size
  · have hl2 : (3000 : Int) < (s.size : Int) := by omega
    go_enter Try.func4, Try.ntmps4
    go_wp2_with fail
    refine (awake12_any _).mono ?_
    rintro e w1 ⟨rfl, hb⟩
    go_wp2_with fail
    go_ret
    exact ⟨rfl, hb⟩
  have hl2 : ¬ (3000 : Int) < (s.size : Int) := by omega
  obtain ⟨r, HP, HR⟩ := both_read s (by omega)
  obtain ⟨X, a, c, H1⟩ := POut.one (r := r)
  replace HP := Lib.hid HP
  replace HR := Lib.hid HR
  have H2 := Lib.hid H1
  clear H1
  go_enter Try.func4, Try.ntmps4
  go_wp2_with fail
  refine (awake12_any _).mono ?_
  rintro e w1 ⟨rfl, hb⟩
  replace hb := Lib.hid hb
  go_wp2_with fail
  refine (HP.out _).mono ?_
  intro e w2 h
  obtain ⟨hb2, ⟨k1, q1, k2, q2, k3, q3, k4, q4⟩, rfl, HI⟩ := H2.out _ _ _ h
  clear h
  have hn := heap_alloc_new w2 (.cells #[.int .i64 X.fin, .int .i64 X.tm, .int .i64 X.tr, .int .i64 X.bm, .int .i64 X.br, .slice k1 X.sats.length q1, .slice k2 X.custs.length q2, .slice k3 X.cost.length q3, .slice k4 X.time.length q4] 29)
  have hb3 : Below w2.heap.size w2 (w2.alloc (.cells #[.int .i64 X.fin, .int .i64 X.tm, .int .i64 X.tr, .int .i64 X.bm, .int .i64 X.br, .slice k1 X.sats.length q1, .slice k2 X.custs.length q2, .slice k3 X.cost.length q3, .slice k4 X.time.length q4] 29)) := (Below.refl _ _).alloc (Nat.le_refl _) _
  have hb4 := Lib.hid ((hb.out.trans (hb2.mono hb.out.size)).trans (hb3.mono (Nat.le_trans hb.out.size hb2.size)))
  have HI3 := Lib.hid (HI.below hb3)
  have hn2 := Lib.hid hn
  have hlt := heap_lt hn
  clear hb hb2 HI hn hb3
  go_upto_region 6 with fail
  generalize w2.alloc (.cells #[.int .i64 X.fin, .int .i64 X.tm, .int .i64 X.tr, .int .i64 X.bm, .int .i64 X.br, .slice k1 X.sats.length q1, .slice k2 X.custs.length q2, .slice k3 X.cost.length q3, .slice k4 X.time.length q4] 29) = w3 at *
  generalize w2.heap.size = g1 at *
  go_wp2_with fail
  refine (HR.out _).mono ?_
  intro e w4 h
  obtain ⟨hb2, ⟨m1, p1, m2, p2, m3, p3, m4, p4⟩, rfl, HJ⟩ := H2.out _ _ _ h
  clear h HP HR H2
  have hn := heap_alloc_new w4 (.cells #[.int .i64 X.fin, .int .i64 X.tm, .int .i64 X.tr, .int .i64 X.bm, .int .i64 X.br, .slice m1 X.sats.length p1, .slice m2 X.custs.length p2, .slice m3 X.cost.length p3, .slice m4 X.time.length p4] 29)
  have hb3 : Below w4.heap.size w4 (w4.alloc (.cells #[.int .i64 X.fin, .int .i64 X.tm, .int .i64 X.tr, .int .i64 X.bm, .int .i64 X.br, .slice m1 X.sats.length p1, .slice m2 X.custs.length p2, .slice m3 X.cost.length p3, .slice m4 X.time.length p4] 29)) := (Below.refl _ _).alloc (Nat.le_refl _) _
  have hb5 := hb2.trans (hb3.mono hb2.size)
  have hb6 := Lib.hid (hb4.out.trans (hb5.mono hb4.out.size))
  have HI4 := Lib.hid (HI3.out.below hb5)
  have hn3 := Lib.hid ((hb5.block g1 hlt).trans hn2.out)
  have HJ4 := Lib.hid (HJ.below hb3)
  have hn4 := Lib.hid hn
  clear hb4 hb2 HJ hn hb3 hb5 HI3 hn2 hlt
  go_upto_region 7 with fail
  generalize w4.alloc (.cells #[.int .i64 X.fin, .int .i64 X.tm, .int .i64 X.tr, .int .i64 X.bm, .int .i64 X.br, .slice m1 X.sats.length p1, .slice m2 X.custs.length p2, .slice m3 X.cost.length p3, .slice m4 X.time.length p4] 29) = w5 at *
  generalize w4.heap.size = g2 at *
  obtain ⟨⟨c0, c1, c2, c3, c4, c5, c6, c7, c8⟩, _⟩ := row9 hn3.out
  obtain ⟨⟨d0, d1, d2, d3, d4, d5, d6, d7, d8⟩, _⟩ := row9 hn4.out
  go_wp2_with fail
  refine (same_self X ⟨k1, q1, k2, q2, k3, q3, k4, q4⟩ ⟨m1, p1, m2, p2, m3, p3, m4, p4⟩ _ HI4.out HJ4.out).mono ?_
  rintro e w6 ⟨rfl, hb7⟩
  have hb8 := Lib.hid (hb6.out.trans (hb7.mono hb6.out.size))
  clear hb7
  go_wp2_with fail
  go_ret
  exact ⟨rfl, hb8.out⟩
theorem law_ParseReads (w : World) (s : ByteArray) (hs : s.size ≤ maxLen) : Calls Try.prog 4 #[.string s] w fun e w' => e = .returned (.bool true) ∧ Below w.heap.size w w' :=
  walk_ParseReads w s hs
end Go.Proofs.Ytljcpgeggbbmfaa
