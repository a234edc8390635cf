/-
  An instance out of words, in plain Lean: what each step of a reader comes to, and where it stands then; or the fault (layer 12).
-/
import Derived.Test.YtljcpgeggbbmfaaReader
namespace Go.Proofs.Ytljcpgeggbbmfaa
set_option linter.unusedVariables false
set_option linter.unusedSimpArgs false
open Go.RowKit
/-- a value, and where the reader stands then; or the fault: where, and why. -/
abbrev PR (α : Type) := (α × Nat) ⊕ (Int × Int)
def bindP {α β : Type} (x : PR α) (f : α → Nat → PR β) : PR β := match x with | .inl (a, i) => f a i | .inr e => .inr e
theorem bindP_inl {α β : Type} (a : α) (i : Nat) (f : α → Nat → PR β) : bindP (.inl (a, i)) f = f a i := rfl
theorem bindP_inr {α β : Type} (e : Int × Int) (f : α → Nat → PR β) : bindP (.inr e) f = .inr e := rfl
theorem bindP_ok {α β : Type} {x : PR α} {f : α → Nat → PR β} {b : β} {j : Nat} (h : bindP x f = .inl (b, j)) : ∃ a i, x = .inl (a, i) ∧ f a i = .inl (b, j) := by
  match x, h with
  | .inl (a, i), h => exact ⟨a, i, rfl, h⟩
  | .inr e, h => cases h
def mustP (ws : List WordD) (n : Nat) (t : ByteArray) (i : Nat) : PR Unit := if isB ws i t then .inl ((), i + 1) else .inr ((placeN ws i n : Int), 5)
def numP (ws : List WordD) (n : Nat) (lo hi : Int) (i : Nat) : PR Int :=
  if h : i < ws.length then
    (if okNum (L ws[i].text) then (if parseV (L ws[i].text) < lo ∨ hi < parseV (L ws[i].text) then .inr ((placeN ws i n : Int), 2) else .inl (parseV (L ws[i].text), i + 1)) else .inr ((placeN ws i n : Int), 3))
  else .inr ((placeN ws i n : Int), 3)
/-- m steps, of the numbers k, k + 1, .. -/
def upP {α : Type} (f : Nat → Nat → PR α) : Nat → Nat → Nat → PR (List α)
  | 0, _, i => .inl ([], i)
  | m + 1, k, i => bindP (f k i) fun x i => bindP (upP f m (k + 1) i) fun xs i => .inl (x :: xs, i)
def fleetP (ws : List WordD) (n : Nat) (t : ByteArray) (i : Nat) : PR (Int × Int) :=
  bindP (mustP ws n t i) fun _ i => bindP (numP ws n 1 60 i) fun m i => bindP (numP ws n 0 1000000000 i) fun r i => .inl ((m, r), i)
def satP (ws : List WordD) (n : Nat) (i : Nat) : PR SatD :=
  bindP (numP ws n 0 1000000000 i) fun r i => bindP (numP ws n 0 1000000000 i) fun h i => .inl (⟨r, h⟩, i)
def custP (ws : List WordD) (n : Nat) (i : Nat) : PR CustD :=
  bindP (numP ws n 1 1000000000 i) fun l i => bindP (numP ws n 0 1000000000 i) fun o i => bindP (numP ws n o 1000000000 i) fun c i => bindP (numP ws n 0 1000000000 i) fun s i => .inl (⟨l, o, c, s⟩, i)
def cellP (ws : List WordD) (n : Nat) (r k : Nat) (i : Nat) : PR Int := numP ws n 0 (if r = k then 0 else 1000000000) i
def rowP (ws : List WordD) (n : Nat) (m r : Nat) (i : Nat) : PR (List Int) := upP (cellP ws n r) m 0 i
def matP (ws : List WordD) (n : Nat) (t : ByteArray) (m : Nat) (i : Nat) : PR (List (List Int)) :=
  bindP (mustP ws n t i) fun _ i => upP (rowP ws n m) m 0 i
def sWharfage : ByteArray := ⟨#[119, 104, 97, 114, 102, 97, 103, 101]⟩
def sTrucks : ByteArray := ⟨#[116, 114, 117, 99, 107, 115]⟩
def sBikes : ByteArray := ⟨#[98, 105, 107, 101, 115]⟩
def sSats : ByteArray := ⟨#[115, 97, 116, 101, 108, 108, 105, 116, 101, 115]⟩
def sCusts : ByteArray := ⟨#[99, 117, 115, 116, 111, 109, 101, 114, 115]⟩
def sCost : ByteArray := ⟨#[99, 111, 115, 116]⟩
def sTime : ByteArray := ⟨#[116, 105, 109, 101]⟩
def sEnd : ByteArray := ⟨#[101, 110, 100]⟩
/-- behind the customers. -/
def instP4 (ws : List WordD) (n : Nat) (fin : Int) (t b : Int × Int) (sats : List SatD) (custs : List CustD) (i : Nat) : PR InstD :=
  bindP (matP ws n sCost (1 + sats.length + custs.length) i) fun co i => bindP (matP ws n sTime (1 + sats.length + custs.length) i) fun ti i =>
    bindP (mustP ws n sEnd i) fun _ i => .inl (⟨fin, t.1, t.2, b.1, b.2, sats, custs, co, ti⟩, i)
def instP3 (ws : List WordD) (n : Nat) (fin : Int) (t b : Int × Int) (sats : List SatD) (i : Nat) : PR InstD :=
  bindP (mustP ws n sCusts i) fun _ i => bindP (numP ws n 1 48 i) fun m i => bindP (upP (fun _ => custP ws n) m.toNat 0 i) fun cs i => instP4 ws n fin t b sats cs i
def instP2 (ws : List WordD) (n : Nat) (fin : Int) (t b : Int × Int) (i : Nat) : PR InstD :=
  bindP (mustP ws n sSats i) fun _ i => bindP (numP ws n 1 12 i) fun m i => bindP (upP (fun _ => satP ws n) m.toNat 0 i) fun ss i => instP3 ws n fin t b ss i
def instP (ws : List WordD) (n : Nat) : PR InstD :=
  bindP (mustP ws n sWharfage 0) fun _ i => bindP (numP ws n 0 1000000000 i) fun fin i => bindP (fleetP ws n sTrucks i) fun t i => bindP (fleetP ws n sBikes i) fun b i => instP2 ws n fin t b i
theorem upP_ok {α : Type} {f : Nat → Nat → PR α} : ∀ (m k i : Nat) {xs : List α} {j : Nat}, upP f m k i = .inl (xs, j) → xs.length = m
  | 0, k, i, xs, j, h => by injection h with h; injection h with h _; subst h; rfl
  | m + 1, k, i, xs, j, h => by
    obtain ⟨x, i1, h1, h2⟩ := bindP_ok h
    obtain ⟨ys, i2, h3, h4⟩ := bindP_ok h2
    injection h4 with h4
    injection h4 with h4 _
    subst h4
    rw [List.length_cons, upP_ok m (k + 1) i1 h3]
theorem upP_all {α : Type} {f : Nat → Nat → PR α} {Q : Nat → α → Prop} (hf : ∀ k i x j, f k i = .inl (x, j) → Q k x) : ∀ (m k i : Nat) {xs : List α} {j : Nat}, upP f m k i = .inl (xs, j) → ∀ (q : Nat) (x : α), xs[q]? = some x → Q (k + q) x
  | 0, k, i, xs, j, h => by injection h with h; injection h with h _; subst h; intro q x hx; simp at hx
  | m + 1, k, i, xs, j, h => by
    obtain ⟨x, i1, h1, h2⟩ := bindP_ok h
    obtain ⟨ys, i2, h3, h4⟩ := bindP_ok h2
    injection h4 with h4
    injection h4 with h4 _
    subst h4
    intro q y hy
    cases q with
    | zero => simp at hy; subst hy; exact hf k i x i1 h1
    | succ q =>
      have := upP_all hf m (k + 1) i1 h3 q y (by simpa using hy)
      rw [show k + (q + 1) = k + 1 + q by omega]; exact this
theorem upP_go {α : Type} {f : Nat → Nat → PR α} {m k i : Nat} {x : α} {j : Nat} (hx : f k i = .inl (x, j)) (done : List α) :
    bindP (upP f (m + 1) k i) (fun xs j => .inl (done ++ xs, j)) = bindP (upP f m (k + 1) j) (fun xs j => .inl ((done ++ [x]) ++ xs, j)) := by
  show bindP (bindP (f k i) fun x i => bindP (upP f m (k + 1) i) fun xs i => .inl (x :: xs, i)) _ = _
  rw [hx, bindP_inl]
  cases upP f m (k + 1) j with
  | inl a => obtain ⟨xs, q⟩ := a; show Sum.inl (done ++ x :: xs, q) = Sum.inl ((done ++ [x]) ++ xs, q); simp
  | inr e => rfl
theorem upP_bad {α β : Type} {f : Nat → Nat → PR α} {m k i : Nat} {e : Int × Int} (hx : f k i = .inr e) (g : List α → Nat → PR β) : bindP (upP f (m + 1) k i) g = .inr e := by
  show bindP (bindP (f k i) fun x i => bindP (upP f m (k + 1) i) fun xs i => .inl (x :: xs, i)) _ = _
  rw [hx]; rfl
theorem upP_end {α : Type} {f : Nat → Nat → PR α} {k i : Nat} (done : List α) : bindP (upP f 0 k i) (fun xs j => .inl (done ++ xs, j)) = .inl (done, i) := by
  show Sum.inl (done ++ [], i) = _; rw [List.append_nil]
theorem bindP_eta {α : Type} (x : PR (List α)) : bindP x (fun xs j => .inl ([] ++ xs, j)) = x := by
  match x with
  | .inl (a, i) => rfl
  | .inr e => rfl
theorem numP_ok {ws : List WordD} {n : Nat} {lo hi : Int} {i : Nat} {v : Int} {j : Nat} (h : numP ws n lo hi i = .inl (v, j)) : lo ≤ v ∧ v ≤ hi ∧ j = i + 1 ∧ i < ws.length := by
  unfold numP at h
  split at h
  · split at h
    · split at h
      · cases h
      · injection h with h; injection h with h1 h2; subst h1; subst h2; exact ⟨by omega, by omega, rfl, by assumption⟩
    · cases h
  · cases h
theorem mustP_ok {ws : List WordD} {n : Nat} {t : ByteArray} {i : Nat} {u : Unit} {j : Nat} (h : mustP ws n t i = .inl (u, j)) : j = i + 1 ∧ isB ws i t = true := by
  unfold mustP at h
  split at h
  · injection h with h; injection h with h1 h2; exact ⟨h2.symm, by assumption⟩
  · cases h
end Go.Proofs.Ytljcpgeggbbmfaa
