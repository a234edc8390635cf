/-
  Sums and quotients of floats that are no NaN. No program in sight.
-/
import Derived.Test.YtbhifhnpcafpjaaFlt
import Derived.Laws.FloatArith
namespace Go.Proofs.Ytbhifhnpcafpjaa
set_option linter.unusedVariables false
set_option linter.unusedSimpArgs false
open Ieee Go
theorem word_rung (s : Bool) (r : Nat) (h : r ≤ infR) : rung (double.word s r) = r ∧ double.word s r < 18446744073709551616 ∧ below (double.word s r) = s := by
  have hi : infR = 9218868437227405312 := rfl
  unfold Format.word rung below
  rw [sign_d]
  cases s
  · simp only [Bool.false_eq_true, if_false]
    exact ⟨by omega, by omega, by rw [show r / 9223372036854775808 = 0 by omega]; rfl⟩
  · simp only [if_true]
    exact ⟨by omega, by omega, by rw [show (9223372036854775808 + r) / 9223372036854775808 = 1 by omega]; rfl⟩
theorem nearest_form (s : Bool) (m : Nat) (p : Int) : ∃ r, r ≤ infR ∧ double.nearest s m p = double.word s r := by
  unfold Format.nearest
  by_cases h : m = 0
  · rw [if_pos h]; exact ⟨0, by decide, rfl⟩
  · rw [if_neg h]
    exact ⟨_, by rw [infRung_d]; exact Nat.min_le_right _ _, rfl⟩
/-- a datum that is no NaN. -/
def okD : Datum → Prop
  | .nan .. => False
  | _ => True
theorem write_ok (d : Datum) (h : okD d) : rung (double.write d) ≤ infR ∧ double.write d < 18446744073709551616 := by
  cases d with
  | number s m p =>
    obtain ⟨r, hr, e⟩ := nearest_form s m p
    show rung (double.nearest s m p) ≤ infR ∧ double.nearest s m p < _
    rw [e, (word_rung s r hr).1]
    exact ⟨hr, (word_rung s r hr).2.1⟩
  | infinity s =>
    show rung (double.word s double.infRung) ≤ infR ∧ double.word s double.infRung < _
    rw [infRung_d, (word_rung s infR (Nat.le_refl _)).1]
    exact ⟨Nat.le_refl _, (word_rung s infR (Nat.le_refl _)).2.1⟩
  | nan => exact h.elim
theorem read_ok (b : Nat) (h : rung b ≤ infR) : (∃ s m p, double.read b = .number s m p) ∨ ∃ s, double.read b = .infinity s := by
  rcases Nat.lt_or_ge (rung b) infR with h1 | h1
  · obtain ⟨m, k, e, _⟩ := read_num b h1
    exact .inl ⟨_, _, _, e⟩
  · refine .inr ⟨below b, ?_⟩
    have e : rung b = infR := by omega
    rw [read_d, e, if_neg (by decide), if_neg (by decide), if_pos rfl]
theorem ofInt_ok (n : Int) : rung (floatOfInt .f64 n) ≤ infR ∧ floatOfInt .f64 n < 18446744073709551616 := write_ok (.number (n < 0) n.natAbs 0) trivial
theorem quo_valid (x h : Nat) (hx : rung x ≤ infR) (hh : kindN h = 4) : ∃ q, floatBits .quo .f64 x h = some q ∧ rung q ≤ infR ∧ q < 18446744073709551616 := by
  have hk := kind_cases h
  obtain ⟨m, k, e, hm⟩ := read_num h (show rung h < 9218868437227405312 by omega)
  have hm0 : m ≠ 0 := by
    intro h0
    subst h0
    have := magR_lt (show 0 < rung h by omega)
    omega
  show ∃ q, ((double.read x).quotient (double.fractionBits + 2) (double.read h)).map double.write = some q ∧ _
  rw [e]
  rcases read_ok x hx with ⟨s, n, p, e1⟩ | ⟨s, e1⟩
  · rw [e1]
    unfold Datum.quotient
    dsimp only
    rw [if_neg hm0]
    exact ⟨_, rfl, write_ok _ trivial⟩
  · rw [e1]
    exact ⟨_, rfl, write_ok _ trivial⟩
theorem add_valid (x y : Nat) (hx : rung x < infR) (hy : rung y ≤ infR) : ∃ q, floatBits .add .f64 x y = some q ∧ rung q ≤ infR ∧ q < 18446744073709551616 := by
  obtain ⟨m, k, e, hm⟩ := read_num x hx
  show ∃ q, ((double.read x).sum (double.read y)).map double.write = some q ∧ _
  rw [e]
  rcases read_ok y hy with ⟨s, n, p, e1⟩ | ⟨s, e1⟩
  · rw [e1]
    exact ⟨_, rfl, write_ok _ trivial⟩
  · rw [e1]
    exact ⟨_, rfl, write_ok _ trivial⟩
/-- 'one' plus a change by a heat, times a draw; 'none': no number. -/
def acceptV (c : Int) (h : Nat) (d : Int) : Option Nat :=
  (floatBits .quo .f64 (floatOfInt .f64 c) h).bind fun q => (floatBits .add .f64 4607182418800017408 q).bind fun o => floatBits .mul .f64 (floatOfInt .f64 d) o
/-- is a change taken? -/
def acceptB (c : Int) (h : Nat) (d : Int) : Bool :=
  if kindN h = 5 then true else if kindN h = 4 ∧ 0 < c then (match acceptV c h d with | some x => double.order x 4751297606875873280 == some Ordering.lt | none => false) else decide (c ≤ 0)
theorem acceptB_above {c : Int} {h : Nat} {d : Int} (k : kindN h = 5) : acceptB c h d = true := by unfold acceptB; rw [if_pos k]
theorem acceptB_rest {c : Int} {h : Nat} {d : Int} (k : kindN h ≠ 5) (k2 : ¬ (kindN h = 4 ∧ 0 < c)) : acceptB c h d = decide (c ≤ 0) := by unfold acceptB; rw [if_neg k, if_neg k2]
theorem acceptB_some {c : Int} {h : Nat} {d : Int} {x : Nat} (k : kindN h = 4) (hc : 0 < c) (hv : acceptV c h d = some x) : acceptB c h d = (double.order x 4751297606875873280 == some Ordering.lt) := by
  unfold acceptB; rw [if_neg (by omega), if_pos ⟨k, hc⟩, hv]
theorem acceptB_none {c : Int} {h : Nat} {d : Int} (k : kindN h = 4) (hc : 0 < c) (hv : acceptV c h d = none) : acceptB c h d = false := by
  unfold acceptB; rw [if_neg (by omega), if_pos ⟨k, hc⟩, hv]
theorem acceptV_steps (c : Int) (h : Nat) (d : Int) (k : kindN h = 4) : ∃ q o, floatBits .quo .f64 (floatOfInt .f64 c) h = some q ∧ floatBits .add .f64 4607182418800017408 q = some o ∧ acceptV c h d = floatBits .mul .f64 (floatOfInt .f64 d) o := by
  obtain ⟨q, hq, q1, _⟩ := quo_valid (floatOfInt .f64 c) h (ofInt_ok c).1 k
  obtain ⟨o, ho, o1, _⟩ := add_valid 4607182418800017408 q (by decide) q1
  refine ⟨q, o, hq, ho, ?_⟩
  unfold acceptV
  rw [hq]
  show (floatBits .add .f64 4607182418800017408 q).bind _ = _
  rw [ho]; rfl
end Go.Proofs.Ytbhifhnpcafpjaa
