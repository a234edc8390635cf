/-
  Texts of numbers, in plain lists of bytes: no program in sight.
-/
import Derived.Test.YtljcpgeggbbmfaaPlain
namespace Go.Proofs.Ytljcpgeggbbmfaa
set_option linter.unusedVariables false
set_option linter.unusedSimpArgs false

abbrev L (s : ByteArray) : List UInt8 := s.data.toList
def isDig (c : UInt8) : Bool := decide (48 ≤ c.toNat ∧ c.toNat ≤ 57)
def numN (l : List UInt8) : Nat := l.foldl (fun n c => 10 * n + (c.toNat - 48)) 0
def okNum (l : List UInt8) : Bool := !l.isEmpty && decide (l.length ≤ 16) && !(decide (1 < l.length) && (l.getD 0 0 == 48)) && l.all isDig && decide (numN l ≤ 1000000000000000)
def parseV (l : List UInt8) : Int := if okNum l then (numN l : Int) else 0
def ParseEnd (l : List UInt8) (e : Ending) : Prop := e = .returned (.tuple #[.int .i64 (parseV l), .bool (okNum l)])
theorem parse_t {l : List UInt8} {v : Int} (h : okNum l = true) (hv : v = numN l) : ParseEnd l (.returned (.tuple #[.int .i64 v, .bool true])) := by
  unfold ParseEnd parseV; rw [h, hv]; rfl
theorem parse_f {l : List UInt8} (h : okNum l = false) : ParseEnd l (.returned (.tuple #[.int .i64 0, .bool false])) := by
  unfold ParseEnd parseV; rw [h]; rfl
theorem numN_snoc (l : List UInt8) (c : UInt8) : numN (l ++ [c]) = 10 * numN l + (c.toNat - 48) := by
  unfold numN; rw [List.foldl_append]; rfl
theorem fold_lt (l : List UInt8) : ∀ (n m : Nat), n < m → l.all isDig = true → l.foldl (fun n c => 10 * n + (c.toNat - 48)) n < m * 10 ^ l.length := by
  induction l with
  | nil => intro n m h _; simpa using h
  | cons c l ih =>
    intro n m h hd
    simp only [List.all_cons, Bool.and_eq_true] at hd
    have hc : c.toNat ≤ 57 := by have := hd.1; simp only [isDig, decide_eq_true_eq] at this; exact this.2
    have := ih (10 * n + (c.toNat - 48)) (m * 10) (by omega) hd.2
    rw [List.foldl_cons, List.length_cons, Nat.pow_succ, Nat.mul_comm (10 ^ l.length) 10, ← Nat.mul_assoc]
    exact this
theorem numN_lt (l : List UInt8) (h : l.all isDig = true) : numN l < 10 ^ l.length := by
  have := fold_lt l 0 1 (by omega) h
  rwa [Nat.one_mul] at this
theorem pow10_le {k n : Nat} (h : k ≤ n) : 10 ^ k ≤ 10 ^ n := Nat.pow_le_pow_right (by omega) h
theorem take_snoc (s : ByteArray) (k : Nat) (h : k < s.size) : (L s).take (k + 1) = (L s).take k ++ [s[k]] := by
  rw [List.take_succ_eq_append_getElem (by simpa using h)]; rfl
theorem L_length (s : ByteArray) : (L s).length = s.size := rfl
theorem all_snoc (l : List UInt8) (c : UInt8) : (l ++ [c]).all isDig = (l.all isDig && isDig c) := by simp
theorem take_all (s : ByteArray) : (L s).take s.size = L s := List.take_of_length_le (by rw [L_length]; exact Nat.le_refl _)
theorem not_all (s : ByteArray) (k : Nat) (h : k < s.size) (hd : isDig s[k] = false) : (L s).all isDig = false := by
  cases e : (L s).all isDig with
  | false => rfl
  | true =>
    have := List.all_eq_true.1 e s[k] (by rw [show s[k] = (L s)[k]'h from rfl]; exact List.getElem_mem _)
    rw [hd] at this; cases this
theorem okNum_nd {l : List UInt8} (h : l.all isDig = false) : okNum l = false := by unfold okNum; rw [h]; simp
theorem okNum_long {l : List UInt8} (h : 16 < l.length) : okNum l = false := by
  unfold okNum; rw [show decide (l.length ≤ 16) = false from decide_eq_false (by omega)]; simp
theorem head_at (s : ByteArray) (h : 0 < s.size) : (L s).getD 0 0 = s[0] := by
  rw [List.getD_eq_getElem?_getD, List.getElem?_eq_getElem (by rw [L_length]; exact h)]; rfl
theorem okNum_zero {s : ByteArray} (h : 1 < s.size) (h0 : s[0].toNat = 48) : okNum (L s) = false := by
  unfold okNum
  rw [head_at s (by omega), L_length, show decide (1 < s.size) = true from decide_eq_true h, show (s[0] == 48) = true from by rw [beq_iff_eq]; exact UInt8.toNat_inj.1 h0]
  simp
theorem okNum_main {s : ByteArray} (h0 : 0 < s.size) (h2 : s.size ≤ 16) (h : s.size ≤ 1 ∨ s[0].toNat ≠ 48) (hd : (L s).all isDig = true) : okNum (L s) = decide (numN (L s) ≤ 1000000000000000) := by
  unfold okNum
  have e1 : (L s).isEmpty = false := by
    cases e : (L s).isEmpty with
    | false => rfl
    | true => rw [List.isEmpty_iff_length_eq_zero, L_length] at e; omega
  have e2 : (decide (1 < s.size) && (s[0] == 48)) = false := by
    rcases h with h | h
    · rw [show decide (1 < s.size) = false from decide_eq_false (by omega)]; rfl
    · rw [show (s[0] == 48) = false from by rw [beq_eq_false_iff_ne]; exact fun e => h (by rw [e]; rfl)]; simp
  rw [head_at s h0, L_length, e1, e2, hd, show decide (s.size ≤ 16) = true from decide_eq_true h2]
  simp
theorem dig_iff (c : UInt8) : isDig c = true ↔ 48 ≤ c.toNat ∧ c.toNat ≤ 57 := by unfold isDig; simp
theorem dig_f {c : UInt8} (h : c.toNat < 48 ∨ 57 < c.toNat) : isDig c = false := by unfold isDig; rw [decide_eq_false_iff_not]; omega
end Go.Proofs.Ytljcpgeggbbmfaa
