/-
  A number's decimal digits, in plain lists of bytes: no program in sight.
-/
import Derived.Test.YtljcpgeggbbmfaaNum
namespace Go.Proofs.Ytljcpgeggbbmfaa
set_option linter.unusedVariables false
set_option linter.unusedSimpArgs false

def dg (n : Nat) : UInt8 := UInt8.ofNat (48 + n % 10)
theorem dg_toNat (n : Nat) : (dg n).toNat = 48 + n % 10 := by
  unfold dg; rw [UInt8.toNat_ofNat_of_lt' (by show 48 + n % 10 < 256; omega)]
/-- the digits of a number below 10^f. -/
def digF : Nat → Nat → List UInt8
  | 0, _ => []
  | f + 1, n => if n < 10 then [dg n] else digF f (n / 10) ++ [dg n]
def digN (n : Nat) : List UInt8 := digF 19 n
def textV (n : Int) : List UInt8 := if n < 0 then 45 :: digN n.natAbs else digN n.natAbs
theorem digF_lo {f n : Nat} (hf : 1 ≤ f) (h : n < 10) : digF f n = [dg n] := by
  obtain ⟨f, rfl⟩ : ∃ g, f = g + 1 := ⟨f - 1, by omega⟩
  simp [digF, h]
theorem digF_hi {f n : Nat} (h : ¬ n < 10) : digF (f + 1) n = digF f (n / 10) ++ [dg n] := by simp [digF, h]
theorem digF_len (f n : Nat) : (digF f n).length ≤ f := by
  induction f generalizing n with
  | zero => simp [digF]
  | succ f ih =>
    unfold digF; split
    · simp
    · have := ih (n / 10); simp; omega

def B8 (c : UInt8) : Value := .int .u8 c.toNat
theorem cat_dig (m : Nat) (acc : List UInt8) : (⟨#[48, 49, 50, 51, 52, 53, 54, 55, 56, 57]⟩ : ByteArray).extract (m % 10) (m % 10 + 1) ++ (⟨acc.toArray⟩ : ByteArray) = ⟨(dg m :: acc).toArray⟩ := by
  have h : ∀ d, d < 10 → (⟨#[48, 49, 50, 51, 52, 53, 54, 55, 56, 57]⟩ : ByteArray).extract d (d + 1) = ⟨#[UInt8.ofNat (48 + d)]⟩ := by decide
  rw [h (m % 10) (by omega)]
  apply ByteArray.ext
  simp [dg]
theorem cat_minus (acc : List UInt8) : (⟨#[45]⟩ : ByteArray) ++ (⟨acc.toArray⟩ : ByteArray) = ⟨(45 :: acc).toArray⟩ := by
  apply ByteArray.ext
  simp
/-- the cells of [20]byte, filled from behind. -/
def cellsA (acc : List UInt8) : Array Value := (List.replicate (20 - acc.length) (Value.int .u8 0) ++ acc.map B8).toArray
theorem cellsA_size {acc : List UInt8} (h : acc.length ≤ 20) : (cellsA acc).size = 20 := by
  unfold cellsA; simp; omega
theorem cellsA_set {acc : List UInt8} (c : UInt8) (k : Nat) (h : k + acc.length = 19) : (cellsA acc).setIfInBounds k (B8 c) = cellsA (c :: acc) := by
  unfold cellsA
  rw [show 20 - acc.length = k + 1 from by omega, List.length_cons, show 20 - (acc.length + 1) = k from by omega]
  apply Array.ext'
  rw [Array.toList_setIfInBounds]
  simp only [List.replicate_succ', List.append_assoc, List.singleton_append, List.map_cons]
  rw [List.set_append_right _ _ (by simp)]
  simp
theorem cellsA_get {acc : List UInt8} (k j : Nat) (h : k + acc.length = 20) (hj : j < acc.length) : (cellsA acc)[k + j]? = some (B8 (acc.getD j 0)) := by
  unfold cellsA
  rw [show 20 - acc.length = k from by omega]
  simp [hj]
theorem cellsA_some {acc : List UInt8} (h : acc.length ≤ 20) (i : Nat) (hi : i < 20) : ∃ v, (cellsA acc)[i]? = some (.int .u8 v) := by
  unfold cellsA
  rw [List.getElem?_toArray]
  by_cases h1 : i < 20 - acc.length
  · rw [List.getElem?_append_left (by simpa using h1)]
    exact ⟨0, by simp [h1]⟩
  · rw [List.getElem?_append_right (by simp; omega)]
    simp only [List.length_replicate, List.getElem?_map]
    rw [List.getElem?_eq_getElem (by omega)]
    exact ⟨_, rfl⟩
end Go.Proofs.Ytljcpgeggbbmfaa
