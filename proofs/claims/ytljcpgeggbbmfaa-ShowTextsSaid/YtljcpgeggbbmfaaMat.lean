/-
  The matrices that wharfagelaw11.square makes, as lists: no program in sight.
-/
import Derived.Test.YtljcpgeggbbmfaaRd
import Derived.Laws.MakeOwn
namespace Go.Proofs.Ytljcpgeggbbmfaa
set_option linter.unusedVariables false
set_option linter.unusedSimpArgs false
open Go.RowKit
def u8s (l : List Nat) : List Value := l.map (fun (c : Nat) => Value.int .u8 (c : Int))
theorem Rd.byte {w : World} {A : Option Addr} {l : List Nat} (h : Rd w A (u8s l)) {k : Nat} (hk : k < l.length) :
    ∃ b off, A = some ⟨b, off, none⟩ ∧ w.cell? ⟨b, off + k, none⟩ = some (.int .u8 (l.getD k 0 : Nat)) := by
  have g : (u8s l)[k]? = some (.int .u8 (l.getD k 0 : Nat)) := by
    unfold u8s; rw [List.getElem?_map, List.getElem?_eq_getElem hk, List.getD_eq_getElem?_getD, List.getElem?_eq_getElem hk]; rfl
  obtain ⟨b, off, e, hc⟩ := h (fun e => by rw [e] at g; cases g)
  exact ⟨b, off, e, hc _ _ g⟩
/-- how many numbers stand ahead of place (i, j), the diagonal left out. -/
def offN (n i j : Nat) : Nat := i * (n - 1) + (if j ≤ i then j else j - 1)
/-- how many numbers have been taken. -/
def kN (l : List Nat) (n i j : Nat) : Nat := if l.length = 0 then 0 else offN n i j
def cellM (l : List Nat) (n i j : Nat) : Int := if i = j ∨ l.length = 0 then 0 else ((l.getD (offN n i j % l.length) 0 % 30 : Nat) : Int)
def rowM (l : List Nat) (n i : Nat) : List Int := (List.range n).map (cellM l n i)
def matM (l : List Nat) (n : Nat) : List (List Int) := (List.range n).map (rowM l n)
theorem offN_le {n i j : Nat} (hn : n ≤ 1000) (hi : i ≤ 1000) (hj : j ≤ 1000) : offN n i j ≤ 2000000 := by
  have h : i * (n - 1) ≤ 1000 * 1000 := Nat.mul_le_mul hi (by omega)
  unfold offN; split <;> omega
theorem kN_le {l : List Nat} {n i j : Nat} (hn : n ≤ 1000) (hi : i ≤ 1000) (hj : j ≤ 1000) : kN l n i j ≤ 2000000 := by
  unfold kN; split
  · omega
  · exact offN_le hn hi hj
theorem kN_same {l : List Nat} {n i j : Nat} (h : i = j ∨ l.length = 0) : kN l n i (j + 1) = kN l n i j := by
  unfold kN offN
  rcases h with h | h
  · subst h; split
    · rfl
    · rw [if_neg (by omega), if_pos (Nat.le_refl _)]; omega
  · rw [if_pos h, if_pos h]
theorem kN_next {l : List Nat} {n i j : Nat} (h : i ≠ j) (hl : l.length ≠ 0) : kN l n i (j + 1) = kN l n i j + 1 := by
  unfold kN offN
  rw [if_neg hl, if_neg hl]
  by_cases hj : j ≤ i
  · rw [if_pos (by omega), if_pos hj]; omega
  · rw [if_neg (by omega), if_neg hj]; omega
theorem kN_row {l : List Nat} {n i : Nat} (h : i < n) : kN l n i n = kN l n (i + 1) 0 := by
  unfold kN offN
  split
  · rfl
  · rw [if_neg (by omega), if_pos (by omega), Nat.succ_mul]; omega
theorem kN_zero (l : List Nat) (n : Nat) : kN l n 0 0 = 0 := by unfold kN offN; split <;> simp
/-- the cells of a row that is filled up to place j. -/
def rowA (l : List Nat) (n i j : Nat) : Array Value := ((List.range n).map (fun q => Value.int .i64 (if q < j then cellM l n i q else 0))).toArray
theorem rowA_zero (l : List Nat) (n i : Nat) : madeCells #[.int .i64 0] n = rowA l n i 0 := by
  unfold rowA madeCells
  apply Array.ext'
  simp
  intro a _
  simp [Nat.mod_one]
theorem rowA_get (l : List Nat) (n i j : Nat) (h : j < n) : (rowA l n i j)[j]? = some (.int .i64 0) := by
  unfold rowA; simp [h]
theorem rowA_set (l : List Nat) (n i j : Nat) (h : j < n) : (rowA l n i j).setIfInBounds j (.int .i64 (cellM l n i j)) = rowA l n i (j + 1) := by
  unfold rowA
  apply Array.ext'
  simp
  apply List.ext_getElem?
  intro q
  rw [List.getElem?_set]
  simp only [List.length_map, List.length_range, List.getElem?_map]
  by_cases hq : j = q
  · subst hq; simp [h]
  · rw [if_neg hq]
    by_cases hqn : q < n
    · simp [hqn]
      by_cases h1 : q < j
      · simp [h1, show q < j + 1 by omega]
      · simp [h1, show ¬ q < j + 1 by omega]
    · simp [hqn]
theorem rowA_skip (l : List Nat) (n i j : Nat) (h : i = j ∨ l.length = 0) : rowA l n i j = rowA l n i (j + 1) := by
  unfold rowA
  congr 1
  apply List.map_congr_left
  intro q _
  have : cellM l n i j = 0 := by unfold cellM; rw [if_pos h]
  by_cases h1 : q < j
  · rw [if_pos h1, if_pos (by omega)]
  · by_cases h2 : q = j
    · subst h2; rw [if_neg h1, if_pos (by omega), this]
    · rw [if_neg h1, if_neg (by omega)]
theorem rowA_full (l : List Nat) (n i : Nat) : rowA l n i n = (i64s (rowM l n i)).toArray := by
  unfold rowA i64s rowM
  congr 1
  rw [List.map_map]
  apply List.map_congr_left
  intro q hq
  rw [if_pos (List.mem_range.1 hq)]; rfl
theorem rowM_length (l : List Nat) (n i : Nat) : (rowM l n i).length = n := by unfold rowM; simp
theorem matM_length (l : List Nat) (n : Nat) : (matM l n).length = n := by unfold matM; simp
theorem matM_get (l : List Nat) (n i : Nat) (h : i < n) : (matM l n)[i]? = some (rowM l n i) := by unfold matM; simp [h]
end Go.Proofs.Ytljcpgeggbbmfaa
