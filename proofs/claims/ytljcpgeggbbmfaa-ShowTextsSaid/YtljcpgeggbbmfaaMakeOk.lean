/-
  The instance that wharfagelaw11.Make makes may be: no program in sight.
-/
import Derived.Test.YtljcpgeggbbmfaaCheck
import Derived.Test.YtljcpgeggbbmfaaSmall
namespace Go.Proofs.Ytljcpgeggbbmfaa
set_option linter.unusedVariables false
set_option linter.unusedSimpArgs false
open Go.RowKit
theorem allTo_of {α : Type} (p : Nat → α → Bool) (l : List α) (h : ∀ k x, l[k]? = some x → p k x = true) : ∀ k, allTo p l k = true
  | 0 => rfl
  | k + 1 => by
    show (allTo p l k && (match l[k]? with | some x => p k x | none => true)) = true
    rw [allTo_of p l h k]
    cases e : l[k]? with
    | none => rfl
    | some x => simp [h k x e]
theorem allAt_of {α : Type} (p : Nat → α → Bool) (l : List α) (h : ∀ k x, l[k]? = some x → p k x = true) : allAt p l = true := allTo_of p l h _
theorem mayB_of {n l : Int} (h1 : l ≤ n) (h2 : n ≤ 1000000000) : mayB n l = true := by
  unfold mayB; rw [decide_eq_true h1, decide_eq_true h2]; rfl
theorem wide_b (S : SmallD) : 1 ≤ wideI S ∧ wideI S ≤ 9 := by unfold wideI; split <;> omega
theorem wide_mul (S : SmallD) (a : Nat) (h : a ≤ 255) : 0 ≤ wideI S * (a : Int) ∧ wideI S * (a : Int) ≤ 2295 := by
  obtain ⟨h1, h2⟩ := wide_b S
  refine ⟨Int.mul_nonneg (by omega) (by omega), ?_⟩
  have : wideI S * (a : Int) ≤ 9 * 255 := Int.mul_le_mul h2 (by omega) (by omega) (by omega)
  omega
theorem satsI_len (S : SmallD) : 1 ≤ (satsI S).length ∧ (satsI S).length ≤ 3 := by
  unfold satsI
  split
  · simp
  · simp; omega
theorem custsI_len (S : SmallD) : 1 ≤ (custsI S).length ∧ (custsI S).length ≤ 6 := by
  unfold custsI
  split
  · simp
  · simp; omega
theorem satsI_may (S : SmallD) (hs : ∀ s ∈ S.sats, s.room < 256 ∧ s.hold < 256) : ∀ s ∈ satsI S, mayB s.room 0 = true ∧ mayB s.hold 0 = true := by
  intro s h
  unfold satsI at h
  split at h
  · simp at h; subst h; exact ⟨rfl, rfl⟩
  · obtain ⟨u, hu, rfl⟩ := List.mem_map.1 h
    have := wide_mul S (u.room % 40) (by omega)
    exact ⟨mayB_of (by show (0 : Int) ≤ 4 + wideI S * ((u.room % 40 : Nat) : Int); omega) (by show 4 + wideI S * ((u.room % 40 : Nat) : Int) ≤ 1000000000; omega), mayB_of (by show (0 : Int) ≤ ((u.hold % 12 : Nat) : Int); omega) (by show ((u.hold % 12 : Nat) : Int) ≤ 1000000000; omega)⟩
theorem custsI_may (S : SmallD) (hs : ∀ c ∈ S.custs, c.load < 256 ∧ c.opn < 256 ∧ c.wide < 256 ∧ c.stay < 256) : ∀ c ∈ custsI S, (1 ≤ c.load ∧ c.load ≤ 20) ∧ (0 ≤ c.opn ∧ c.opn ≤ 50) ∧ (c.opn ≤ c.close ∧ c.close ≤ 3000) ∧ (0 ≤ c.stay ∧ c.stay ≤ 8) := by
  intro c h
  unfold custsI at h
  split at h
  · simp at h; subst h; exact ⟨⟨by decide, by decide⟩, ⟨by decide, by decide⟩, ⟨by decide, by decide⟩, ⟨by decide, by decide⟩⟩
  · obtain ⟨u, hu, rfl⟩ := List.mem_map.1 h
    obtain ⟨a1, a2, a3, a4⟩ := hs u (List.mem_of_mem_take hu)
    have := wide_mul S u.wide (by omega)
    unfold custI
    dsimp only
    refine ⟨?_, ⟨by omega, by omega⟩, ⟨by omega, by omega⟩, ⟨by omega, by omega⟩⟩
    split <;> constructor <;> omega
theorem cellM_ok (l : List Nat) (n i j : Nat) : 0 ≤ cellM l n i j ∧ cellM l n i j ≤ 29 ∧ (i = j → cellM l n i j = 0) := by
  unfold cellM
  split
  · omega
  · rename_i h
    exact ⟨by omega, by omega, fun e => absurd (.inl e) h⟩
theorem matM_rows (l : List Nat) (n : Nat) : allAt rowB (matM l n) = true := by
  refine allAt_of _ _ fun i r hr => ?_
  obtain ⟨hi, hr⟩ := List.getElem?_eq_some_iff.1 hr
  rw [matM_length] at hi
  have e := matM_get l n i hi
  rw [List.getElem?_eq_getElem (by rw [matM_length]; exact hi), hr] at e
  injection e with e
  subst e
  refine allAt_of _ _ fun j x hx => ?_
  obtain rfl : x = cellM l n i j := by
    unfold rowM at hx
    rw [List.getElem?_map] at hx
    obtain ⟨q, hq, rfl⟩ := Option.map_eq_some_iff.1 hx
    obtain ⟨hj, hq⟩ := List.getElem?_eq_some_iff.1 hq
    rw [List.getElem_range] at hq
    rw [hq]
  obtain ⟨c1, c2, c3⟩ := cellM_ok l n i j
  unfold cellB
  rw [mayB_of c1 (by omega), Bool.true_and]
  by_cases hij : i = j
  · rw [c3 hij]; simp
  · have : (i == j) = false := by rw [beq_eq_false_iff_ne]; exact hij
    rw [this]; rfl
theorem matM_sq (l : List Nat) (n : Nat) : sqB (matM l n) n = true := by
  unfold sqB
  rw [matM_length, List.all_eq_true.2]
  · simp
  · intro r hr
    unfold matM at hr
    obtain ⟨i, _, rfl⟩ := List.mem_map.1 hr
    rw [rowM_length]; simp
theorem code_make (S : SmallD) (hf : S.fin < 256) (hs : ∀ s ∈ S.sats, s.room < 256 ∧ s.hold < 256) (hc : ∀ c ∈ S.custs, c.load < 256 ∧ c.opn < 256 ∧ c.wide < 256 ∧ c.stay < 256) : codeI (makeI S) = 0 := by
  have h1 := satsI_len S
  have h2 := custsI_len S
  have h3 := satsI_may S hs
  have h4 := custsI_may S hc
  have w0 := wide_b S
  have w1 := wide_mul S (S.tr % 40) (by omega)
  have w2 := wide_mul S (S.br % 20) (by omega)
  have w3 := wide_mul S S.fin (by omega)
  have cB : countB (makeI S) = true := by
    unfold countB manyB
    simp only [Bool.and_eq_true, decide_eq_true_eq]
    show (((1 ≤ 1 + ((S.tm % 4 : Nat) : Int) ∧ 1 + ((S.tm % 4 : Nat) : Int) ≤ 60) ∧ 1 ≤ 1 + ((S.bm % 6 : Nat) : Int) ∧ 1 + ((S.bm % 6 : Nat) : Int) ≤ 60) ∧ 1 ≤ ((satsI S).length : Int) ∧ ((satsI S).length : Int) ≤ 12) ∧ 1 ≤ ((custsI S).length : Int) ∧ ((custsI S).length : Int) ≤ 48
    omega
  have sB : (sqB (makeI S).cost (nodesN (makeI S)) && sqB (makeI S).time (nodesN (makeI S))) = true := by
    show (sqB (matM S.cost (nodesI S)) (nodesI S) && sqB (matM S.time (nodesI S)) (nodesI S)) = true
    rw [matM_sq, matM_sq]; rfl
  have nB : numsB (makeI S) = true := by
    unfold numsB
    have e1 : mayB (makeI S).fin 0 = true := mayB_of (by show (0 : Int) ≤ 40 + (S.fin : Int) * wideI S; rw [Int.mul_comm]; omega) (by show 40 + (S.fin : Int) * wideI S ≤ 1000000000; rw [Int.mul_comm]; omega)
    have e2 : mayB (makeI S).tr 0 = true := mayB_of (by show (0 : Int) ≤ 5 + wideI S * ((S.tr % 40 : Nat) : Int); omega) (by show 5 + wideI S * ((S.tr % 40 : Nat) : Int) ≤ 1000000000; omega)
    have e3 : mayB (makeI S).br 0 = true := mayB_of (by show (0 : Int) ≤ 3 + wideI S * ((S.br % 20 : Nat) : Int); omega) (by show 3 + wideI S * ((S.br % 20 : Nat) : Int) ≤ 1000000000; omega)
    have e4 : allAt satB (makeI S).sats = true := allAt_of _ _ fun k x hx => by
      obtain ⟨a, b⟩ := h3 x (List.mem_of_getElem? hx)
      unfold satB; rw [a, b]; rfl
    have e5 : allAt custB (makeI S).custs = true := allAt_of _ _ fun k x hx => by
      obtain ⟨a, b, c, d⟩ := h4 x (List.mem_of_getElem? hx)
      unfold custB; rw [mayB_of a.1 (by omega), mayB_of b.1 (by omega), mayB_of c.1 (by omega), mayB_of d.1 (by omega)]; rfl
    rw [e1, e2, e3, e4, e5, show allAt rowB (makeI S).cost = true from matM_rows _ _, show allAt rowB (makeI S).time = true from matM_rows _ _]; rfl
  unfold codeI
  rw [cB, sB, nB]; rfl
end Go.Proofs.Ytljcpgeggbbmfaa
