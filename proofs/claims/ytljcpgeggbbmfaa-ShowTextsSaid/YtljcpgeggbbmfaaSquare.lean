/-
  The walks of inst's square, with slices.ContainsFunc and the closure that it hands over; of Nodes, Sat, Customer, and Check's closure.
-/
import Derived.Test.YtljcpgeggbbmfaaRd
namespace Go.Proofs.Ytljcpgeggbbmfaa
set_option linter.unusedVariables false
set_option linter.unusedSimpArgs false
open Go.RowKit
/-- so many rows of as many numbers. -/
def sqB (ls : List (List Int)) (m : Nat) : Bool := (ls.length == m) && ls.all (fun r => r.length == m)
set_option maxHeartbeats 400000 in
theorem sq1_eq (a : Option Addr) (n c m : Nat) (p : Addr) (w : World) (hn : n ≤ 9223372036854775807) (hc : w.cell? p = some (.int .i64 m)) (h : n = m) :
    Calls Try.prog 68 #[.slice a n c, .pointer (some p)] w fun e w' => e = .returned (.bool false) ∧ w = w' := by
  subst h
  go_enter Try.func68, Try.ntmps68
  go_wp2
  go_ret
  exact ⟨by simp, rfl⟩
set_option maxHeartbeats 400000 in
theorem sq1_ne (a : Option Addr) (n c m : Nat) (p : Addr) (w : World) (hn : n ≤ 9223372036854775807) (hc : w.cell? p = some (.int .i64 m)) (h : n ≠ m) :
    Calls Try.prog 68 #[.slice a n c, .pointer (some p)] w fun e w' => e = .returned (.bool true) ∧ w = w' := by
  have hb : ((n : Int) == (m : Int)) = false := by rw [beq_eq_false_iff_ne]; omega
  have hb2 : ((n : Int) != (m : Int)) = true := by rw [bne_iff_ne]; omega
  go_enter Try.func68, Try.ntmps68
  go_wp2
  go_ret
  exact ⟨rfl, rfl⟩
def IdxEnd (ls : List (List Int)) (m : Nat) (w : World) (e : Ending) (w' : World) : Prop := (∃ v : Int, e = .returned (.int .i64 v) ∧ (0 ≤ v ↔ ls.all (fun r => r.length == m) = false)) ∧ w = w'
set_option maxHeartbeats 800000 in
theorem index_any (A : Option Addr) (C : Nat) (ls : List (List Int)) (m : Nat) (p : Addr) (w : World) (hl : ls.length ≤ 9223372036854775807) (hc : w.cell? p = some (.int .i64 m)) (HR : Rows2 w A ls) :
    Calls Try.prog 72 #[.slice A ls.length C, .func (.func 68) #[] #[.pointer (some p)]] w (IdxEnd ls m w) := by
  replace HR := Lib.hid HR
  replace hc := Lib.hid hc
  go_enter Try.func72, Try.ntmps72
  go_wp2
  go_loop [8] (fun i => ∃ k : Nat, k ≤ ls.length ∧ i = .int .i64 k ∧ Hid ((ls.take k).all (fun r => r.length == m) = true)) (fun i => ls.length - (intOf i).toNat)
  case atStart => exact ⟨0, Nat.zero_le _, rfl, Lib.hid rfl⟩
  case round =>
    obtain ⟨k, hk, rfl, HP⟩ := hrel
    by_cases hlt : k < ls.length
    · obtain ⟨b, off, a, c, rfl, hcell, hr, _⟩ := HR.out.row hlt
      have HT := Lib.hid (show (ls.take (k + 1)).all (fun r => r.length == m) = (ls[k].length == m) by
        rw [List.take_succ_eq_append_getElem hlt, List.all_append, HP.out]; simp)
      by_cases he : ls[k].length = m
      · have HE := Lib.hid he
        clear he
        go_wp2_with (go_at_call 68; refine (sq1_eq _ _ _ m _ _ hr hc.out HE.out).mono ?_; rintro e w' ⟨rfl, rfl⟩)
        go_round
        case rel => exact ⟨k + 1, by omega, by go_num, Lib.hid (by rw [HT.out, beq_iff_eq]; exact HE.out)⟩
        case measure => simp [intOf]; omega
      · have HE := Lib.hid he
        clear he
        go_wp2_with (go_at_call 68; refine (sq1_ne _ _ _ m _ _ hr hc.out HE.out).mono ?_; rintro e w' ⟨rfl, rfl⟩)
        go_ret
        refine ⟨⟨_, rfl, ?_⟩, rfl⟩
        have : ls.all (fun r => r.length == m) = false := by
          cases e : ls.all (fun r => r.length == m) with
          | false => rfl
          | true =>
            have := List.all_eq_true.1 e _ (List.getElem_mem hlt)
            exact absurd (beq_iff_eq.1 this) HE.out
        simp [this]
    · obtain rfl : k = ls.length := by omega
      have hp := HP.out
      rw [List.take_length] at hp
      replace hp := Lib.hid hp
      clear HP
      go_wp2
      go_ret
      exact ⟨⟨_, rfl, by rw [hp.out]; simp⟩, rfl⟩
set_option maxHeartbeats 400000 in
theorem contains_any (A : Option Addr) (C : Nat) (ls : List (List Int)) (m : Nat) (p : Addr) (w : World) (hl : ls.length ≤ 9223372036854775807) (hc : w.cell? p = some (.int .i64 m)) (HR : Rows2 w A ls) :
    Calls Try.prog 67 #[.slice A ls.length C, .func (.func 68) #[] #[.pointer (some p)]] w fun e w' => e = .returned (.bool (!ls.all (fun r => r.length == m))) ∧ w = w' := by
  have hi := index_any A C ls m p w hl hc HR
  replace hi := Lib.hid hi
  clear hc HR
  go_enter Try.func67, Try.ntmps67
  go_wp2_with (go_at_call 72; refine hi.out.mono ?_; rintro e w' ⟨⟨v, rfl, hv⟩, rfl⟩; replace hv := Lib.hid hv)
  go_ret
  refine ⟨ret_bool ?_, rfl⟩
  have h := hv.out
  cases e : ls.all (fun r => r.length == m) with
  | false => simp [h.2 e]
  | true => rw [e] at h; simp at h ⊢; omega
set_option maxHeartbeats 800000 in
theorem square_any (A : Option Addr) (C : Nat) (ls : List (List Int)) (m : Nat) (w : World) (hl : ls.length ≤ 9223372036854775807) (hm : m ≤ 9223372036854775807) (HR : Rows2 w A ls) :
    Calls Try.prog 54 #[.slice A ls.length C, .int .i64 m] w fun e w' => e = .returned (.bool (sqB ls m)) ∧ Below w.heap.size w w' := by
  have hmf : ∀ (fn : Fn) (first cap : Array Value) (w : World), (Instr.makeFunc fn first cap).run Try.prog w = .ok (.func fn first cap) w := fun _ _ _ _ => rfl
  replace HR := HR.below ((Below.refl _ _).alloc (Nat.le_refl _) (.cells #[.int .i64 m] 3))
  have hi := Lib.hid (contains_any A C ls m ⟨w.heap.size, 0, none⟩ (w.alloc (.cells #[.int .i64 m] 3)) hl (by rw [World.cell?_alloc_new]; rfl) HR)
  clear HR
  by_cases he : ls.length = m
  · have hb : ((ls.length : Int) == (m : Int)) = true := by rw [beq_iff_eq]; omega
    have HE := Lib.hid (show sqB ls m = ls.all (fun r => r.length == m) by unfold sqB; simp [he])
    clear he
    go_enter Try.func54, Try.ntmps54
    go_wp2_with (go_at_call 67; refine hi.out.mono ?_; rintro e w' ⟨rfl, rfl⟩)
    go_ret
    exact ⟨ret_bool (by rw [HE.out]), (Below.refl _ _).alloc (Nat.le_refl _) _⟩
  · have hb : ((ls.length : Int) == (m : Int)) = false := by rw [beq_eq_false_iff_ne]; omega
    have HE := Lib.hid (show sqB ls m = false by unfold sqB; simp [he])
    clear he
    go_enter Try.func54, Try.ntmps54
    go_wp2
    go_ret
    exact ⟨ret_bool (by rw [HE.out]), (Below.refl _ _).alloc (Nat.le_refl _) _⟩
def manyB (n most : Int) : Bool := decide (1 ≤ n) && decide (n ≤ most)
set_option maxHeartbeats 400000 in
theorem many_any (n m : Int) (w : World) :
    Calls Try.prog 53 #[.int .i64 n, .int .i64 m] w fun e w' => e = .returned (.bool (manyB n m)) ∧ w = w' := by
  by_cases h1 : 1 ≤ n
  · go_enter Try.func53, Try.ntmps53
    go_wp2
    go_ret
    exact ⟨ret_bool (by unfold manyB; rw [decide_eq_true h1]; rfl), rfl⟩
  · go_enter Try.func53, Try.ntmps53
    go_wp2
    go_ret
    exact ⟨ret_bool (by unfold manyB; rw [decide_eq_false (by omega)]; rfl), rfl⟩
def nodesN (X : InstD) : Nat := 1 + X.sats.length + X.custs.length
set_option maxHeartbeats 400000 in
theorem nodes_any (X : InstD) (h : HdD) (w : World) (h1 : X.sats.length ≤ 1000000) (h2 : X.custs.length ≤ 1000000) :
    Calls Try.prog 37 #[.agg (instC X h)] w fun e w' => e = .returned (.int .i64 (nodesN X)) ∧ w.alloc (.cells (instC X h) 29) = w' := by
  unfold instC
  go_enter Try.func37, Try.ntmps37
  go_wp2
  go_ret
  exact ⟨ret_int (by unfold nodesN; omega), rfl⟩
end Go.Proofs.Ytljcpgeggbbmfaa
