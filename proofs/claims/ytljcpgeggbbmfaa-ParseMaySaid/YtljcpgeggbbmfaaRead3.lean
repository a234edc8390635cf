/-
  What word.Read leaves, whatever is done with the text (layer 5).
-/
import Derived.Test.YtljcpgeggbbmfaaRead2
namespace Go.Proofs.Ytljcpgeggbbmfaa
set_option linter.unusedVariables false
set_option linter.unusedSimpArgs false
open Go.RowKit
theorem split_ok (s : ByteArray) (w : World) (h2 : s.size ≤ 131072) (hok : okAll s = true) :
    Calls Try.prog 58 #[.string s] w fun e w' => ∃ A C, e = .returned (.tuple #[.slice A (wordsL s).length C, .int .i64 0, .int .i64 0]) ∧ w'.ownsRow w.heap.size 118 2 (.slice A (wordsL s).length C) (wordsL s).length ((wordsL s).flatMap wordV) ∧ Below w.heap.size w w' :=
  (split_any s w (by omega)).mono fun e w' h => by
    rcases h with h | ⟨k, _, hb, _⟩ | ⟨_, _, A, C, h1, h3, h4⟩
    · omega
    · rw [bad_all hb] at hok; cases hok
    · exact ⟨A, C, h1, h3, h4⟩
theorem split_bad (s : ByteArray) (w : World) (h2 : s.size ≤ 131072) {k : Nat} (hk : IsBad s k) :
    Calls Try.prog 58 #[.string s] w fun e w' => e = .returned (.tuple #[.slice none 0 0, .int .i64 (k : Int), .int .i64 3]) ∧ Below w.heap.size w w' :=
  (split_any s w (by omega)).mono fun e w' h => by
    rcases h with h | ⟨j, _, hb, he, hw⟩ | ⟨_, hok, _⟩
    · omega
    · rw [bad_unique hb hk] at he; exact ⟨he, hw⟩
    · rw [bad_all hk] at hok; cases hok
theorem split_long (s : ByteArray) (w : World) (h2 : 131072 < s.size) (hs : s.size ≤ 9223372036854775807) :
    Calls Try.prog 58 #[.string s] w fun e w' => e = .returned (.tuple #[.slice none 0 0, .int .i64 0, .int .i64 4]) ∧ Below w.heap.size w w' :=
  (split_any s w hs).mono fun e w' h => by
    rcases h with h | ⟨j, h, _⟩ | ⟨h, _⟩
    · exact ⟨h.2.1, h.2.2⟩
    · omega
    · omega
/-- what a function that is handed a reader may leave. -/
def DoEnd (may : Nat → Prop) (Rok : Nat → World → Prop) (Rerr : Int → Int → World → Prop) (s : ByteArray) (w1 : World) (p : Nat) (A : Option Addr) (C : Nat) (e : Ending) (w2 : World) : Prop :=
  Chg (fun k => k = p ∨ may k) w1 w2 ∧ ((∃ i, e = .returned (.tuple #[]) ∧ RdrIs w2 p A C (wordsL s) i s.size ∧ Rok i w2) ∨ (∃ a c, e = PanEnd a c ∧ Rerr a c w2))
/-- what Read leaves then. -/
def ReadEnd (may : Nat → Prop) (Rok : Nat → World → Prop) (Rerr : Int → Int → World → Prop) (s : ByteArray) (w : World) (e : Ending) (w3 : World) : Prop :=
  Chg (fun k => may k ∨ w.heap.size ≤ k) w w3 ∧
  ((∃ i, Rok i w3 ∧ e = .returned (.tuple #[.int .i64 (if i < (wordsL s).length then (placeN (wordsL s) i s.size : Int) else 0), .int .i64 (if i < (wordsL s).length then 6 else 0)])) ∨
   (∃ a c, Rerr a c w3 ∧ e = .returned (.tuple #[.int .i64 a, .int .i64 c])))
end Go.Proofs.Ytljcpgeggbbmfaa
