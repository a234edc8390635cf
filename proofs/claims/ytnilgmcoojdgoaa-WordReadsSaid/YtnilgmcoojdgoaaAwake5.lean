/-
  The walk of wharfagelaw05.Awake: it returns true.
-/
import Derived.Test.YtnilgmcoojdgoaaReadA
import Derived.Test.YtnilgmcoojdgoaaRefWords
namespace Go.Proofs.Ytnilgmcoojdgoaa
set_option linter.unusedVariables false
set_option linter.unusedSimpArgs false
open Go.RowKit
/-- Awake's text. -/
def s7 : ByteArray := ⟨#[97, 32, 55, 32, 35, 32, 98]⟩
theorem words_s7 : wordsL s7 = [⟨⟨#[97]⟩, 0⟩, ⟨⟨#[55]⟩, 2⟩] := by kernel_rfl
theorem ok_s7 : okAll s7 = true := by kernel_rfl
theorem bad_tab : IsBad ⟨#[97, 9, 98]⟩ 1 := ⟨by decide, by kernel_rfl, by kernel_rfl⟩
set_option maxHeartbeats 1600000 in
theorem awake1_any (w1 : World) (p : Nat) (A : Option Addr) (C : Nat) (R : RdrIs w1 p A C (wordsL s7) 0 s7.size) :
    Calls Try.prog 37 #[.pointer (some ⟨p, 0, none⟩)] w1 (DoEnd (fun _ => False) (fun _ _ => False) (fun a c _ => a = 2 ∧ c = 2) s7 w1 p A C) := by
  rw [words_s7] at R
  have h1 : isB [⟨⟨#[97]⟩, 0⟩, ⟨⟨#[55]⟩, 2⟩] 0 ⟨#[97]⟩ = true := by kernel_rfl
  have h2 : numE [⟨⟨#[97]⟩, 0⟩, ⟨⟨#[55]⟩, 2⟩] 1 s7.size ⟨⟨#[55]⟩, 2⟩ 0 5 = (PanEnd 2 2, 1) := by
    have e1 : okNum (L ⟨#[55]⟩) = true := by kernel_rfl
    have e2 : parseV (L ⟨#[55]⟩) = 7 := by kernel_rfl
    unfold numE
    rw [e1, e2]
    rfl
  have hq := Lib.hid (must_yes p A C _ 0 s7.size ⟨#[97]⟩ w1 R h1)
  replace h2 := Lib.hid h2
  clear R h1
  go_enter Try.func37, Try.ntmps37
  go_wp2_with fail
  refine hq.out.mono ?_
  rintro e w2 ⟨rfl, hR, hG⟩
  replace hG := Lib.hid hG
  go_wp2_with fail
  refine (num_some p A C _ 1 s7.size 0 5 w2 hR (by decide) (by decide)).mono ?_
  rintro e w3 ⟨he, hR3, hG3⟩
  have h3 : numE [⟨⟨#[97]⟩, 0⟩, ⟨⟨#[55]⟩, 2⟩] 1 s7.size ([(⟨⟨#[97]⟩, 0⟩ : WordD), ⟨⟨#[55]⟩, 2⟩][1]'(by decide)) 0 5 = (PanEnd 2 2, 1) := h2.out
  rw [h3] at he
  subst he
  clear hR3 h3
  unfold PanEnd
  go_wp2_with fail
  exact ⟨rfl, (Chg.grown hG.out (.inl rfl)).trans (Chg.grown hG3 (.inl rfl)), .inr ⟨2, 2, rfl, rfl, rfl⟩⟩
theorem aw_read (w : World) : Calls Try.prog 17 #[.string ⟨#[97, 32, 55, 32, 35, 32, 98]⟩, .func (.func 37) #[] #[]] w fun e w' => e = .returned (.tuple #[.int .i64 2, .int .i64 2]) ∧ Below w.heap.size w w' :=
  (read_awake s7 w (by decide) ok_s7 (fun _ => False) (fun k h => h.elim) (fun _ _ => False) (fun a c _ => a = 2 ∧ c = 2) (fun _ _ _ h _ => h) (fun _ _ _ _ h _ => h) (fun w1 p A C _ _ R => awake1_any w1 p A C R)).mono fun e w' h => by
    obtain ⟨hC, ⟨i, h, _⟩ | ⟨a, c, ⟨rfl, rfl⟩, he⟩⟩ := h
    · exact h.elim
    · exact ⟨he, hC.to_below (fun k hk h => by rcases h with h | h; exact h; omega) (Nat.le_refl _)⟩
theorem aw_split (w : World) : Calls Try.prog 15 #[.string ⟨#[97, 9, 98]⟩] w fun e w' => e = .returned (.tuple #[.slice none 0 0, .int .i64 1, .int .i64 3]) ∧ Below w.heap.size w w' :=
  split_bad ⟨#[97, 9, 98]⟩ w (by decide) bad_tab
set_option maxHeartbeats 1600000 in
theorem awake5_any (w : World) : Calls Try.prog 14 #[] w fun e w' => e = .returned (.bool true) ∧ Below w.heap.size w w' := by
  have h1 := Lib.hid aw_read
  have h2 := Lib.hid aw_split
  go_enter Try.func14, Try.ntmps14
  go_wp2_with fail
  refine (h1.out _).mono ?_
  rintro e w1 ⟨rfl, hb1⟩
  replace hb1 := Lib.hid hb1
  go_wp2_with fail
  refine (h2.out _).mono ?_
  rintro e w2 ⟨rfl, hb2⟩
  replace hb2 := Lib.hid hb2
  go_wp2_with fail
  go_ret
  exact ⟨rfl, keep_below hb1.out hb2.out⟩
end Go.Proofs.Ytnilgmcoojdgoaa
