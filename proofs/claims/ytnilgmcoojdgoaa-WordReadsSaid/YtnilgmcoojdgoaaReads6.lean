/-
  The walk of WordReads (layer 5).
-/
import Derived.Test.YtnilgmcoojdgoaaReads4
import Derived.Test.YtnilgmcoojdgoaaReads5
import Derived.Test.YtnilgmcoojdgoaaEqual
import Derived.Test.YtnilgmcoojdgoaaOpen
namespace Go.Proofs.Ytnilgmcoojdgoaa
set_option linter.unusedVariables false
set_option linter.unusedSimpArgs false
open Go.RowKit
/-- where a reading ends, and with which fault. -/
def outE (ws : List WordD) (n : Nat) : Nat ⊕ (Int × Int) → Int × Int
  | .inl i => (if i < ws.length then (placeN ws i n : Int) else 0, if i < ws.length then 6 else 0)
  | .inr e => e
/-- what Read leaves there. -/
def ToldEnd (s : ByteArray) (l : List StepD) (bt : Nat) (w0 w : World) (e : Ending) (w' : World) : Prop :=
  Below w0.heap.size w0 w' ∧ Chg (fun k => k = bt ∨ w.heap.size ≤ k) w w' ∧ e = .returned (.tuple #[.int .i64 (outE (wordsL s) s.size (runD (wordsL s) s.size l).2).1, .int .i64 (outE (wordsL s) s.size (runD (wordsL s) s.size l).2).2]) ∧
    ∃ A C, w'.cell? ⟨bt, 0, none⟩ = some (.slice A (runD (wordsL s) s.size l).1.length C) ∧ Rd w' A (i64s (runD (wordsL s) s.size l).1)
theorem told_any (s : ByteArray) (h2 : s.size ≤ 600) (hok : okAll s = true) (l : List StepD) (hl : l.length ≤ 40) (hdv : ∀ x ∈ l, x.dv < 256) (al : Option Addr) (cl : Nat) (w0 w : World) (hb : Below w0.heap.size w0 w) (RS : Rd w0 al (l.flatMap stepV)) (bl bt by_ : Nat)
    (hge : w0.heap.size ≤ bt) (n1 : bl ≠ bt) (n2 : by_ ≠ bt) (d1 : w.cell? ⟨bl, 0, none⟩ = some (.slice al l.length cl)) (d2 : w.heap[bt]? = some (.cells #[.slice none 0 0] 46 (0, 0)))
    (d3 : w.cell? ⟨by_, 0, none⟩ = some (.func (.func 21) #[] #[.pointer (some ⟨bt, 0, none⟩)])) :
    Calls Try.prog 17 #[.string s, .func (.func 22) #[] #[.pointer (some ⟨bl, 0, none⟩), .pointer (some ⟨bt, 0, none⟩), .pointer (some ⟨by_, 0, none⟩)]] w (ToldEnd s l bt w0 w) := by
  have hbt := heap_lt d2
  have hbl : bl < w.heap.size := lt_of_cell d1
  have hby : by_ < w.heap.size := lt_of_cell d3
  have key : ∀ {B : Nat} {told : List Int} {w2 w3 : World}, w.heap.size + 2 ≤ B → Told bt B told w2 → Chg (fun k => k = w.heap.size ∨ k = w.heap.size + 1) w2 w3 → Told bt B told w3 :=
    fun hB hT hc => hT.chg hc (by omega) (fun k hk => by omega)
  refine (read_told bl bt by_ s w (by omega) hok (fun k => k = bt) (fun k hk => by omega)
    (fun i w2 => ∃ B told, w.heap.size + 2 ≤ B ∧ Told bt B told w2 ∧ runD (wordsL s) s.size l = (told, .inl i)) (fun a c w2 => ∃ B told, w.heap.size + 2 ≤ B ∧ Told bt B told w2 ∧ runD (wordsL s) s.size l = (told, .inr (a, c)))
    (fun i w2 w3 ⟨B, told, hB, hT, hr⟩ hc => ⟨B, told, hB, key hB hT hc, hr⟩) (fun a c w2 w3 ⟨B, told, hB, hT, hr⟩ hc => ⟨B, told, hB, key hB hT hc, hr⟩) ?_).mono ?_
  · intro w1 p A C hb1 hp R
    have hp1 := heap_lt R.blk
    have hsz := hb1.size
    have z2 : w1.heap[bt]? = some (.cells #[.slice none 0 0] 46 (0, 0)) := (hb1.block bt hbt).trans d2
    refine (ask_any (wordsL s) s.size l hl hdv (fun x hx => by have := text_le s x hx; omega) w1 p A C R bl bt by_ al cl (by omega) ⟨by omega, by omega, n2⟩ ⟨_, z2, World.ownsRow_nil _ _ _ _⟩ ?_).mono ?_
    · intro wr hc
      have h0 : Below w0.heap.size w0 wr := ⟨hc.os.trans (hb1.os.trans hb.os), hc.tape.trans (hb1.tape.trans hb.tape), hc.output.trans (hb1.output.trans hb.output), Nat.le_trans hb.size (Nat.le_trans hb1.size hc.size), fun k hk => (hc.block k (by have := hb.size; omega) (by have := hb.size; omega)).trans ((hb1.block k (by have := hb.size; omega)).trans (hb.block k hk))⟩
      exact ⟨(World.cell?_of_block ((hc.block bl (by omega) (by omega)).trans (hb1.block bl hbl))).trans d1, (World.cell?_of_block ((hc.block by_ (by omega) (by omega)).trans (hb1.block by_ hby))).trans d3, RS.below h0⟩
    · rintro e w2 ⟨hc, told, hT, ⟨i, rfl, hR, hr⟩ | ⟨a, c, rfl, hr⟩⟩
      · exact ⟨hc, .inl ⟨i, rfl, hR, w1.heap.size, told, by omega, hT, hr⟩⟩
      · exact ⟨hc, .inr ⟨a, c, rfl, w1.heap.size, told, by omega, hT, hr⟩⟩
  · rintro e w3 ⟨hc, ⟨i, ⟨B, told, hB, hT, hr⟩, rfl⟩ | ⟨a, c, ⟨B, told, hB, hT, hr⟩, rfl⟩⟩
    all_goals
      have h0 : Below w0.heap.size w0 w3 := ⟨hc.os.trans hb.os, hc.tape.trans hb.tape, hc.output.trans hb.output, Nat.le_trans hb.size hc.size, fun k hk => (hc.block k (by have := hb.size; omega) (by have := hb.size; omega)).trans (hb.block k hk)⟩
      obtain ⟨v, hv1, hv2⟩ := hT
      obtain ⟨A, C, rfl⟩ := told_val hv2
      unfold ToldEnd
      rw [show runD (wordsL s) s.size l = _ from hr]
      exact ⟨h0, hc, rfl, A, C, box_cell hv1, own_rd' hv2⟩
theorem readsE_any (s : ByteArray) (h2 : s.size ≤ 600) (hok : okAll s = true) (l : List StepD) (hl : l.length ≤ 40) (hdv : ∀ x ∈ l, x.dv < 256) (al : Option Addr) (cl : Nat) (w : World) (RS : Rd w al (l.flatMap stepV)) :
    Calls Try.prog 28 #[.string s, .slice al l.length cl] w fun e w' => Below w.heap.size w w' ∧ ∃ A C, Rd w' A (i64s (runD (wordsL s) s.size l).1) ∧
      e = .returned (.tuple #[.slice A (runD (wordsL s) s.size l).1.length C, .int .i64 (outE (wordsL s) s.size (runD (wordsL s) s.size l).2).1, .int .i64 (outE (wordsL s) s.size (runD (wordsL s) s.size l).2).2]) := by
  refine (refreads_ok s h2 hok l hl hdv al cl w RS).mono ?_
  rintro e w' ⟨hb, told, A, C, hR, ⟨i, hr, rfl⟩ | ⟨a, c, hr, rfl⟩⟩ <;> rw [show runD (wordsL s) s.size l = _ from hr] <;> exact ⟨hb, A, C, hR, rfl⟩
theorem told_bound (s : ByteArray) (l : List StepD) (hl : l.length ≤ 40) : (runD (wordsL s) s.size l).1.length ≤ 40 := by
  have := runD_len (wordsL s) s.size l l.length (Nat.le_refl _)
  rw [List.take_length] at this
  omega
instance : Inhabited StepD := ⟨⟨0, ByteArray.empty, 0, 0⟩⟩
theorem equal_self (A B : Option Addr) (CA CB : Nat) (xs : List Int) (w : World) (hx : xs.length ≤ 9223372036854775807) (RA : Rd w A (i64s xs)) (RB : Rd w B (i64s xs)) :
    Calls Try.prog 29 #[.slice A xs.length CA, .slice B xs.length CB] w fun e w' => e = .returned (.bool true) ∧ Below w.heap.size w w' := by
  refine (eqInts_any A B CA CB xs xs w hx hx RA RB).mono ?_
  rintro e w' ⟨rfl, q, rfl⟩
  exact ⟨by rw [decide_eq_true rfl], below_drewN (Below.refl _ _) q⟩
set_option maxHeartbeats 8000000 in
set_option maxRecDepth 100000 in
theorem walk_WordReads (w : World) (s : ByteArray) (hs2 : s.size ≤ 9223372036854775807) (al : Option Addr) (cl : Nat) (l : List StepD) (hll : l.length ≤ 9223372036854775807) (hdv : ∀ x ∈ l, x.dv < 256) (RS : Rd w al (l.flatMap stepV)) :
    Calls Try.prog 8 #[.string s, .slice al l.length cl] w fun e w' => e = .returned (.bool true) ∧ Below w.heap.size w w' := by
  have hmf : ∀ (fn : Fn) (first cap : Array Value) (w : World), (Instr.makeFunc fn first cap).run Try.prog w = .ok (.func fn first cap) w := fun _ _ _ _ => rfl
  have hst : ∀ (fn : Fn) (xs ys : Array Value) (a : Addr) (w : World), (store a (.func fn xs ys)).run Try.prog w = stored Try.prog w a (.func fn xs ys) .plain := fun fn xs ys a w => run_store Try.prog w a (.func fn xs ys) .plain rfl
  have hA := Lib.hid awake5_any
  have hb0 : Below w.heap.size w (w.alloc (.cells #[.slice al l.length cl] 45)) := (Below.refl _ _).alloc (Nat.le_refl _) _
  have c3 : (w.alloc (.cells #[.slice al l.length cl] 45)).cell? ⟨w.heap.size, 0, none⟩ = some (.slice al l.length cl) := box_cell (heap_alloc_new w _)
  have hgl0 : w.heap.size < (w.alloc (.cells #[.slice al l.length cl] 45)).heap.size := by simp
  replace hb0 := Lib.hid hb0
  replace RS := Lib.hid RS
  replace hdv := Lib.hid hdv
  go_enter Try.func8, Try.ntmps8
  go_wp2_with fail
  refine (hA.out _).mono ?_
  rintro e w1 ⟨rfl, hb1⟩
  replace c3 := keep_cell hb1 c3
  have hbb := Lib.hid (hb0.out.trans (hb1.mono hb0.out.size))
  have hsz1 : w.heap.size < w1.heap.size := Nat.lt_of_lt_of_le hgl0 hb1.size
  clear hb0 hb1
  by_cases h1 : 600 < s.size
  · go_wp2_with fail
    go_ret
    exact ⟨rfl, hbb.out⟩
  · by_cases h2 : 40 < l.length
    · go_wp2_with fail
      go_ret
      exact ⟨rfl, hbb.out⟩
    · have hb2 : Below w.heap.size w ((w1.alloc (.cells #[.slice none 0 0] 46)).alloc (.cells #[.func (.func 21) #[] #[.pointer (some ⟨w1.heap.size, 0, none⟩)]] 47)) := (hbb.out.alloc (by omega) _).alloc (by simp; omega) _
      obtain ⟨d2, d3⟩ := two_news w1 46 47 (.slice none 0 0) (.func (.func 21) #[] #[.pointer (some ⟨w1.heap.size, 0, none⟩)])
      have d1 := keep_cell (((Below.refl w1.heap.size w1).alloc (Nat.le_refl _) (.cells #[.slice none 0 0] 46)).alloc (by simp) (.cells #[.func (.func 21) #[] #[.pointer (some ⟨w1.heap.size, 0, none⟩)]] 47)) c3
      have hsz2 : w1.heap.size + 1 < ((w1.alloc (.cells #[.slice none 0 0] 46)).alloc (.cells #[.func (.func 21) #[] #[.pointer (some ⟨w1.heap.size, 0, none⟩)]] 47)).heap.size := by simp
      replace hb2 := Lib.hid hb2
      replace d2 := Lib.hid d2
      replace d3 := Lib.hid (box_cell d3)
      replace d1 := Lib.hid d1
      clear hA
      go_upto_region 7 with fail
      generalize ((w1.alloc (.cells #[.slice none 0 0] 46)).alloc (.cells #[.func (.func 21) #[] #[.pointer (some ⟨w1.heap.size, 0, none⟩)]] 47)) = W at *
      replace d1 := d1.out
      rcases bad_or s with hok | ⟨k, hk⟩
      · have hT := Lib.hid (told_any s (by omega) hok l (by omega) hdv.out al cl w W hb2.out RS.out w.heap.size w1.heap.size (w1.heap.size + 1) (by omega) (by omega) (by omega) d1 d2.out d3.out)
        have hR := Lib.hid (fun w' (hb : Below w.heap.size w w') => readsE_any s (by omega) hok l (by omega) hdv.out al cl w' (RS.out.below hb))
        have hlen := told_bound s l (by omega)
        clear hok
        go_wp2_with fail
        refine hT.out.mono ?_
        rintro e w3 ⟨h0, hc, rfl, A1, C1, e1, r1⟩
        replace d1 := (World.cell?_of_block (hc.block w.heap.size (by omega) (by omega))).trans d1
        clear hc hT
        go_wp2_with fail
        refine (hR.out _ h0).mono ?_
        rintro e w4 ⟨hb4, A2, C2, r2, rfl⟩
        have e2 := keep_cell hb4 e1
        have hE := Lib.hid (equal_self A1 A2 C1 C2 _ w4 (by omega) (r1.below hb4) r2)
        have hbz := Lib.hid (h0.trans (hb4.mono h0.size))
        clear hR r1 r2 e1 d1 hb4 h0
        generalize outE (wordsL s) s.size (runD (wordsL s) s.size l).2 = o at *
        generalize (runD (wordsL s) s.size l).1 = tl at *
        obtain ⟨o1, o2⟩ := o
        dsimp only at *
        go_wp2_with fail
        refine hE.out.mono ?_
        rintro e w5 ⟨rfl, hb5⟩
        go_wp2_with fail
        go_ret
        exact ⟨rfl, hbz.out.trans (hb5.mono hbz.out.size)⟩
      · have hT := Lib.hid (fun f => read_bad s f W (by omega) hk)
        have hR := Lib.hid (fun w' => refreads_bad s (by omega) hk al cl l.length w')
        clear hk
        go_wp2_with fail
        refine (hT.out _).mono ?_
        rintro e w3 ⟨rfl, hb3⟩
        replace d1 := keep_cell hb3 d1
        have e1 := keep_cell hb3 (box_cell d2.out)
        have h0 := hb2.out.trans (hb3.mono hb2.out.size)
        clear hb3 hT
        go_wp2_with fail
        refine (hR.out _).mono ?_
        rintro e w4 ⟨rfl, hb4⟩
        have e2 := keep_cell hb4 e1
        have hE := Lib.hid (equal_self none none 0 0 [] w4 (by simp) (by exact Rd.nil) (by exact Rd.nil))
        have hbz := Lib.hid (h0.trans (hb4.mono h0.size))
        clear hR e1 d1 hb4 h0
        go_wp2_with fail
        refine hE.out.mono ?_
        rintro e w5 ⟨rfl, hb5⟩
        go_wp2_with fail
        go_ret
        exact ⟨rfl, hbz.out.trans (hb5.mono hbz.out.size)⟩
end Go.Proofs.Ytnilgmcoojdgoaa
