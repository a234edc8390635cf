/-
  The walk of the law's reads: it tells the same (layer 5, WordReads).
-/
import Derived.Test.YtnilgmcoojdgoaaReads3
import Derived.Test.YtnilgmcoojdgoaaSpaced
import Derived.Test.YtnilgmcoojdgoaaRefParse
namespace Go.Proofs.Ytnilgmcoojdgoaa
set_option linter.unusedVariables false
set_option linter.unusedSimpArgs false
open Go.RowKit
set_option maxHeartbeats 1600000 in
theorem at_any (b9 b7 b2 : Nat) (A : Option Addr) (C : Nat) (ws : List WordD) (i : Nat) (s : ByteArray) (w : World) (c9 : w.cell? ⟨b9, 0, none⟩ = some (.int .i64 (i : Int))) (c7 : w.cell? ⟨b7, 0, none⟩ = some (.slice A ws.length C))
    (c2 : w.cell? ⟨b2, 0, none⟩ = some (.string s)) (R : Rd w A (ws.flatMap wordV)) :
    Calls Try.prog 42 #[.pointer (some ⟨b9, 0, none⟩), .pointer (some ⟨b7, 0, none⟩), .pointer (some ⟨b2, 0, none⟩)] w (Looks w (.returned (.int .i64 (placeN ws i s.size : Int)))) := by
  by_cases h : i < ws.length
  · obtain ⟨b, off, rfl, hc1, hc2⟩ := R.word h
    have k0 : (0 : Int) ≤ (i : Int) := by omega
    have k1 : (i : Int) < (ws.length : Int) := by omega
    have hp := Lib.hid (placeN_in (n := s.size) h)
    generalize ws[i] = x at *
    replace R := Lib.hid R
    go_enter Try.func42, Try.ntmps42
    go_wp2_with fail
    go_ret
    exact ⟨ret_int (by rw [hp.out]), 0, by cases w; rfl⟩
  · have k1 : ¬ (i : Int) < (ws.length : Int) := by omega
    have hp := Lib.hid (placeN_end (n := s.size) h)
    replace R := Lib.hid R
    go_enter Try.func42, Try.ntmps42
    go_wp2_with fail
    go_ret
    exact ⟨ret_int (by rw [hp.out]), 0, by cases w; rfl⟩
theorem refParse_is (s : ByteArray) (v : Int) (b : Bool) (hv : Hid (parseV (L s) = v)) (hb : Hid (okNum (L s) = b)) (w : World) (hs : s.size ≤ 9223372036854775807) :
    Calls Try.prog 43 #[.string s] w fun e w' => e = .returned (.tuple #[.int .i64 v, .bool b]) ∧ w = w' :=
  (refParse_any s w hs).mono fun e w' ⟨he, hw⟩ => ⟨by unfold ParseEnd at he; rw [he, hv.out, hb.out], hw⟩
/-- what holds while the law reads. -/
structure RJ (w1 : World) (g9 i : Nat) (told : List Int) (v : Value) (wr : World) : Prop where
  blk : wr.heap[g9]? = some (.cells #[.int .i64 (i : Int)] 3 (0, 0))
  T : wr.ownsRow w1.heap.size 2 1 v told.length (i64s told)
  C : Chg (fun k => k = g9) w1 wr
section
variable {w1 wr w' : World} {g9 i : Nat} {told : List Int} {v : Value}
theorem RJ.below (h : RJ w1 g9 i told v wr) (hb : Below wr.heap.size wr w') : RJ w1 g9 i told v w' := ⟨(hb.block g9 (heap_lt h.blk)).trans h.blk, own_below h.T hb, h.C.trans (Chg.below hb)⟩
theorem RJ.drewN (h : RJ w1 g9 i told v wr) (q : Nat) : RJ w1 g9 i told v (wr.drewN q) := h.below (below_drewN (Below.refl _ _) q)
theorem RJ.set9 (h : RJ w1 g9 i told v wr) : RJ w1 g9 (i + 1) told v (wr.setCell ⟨g9, 0, none⟩ (.int .i64 ((i : Int) + 1))) := by
  refine ⟨?_, ownT_keptS h.T (p := ⟨g9, 0, none⟩) h.blk (by decide) _, h.C.trans (Chg.grown (grown_set wr ⟨g9, 0, none⟩ _) rfl)⟩
  have := heap_set wr g9 0 _ _ (.int .i64 ((i : Int) + 1)) h.blk
  rw [this]; rfl
theorem RJ.push (h : RJ w1 g9 i told v wr) (h9 : g9 < w1.heap.size) {o : Obj} {v' : Value} {x : Int} (hown : w'.ownsRow w1.heap.size 2 1 v' (told.length + 1) (i64s told ++ [.int .i64 x])) (hg : (wr.alloc o).grownBy w' v.ownBlock) : RJ w1 g9 i (told ++ [x]) v' w' := by
  have hal : Below wr.heap.size wr (wr.alloc o) := (Below.refl _ _).alloc (Nat.le_refl _) o
  have hn : ∀ k, k < w1.heap.size → w'.heap[k]? = wr.heap[k]? := fun k hk => by
    have hk2 : k < wr.heap.size := Nat.lt_of_lt_of_le hk h.C.size
    exact (hg.block k (Nat.lt_of_lt_of_le hk2 hal.size) (fun e => by have := (own_lt h.T e.symm).1; omega)).trans (hal.block k hk2)
  refine ⟨(hn g9 h9).trans h.blk, ?_, hg.os.trans (hal.os.trans h.C.os), hg.tape.trans (hal.tape.trans h.C.tape), hg.output.trans (hal.output.trans h.C.output), Nat.le_trans h.C.size (Nat.le_trans hal.size hg.size), fun k hk hm => (hn k hk).trans (h.C.block k hk hm)⟩
  rw [List.length_append, i64s_snoc]; exact hown
theorem RJ.bel (h : RJ w1 g9 i told v wr) {w : World} (hB : Below w.heap.size w w1) (hge : w.heap.size ≤ g9) : Below w.heap.size w wr :=
  ⟨h.C.os.trans hB.os, h.C.tape.trans hB.tape, h.C.output.trans hB.output, Nat.le_trans hB.size h.C.size, fun k hk => (h.C.block k (Nat.lt_of_lt_of_le hk hB.size) (by omega)).trans (hB.block k hk)⟩
theorem RJ.rd (h : RJ w1 g9 i told v wr) : ∃ A C, v = .slice A told.length C ∧ Rd wr A (i64s told) := by
  obtain ⟨A, C, rfl⟩ := told_val h.T
  exact ⟨A, C, rfl, own_rd' h.T⟩
end
/-- what reads leaves, of a text that splits. -/
def RefEnd (s : ByteArray) (l : List StepD) (w : World) (e : Ending) (w' : World) : Prop :=
  Below w.heap.size w w' ∧ ∃ told A C, Rd w' A (i64s told) ∧
    ((∃ i, runD (wordsL s) s.size l = (told, .inl i) ∧ e = .returned (.tuple #[.slice A told.length C, .int .i64 (if i < (wordsL s).length then (placeN (wordsL s) i s.size : Int) else 0), .int .i64 (if i < (wordsL s).length then 6 else 0)])) ∨
     ∃ a c, runD (wordsL s) s.size l = (told, .inr (a, c)) ∧ e = .returned (.tuple #[.slice A told.length C, .int .i64 a, .int .i64 c]))
theorem RJ.stop {w1 wr wr2 w : World} {g9 i : Nat} {told : List Int} {A : Option Addr} {C : Nat} {s : ByteArray} {l : List StepD} {a c : Int} (h : RJ w1 g9 i told (.slice A told.length C) wr) (hb : Below wr.heap.size wr wr2) (hB : Below w.heap.size w w1) (hge : w.heap.size ≤ g9) (hr : runD (wordsL s) s.size l = (told, .inr (a, c))) :
    RefEnd s l w (.returned (.tuple #[.slice A told.length C, .int .i64 a, .int .i64 c])) wr2 :=
  ⟨(h.below hb).bel hB hge, told, A, C, own_rd' (h.below hb).T, .inr ⟨a, c, hr, rfl⟩⟩
theorem refreads_bad (s : ByteArray) (h2 : s.size ≤ 131072) {k : Nat} (hk : IsBad s k) (al : Option Addr) (cl n : Nat) (w : World) :
    Calls Try.prog 28 #[.string s, .slice al n cl] w fun e w' => e = .returned (.tuple #[.slice none 0 0, .int .i64 (k : Int), .int .i64 3]) ∧ Below w.heap.size w w' := by
  have hW := Lib.hid (fun w' => words_bad s w' h2 hk)
  have k0 : (0 : Int) ≤ (k : Int) := by omega
  have hb0 : Below w.heap.size w (w.alloc (.cells #[.string s] 9)) := (Below.refl _ _).alloc (Nat.le_refl _) _
  have c2 : (w.alloc (.cells #[.string s] 9)).cell? ⟨w.heap.size, 0, none⟩ = some (.string s) := box_cell (heap_alloc_new w _)
  replace hb0 := Lib.hid hb0
  clear hk
  go_enter Try.func28, Try.ntmps28
  go_wp2_with fail
  refine (hW.out _).mono ?_
  rintro e w3 ⟨rfl, hb3⟩
  have hbb := Lib.hid ((hb0.out.trans (hb3.mono hb0.out.size)).alloc (by have := hb0.out.size; have := hb3.size; omega) (.cells #[.slice none 0 0] 27))
  clear hb3 c2
  go_wp2_with fail
  go_ret3
  exact ⟨rfl, hbb.out⟩
set_option maxHeartbeats 32000000 in
set_option maxRecDepth 100000 in
theorem refreads_ok (s : ByteArray) (h2 : s.size ≤ 600) (hok : okAll s = true) (l : List StepD) (hl : l.length ≤ 40) (hdv : ∀ x ∈ l, x.dv < 256) (al : Option Addr) (cl : Nat) (w : World) (RS : Rd w al (l.flatMap stepV)) :
    Calls Try.prog 28 #[.string s, .slice al l.length cl] w (RefEnd s l w) := by
  have hmf : ∀ (fn : Fn) (first cap : Array Value) (w : World), (Instr.makeFunc fn first cap).run Try.prog w = .ok (.func fn first cap) w := fun _ _ _ _ => rfl
  have hW := Lib.hid (fun w' => words_ok s w' (by omega) hok)
  have hwl := wordsL_len s
  have htl := Lib.hid (text_le s)
  obtain ⟨i0, hi0, hz0, hz1, hz2⟩ := info_parts info_i64
  have hb0 : Below w.heap.size w (w.alloc (.cells #[.string s] 9)) := (Below.refl _ _).alloc (Nat.le_refl _) _
  have c2 : (w.alloc (.cells #[.string s] 9)).cell? ⟨w.heap.size, 0, none⟩ = some (.string s) := box_cell (heap_alloc_new w _)
  have RS1 := Lib.hid (RS.below hb0)
  have hgl0 : w.heap.size < (w.alloc (.cells #[.string s] 9)).heap.size := by simp
  have hb0 := Lib.hid hb0
  replace hdv := Lib.hid hdv
  have HR : Hid (∀ e w', RefEnd s l w e w' → RefEnd s l w e w') := Lib.hid (fun _ _ h => h)
  have hRef : Hid (RefEnd s l w = RefEnd s l w) := Lib.hid rfl
  clear hok RS
  go_enter Try.func28, Try.ntmps28
  go_wp2_with fail
  refine (hW.out _).mono ?_
  rintro e wa ⟨A, C, rfl, hO, hb⟩
  have KF0 : ∀ w1 wr : World, w1 = (wa.alloc (.cells #[.slice A (wordsL s).length C] 27)).alloc (.cells #[.int .i64 0] 3) → Chg (fun k => k = wa.heap.size + 1) w1 wr → wr.cell? ⟨wa.heap.size, 0, none⟩ = some (.slice A (wordsL s).length C) ∧ wr.cell? ⟨w.heap.size, 0, none⟩ = some (.string s) ∧ Rd wr A ((wordsL s).flatMap wordV) ∧ Rd wr al (l.flatMap stepV) := by
    intro w1 wr e1 hc
    obtain ⟨n1, n2⟩ := two_news wa 27 3 (.slice A (wordsL s).length C) (.int .i64 0)
    rw [← e1] at n1 n2
    have hab : Below wa.heap.size wa w1 := by rw [e1]; exact ((Below.refl _ _).alloc (Nat.le_refl _) _).alloc (by simp) _
    have hbr : Below wa.heap.size wa wr := ⟨hc.os.trans hab.os, hc.tape.trans hab.tape, hc.output.trans hab.output, Nat.le_trans hab.size hc.size, fun k hk => (hc.block k (Nat.lt_of_lt_of_le hk hab.size) (by omega)).trans (hab.block k hk)⟩
    exact ⟨box_cell ((hc.block _ (heap_lt n1) (by omega)).trans n1), keep_cell hbr (keep_cell hb c2), (own_rd' hO).below hbr, (RS1.out.below hb).below hbr⟩
  have HI0 : ∀ w1 : World, w1 = (wa.alloc (.cells #[.slice A (wordsL s).length C] 27)).alloc (.cells #[.int .i64 0] 3) → RJ w1 (wa.heap.size + 1) 0 [] (.slice none 0 0) w1 := by
    intro w1 e1
    obtain ⟨n1, n2⟩ := two_news wa 27 3 (.slice A (wordsL s).length C) (.int .i64 0)
    rw [← e1] at n1 n2
    exact ⟨n2, World.ownsRow_nil _ _ _ _, Chg.refl _ _⟩
  have HB0 : Hid (Below w.heap.size w ((wa.alloc (.cells #[.slice A (wordsL s).length C] 27)).alloc (.cells #[.int .i64 0] 3))) := Lib.hid (((hb0.out.trans (hb.mono hb0.out.size)).alloc (by have := hb0.out.size; have := hb.size; omega) _).alloc (by have := hb0.out.size; have := hb.size; simp; omega) _)
  have hsz0 : ((wa.alloc (.cells #[.slice A (wordsL s).length C] 27)).alloc (.cells #[.int .i64 0] 3)).heap.size = wa.heap.size + 2 := by simp
  have hge : w.heap.size ≤ wa.heap.size := by have := hb0.out.size; have := hb.size; omega
  replace KF0 := Lib.hid KF0
  replace HI0 := Lib.hid HI0
  clear hb hO c2
  go_upto_region 6 with fail
  generalize hw1 : (wa.alloc (.cells #[.slice A (wordsL s).length C] 27)).alloc (.cells #[.int .i64 0] 3) = w1 at *
  have KF := Lib.hid (fun wr => KF0.out w1 wr rfl)
  replace HI0 := Lib.hid (HI0.out w1 rfl)
  clear KF0 hw1
  generalize wa.heap.size = g7 at *
  generalize hws : wordsL s = ws at *
  replace hws := Lib.hid hws
  have h9 : g7 + 1 < w1.heap.size := by omega
  go_wp2_with fail
  go_loopw [4, 29] (fun v ix wr => ∃ (k : Nat) (told : List Int) (i : Nat), k ≤ l.length ∧ i ≤ ws.length ∧ ix = .int .i64 k ∧ Hid (runD ws s.size (l.take k) = (told, .inl i)) ∧ RJ w1 (g7 + 1) i told v wr) (fun _ ix _ => l.length - (intOf ix).toNat)
  case atStart => exact ⟨0, [], 0, Nat.zero_le _, Nat.zero_le _, rfl, Lib.hid rfl, HI0.out⟩
  case round =>
    obtain ⟨k, told, i, hk, hiw, rfl, HD, HI⟩ := hrel
    by_cases hkl : k < l.length
    · obtain ⟨c7a, c2a, RWa, f3⟩ := KF.out wr HI.C
      obtain ⟨b, off, rfl, g1, g2, g3, g4⟩ := f3.step hkl
      have hlen : told.length ≤ k := by have := runD_len ws s.size l k (by omega); rw [HD.out] at this; exact this
      have hdk := hdv.out l[k] (List.getElem_mem hkl)
      have HN : Hid (runD ws s.size (l.take (k + 1)) = stepD ws s.size l[k] told i) := Lib.hid (by rw [runD_snoc ws s.size l k hkl, HD.out]; rfl)
      have HErr : Hid (∀ t e, stepD ws s.size l[k] told i = (t, .inr e) → runD ws s.size l = (t, .inr e)) := Lib.hid (fun t e h => runD_err ws s.size l (k + 1) (by rw [HN.out]; exact h))
      have k0 : (0 : Int) ≤ (k : Int) := by omega
      have k1 : (k : Int) < (l.length : Int) := by omega
      have k2 : (ws.length : Int) ≤ 100000 := by omega
      have i0' : (0 : Int) ≤ (i : Int) := by omega
      generalize l[k] = x at *
      obtain ⟨dv, tx, fr, up⟩ := x
      dsimp only at *
      have HIb := HI.blk
      have hszn : g7 + 1 < wr.heap.size := Nat.lt_of_lt_of_le h9 HI.C.size
      clear f3 c7a c2a RWa
      go_upto_region 9 with fail
      have HI1 := HI.below ((Below.refl _ _).alloc (Nat.le_refl _) (.cells #[.int .u8 (dv : Int), .string tx, .int .i64 fr, .int .i64 up] 49))
      have s0 : (wr.alloc (.cells #[.int .u8 (dv : Int), .string tx, .int .i64 fr, .int .i64 up] 49)).cell? ⟨wr.heap.size, 0, none⟩ = some (.int .u8 (dv : Int)) := by rw [World.cell?_alloc_new]; rfl
      have s1 : (wr.alloc (.cells #[.int .u8 (dv : Int), .string tx, .int .i64 fr, .int .i64 up] 49)).cell? ⟨wr.heap.size, 1, none⟩ = some (.string tx) := by rw [World.cell?_alloc_new]; rfl
      have s2 : (wr.alloc (.cells #[.int .u8 (dv : Int), .string tx, .int .i64 fr, .int .i64 up] 49)).cell? ⟨wr.heap.size, 2, none⟩ = some (.int .i64 fr) := by rw [World.cell?_alloc_new]; rfl
      have s3 : (wr.alloc (.cells #[.int .u8 (dv : Int), .string tx, .int .i64 fr, .int .i64 up] 49)).cell? ⟨wr.heap.size, 3, none⟩ = some (.int .i64 up) := by rw [World.cell?_alloc_new]; rfl
      generalize wr.alloc (.cells #[.int .u8 (dv : Int), .string tx, .int .i64 fr, .int .i64 up] 49) = W1 at *
      generalize wr.heap.size = sb at *
      clear g1 g2 g3 g4 HI HIb
      have c9 := box_cell HI1.blk
      have f9 := box_frozen HI1.blk
      obtain ⟨c7, c2, RW, _⟩ := KF.out W1 HI1.C
      obtain ⟨A', C', rfl⟩ := told_val HI1.T
      have hsz1 : w1.heap.size ≤ W1.heap.size := HI1.C.size
      have HAt := Lib.hid (fun w' (hb : Below W1.heap.size W1 w') => at_any (g7 + 1) g7 w.heap.size A C ws i s w' (keep_cell hb c9) (keep_cell hb c7) (keep_cell hb c2) (RW.below hb))
      replace HErr := Lib.hid HErr
      have hq : (dv : Int) % 5 = 0 ∨ (dv : Int) % 5 = 1 ∨ (dv : Int) % 5 = 2 ∨ (dv : Int) % 5 = 3 ∨ (dv : Int) % 5 = 4 := by omega
      by_cases hi : i < ws.length
      · have hi1 : (i : Int) < (ws.length : Int) := by omega
        have HS4 : dv % 5 = 4 → stepD ws s.size ⟨dv, tx, fr, up⟩ told i = (if okNum (L ws[i].text) = true then (if parseV (L ws[i].text) < fr ∨ up < parseV (L ws[i].text) then (told, .inr ((placeN ws i s.size : Int), 2)) else (told ++ [parseV (L ws[i].text)], .inl (i + 1))) else (told, .inr ((placeN ws i s.size : Int), 3))) := by
          intro h4
          unfold stepD
          rw [if_neg (by show ¬ dv % 5 = 0; omega), if_neg (by show ¬ dv % 5 = 1; omega), if_neg (by show ¬ dv % 5 = 2; omega), if_neg (by show ¬ dv % 5 = 3; omega)]
          dsimp only
          rw [dif_pos hi]
        replace HS4 := Lib.hid HS4
        obtain ⟨bw, ow, rfl, y1, y2⟩ := RW.word hi
        have hyl := Lib.hid (htl.out ws[i] (List.getElem_mem hi))
        have hpl := Lib.hid (placeN_in (n := s.size) hi)
        have hB : isB ws i tx = decide (ws[i].text = tx) := isB_in hi
        generalize ws[i] = y at *
        replace RW := Lib.hid RW
        by_cases hy : y.text = tx
        · rw [decide_eq_true hy] at hB
          have hyq : (y.text.toList == tx.toList) = true := by rw [beq_iff_eq, hy]
          replace hB := Lib.hid hB
          clear hy
          go_quiet (fail)
          have hD : Below W1.heap.size W1 (W1.drewN nq) := below_drewN (Below.refl _ _) nq
          have HI2 := HI1.below hD
          have c9' := box_cell HI2.blk
          have f9' := box_frozen HI2.blk
          have c7' := keep_cell hD c7
          have t0 := keep_cell hD s0
          have t2 := keep_cell hD s2
          have t3 := keep_cell hD s3
          have z1 := keep_cell hD y1
          have z2 := keep_cell hD y2
          replace RW := Lib.hid (RW.out.below hD)
          have HAt2 := Lib.hid (fun w' (hb : Below (W1.drewN nq).heap.size (W1.drewN nq) w') => HAt.out w' (hD.trans (hb.mono hD.size)))
          clear c9 f9 c7 c2 s0 s1 s2 s3 HI1 hsz1 HAt hD y1 y2
          generalize W1.drewN nq = W2 at *
          have hsz2 : w1.heap.size ≤ W2.heap.size := HI2.C.size
          rcases hq with hq | hq | hq | hq | hq
          · have HE : Hid (stepD ws s.size ⟨dv, tx, fr, up⟩ told i = (told ++ [(placeN ws i s.size : Int)], .inl i)) := Lib.hid (by unfold stepD; rw [if_pos (by show dv % 5 = 0; omega)])
            go_wp2_with fail
            refine (HAt2.out _ (by first | exact Below.refl _ _ | assumption)).mono ?_
            intro e w3 h3
            obtain ⟨rfl, hb3⟩ := looks_below h3
            clear h3
            have HI3 := HI2.below hb3
            have hsz3 : w1.heap.size ≤ w3.heap.size := HI3.C.size
            have HOWN := Lib.hid (HI3.T.alloc (.cells #[.int .i64 (placeN ws i s.size : Int)] 2))
            have HNEW : Hid (∀ (q : Nat) (u : Value), [.int .i64 (placeN ws i s.size : Int)][q]? = some u → (w3.alloc (.cells #[.int .i64 (placeN ws i s.size : Int)] 2)).cell? ((⟨w3.heap.size, 0, none⟩ : Addr).add q) = some u) := Lib.hid (fun q u hu => cells_new _ _ _ q u (by simpa using hu))
            have HX := Lib.hid HI3
            clear HI3
            go_wp2_with (first | (at_builtin; refine wpList_append_own _ rfl _ _ 46 rfl w1.heap.size 2 i0 (.int .i64 0) 1 8 Try.underlying46 hi0 hz0 hz1 hz2 rfl (by decide) _ _ _ rfl HOWN.out ⟨w3.heap.size, 0, none⟩ 1 1 [.int .i64 (placeN ws i s.size : Int)] rfl rfl HNEW.out (fun x hx => by simp at hx; subst hx; rfl) (by unfold maxLen; omega) (by omega) (by simp; omega) ?_; intro v' w2 hown2 hgrow _; obtain ⟨A2, C2, hv'⟩ := own_val hown2; subst hv'; have HP := Lib.hid (HX.out.push h9 hown2 hgrow); have d1 := box_cell HP.out.blk; have d2 := box_frozen HP.out.blk; clear hown2 hgrow))
            go_roundw
            case rel => exact ⟨k + 1, told ++ [(placeN ws i s.size : Int)], i, by omega, by omega, by go_num, Lib.hid (by rw [HN.out, HE.out]), HP.out⟩
            case measure => simp [intOf]; omega
          · have HE : Hid (stepD ws s.size ⟨dv, tx, fr, up⟩ told i = (told ++ [1], .inl i)) := Lib.hid (by unfold stepD; rw [if_neg (by show ¬ dv % 5 = 0; omega), if_pos (by show dv % 5 = 1; omega)]; (try dsimp only); rw [decide_eq_true hi]; rfl)
            have HOWN := Lib.hid (HI2.T.alloc (.cells #[.int .i64 1] 2))
            have HNEW : Hid (∀ (q : Nat) (u : Value), [.int .i64 1][q]? = some u → (W2.alloc (.cells #[.int .i64 1] 2)).cell? ((⟨W2.heap.size, 0, none⟩ : Addr).add q) = some u) := Lib.hid (fun q u hu => cells_new _ _ _ q u (by simpa using hu))
            have HX := Lib.hid HI2
            go_wp2_with (first | (at_builtin; refine wpList_append_own _ rfl _ _ 46 rfl w1.heap.size 2 i0 (.int .i64 0) 1 8 Try.underlying46 hi0 hz0 hz1 hz2 rfl (by decide) _ _ _ rfl HOWN.out ⟨W2.heap.size, 0, none⟩ 1 1 [.int .i64 1] rfl rfl HNEW.out (fun x hx => by simp at hx; subst hx; rfl) (by unfold maxLen; omega) (by omega) (by simp; omega) ?_; intro v' w2 hown2 hgrow _; obtain ⟨A2, C2, hv'⟩ := own_val hown2; subst hv'; have HP := Lib.hid (HX.out.push h9 hown2 hgrow); have d1 := box_cell HP.out.blk; have d2 := box_frozen HP.out.blk; clear hown2 hgrow))
            go_roundw
            case rel => exact ⟨k + 1, told ++ [1], i, by omega, by omega, by go_num, Lib.hid (by rw [HN.out, HE.out]), HP.out⟩
            case measure => simp [intOf]; omega
          · have HE : Hid (stepD ws s.size ⟨dv, tx, fr, up⟩ told i = (told ++ [1], .inl (i + 1))) := Lib.hid (by unfold stepD; rw [if_neg (by show ¬ dv % 5 = 0; omega), if_neg (by show ¬ dv % 5 = 1; omega), if_pos (by show dv % 5 = 2; omega)]; (try dsimp only); rw [hB.out]; rfl)
            go_upto_region 35 with fail
            have HI3 := HI2.set9
            have t0' : (W2.setCell ⟨g7 + 1, 0, none⟩ (.int .i64 ((i : Int) + 1))).cell? ⟨sb, 0, none⟩ = some (.int .u8 (dv : Int)) := (World.cell?_of_block (heap_setCell_other W2 ⟨g7 + 1, 0, none⟩ sb _ (by show sb ≠ g7 + 1; omega))).trans t0
            generalize W2.setCell ⟨g7 + 1, 0, none⟩ (.int .i64 ((i : Int) + 1)) = W3 at *
            have hsz3 : w1.heap.size ≤ W3.heap.size := HI3.C.size
            clear t0 HI2 c9' f9' c7' t2 t3 HAt2
            have HOWN := Lib.hid (HI3.T.alloc (.cells #[.int .i64 1] 2))
            have HNEW : Hid (∀ (q : Nat) (u : Value), [.int .i64 1][q]? = some u → (W3.alloc (.cells #[.int .i64 1] 2)).cell? ((⟨W3.heap.size, 0, none⟩ : Addr).add q) = some u) := Lib.hid (fun q u hu => cells_new _ _ _ q u (by simpa using hu))
            have HX := Lib.hid HI3
            go_wp2_with (first | (at_builtin; refine wpList_append_own _ rfl _ _ 46 rfl w1.heap.size 2 i0 (.int .i64 0) 1 8 Try.underlying46 hi0 hz0 hz1 hz2 rfl (by decide) _ _ _ rfl HOWN.out ⟨W3.heap.size, 0, none⟩ 1 1 [.int .i64 1] rfl rfl HNEW.out (fun x hx => by simp at hx; subst hx; rfl) (by unfold maxLen; omega) (by omega) (by simp; omega) ?_; intro v' w2 hown2 hgrow _; obtain ⟨A2, C2, hv'⟩ := own_val hown2; subst hv'; have HP := Lib.hid (HX.out.push h9 hown2 hgrow); have d1 := box_cell HP.out.blk; have d2 := box_frozen HP.out.blk; clear hown2 hgrow))
            go_roundw
            case rel => exact ⟨k + 1, told ++ [1], i + 1, by omega, by omega, by go_num, Lib.hid (by rw [HN.out, HE.out]), HP.out⟩
            case measure => simp [intOf]; omega
          · have HE : Hid (stepD ws s.size ⟨dv, tx, fr, up⟩ told i = (told, .inl (i + 1))) := Lib.hid (by unfold stepD; rw [if_neg (by show ¬ dv % 5 = 0; omega), if_neg (by show ¬ dv % 5 = 1; omega), if_neg (by show ¬ dv % 5 = 2; omega), if_pos (by show dv % 5 = 3; omega)]; (try dsimp only); rw [hB.out]; rfl)
            go_upto_region 35 with fail
            have HI3 := HI2.set9
            have t0' : (W2.setCell ⟨g7 + 1, 0, none⟩ (.int .i64 ((i : Int) + 1))).cell? ⟨sb, 0, none⟩ = some (.int .u8 (dv : Int)) := (World.cell?_of_block (heap_setCell_other W2 ⟨g7 + 1, 0, none⟩ sb _ (by show sb ≠ g7 + 1; omega))).trans t0
            generalize W2.setCell ⟨g7 + 1, 0, none⟩ (.int .i64 ((i : Int) + 1)) = W3 at *
            have hsz3 : w1.heap.size ≤ W3.heap.size := HI3.C.size
            clear t0 HI2 c9' f9' c7' t2 t3 HAt2
            replace HI3 := Lib.hid HI3
            go_wp2_with fail
            go_roundw
            case rel => exact ⟨k + 1, told, i + 1, by omega, by omega, by go_num, Lib.hid (by rw [HN.out, HE.out]), HI3.out⟩
            case measure => simp [intOf]; omega
          · replace HS4 := HS4.out (by omega)
            obtain ⟨pv, hpv⟩ : ∃ pv, Hid (parseV (L y.text) = pv) := ⟨_, Lib.hid rfl⟩
            rw [hpv.out] at HS4
            by_cases hokq : okNum (L y.text) = true
            · have hokv := Lib.hid hokq
              rw [if_pos hokq] at HS4
              clear hokq
              by_cases r1 : pv < fr
              · have HE : Hid (stepD ws s.size ⟨dv, tx, fr, up⟩ told i = (told, .inr ((placeN ws i s.size : Int), 2))) := Lib.hid (by rw [HS4, if_pos (.inl r1)])
                clear HS4
                go_wp2_with fail
                refine (refParse_is y.text pv true hpv hokv _ (by have := hyl.out; omega)).mono ?_
                rintro e w' ⟨rfl, rfl⟩
                go_wp2_with fail
                refine (HAt2.out _ (by first | exact Below.refl _ _ | assumption)).mono ?_
                intro e w3 h3
                obtain ⟨rfl, hb3⟩ := looks_below h3
                clear h3
                have HI3 := HI2.below hb3
                have hsz3 : w1.heap.size ≤ w3.heap.size := HI3.C.size
                replace HI3 := Lib.hid HI3
                replace hb3 := Lib.hid hb3
                go_wp2_with fail
                go_ret3
                obtain rfl := hws.out
                exact RJ.stop HI3.out (Below.refl _ _) HB0.out (by omega) (HErr.out _ _ HE.out)
              · by_cases r2 : up < pv
                · have HE : Hid (stepD ws s.size ⟨dv, tx, fr, up⟩ told i = (told, .inr ((placeN ws i s.size : Int), 2))) := Lib.hid (by rw [HS4, if_pos (.inr r2)])
                  clear HS4
                  go_wp2_with fail
                  refine (refParse_is y.text pv true hpv hokv _ (by have := hyl.out; omega)).mono ?_
                  rintro e w' ⟨rfl, rfl⟩
                  go_wp2_with fail
                  refine (HAt2.out _ (by first | exact Below.refl _ _ | assumption)).mono ?_
                  intro e w3 h3
                  obtain ⟨rfl, hb3⟩ := looks_below h3
                  clear h3
                  have HI3 := HI2.below hb3
                  have hsz3 : w1.heap.size ≤ w3.heap.size := HI3.C.size
                  replace HI3 := Lib.hid HI3
                  replace hb3 := Lib.hid hb3
                  go_wp2_with fail
                  go_ret3
                  obtain rfl := hws.out
                  exact RJ.stop HI3.out (Below.refl _ _) HB0.out (by omega) (HErr.out _ _ HE.out)
                · have HE : Hid (stepD ws s.size ⟨dv, tx, fr, up⟩ told i = (told ++ [pv], .inl (i + 1))) := Lib.hid (by rw [HS4, if_neg (by omega)])
                  clear HS4
                  go_wp2_with fail
                  refine (refParse_is y.text pv true hpv hokv _ (by have := hyl.out; omega)).mono ?_
                  rintro e w' ⟨rfl, rfl⟩
                  have HOWN := Lib.hid (HI2.T.alloc (.cells #[.int .i64 pv] 2))
                  have HNEW : Hid (∀ (q : Nat) (u : Value), [.int .i64 pv][q]? = some u → (W2.alloc (.cells #[.int .i64 pv] 2)).cell? ((⟨W2.heap.size, 0, none⟩ : Addr).add q) = some u) := Lib.hid (fun q u hu => cells_new _ _ _ q u (by simpa using hu))
                  have HX := Lib.hid HI2
                  go_wp2_with (first | (at_builtin; refine wpList_append_own _ rfl _ _ 46 rfl w1.heap.size 2 i0 (.int .i64 0) 1 8 Try.underlying46 hi0 hz0 hz1 hz2 rfl (by decide) _ _ _ rfl HOWN.out ⟨W2.heap.size, 0, none⟩ 1 1 [.int .i64 pv] rfl rfl HNEW.out (fun x hx => by simp at hx; subst hx; rfl) (by unfold maxLen; omega) (by omega) (by simp; omega) ?_; intro v' w2 hown2 hgrow _; obtain ⟨A2, C2, hv'⟩ := own_val hown2; subst hv'; have HP := Lib.hid (HX.out.push h9 hown2 hgrow); have d1 := box_cell HP.out.blk; have d2 := box_frozen HP.out.blk; clear hown2 hgrow))
                  go_roundw
                  case rel => exact ⟨k + 1, told ++ [pv], i + 1, by omega, by omega, by go_num, Lib.hid (by rw [HN.out, HE.out]), HP.out.set9⟩
                  case measure => simp [intOf]; omega
            · have hokv : Hid (okNum (L y.text) = false) := Lib.hid (by simpa using hokq)
              rw [if_neg hokq] at HS4
              clear hokq
              have HE : Hid (stepD ws s.size ⟨dv, tx, fr, up⟩ told i = (told, .inr ((placeN ws i s.size : Int), 3))) := Lib.hid HS4
              clear HS4
              go_wp2_with fail
              refine (refParse_is y.text pv false hpv hokv _ (by have := hyl.out; omega)).mono ?_
              rintro e w' ⟨rfl, rfl⟩
              go_wp2_with fail
              refine (HAt2.out _ (by first | exact Below.refl _ _ | assumption)).mono ?_
              intro e w3 h3
              obtain ⟨rfl, hb3⟩ := looks_below h3
              clear h3
              have HI3 := HI2.below hb3
              have hsz3 : w1.heap.size ≤ w3.heap.size := HI3.C.size
              replace HI3 := Lib.hid HI3
              replace hb3 := Lib.hid hb3
              go_wp2_with fail
              go_ret3
              obtain rfl := hws.out
              exact RJ.stop HI3.out (Below.refl _ _) HB0.out (by omega) (HErr.out _ _ HE.out)
        · rw [decide_eq_false hy] at hB
          have hyq : (y.text.toList == tx.toList) = false := by rw [beq_eq_false_iff_ne]; exact fun e => hy (toList_inj e)
          replace hB := Lib.hid hB
          clear hy
          go_quiet (fail)
          have hD : Below W1.heap.size W1 (W1.drewN nq) := below_drewN (Below.refl _ _) nq
          have HI2 := HI1.below hD
          have c9' := box_cell HI2.blk
          have f9' := box_frozen HI2.blk
          have c7' := keep_cell hD c7
          have t0 := keep_cell hD s0
          have t2 := keep_cell hD s2
          have t3 := keep_cell hD s3
          have z1 := keep_cell hD y1
          have z2 := keep_cell hD y2
          replace RW := Lib.hid (RW.out.below hD)
          have HAt2 := Lib.hid (fun w' (hb : Below (W1.drewN nq).heap.size (W1.drewN nq) w') => HAt.out w' (hD.trans (hb.mono hD.size)))
          clear c9 f9 c7 c2 s0 s1 s2 s3 HI1 hsz1 HAt hD y1 y2
          generalize W1.drewN nq = W2 at *
          have hsz2 : w1.heap.size ≤ W2.heap.size := HI2.C.size
          rcases hq with hq | hq | hq | hq | hq
          · have HE : Hid (stepD ws s.size ⟨dv, tx, fr, up⟩ told i = (told ++ [(placeN ws i s.size : Int)], .inl i)) := Lib.hid (by unfold stepD; rw [if_pos (by show dv % 5 = 0; omega)])
            go_wp2_with fail
            refine (HAt2.out _ (by first | exact Below.refl _ _ | assumption)).mono ?_
            intro e w3 h3
            obtain ⟨rfl, hb3⟩ := looks_below h3
            clear h3
            have HI3 := HI2.below hb3
            have hsz3 : w1.heap.size ≤ w3.heap.size := HI3.C.size
            have HOWN := Lib.hid (HI3.T.alloc (.cells #[.int .i64 (placeN ws i s.size : Int)] 2))
            have HNEW : Hid (∀ (q : Nat) (u : Value), [.int .i64 (placeN ws i s.size : Int)][q]? = some u → (w3.alloc (.cells #[.int .i64 (placeN ws i s.size : Int)] 2)).cell? ((⟨w3.heap.size, 0, none⟩ : Addr).add q) = some u) := Lib.hid (fun q u hu => cells_new _ _ _ q u (by simpa using hu))
            have HX := Lib.hid HI3
            clear HI3
            go_wp2_with (first | (at_builtin; refine wpList_append_own _ rfl _ _ 46 rfl w1.heap.size 2 i0 (.int .i64 0) 1 8 Try.underlying46 hi0 hz0 hz1 hz2 rfl (by decide) _ _ _ rfl HOWN.out ⟨w3.heap.size, 0, none⟩ 1 1 [.int .i64 (placeN ws i s.size : Int)] rfl rfl HNEW.out (fun x hx => by simp at hx; subst hx; rfl) (by unfold maxLen; omega) (by omega) (by simp; omega) ?_; intro v' w2 hown2 hgrow _; obtain ⟨A2, C2, hv'⟩ := own_val hown2; subst hv'; have HP := Lib.hid (HX.out.push h9 hown2 hgrow); have d1 := box_cell HP.out.blk; have d2 := box_frozen HP.out.blk; clear hown2 hgrow))
            go_roundw
            case rel => exact ⟨k + 1, told ++ [(placeN ws i s.size : Int)], i, by omega, by omega, by go_num, Lib.hid (by rw [HN.out, HE.out]), HP.out⟩
            case measure => simp [intOf]; omega
          · have HE : Hid (stepD ws s.size ⟨dv, tx, fr, up⟩ told i = (told ++ [1], .inl i)) := Lib.hid (by unfold stepD; rw [if_neg (by show ¬ dv % 5 = 0; omega), if_pos (by show dv % 5 = 1; omega)]; (try dsimp only); rw [decide_eq_true hi]; rfl)
            have HOWN := Lib.hid (HI2.T.alloc (.cells #[.int .i64 1] 2))
            have HNEW : Hid (∀ (q : Nat) (u : Value), [.int .i64 1][q]? = some u → (W2.alloc (.cells #[.int .i64 1] 2)).cell? ((⟨W2.heap.size, 0, none⟩ : Addr).add q) = some u) := Lib.hid (fun q u hu => cells_new _ _ _ q u (by simpa using hu))
            have HX := Lib.hid HI2
            go_wp2_with (first | (at_builtin; refine wpList_append_own _ rfl _ _ 46 rfl w1.heap.size 2 i0 (.int .i64 0) 1 8 Try.underlying46 hi0 hz0 hz1 hz2 rfl (by decide) _ _ _ rfl HOWN.out ⟨W2.heap.size, 0, none⟩ 1 1 [.int .i64 1] rfl rfl HNEW.out (fun x hx => by simp at hx; subst hx; rfl) (by unfold maxLen; omega) (by omega) (by simp; omega) ?_; intro v' w2 hown2 hgrow _; obtain ⟨A2, C2, hv'⟩ := own_val hown2; subst hv'; have HP := Lib.hid (HX.out.push h9 hown2 hgrow); have d1 := box_cell HP.out.blk; have d2 := box_frozen HP.out.blk; clear hown2 hgrow))
            go_roundw
            case rel => exact ⟨k + 1, told ++ [1], i, by omega, by omega, by go_num, Lib.hid (by rw [HN.out, HE.out]), HP.out⟩
            case measure => simp [intOf]; omega
          · have HE : Hid (stepD ws s.size ⟨dv, tx, fr, up⟩ told i = (told ++ [0], .inl i)) := Lib.hid (by unfold stepD; rw [if_neg (by show ¬ dv % 5 = 0; omega), if_neg (by show ¬ dv % 5 = 1; omega), if_pos (by show dv % 5 = 2; omega)]; (try dsimp only); rw [hB.out]; rfl)
            have HOWN := Lib.hid (HI2.T.alloc (.cells #[.int .i64 0] 2))
            have HNEW : Hid (∀ (q : Nat) (u : Value), [.int .i64 0][q]? = some u → (W2.alloc (.cells #[.int .i64 0] 2)).cell? ((⟨W2.heap.size, 0, none⟩ : Addr).add q) = some u) := Lib.hid (fun q u hu => cells_new _ _ _ q u (by simpa using hu))
            have HX := Lib.hid HI2
            go_wp2_with (first | (at_builtin; refine wpList_append_own _ rfl _ _ 46 rfl w1.heap.size 2 i0 (.int .i64 0) 1 8 Try.underlying46 hi0 hz0 hz1 hz2 rfl (by decide) _ _ _ rfl HOWN.out ⟨W2.heap.size, 0, none⟩ 1 1 [.int .i64 0] rfl rfl HNEW.out (fun x hx => by simp at hx; subst hx; rfl) (by unfold maxLen; omega) (by omega) (by simp; omega) ?_; intro v' w2 hown2 hgrow _; obtain ⟨A2, C2, hv'⟩ := own_val hown2; subst hv'; have HP := Lib.hid (HX.out.push h9 hown2 hgrow); have d1 := box_cell HP.out.blk; have d2 := box_frozen HP.out.blk; clear hown2 hgrow))
            go_roundw
            case rel => exact ⟨k + 1, told ++ [0], i, by omega, by omega, by go_num, Lib.hid (by rw [HN.out, HE.out]), HP.out⟩
            case measure => simp [intOf]; omega
          · have HE : Hid (stepD ws s.size ⟨dv, tx, fr, up⟩ told i = (told, .inr ((placeN ws i s.size : Int), 5))) := Lib.hid (by unfold stepD; rw [if_neg (by show ¬ dv % 5 = 0; omega), if_neg (by show ¬ dv % 5 = 1; omega), if_neg (by show ¬ dv % 5 = 2; omega), if_pos (by show dv % 5 = 3; omega)]; (try dsimp only); rw [hB.out]; rfl)
            go_wp2_with fail
            refine (HAt2.out _ (by first | exact Below.refl _ _ | assumption)).mono ?_
            intro e w3 h3
            obtain ⟨rfl, hb3⟩ := looks_below h3
            clear h3
            have HI3 := HI2.below hb3
            have hsz3 : w1.heap.size ≤ w3.heap.size := HI3.C.size
            replace HI3 := Lib.hid HI3
            replace hb3 := Lib.hid hb3
            go_wp2_with fail
            go_ret3
            obtain rfl := hws.out
            exact RJ.stop HI3.out (Below.refl _ _) HB0.out (by omega) (HErr.out _ _ HE.out)
          · replace HS4 := HS4.out (by omega)
            obtain ⟨pv, hpv⟩ : ∃ pv, Hid (parseV (L y.text) = pv) := ⟨_, Lib.hid rfl⟩
            rw [hpv.out] at HS4
            by_cases hokq : okNum (L y.text) = true
            · have hokv := Lib.hid hokq
              rw [if_pos hokq] at HS4
              clear hokq
              by_cases r1 : pv < fr
              · have HE : Hid (stepD ws s.size ⟨dv, tx, fr, up⟩ told i = (told, .inr ((placeN ws i s.size : Int), 2))) := Lib.hid (by rw [HS4, if_pos (.inl r1)])
                clear HS4
                go_wp2_with fail
                refine (refParse_is y.text pv true hpv hokv _ (by have := hyl.out; omega)).mono ?_
                rintro e w' ⟨rfl, rfl⟩
                go_wp2_with fail
                refine (HAt2.out _ (by first | exact Below.refl _ _ | assumption)).mono ?_
                intro e w3 h3
                obtain ⟨rfl, hb3⟩ := looks_below h3
                clear h3
                have HI3 := HI2.below hb3
                have hsz3 : w1.heap.size ≤ w3.heap.size := HI3.C.size
                replace HI3 := Lib.hid HI3
                replace hb3 := Lib.hid hb3
                go_wp2_with fail
                go_ret3
                obtain rfl := hws.out
                exact RJ.stop HI3.out (Below.refl _ _) HB0.out (by omega) (HErr.out _ _ HE.out)
              · by_cases r2 : up < pv
                · have HE : Hid (stepD ws s.size ⟨dv, tx, fr, up⟩ told i = (told, .inr ((placeN ws i s.size : Int), 2))) := Lib.hid (by rw [HS4, if_pos (.inr r2)])
                  clear HS4
                  go_wp2_with fail
                  refine (refParse_is y.text pv true hpv hokv _ (by have := hyl.out; omega)).mono ?_
                  rintro e w' ⟨rfl, rfl⟩
                  go_wp2_with fail
                  refine (HAt2.out _ (by first | exact Below.refl _ _ | assumption)).mono ?_
                  intro e w3 h3
                  obtain ⟨rfl, hb3⟩ := looks_below h3
                  clear h3
                  have HI3 := HI2.below hb3
                  have hsz3 : w1.heap.size ≤ w3.heap.size := HI3.C.size
                  replace HI3 := Lib.hid HI3
                  replace hb3 := Lib.hid hb3
                  go_wp2_with fail
                  go_ret3
                  obtain rfl := hws.out
                  exact RJ.stop HI3.out (Below.refl _ _) HB0.out (by omega) (HErr.out _ _ HE.out)
                · have HE : Hid (stepD ws s.size ⟨dv, tx, fr, up⟩ told i = (told ++ [pv], .inl (i + 1))) := Lib.hid (by rw [HS4, if_neg (by omega)])
                  clear HS4
                  go_wp2_with fail
                  refine (refParse_is y.text pv true hpv hokv _ (by have := hyl.out; omega)).mono ?_
                  rintro e w' ⟨rfl, rfl⟩
                  have HOWN := Lib.hid (HI2.T.alloc (.cells #[.int .i64 pv] 2))
                  have HNEW : Hid (∀ (q : Nat) (u : Value), [.int .i64 pv][q]? = some u → (W2.alloc (.cells #[.int .i64 pv] 2)).cell? ((⟨W2.heap.size, 0, none⟩ : Addr).add q) = some u) := Lib.hid (fun q u hu => cells_new _ _ _ q u (by simpa using hu))
                  have HX := Lib.hid HI2
                  go_wp2_with (first | (at_builtin; refine wpList_append_own _ rfl _ _ 46 rfl w1.heap.size 2 i0 (.int .i64 0) 1 8 Try.underlying46 hi0 hz0 hz1 hz2 rfl (by decide) _ _ _ rfl HOWN.out ⟨W2.heap.size, 0, none⟩ 1 1 [.int .i64 pv] rfl rfl HNEW.out (fun x hx => by simp at hx; subst hx; rfl) (by unfold maxLen; omega) (by omega) (by simp; omega) ?_; intro v' w2 hown2 hgrow _; obtain ⟨A2, C2, hv'⟩ := own_val hown2; subst hv'; have HP := Lib.hid (HX.out.push h9 hown2 hgrow); have d1 := box_cell HP.out.blk; have d2 := box_frozen HP.out.blk; clear hown2 hgrow))
                  go_roundw
                  case rel => exact ⟨k + 1, told ++ [pv], i + 1, by omega, by omega, by go_num, Lib.hid (by rw [HN.out, HE.out]), HP.out.set9⟩
                  case measure => simp [intOf]; omega
            · have hokv : Hid (okNum (L y.text) = false) := Lib.hid (by simpa using hokq)
              rw [if_neg hokq] at HS4
              clear hokq
              have HE : Hid (stepD ws s.size ⟨dv, tx, fr, up⟩ told i = (told, .inr ((placeN ws i s.size : Int), 3))) := Lib.hid HS4
              clear HS4
              go_wp2_with fail
              refine (refParse_is y.text pv false hpv hokv _ (by have := hyl.out; omega)).mono ?_
              rintro e w' ⟨rfl, rfl⟩
              go_wp2_with fail
              refine (HAt2.out _ (by first | exact Below.refl _ _ | assumption)).mono ?_
              intro e w3 h3
              obtain ⟨rfl, hb3⟩ := looks_below h3
              clear h3
              have HI3 := HI2.below hb3
              have hsz3 : w1.heap.size ≤ w3.heap.size := HI3.C.size
              replace HI3 := Lib.hid HI3
              replace hb3 := Lib.hid hb3
              go_wp2_with fail
              go_ret3
              obtain rfl := hws.out
              exact RJ.stop HI3.out (Below.refl _ _) HB0.out (by omega) (HErr.out _ _ HE.out)
      · have hi1 : (ws.length : Int) ≤ (i : Int) := by omega
        have hi2 : ¬ (i : Int) < (ws.length : Int) := by omega
        have hB : Hid (isB ws i tx = false) := Lib.hid (isB_end hi)
        replace RW := Lib.hid RW
        go_quiet (fail)
        have hD : Below W1.heap.size W1 (W1.drewN nq) := below_drewN (Below.refl _ _) nq
        have HI2 := HI1.below hD
        have c9' := box_cell HI2.blk
        have f9' := box_frozen HI2.blk
        have c7' := keep_cell hD c7
        have t0 := keep_cell hD s0
        have t2 := keep_cell hD s2
        have t3 := keep_cell hD s3

        have HAt2 := Lib.hid (fun w' (hb : Below (W1.drewN nq).heap.size (W1.drewN nq) w') => HAt.out w' (hD.trans (hb.mono hD.size)))
        clear c9 f9 c7 c2 s0 s1 s2 s3 HI1 hsz1 HAt hD 
        generalize W1.drewN nq = W2 at *
        have hsz2 : w1.heap.size ≤ W2.heap.size := HI2.C.size
        rcases hq with hq | hq | hq | hq | hq
        · have HE : Hid (stepD ws s.size ⟨dv, tx, fr, up⟩ told i = (told ++ [(placeN ws i s.size : Int)], .inl i)) := Lib.hid (by unfold stepD; rw [if_pos (by show dv % 5 = 0; omega)])
          go_wp2_with fail
          refine (HAt2.out _ (by first | exact Below.refl _ _ | assumption)).mono ?_
          intro e w3 h3
          obtain ⟨rfl, hb3⟩ := looks_below h3
          clear h3
          have HI3 := HI2.below hb3
          have hsz3 : w1.heap.size ≤ w3.heap.size := HI3.C.size
          have HOWN := Lib.hid (HI3.T.alloc (.cells #[.int .i64 (placeN ws i s.size : Int)] 2))
          have HNEW : Hid (∀ (q : Nat) (u : Value), [.int .i64 (placeN ws i s.size : Int)][q]? = some u → (w3.alloc (.cells #[.int .i64 (placeN ws i s.size : Int)] 2)).cell? ((⟨w3.heap.size, 0, none⟩ : Addr).add q) = some u) := Lib.hid (fun q u hu => cells_new _ _ _ q u (by simpa using hu))
          have HX := Lib.hid HI3
          clear HI3
          go_wp2_with (first | (at_builtin; refine wpList_append_own _ rfl _ _ 46 rfl w1.heap.size 2 i0 (.int .i64 0) 1 8 Try.underlying46 hi0 hz0 hz1 hz2 rfl (by decide) _ _ _ rfl HOWN.out ⟨w3.heap.size, 0, none⟩ 1 1 [.int .i64 (placeN ws i s.size : Int)] rfl rfl HNEW.out (fun x hx => by simp at hx; subst hx; rfl) (by unfold maxLen; omega) (by omega) (by simp; omega) ?_; intro v' w2 hown2 hgrow _; obtain ⟨A2, C2, hv'⟩ := own_val hown2; subst hv'; have HP := Lib.hid (HX.out.push h9 hown2 hgrow); have d1 := box_cell HP.out.blk; have d2 := box_frozen HP.out.blk; clear hown2 hgrow))
          go_roundw
          case rel => exact ⟨k + 1, told ++ [(placeN ws i s.size : Int)], i, by omega, by omega, by go_num, Lib.hid (by rw [HN.out, HE.out]), HP.out⟩
          case measure => simp [intOf]; omega
        · have HE : Hid (stepD ws s.size ⟨dv, tx, fr, up⟩ told i = (told ++ [0], .inl i)) := Lib.hid (by unfold stepD; rw [if_neg (by show ¬ dv % 5 = 0; omega), if_pos (by show dv % 5 = 1; omega)]; (try dsimp only); rw [decide_eq_false hi]; rfl)
          have HOWN := Lib.hid (HI2.T.alloc (.cells #[.int .i64 0] 2))
          have HNEW : Hid (∀ (q : Nat) (u : Value), [.int .i64 0][q]? = some u → (W2.alloc (.cells #[.int .i64 0] 2)).cell? ((⟨W2.heap.size, 0, none⟩ : Addr).add q) = some u) := Lib.hid (fun q u hu => cells_new _ _ _ q u (by simpa using hu))
          have HX := Lib.hid HI2
          go_wp2_with (first | (at_builtin; refine wpList_append_own _ rfl _ _ 46 rfl w1.heap.size 2 i0 (.int .i64 0) 1 8 Try.underlying46 hi0 hz0 hz1 hz2 rfl (by decide) _ _ _ rfl HOWN.out ⟨W2.heap.size, 0, none⟩ 1 1 [.int .i64 0] rfl rfl HNEW.out (fun x hx => by simp at hx; subst hx; rfl) (by unfold maxLen; omega) (by omega) (by simp; omega) ?_; intro v' w2 hown2 hgrow _; obtain ⟨A2, C2, hv'⟩ := own_val hown2; subst hv'; have HP := Lib.hid (HX.out.push h9 hown2 hgrow); have d1 := box_cell HP.out.blk; have d2 := box_frozen HP.out.blk; clear hown2 hgrow))
          go_roundw
          case rel => exact ⟨k + 1, told ++ [0], i, by omega, by omega, by go_num, Lib.hid (by rw [HN.out, HE.out]), HP.out⟩
          case measure => simp [intOf]; omega
        · have HE : Hid (stepD ws s.size ⟨dv, tx, fr, up⟩ told i = (told ++ [0], .inl i)) := Lib.hid (by unfold stepD; rw [if_neg (by show ¬ dv % 5 = 0; omega), if_neg (by show ¬ dv % 5 = 1; omega), if_pos (by show dv % 5 = 2; omega)]; (try dsimp only); rw [hB.out]; rfl)
          have HOWN := Lib.hid (HI2.T.alloc (.cells #[.int .i64 0] 2))
          have HNEW : Hid (∀ (q : Nat) (u : Value), [.int .i64 0][q]? = some u → (W2.alloc (.cells #[.int .i64 0] 2)).cell? ((⟨W2.heap.size, 0, none⟩ : Addr).add q) = some u) := Lib.hid (fun q u hu => cells_new _ _ _ q u (by simpa using hu))
          have HX := Lib.hid HI2
          go_wp2_with (first | (at_builtin; refine wpList_append_own _ rfl _ _ 46 rfl w1.heap.size 2 i0 (.int .i64 0) 1 8 Try.underlying46 hi0 hz0 hz1 hz2 rfl (by decide) _ _ _ rfl HOWN.out ⟨W2.heap.size, 0, none⟩ 1 1 [.int .i64 0] rfl rfl HNEW.out (fun x hx => by simp at hx; subst hx; rfl) (by unfold maxLen; omega) (by omega) (by simp; omega) ?_; intro v' w2 hown2 hgrow _; obtain ⟨A2, C2, hv'⟩ := own_val hown2; subst hv'; have HP := Lib.hid (HX.out.push h9 hown2 hgrow); have d1 := box_cell HP.out.blk; have d2 := box_frozen HP.out.blk; clear hown2 hgrow))
          go_roundw
          case rel => exact ⟨k + 1, told ++ [0], i, by omega, by omega, by go_num, Lib.hid (by rw [HN.out, HE.out]), HP.out⟩
          case measure => simp [intOf]; omega
        · have HE : Hid (stepD ws s.size ⟨dv, tx, fr, up⟩ told i = (told, .inr ((placeN ws i s.size : Int), 5))) := Lib.hid (by unfold stepD; rw [if_neg (by show ¬ dv % 5 = 0; omega), if_neg (by show ¬ dv % 5 = 1; omega), if_neg (by show ¬ dv % 5 = 2; omega), if_pos (by show dv % 5 = 3; omega)]; (try dsimp only); rw [hB.out]; rfl)
          go_wp2_with fail
          refine (HAt2.out _ (by first | exact Below.refl _ _ | assumption)).mono ?_
          intro e w3 h3
          obtain ⟨rfl, hb3⟩ := looks_below h3
          clear h3
          have HI3 := HI2.below hb3
          have hsz3 : w1.heap.size ≤ w3.heap.size := HI3.C.size
          replace HI3 := Lib.hid HI3
          replace hb3 := Lib.hid hb3
          go_wp2_with fail
          go_ret3
          obtain rfl := hws.out
          exact RJ.stop HI3.out (Below.refl _ _) HB0.out (by omega) (HErr.out _ _ HE.out)
        · have HE : Hid (stepD ws s.size ⟨dv, tx, fr, up⟩ told i = (told, .inr ((placeN ws i s.size : Int), 3))) := Lib.hid (by unfold stepD; rw [if_neg (by show ¬ dv % 5 = 0; omega), if_neg (by show ¬ dv % 5 = 1; omega), if_neg (by show ¬ dv % 5 = 2; omega), if_neg (by show ¬ dv % 5 = 3; omega)]; (try dsimp only); rw [dif_neg hi])
          go_wp2_with fail
          refine (HAt2.out _ (by first | exact Below.refl _ _ | assumption)).mono ?_
          intro e w3 h3
          obtain ⟨rfl, hb3⟩ := looks_below h3
          clear h3
          have HI3 := HI2.below hb3
          have hsz3 : w1.heap.size ≤ w3.heap.size := HI3.C.size
          replace HI3 := Lib.hid HI3
          replace hb3 := Lib.hid hb3
          go_wp2_with fail
          go_ret3
          obtain rfl := hws.out
          exact RJ.stop HI3.out (Below.refl _ _) HB0.out (by omega) (HErr.out _ _ HE.out)
    · obtain rfl : k = l.length := by omega
      replace HI := HI
      have c9 := box_cell HI.blk
      obtain ⟨c7, c2, RW, _⟩ := KF.out wr HI.C
      have HDD := HD.out
      rw [List.take_length] at HDD
      replace HDD := Lib.hid HDD
      obtain ⟨A', C', rfl⟩ := told_val HI.T
      have hAt := Lib.hid (at_any (g7 + 1) g7 w.heap.size A C ws i s wr c9 c7 c2 RW)
      replace RW := Lib.hid RW
      by_cases hi : i < ws.length
      · have hi1 : (i : Int) < (ws.length : Int) := by omega
        have hi' := Lib.hid hi
        clear hi
        go_wp2_with fail
        refine hAt.out.mono ?_
        intro e w3 h3
        obtain ⟨rfl, hb3⟩ := looks_below h3
        clear h3
        have HI3 := Lib.hid (HI.below hb3)
        clear hb3
        go_wp2_with fail
        go_ret3
        obtain rfl := hws.out
        exact ⟨HI3.out.bel HB0.out (by omega), told, A', C', own_rd' HI3.out.T, .inl ⟨i, HDD.out, by rw [if_pos hi'.out, if_pos hi'.out]; rfl⟩⟩
      · have hi1 : ¬ (i : Int) < (ws.length : Int) := by omega
        have hi' := Lib.hid hi
        clear hi
        replace HI := Lib.hid HI
        go_wp2_with fail
        go_ret3
        obtain rfl := hws.out
        exact ⟨HI.out.bel HB0.out (by omega), told, A', C', own_rd' HI.out.T, .inl ⟨i, HDD.out, by rw [if_neg hi'.out, if_neg hi'.out]; rfl⟩⟩
end Go.Proofs.Ytnilgmcoojdgoaa
