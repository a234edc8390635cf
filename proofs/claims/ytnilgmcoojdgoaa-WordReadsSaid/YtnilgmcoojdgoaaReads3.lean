/-
  The walk of WordReads' closure that asks the reader (layer 5).
-/
import Derived.Test.YtnilgmcoojdgoaaReads2
import Derived.Test.YtnilgmcoojdgoaaRead3
namespace Go.Proofs.Ytnilgmcoojdgoaa
set_option linter.unusedVariables false
set_option linter.unusedSimpArgs false
open Go.RowKit
theorem chg_undrew {may : Nat → Prop} {w w' : World} (h : Chg may w.drew w') : Chg may w w' := ⟨h.os, h.tape, h.output, h.size, h.block⟩
theorem Told.drew {b B : Nat} {told : List Int} {w : World} (h : Told b B told w) : Told b B told w.drew := h
theorem looks_below {w : World} {e0 e : Ending} {w' : World} (h : Looks w e0 e w') : e = e0 ∧ Below w.heap.size w w' := by
  obtain ⟨he, q, rfl⟩ := h
  exact ⟨he, below_drewN (Below.refl _ _) q⟩
/-- what holds while the reader is asked. -/
structure RI (w1 : World) (p : Nat) (A : Option Addr) (C : Nat) (ws : List WordD) (i n bt : Nat) (told : List Int) (wr : World) : Prop where
  R : RdrIs wr p A C ws i n
  T : Told bt w1.heap.size told wr
  C : Chg (fun k => k = p ∨ k = bt) w1 wr
section
variable {w1 wr w' : World} {p : Nat} {A : Option Addr} {C : Nat} {ws : List WordD} {i n bt : Nat} {told : List Int}
theorem RI.below (h : RI w1 p A C ws i n bt told wr) (hb : Below wr.heap.size wr w') : RI w1 p A C ws i n bt told w' := ⟨h.R.below hb, h.T.below hb, h.C.trans (Chg.below hb)⟩
theorem RI.moved (h : RI w1 p A C ws i n bt told wr) {j : Nat} (hR : RdrIs w' p A C ws j n) (hg : wr.grownBy w' (some p)) (hne : bt ≠ p) (hp : p < w1.heap.size) : RI w1 p A C ws j n bt told w' :=
  ⟨hR, h.T.chg (Chg.grown (may := fun k => k = p) hg rfl) hne (fun k hk => by omega), h.C.trans (Chg.grown hg (.inl rfl))⟩
theorem RI.tell (h : RI w1 p A C ws i n bt told wr) {told' : List Int} (hT : Told bt w1.heap.size told' w') (hc : Chg (fun k => k = bt ∨ w1.heap.size ≤ k) wr w') (hne : bt ≠ p) (hp : p < w1.heap.size) : RI w1 p A C ws i n bt told' w' := by
  have hm : ¬ (p = bt ∨ w1.heap.size ≤ p) := by omega
  refine ⟨⟨(hc.block p (heap_lt h.R.blk) hm).trans h.R.blk, fun hn => ?_, h.R.lt, h.R.hi, h.R.le⟩, hT, hc.os.trans h.C.os, hc.tape.trans h.C.tape, hc.output.trans h.C.output, Nat.le_trans h.C.size hc.size, fun k hk hn => (hc.block k (Nat.lt_of_lt_of_le hk h.C.size) (fun hk2 => ?_)).trans (h.C.block k hk hn)⟩
  · obtain ⟨b, off, e, hcell⟩ := h.R.rd hn
    have hb := h.R.lt _ e
    have hbp : b < p := hb
    have hne2 : b ≠ bt := fun e2 => by
      obtain ⟨v, hv, hvo⟩ := h.T
      cases ws with
      | nil => exact hn rfl
      | cons x ws =>
        have h0 := hcell 0 (.string x.text) rfl
        rw [e2, cell_of_row wr bt _ _ _ _ hv] at h0
        have : off + 0 = 0 := by
          rcases Nat.eq_zero_or_pos (off + 0) with h1 | h1
          · exact h1
          · rw [Array.getElem?_eq_none (by simp; omega)] at h0; cases h0
        rw [this] at h0
        obtain ⟨A', C', rfl⟩ := told_val hvo
        simp at h0
    exact ⟨b, off, e, fun q u hu => (World.cell?_of_block (hc.block b (by have := lt_of_cell (hcell q u hu); exact this) (by omega))).trans (hcell q u hu)⟩
  · rcases hk2 with h1 | h1
    · exact hn (.inr h1)
    · exact absurd hk (by omega)
end
abbrev stepC (x : StepD) : Array Value := #[.int .u8 (x.dv : Int), .string x.text, .int .i64 x.fr, .int .i64 x.upto]
theorem stepV_get (l : List StepD) (k : Nat) (h : k < l.length) : (l.flatMap stepV)[k * 4]? = some (.int .u8 (l[k].dv : Int)) ∧ (l.flatMap stepV)[k * 4 + 1]? = some (.string l[k].text) ∧
    (l.flatMap stepV)[k * 4 + 2]? = some (.int .i64 l[k].fr) ∧ (l.flatMap stepV)[k * 4 + 3]? = some (.int .i64 l[k].upto) := by
  induction l generalizing k with
  | nil => simp at h
  | cons s l ih =>
    cases k with
    | zero => exact ⟨rfl, rfl, rfl, rfl⟩
    | succ k =>
      have := ih k (by simpa using h)
      rw [List.flatMap_cons, show (k + 1) * 4 = k * 4 + 1 + 1 + 1 + 1 by omega]
      exact this
theorem Rd.step {w : World} {A : Option Addr} {l : List StepD} (h : Rd w A (l.flatMap stepV)) {k : Nat} (hk : k < l.length) :
    ∃ b off, A = some ⟨b, off, none⟩ ∧ w.cell? ⟨b, off + k * 4, none⟩ = some (.int .u8 (l[k].dv : Int)) ∧ w.cell? ⟨b, off + k * 4 + 1, none⟩ = some (.string l[k].text) ∧
      w.cell? ⟨b, off + k * 4 + 2, none⟩ = some (.int .i64 l[k].fr) ∧ w.cell? ⟨b, off + k * 4 + 3, none⟩ = some (.int .i64 l[k].upto) := by
  obtain ⟨g1, g2, g3, g4⟩ := stepV_get l k hk
  obtain ⟨b, off, e, hc⟩ := h (fun e => by rw [e] at g1; cases g1)
  exact ⟨b, off, e, hc _ _ g1, hc _ _ g2, hc _ _ g3, hc _ _ g4⟩
def AskEnd (ws : List WordD) (n : Nat) (l : List StepD) (w1 : World) (p : Nat) (A : Option Addr) (C : Nat) (bt : Nat) (e : Ending) (w2 : World) : Prop :=
  Chg (fun k => k = p ∨ k = bt) w1 w2 ∧ ∃ told, Told bt w1.heap.size told w2 ∧ ((∃ i, e = .returned (.tuple #[]) ∧ RdrIs w2 p A C ws i n ∧ runD ws n l = (told, .inl i)) ∨ (∃ a c, e = PanEnd a c ∧ runD ws n l = (told, .inr (a, c))))
set_option maxHeartbeats 16000000 in
set_option maxRecDepth 100000 in
theorem ask_any (ws : List WordD) (n : Nat) (l : List StepD) (hl : l.length ≤ 40) (hdv : ∀ x ∈ l, x.dv < 256) (hws : ∀ x ∈ ws, x.text.size ≤ 9223372036854775807) (w1 : World) (p : Nat) (A : Option Addr) (C : Nat) (R : RdrIs w1 p A C ws 0 n) (bl bt by_ : Nat) (al : Option Addr) (cl : Nat)
    (hbt : bt < p) (hby : by_ ≠ p ∧ by_ < w1.heap.size ∧ by_ ≠ bt) (T0 : Told bt w1.heap.size [] w1)
    (KF : ∀ wr : World, Chg (fun k => k = p ∨ k = bt) w1 wr → wr.cell? ⟨bl, 0, none⟩ = some (.slice al l.length cl) ∧ wr.cell? ⟨by_, 0, none⟩ = some (.func (.func 21) #[] #[.pointer (some ⟨bt, 0, none⟩)]) ∧ Rd wr al (l.flatMap stepV)) :
    Calls Try.prog 22 #[.pointer (some ⟨p, 0, none⟩), .pointer (some ⟨bl, 0, none⟩), .pointer (some ⟨bt, 0, none⟩), .pointer (some ⟨by_, 0, none⟩)] w1 (AskEnd ws n l w1 p A C bt) := by
  have hp := heap_lt R.blk
  have hne : bt ≠ p := by omega
  obtain ⟨i0, hi0, hz0, hz1, hz2⟩ := info_parts info_i64
  have HI0 : RI w1 p A C ws 0 n bt [] w1 := ⟨R, T0, Chg.refl _ _⟩
  obtain ⟨f1, f2, f3⟩ := KF w1 (Chg.refl _ _)
  replace KF := Lib.hid KF
  replace HI0 := Lib.hid HI0
  replace hdv := Lib.hid hdv
  replace hws := Lib.hid hws
  clear R T0 f2 f3
  go_enter Try.func22, Try.ntmps22
  go_wp2_with fail
  clear f1
  go_loopw [9] (fun ix wr => ∃ (k : Nat) (told : List Int) (i : Nat), k ≤ l.length ∧ ix = .int .i64 k ∧ Hid (runD ws n (l.take k) = (told, .inl i)) ∧ RI w1 p A C ws i n bt told wr) (fun ix _ => l.length - (intOf ix).toNat)
  case atStart => exact ⟨0, [], 0, Nat.zero_le _, rfl, Lib.hid rfl, HI0.out⟩
  case round =>
    obtain ⟨k, told, i, hk, rfl, HD, HI⟩ := hrel
    by_cases hkl : k < l.length
    · obtain ⟨_, fy, f3⟩ := KF.out wr HI.C
      obtain ⟨b, off, rfl, g1, g2, g3, g4⟩ := f3.step hkl
      have hlen : told.length ≤ k := by have := runD_len ws n l k (by omega); rw [HD.out] at this; exact this
      have hdk := hdv.out l[k] (List.getElem_mem hkl)
      have HN : Hid (runD ws n (l.take (k + 1)) = stepD ws n l[k] told i) := Lib.hid (by rw [runD_snoc ws n l k hkl, HD.out]; rfl)
      have HErr : Hid (∀ t e, stepD ws n l[k] told i = (t, .inr e) → runD ws n l = (t, .inr e)) := Lib.hid (fun t e h => runD_err ws n l (k + 1) (by rw [HN.out]; exact h))
      have k0 : (0 : Int) ≤ (k : Int) := by omega
      have k1 : (k : Int) < (l.length : Int) := by omega
      generalize l[k] = x at *
      have hS : Hid (stepD ws n x told i = stepD ws n x told i) := Lib.hid rfl
      obtain ⟨dv, tx, fr, up⟩ := x
      dsimp only at *
      -- the step's copy
      go_upto_region 3 with fail
      have HI1 := HI.below ((Below.refl _ _).alloc (Nat.le_refl _) (.cells #[.int .u8 (dv : Int), .string tx, .int .i64 fr, .int .i64 up] 49))
      have fy1 := keep_cell ((Below.refl _ _).alloc (Nat.le_refl _) (.cells #[.int .u8 (dv : Int), .string tx, .int .i64 fr, .int .i64 up] 49)) fy
      have s0 : (wr.alloc (.cells #[.int .u8 (dv : Int), .string tx, .int .i64 fr, .int .i64 up] 49)).cell? ⟨wr.heap.size, 0, none⟩ = some (.int .u8 (dv : Int)) := by rw [World.cell?_alloc_new]; rfl
      have s1 : (wr.alloc (.cells #[.int .u8 (dv : Int), .string tx, .int .i64 fr, .int .i64 up] 49)).cell? ⟨wr.heap.size, 1, none⟩ = some (.string tx) := by rw [World.cell?_alloc_new]; rfl
      have s2 : (wr.alloc (.cells #[.int .u8 (dv : Int), .string tx, .int .i64 fr, .int .i64 up] 49)).cell? ⟨wr.heap.size, 2, none⟩ = some (.int .i64 fr) := by rw [World.cell?_alloc_new]; rfl
      have s3 : (wr.alloc (.cells #[.int .u8 (dv : Int), .string tx, .int .i64 fr, .int .i64 up] 49)).cell? ⟨wr.heap.size, 3, none⟩ = some (.int .i64 up) := by rw [World.cell?_alloc_new]; rfl
      have hgs := heap_lt HI.R.blk
      have hgw : wr.heap.size ≠ p := by omega
      have hgl : wr.heap.size < (wr.alloc (.cells #[.int .u8 (dv : Int), .string tx, .int .i64 fr, .int .i64 up] 49)).heap.size := by simp
      generalize wr.alloc (.cells #[.int .u8 (dv : Int), .string tx, .int .i64 fr, .int .i64 up] 49) = W1 at *
      generalize wr.heap.size = sb at *
      clear g1 g2 g3 g4 f3 fy HI hgs
      have hsz1 : w1.heap.size ≤ W1.heap.size := HI1.C.size
      have hq : (dv : Int) % 5 = 0 ∨ (dv : Int) % 5 = 1 ∨ (dv : Int) % 5 = 2 ∨ (dv : Int) % 5 = 3 ∨ (dv : Int) % 5 = 4 := by omega
      rcases hq with hq | hq | hq | hq | hq
      · have HE : Hid (stepD ws n ⟨dv, tx, fr, up⟩ told i = (told ++ [(placeN ws i n : Int)], .inl i)) := Lib.hid (by unfold stepD; rw [if_pos (by show dv % 5 = 0; omega)])
        obtain ⟨v, hTb, hTo⟩ := HI1.T
        obtain ⟨A', C', rfl⟩ := told_val hTo
        have c1 := box_cell hTb
        go_upto_region 6 with fail
        refine wp_region_N (fun j => decide (j < 4)) (fun wz => wz.cell? ⟨bt, 0, none⟩ = some (.slice A' told.length C')) (by kernel_rfl) (by exact c1) (fun hShut hHeld => ?_)
        refine wpAnyN_take_0 (v := ?v1n) ?_ ?_ ?_ ?_ ?_ ?hy1n ?_ ?_ ?_
        case hy1n =>
          refine Or.inl ⟨by rfl, ?_⟩
          intro w hSw
          try dsimp only at hSw
          go_simp
          try with_reducible rfl
        · kernel_rfl
        · kernel_rfl
        · kernel_rfl
        · kernel_rfl
        · exact fun _ _ _ h => h
        · exact hHeld
        · exact hShut
        clear hShut
        intro hShut
        try simp only [Act.put, List.setIfInBounds_toArray, List.set_cons_zero, List.set_cons_succ]
        refine wpAnyN_take_1 (v := ?v2n) ?_ ?_ ?_ ?_ ?_ ?hy2n ?_ ?_ ?_
        case hy2n =>
          refine Or.inl ⟨by rfl, ?_⟩
          intro w hSw
          try dsimp only at hSw
          go_simp
          try with_reducible rfl
        · kernel_rfl
        · kernel_rfl
        · kernel_rfl
        · kernel_rfl
        · exact fun _ _ _ h => h
        · exact hHeld
        · exact hShut
        clear hShut
        intro hShut
        try simp only [Act.put, List.setIfInBounds_toArray, List.set_cons_zero, List.set_cons_succ]
        refine wpAnyN_one_2 (by kernel_rfl) (by exact hShut) (fun K hK => ?_)
        go_simp
        refine (place_any p A C ws i n _ (by first | exact HI1.R | exact HI1.R.drew)).mono ?_
        intro e w3 h3
        obtain ⟨rfl, hb3⟩ := looks_below h3
        clear h3
        replace hb3 : Below W1.heap.size W1 w3 := (by first | exact hb3 | exact (Below.refl _ _).drew.trans hb3)
        go_wp2_with fail
        have HI2 := HI1.below hb3
        have c3 := keep_cell hb3 c1
        have hTb3 := (hb3.block bt (heap_lt hTb)).trans hTb
        have hTo3 := own_below hTo hb3
        have hsz3 := hb3.size
        refine hK.out _ _ (fun _ => c3) (fun hH hS2 => ?_)
        clear hK K hHeld hShut
        have hShut := hS2
        clear hS2
        have hHeld := hH rfl
        clear hH
        try simp only [Act.put, List.setIfInBounds_toArray, List.set_cons_zero, List.set_cons_succ]
        refine wpAnyN_one_3 (by kernel_rfl) (by exact hShut) (fun K hK => ?_)
        go_simp
        refine hK.out _ _ (fun _ => (keep_cell ((Below.refl _ _).alloc (Nat.le_refl _) _) c3)) (fun hH hS2 => ?_)
        clear hK K hHeld hShut
        have hShut := hS2
        clear hS2
        have hHeld := hH rfl
        clear hH
        try simp only [Act.put, List.setIfInBounds_toArray, List.set_cons_zero, List.set_cons_succ]
        have HOWN := Lib.hid (hTo3.alloc (.cells #[.int .i64 (placeN ws i n : Int)] 2))
        have HNEW : Hid (∀ (q : Nat) (u : Value), [Value.int .i64 (placeN ws i n : Int)][q]? = some u → ((w3.alloc (.cells #[.int .i64 (placeN ws i n : Int)] 2)).drew).cell? ((⟨w3.heap.size, 0, none⟩ : Addr).add q) = some u) := Lib.hid (fun q u hu => cells_new _ _ _ q u (by simpa using hu))
        clear hTb hTo
        have hTb := hTb3
        have hTo := hTo3
        refine wpAnyN_one_4 (by kernel_rfl) (by exact hShut) (fun K hK => ?_)
        refine if_true_ofR (by rfl) ?_
        refine wp_append_own _ (.tmp 27) (.tmp 30) 46 rfl w1.heap.size 2 i0 (.int .i64 0) 1 8 Try.underlying46 hi0 hz0 hz1 hz2 rfl (by decide) (.slice A' told.length C') told.length (i64s told) (by first | rfl | simp [Act.eval, Act.put]) (by first | exact HOWN.out | exact HOWN.out.drew | exact HOWN.out.drew.drew | exact HOWN.out.drew.drew.drew) ⟨w3.heap.size, 0, none⟩ 1 1 [.int .i64 (placeN ws i n : Int)] (by first | rfl | simp [Act.eval, Act.put]) rfl HNEW.out (fun x hx => by simp at hx; subst hx; rfl) (by unfold maxLen; omega) (by omega) (by show w1.heap.size ≤ (w3.alloc _).heap.size; simp; omega) ?_
        intro v' w2 hown2 hgrow _
        obtain ⟨A2, C2, hv'⟩ := own_val hown2
        subst hv'
        have hgrow2 : (w3.alloc (.cells #[.int .i64 (placeN ws i n : Int)] 2)).grownBy w2 (Value.slice A' told.length C').ownBlock := by first | exact hgrow | exact grown_undrew hgrow | exact grown_undrew (grown_undrew hgrow) | exact grown_undrew (grown_undrew (grown_undrew hgrow))
        obtain ⟨g2, HT, HC⟩ := Told.push hTb hTo ((Below.refl _ _).alloc (Nat.le_refl _) _) hown2 hgrow2
        have d1 := box_cell g2
        have d2 := box_frozen g2
        have HI3 := Lib.hid (HI2.tell HT HC hne hp)
        clear HT HC g2
        refine hK.out _ _ (fun h => absurd h (by decide)) (fun _ hS2 => ?_)
        clear hK K hShut
        have hShut := hS2
        clear hS2
        try simp only [Act.put, List.setIfInBounds_toArray, List.set_cons_zero, List.set_cons_succ]
        refine wpAnyN_one_5 (by kernel_rfl) (by exact hShut) (fun K hK => ?_)
        go_simp
        refine hK.out _ _ (fun h => absurd h (by decide)) (fun _ hS2 => ?_)
        clear hK K hShut
        have hShut := hS2
        clear hS2
        try simp only [Act.put, List.setIfInBounds_toArray, List.set_cons_zero, List.set_cons_succ]
        refine wpAnyN_done (by kernel_rfl) ?_ _
        clear hShut hHeld
        go_wp2_with fail
        go_roundw
        case rel => exact ⟨k + 1, told ++ [(placeN ws i n : Int)], i, by omega, by go_num, Lib.hid (by rw [HN.out, HE.out]), HI3.out⟩
        case measure => simp [intOf]; omega
      · obtain ⟨bb, hbb⟩ : ∃ bb, Hid (decide (i < ws.length) = bb) := ⟨_, Lib.hid rfl⟩
        have HE : Hid (stepD ws n ⟨dv, tx, fr, up⟩ told i = (told ++ [b01 bb], .inl i)) := Lib.hid (by unfold stepD; rw [if_neg (by show ¬ dv % 5 = 0; omega), if_pos (by show dv % 5 = 1; omega), hbb.out])
        replace HErr := Lib.hid HErr
        go_upto_region 8 with fail
        refine wp_region_N (fun j => decide (j < 3)) (fun wz => wz.cell? ⟨by_, 0, none⟩ = some (.func (.func 21) #[] #[.pointer (some ⟨bt, 0, none⟩)])) (by kernel_rfl) (by exact fy1) (fun hShut hHeld => ?_)
        refine wpAnyN_take_0 (v := ?v3n) ?_ ?_ ?_ ?_ ?_ ?hy3n ?_ ?_ ?_
        case hy3n =>
          refine Or.inl ⟨by rfl, ?_⟩
          intro w hSw
          try dsimp only at hSw
          go_simp
          try with_reducible rfl
        · kernel_rfl
        · kernel_rfl
        · kernel_rfl
        · kernel_rfl
        · exact fun _ _ _ h => h
        · exact hHeld
        · exact hShut
        clear hShut
        intro hShut
        try simp only [Act.put, List.setIfInBounds_toArray, List.set_cons_zero, List.set_cons_succ]
        refine wpAnyN_take_1 (v := ?v4n) ?_ ?_ ?_ ?_ ?_ ?hy4n ?_ ?_ ?_
        case hy4n =>
          refine Or.inl ⟨by rfl, ?_⟩
          intro w hSw
          try dsimp only at hSw
          go_simp
          try with_reducible rfl
        · kernel_rfl
        · kernel_rfl
        · kernel_rfl
        · kernel_rfl
        · exact fun _ _ _ h => h
        · exact hHeld
        · exact hShut
        clear hShut
        intro hShut
        try simp only [Act.put, List.setIfInBounds_toArray, List.set_cons_zero, List.set_cons_succ]
        refine wpAnyN_one_2 (by kernel_rfl) (by exact hShut) (fun K hK => ?_)
        go_simp
        refine (more_any p A C ws i n bb hbb _ (by first | exact HI1.R | exact HI1.R.drew)).mono ?_
        intro e w3 h3
        obtain ⟨rfl, hb3⟩ := looks_below h3
        clear h3
        replace hb3 : Below W1.heap.size W1 w3 := (by first | exact hb3 | exact (Below.refl _ _).drew.trans hb3)
        go_wp2_with fail
        have HI2 := Lib.hid (HI1.below hb3)
        have c3 := keep_cell hb3 fy1
        refine hK.out _ _ (fun _ => c3) (fun hH hS2 => ?_)
        clear hK K hHeld hShut
        have hShut := hS2
        clear hS2
        have hHeld := hH rfl
        clear hH
        try simp only [Act.put, List.setIfInBounds_toArray, List.set_cons_zero, List.set_cons_succ]
        refine wpAnyN_one_3 (by kernel_rfl) (by exact hShut) (fun K hK => ?_)
        go_simp
        refine (yes_any bt w1.heap.size told bb _ (by first | exact HI2.out.T | exact HI2.out.T.drew) (by first | exact HI2.out.C.size) (by omega)).mono ?_
        rintro e w4 ⟨rfl, hT4, hC4⟩
        have HI3 := Lib.hid (HI2.out.tell hT4 (by first | exact hC4 | exact chg_undrew hC4) hne hp)
        clear hT4 hC4
        go_wp2_with fail
        refine hK.out _ _ (fun h => absurd h (by decide)) (fun _ hS2 => ?_)
        clear hK K hShut
        have hShut := hS2
        clear hS2
        try simp only [Act.put, List.setIfInBounds_toArray, List.set_cons_zero, List.set_cons_succ]
        refine wpAnyN_done (by kernel_rfl) ?_ _
        clear hShut hHeld
        go_wp2_with fail
        go_roundw
        case rel => exact ⟨k + 1, told ++ [b01 bb], i, by omega, by go_num, Lib.hid (by rw [HN.out, HE.out]), HI3.out⟩
        case measure => simp [intOf]; omega
      · by_cases hB : isB ws i tx = true
        · have HE : Hid (stepD ws n ⟨dv, tx, fr, up⟩ told i = (told ++ [b01 true], .inl (i + 1))) := Lib.hid (by unfold stepD; rw [if_neg (by show ¬ dv % 5 = 0; omega), if_neg (by show ¬ dv % 5 = 1; omega), if_pos (by show dv % 5 = 2; omega)]; dsimp only; rw [hB]; rfl)
          replace hB := Lib.hid hB
          replace HErr := Lib.hid HErr
          go_upto_region 10 with fail
          refine wp_region_N (fun j => decide (j < 5)) (fun wz => wz.cell? ⟨by_, 0, none⟩ = some (.func (.func 21) #[] #[.pointer (some ⟨bt, 0, none⟩)]) ∧ wz.cell? ⟨sb, 1, none⟩ = some (.string tx)) (by kernel_rfl) (by exact ⟨fy1, s1⟩) (fun hShut hHeld => ?_)
          refine wpAnyN_take_0 (v := ?v5n) ?_ ?_ ?_ ?_ ?_ ?hy5n ?_ ?_ ?_
          case hy5n =>
            refine Or.inl ⟨by rfl, ?_⟩
            intro w hSw
            try dsimp only at hSw
            go_simp
            try with_reducible rfl
          · kernel_rfl
          · kernel_rfl
          · kernel_rfl
          · kernel_rfl
          · exact fun _ _ _ h => h
          · exact hHeld
          · exact hShut
          clear hShut
          intro hShut
          try simp only [Act.put, List.setIfInBounds_toArray, List.set_cons_zero, List.set_cons_succ]
          refine wpAnyN_take_1 (v := ?v6n) ?_ ?_ ?_ ?_ ?_ ?hy6n ?_ ?_ ?_
          case hy6n =>
            refine Or.inl ⟨by rfl, ?_⟩
            intro w hSw
            try dsimp only at hSw
            go_simp
            try with_reducible rfl
          · kernel_rfl
          · kernel_rfl
          · kernel_rfl
          · kernel_rfl
          · exact fun _ _ _ h => h
          · exact hHeld
          · exact hShut
          clear hShut
          intro hShut
          try simp only [Act.put, List.setIfInBounds_toArray, List.set_cons_zero, List.set_cons_succ]
          refine wpAnyN_take_2 (v := ?v7n) ?_ ?_ ?_ ?_ ?_ ?hy7n ?_ ?_ ?_
          case hy7n =>
            refine Or.inl ⟨by rfl, ?_⟩
            intro w hSw
            try dsimp only at hSw
            go_simp
            try with_reducible rfl
          · kernel_rfl
          · kernel_rfl
          · kernel_rfl
          · kernel_rfl
          · exact fun _ _ _ h => h
          · exact hHeld
          · exact hShut
          clear hShut
          intro hShut
          try simp only [Act.put, List.setIfInBounds_toArray, List.set_cons_zero, List.set_cons_succ]
          refine wpAnyN_take_3 (v := ?v8n) ?_ ?_ ?_ ?_ ?_ ?hy8n ?_ ?_ ?_
          case hy8n =>
            refine Or.inl ⟨by rfl, ?_⟩
            intro w hSw
            try dsimp only at hSw
            go_simp
            try with_reducible rfl
          · kernel_rfl
          · kernel_rfl
          · kernel_rfl
          · kernel_rfl
          · exact fun _ _ _ h => h
          · exact hHeld
          · exact hShut
          clear hShut
          intro hShut
          try simp only [Act.put, List.setIfInBounds_toArray, List.set_cons_zero, List.set_cons_succ]
          refine wpAnyN_one_4 (by kernel_rfl) (by exact hShut) (fun K hK => ?_)
          go_simp
          refine (is_yes p A C ws i n tx _ (by first | exact HI1.R | exact HI1.R.drew) hB.out).mono ?_
          intro e w3 h3
          obtain ⟨rfl, hR3, hg3⟩ := h3
          replace hg3 : W1.grownBy w3 (some p) := (by first | exact hg3 | exact grown_undrew hg3)
          have HI2 := Lib.hid (HI1.moved hR3 hg3 hne hp)
          have c3 := (World.cell?_of_block (hg3.block by_ (lt_of_cell fy1) (fun e => hby.1 (Option.some.inj e)))).trans fy1
          have c4 := (World.cell?_of_block (hg3.block sb hgl (fun e => hgw (Option.some.inj e)))).trans s1
          clear hR3 hg3
          go_wp2_with fail
          refine hK.out _ _ (fun _ => (by exact ⟨c3, c4⟩)) (fun hH hS2 => ?_)
          clear hK K hHeld hShut
          have hShut := hS2
          clear hS2
          have hHeld := hH rfl
          clear hH
          try simp only [Act.put, List.setIfInBounds_toArray, List.set_cons_zero, List.set_cons_succ]
          refine wpAnyN_one_5 (by kernel_rfl) (by exact hShut) (fun K hK => ?_)
          go_simp
          refine (yes_any bt w1.heap.size told true _ (by first | exact HI2.out.T | exact HI2.out.T.drew) (by first | exact HI2.out.C.size) (by omega)).mono ?_
          rintro e w4 ⟨rfl, hT4, hC4⟩
          have HI3 := Lib.hid (HI2.out.tell hT4 (by first | exact hC4 | exact chg_undrew hC4) hne hp)
          clear hT4 hC4
          go_wp2_with fail
          refine hK.out _ _ (fun h => absurd h (by decide)) (fun _ hS2 => ?_)
          clear hK K hShut
          have hShut := hS2
          clear hS2
          try simp only [Act.put, List.setIfInBounds_toArray, List.set_cons_zero, List.set_cons_succ]
          refine wpAnyN_done (by kernel_rfl) ?_ _
          clear hShut hHeld
          go_wp2_with fail
          go_roundw
          case rel => exact ⟨k + 1, told ++ [b01 true], (i + 1), by omega, by go_num, Lib.hid (by rw [HN.out, HE.out]), HI3.out⟩
          case measure => simp [intOf]; omega
        · replace hB : isB ws i tx = false := by simpa using hB
          have HE : Hid (stepD ws n ⟨dv, tx, fr, up⟩ told i = (told ++ [b01 false], .inl i)) := Lib.hid (by unfold stepD; rw [if_neg (by show ¬ dv % 5 = 0; omega), if_neg (by show ¬ dv % 5 = 1; omega), if_pos (by show dv % 5 = 2; omega)]; dsimp only; rw [hB]; rfl)
          replace hB := Lib.hid hB
          replace HErr := Lib.hid HErr
          go_upto_region 10 with fail
          refine wp_region_N (fun j => decide (j < 5)) (fun wz => wz.cell? ⟨by_, 0, none⟩ = some (.func (.func 21) #[] #[.pointer (some ⟨bt, 0, none⟩)]) ∧ wz.cell? ⟨sb, 1, none⟩ = some (.string tx)) (by kernel_rfl) (by exact ⟨fy1, s1⟩) (fun hShut hHeld => ?_)
          refine wpAnyN_take_0 (v := ?v9n) ?_ ?_ ?_ ?_ ?_ ?hy9n ?_ ?_ ?_
          case hy9n =>
            refine Or.inl ⟨by rfl, ?_⟩
            intro w hSw
            try dsimp only at hSw
            go_simp
            try with_reducible rfl
          · kernel_rfl
          · kernel_rfl
          · kernel_rfl
          · kernel_rfl
          · exact fun _ _ _ h => h
          · exact hHeld
          · exact hShut
          clear hShut
          intro hShut
          try simp only [Act.put, List.setIfInBounds_toArray, List.set_cons_zero, List.set_cons_succ]
          refine wpAnyN_take_1 (v := ?v10n) ?_ ?_ ?_ ?_ ?_ ?hy10n ?_ ?_ ?_
          case hy10n =>
            refine Or.inl ⟨by rfl, ?_⟩
            intro w hSw
            try dsimp only at hSw
            go_simp
            try with_reducible rfl
          · kernel_rfl
          · kernel_rfl
          · kernel_rfl
          · kernel_rfl
          · exact fun _ _ _ h => h
          · exact hHeld
          · exact hShut
          clear hShut
          intro hShut
          try simp only [Act.put, List.setIfInBounds_toArray, List.set_cons_zero, List.set_cons_succ]
          refine wpAnyN_take_2 (v := ?v11n) ?_ ?_ ?_ ?_ ?_ ?hy11n ?_ ?_ ?_
          case hy11n =>
            refine Or.inl ⟨by rfl, ?_⟩
            intro w hSw
            try dsimp only at hSw
            go_simp
            try with_reducible rfl
          · kernel_rfl
          · kernel_rfl
          · kernel_rfl
          · kernel_rfl
          · exact fun _ _ _ h => h
          · exact hHeld
          · exact hShut
          clear hShut
          intro hShut
          try simp only [Act.put, List.setIfInBounds_toArray, List.set_cons_zero, List.set_cons_succ]
          refine wpAnyN_take_3 (v := ?v12n) ?_ ?_ ?_ ?_ ?_ ?hy12n ?_ ?_ ?_
          case hy12n =>
            refine Or.inl ⟨by rfl, ?_⟩
            intro w hSw
            try dsimp only at hSw
            go_simp
            try with_reducible rfl
          · kernel_rfl
          · kernel_rfl
          · kernel_rfl
          · kernel_rfl
          · exact fun _ _ _ h => h
          · exact hHeld
          · exact hShut
          clear hShut
          intro hShut
          try simp only [Act.put, List.setIfInBounds_toArray, List.set_cons_zero, List.set_cons_succ]
          refine wpAnyN_one_4 (by kernel_rfl) (by exact hShut) (fun K hK => ?_)
          go_simp
          refine (is_no p A C ws i n tx _ (by first | exact HI1.R | exact HI1.R.drew) hB.out).mono ?_
          intro e w3 h3
          obtain ⟨rfl, hb3⟩ := looks_below h3
          clear h3
          replace hb3 : Below W1.heap.size W1 w3 := (by first | exact hb3 | exact (Below.refl _ _).drew.trans hb3)
          have HI2 := Lib.hid (HI1.below hb3)
          have c3 := keep_cell hb3 fy1
          have c4 := keep_cell hb3 s1
          go_wp2_with fail
          refine hK.out _ _ (fun _ => (by exact ⟨c3, c4⟩)) (fun hH hS2 => ?_)
          clear hK K hHeld hShut
          have hShut := hS2
          clear hS2
          have hHeld := hH rfl
          clear hH
          try simp only [Act.put, List.setIfInBounds_toArray, List.set_cons_zero, List.set_cons_succ]
          refine wpAnyN_one_5 (by kernel_rfl) (by exact hShut) (fun K hK => ?_)
          go_simp
          refine (yes_any bt w1.heap.size told false _ (by first | exact HI2.out.T | exact HI2.out.T.drew) (by first | exact HI2.out.C.size) (by omega)).mono ?_
          rintro e w4 ⟨rfl, hT4, hC4⟩
          have HI3 := Lib.hid (HI2.out.tell hT4 (by first | exact hC4 | exact chg_undrew hC4) hne hp)
          clear hT4 hC4
          go_wp2_with fail
          refine hK.out _ _ (fun h => absurd h (by decide)) (fun _ hS2 => ?_)
          clear hK K hShut
          have hShut := hS2
          clear hS2
          try simp only [Act.put, List.setIfInBounds_toArray, List.set_cons_zero, List.set_cons_succ]
          refine wpAnyN_done (by kernel_rfl) ?_ _
          clear hShut hHeld
          go_wp2_with fail
          go_roundw
          case rel => exact ⟨k + 1, told ++ [b01 false], i, by omega, by go_num, Lib.hid (by rw [HN.out, HE.out]), HI3.out⟩
          case measure => simp [intOf]; omega
      · by_cases hB : isB ws i tx = true
        · have HE : Hid (stepD ws n ⟨dv, tx, fr, up⟩ told i = (told, .inl (i + 1))) := Lib.hid (by unfold stepD; rw [if_neg (by show ¬ dv % 5 = 0; omega), if_neg (by show ¬ dv % 5 = 1; omega), if_neg (by show ¬ dv % 5 = 2; omega), if_pos (by show dv % 5 = 3; omega)]; dsimp only; rw [hB]; rfl)
          replace hB := Lib.hid hB
          replace HErr := Lib.hid HErr
          go_wp2_with fail
          refine (must_yes p A C ws i n tx _ (by first | exact HI1.R | exact HI1.R.drew) hB.out).mono ?_
          intro e w3 h3
          obtain ⟨rfl, hR3, hg3⟩ := h3
          replace hg3 : W1.grownBy w3 (some p) := (by first | exact hg3 | exact grown_undrew hg3)
          have HI2 := Lib.hid (HI1.moved hR3 hg3 hne hp)
          have c3 := (World.cell?_of_block (hg3.block by_ (lt_of_cell fy1) (fun e => hby.1 (Option.some.inj e)))).trans fy1
          have c4 := (World.cell?_of_block (hg3.block sb hgl (fun e => hgw (Option.some.inj e)))).trans s1
          clear hR3 hg3
          clear c3 c4
          go_wp2_with fail
          go_roundw
          case rel => exact ⟨k + 1, told, i + 1, by omega, by go_num, Lib.hid (by rw [HN.out, HE.out]), HI2.out⟩
          case measure => simp [intOf]; omega
        · replace hB : isB ws i tx = false := by simpa using hB
          have HE : Hid (stepD ws n ⟨dv, tx, fr, up⟩ told i = (told, .inr ((placeN ws i n : Int), 5))) := Lib.hid (by unfold stepD; rw [if_neg (by show ¬ dv % 5 = 0; omega), if_neg (by show ¬ dv % 5 = 1; omega), if_neg (by show ¬ dv % 5 = 2; omega), if_pos (by show dv % 5 = 3; omega)]; dsimp only; rw [hB]; rfl)
          replace hB := Lib.hid hB
          replace HErr := Lib.hid HErr
          go_wp2_with fail
          refine (must_no p A C ws i n tx _ (by first | exact HI1.R | exact HI1.R.drew) hB.out).mono ?_
          intro e w3 h3
          obtain ⟨rfl, hb3⟩ := looks_below h3
          clear h3
          replace hb3 : Below W1.heap.size W1 w3 := (by first | exact hb3 | exact (Below.refl _ _).drew.trans hb3)
          have HI2 := Lib.hid (HI1.below hb3)
          have c3 := keep_cell hb3 fy1
          have c4 := keep_cell hb3 s1
          clear c3 c4
          unfold PanEnd
          go_wp2_with fail
          exact ⟨rfl, HI2.out.C, told, HI2.out.T, .inr ⟨_, _, rfl, HErr.out _ _ HE.out⟩⟩
      · by_cases hi : i < ws.length
        · have hsome := num_some p A C ws i n fr up W1.drew HI1.R.drew hi (hws.out _ (List.getElem_mem hi))
          by_cases hok : okNum (L ws[i].text) = true
          · by_cases hrg : parseV (L ws[i].text) < fr ∨ up < parseV (L ws[i].text)
            · have HE : Hid (stepD ws n ⟨dv, tx, fr, up⟩ told i = (told, .inr ((placeN ws i n : Int), 2))) := Lib.hid (by unfold stepD; rw [if_neg (by show ¬ dv % 5 = 0; omega), if_neg (by show ¬ dv % 5 = 1; omega), if_neg (by show ¬ dv % 5 = 2; omega), if_neg (by show ¬ dv % 5 = 3; omega)]; dsimp only; rw [dif_pos hi]; rw [if_pos hok, if_pos hrg])
              have hE1 : numE ws i n ws[i] fr up = (PanEnd (placeN ws i n : Int) 2, i) := by unfold numE; rw [if_pos hok, if_pos hrg]
              replace hsome : Calls Try.prog 27 #[.pointer (some ⟨p, 0, none⟩), .int .i64 fr, .int .i64 up] W1.drew (fun e w' => Moved W1.drew p A C ws (numE ws i n ws[i] fr up).2 n (numE ws i n ws[i] fr up).1 e w') := hsome
              rw [hE1] at hsome
              dsimp only at hsome
              replace hsome := Lib.hid hsome
              clear hE1 hok
              clear hrg
              replace HErr := Lib.hid HErr
              obtain ⟨v, hTb, hTo⟩ := HI1.T
              obtain ⟨A', C', rfl⟩ := told_val hTo
              have c1 := box_cell hTb
              go_upto_region 4 with fail
              refine wp_region_N (fun j => decide (j < 8)) (fun wz => wz.cell? ⟨bt, 0, none⟩ = some (.slice A' told.length C') ∧ wz.cell? ⟨sb, 2, none⟩ = some (.int .i64 fr) ∧ wz.cell? ⟨sb, 3, none⟩ = some (.int .i64 up)) (by kernel_rfl) (by exact ⟨c1, s2, s3⟩) (fun hShut hHeld => ?_)
              refine wpAnyN_take_0 (v := ?v13n) ?_ ?_ ?_ ?_ ?_ ?hy13n ?_ ?_ ?_
              case hy13n =>
                refine Or.inl ⟨by rfl, ?_⟩
                intro w hSw
                try dsimp only at hSw
                go_simp
                try with_reducible rfl
              · kernel_rfl
              · kernel_rfl
              · kernel_rfl
              · kernel_rfl
              · exact fun _ _ _ h => h
              · exact hHeld
              · exact hShut
              clear hShut
              intro hShut
              try simp only [Act.put, List.setIfInBounds_toArray, List.set_cons_zero, List.set_cons_succ]
              refine wpAnyN_take_1 (v := ?v14n) ?_ ?_ ?_ ?_ ?_ ?hy14n ?_ ?_ ?_
              case hy14n =>
                refine Or.inl ⟨by rfl, ?_⟩
                intro w hSw
                try dsimp only at hSw
                go_simp
                try with_reducible rfl
              · kernel_rfl
              · kernel_rfl
              · kernel_rfl
              · kernel_rfl
              · exact fun _ _ _ h => h
              · exact hHeld
              · exact hShut
              clear hShut
              intro hShut
              try simp only [Act.put, List.setIfInBounds_toArray, List.set_cons_zero, List.set_cons_succ]
              refine wpAnyN_take_2 (v := ?v15n) ?_ ?_ ?_ ?_ ?_ ?hy15n ?_ ?_ ?_
              case hy15n =>
                refine Or.inl ⟨by rfl, ?_⟩
                intro w hSw
                try dsimp only at hSw
                go_simp
                try with_reducible rfl
              · kernel_rfl
              · kernel_rfl
              · kernel_rfl
              · kernel_rfl
              · exact fun _ _ _ h => h
              · exact hHeld
              · exact hShut
              clear hShut
              intro hShut
              try simp only [Act.put, List.setIfInBounds_toArray, List.set_cons_zero, List.set_cons_succ]
              refine wpAnyN_take_3 (v := ?v16n) ?_ ?_ ?_ ?_ ?_ ?hy16n ?_ ?_ ?_
              case hy16n =>
                refine Or.inl ⟨by rfl, ?_⟩
                intro w hSw
                try dsimp only at hSw
                go_simp
                try with_reducible rfl
              · kernel_rfl
              · kernel_rfl
              · kernel_rfl
              · kernel_rfl
              · exact fun _ _ _ h => h
              · exact hHeld
              · exact hShut
              clear hShut
              intro hShut
              try simp only [Act.put, List.setIfInBounds_toArray, List.set_cons_zero, List.set_cons_succ]
              refine wpAnyN_take_4 (v := ?v17n) ?_ ?_ ?_ ?_ ?_ ?hy17n ?_ ?_ ?_
              case hy17n =>
                refine Or.inl ⟨by rfl, ?_⟩
                intro w hSw
                try dsimp only at hSw
                go_simp
                try with_reducible rfl
              · kernel_rfl
              · kernel_rfl
              · kernel_rfl
              · kernel_rfl
              · exact fun _ _ _ h => h
              · exact hHeld
              · exact hShut
              clear hShut
              intro hShut
              try simp only [Act.put, List.setIfInBounds_toArray, List.set_cons_zero, List.set_cons_succ]
              refine wpAnyN_take_5 (v := ?v18n) ?_ ?_ ?_ ?_ ?_ ?hy18n ?_ ?_ ?_
              case hy18n =>
                refine Or.inl ⟨by rfl, ?_⟩
                intro w hSw
                try dsimp only at hSw
                go_simp
                try with_reducible rfl
              · kernel_rfl
              · kernel_rfl
              · kernel_rfl
              · kernel_rfl
              · exact fun _ _ _ h => h
              · exact hHeld
              · exact hShut
              clear hShut
              intro hShut
              try simp only [Act.put, List.setIfInBounds_toArray, List.set_cons_zero, List.set_cons_succ]
              refine wpAnyN_one_6 (by kernel_rfl) (by exact hShut) (fun K hK => ?_)
              go_simp
              refine hsome.out.mono ?_
              intro e w3 h3
              obtain ⟨rfl, hR3, hg3⟩ := h3
              replace hg3 : W1.grownBy w3 (some p) := (by first | exact hg3 | exact grown_undrew hg3)
              have HI2 := Lib.hid (HI1.moved hR3 hg3 hne hp)
              clear hR3
              clear hg3 c1
              clear hTb hTo
              unfold PanEnd
              go_wp2_with fail
              exact ⟨rfl, HI2.out.C, told, HI2.out.T, .inr ⟨_, _, rfl, HErr.out _ _ HE.out⟩⟩
            · have HE : Hid (stepD ws n ⟨dv, tx, fr, up⟩ told i = (told ++ [parseV (L ws[i].text)], .inl (i + 1))) := Lib.hid (by unfold stepD; rw [if_neg (by show ¬ dv % 5 = 0; omega), if_neg (by show ¬ dv % 5 = 1; omega), if_neg (by show ¬ dv % 5 = 2; omega), if_neg (by show ¬ dv % 5 = 3; omega)]; dsimp only; rw [dif_pos hi]; rw [if_pos hok, if_neg hrg])
              have hE1 : numE ws i n ws[i] fr up = (.returned (.int .i64 (parseV (L ws[i].text))), i + 1) := by unfold numE; rw [if_pos hok, if_neg hrg]
              replace hsome : Calls Try.prog 27 #[.pointer (some ⟨p, 0, none⟩), .int .i64 fr, .int .i64 up] W1.drew (fun e w' => Moved W1.drew p A C ws (numE ws i n ws[i] fr up).2 n (numE ws i n ws[i] fr up).1 e w') := hsome
              rw [hE1] at hsome
              dsimp only at hsome
              replace hsome := Lib.hid hsome
              clear hE1 hok
              clear hrg
              generalize parseV (L ws[i].text) = pv at *
              replace HErr := Lib.hid HErr
              obtain ⟨v, hTb, hTo⟩ := HI1.T
              obtain ⟨A', C', rfl⟩ := told_val hTo
              have c1 := box_cell hTb
              go_upto_region 4 with fail
              refine wp_region_N (fun j => decide (j < 8)) (fun wz => wz.cell? ⟨bt, 0, none⟩ = some (.slice A' told.length C') ∧ wz.cell? ⟨sb, 2, none⟩ = some (.int .i64 fr) ∧ wz.cell? ⟨sb, 3, none⟩ = some (.int .i64 up)) (by kernel_rfl) (by exact ⟨c1, s2, s3⟩) (fun hShut hHeld => ?_)
              refine wpAnyN_take_0 (v := ?v19n) ?_ ?_ ?_ ?_ ?_ ?hy19n ?_ ?_ ?_
              case hy19n =>
                refine Or.inl ⟨by rfl, ?_⟩
                intro w hSw
                try dsimp only at hSw
                go_simp
                try with_reducible rfl
              · kernel_rfl
              · kernel_rfl
              · kernel_rfl
              · kernel_rfl
              · exact fun _ _ _ h => h
              · exact hHeld
              · exact hShut
              clear hShut
              intro hShut
              try simp only [Act.put, List.setIfInBounds_toArray, List.set_cons_zero, List.set_cons_succ]
              refine wpAnyN_take_1 (v := ?v20n) ?_ ?_ ?_ ?_ ?_ ?hy20n ?_ ?_ ?_
              case hy20n =>
                refine Or.inl ⟨by rfl, ?_⟩
                intro w hSw
                try dsimp only at hSw
                go_simp
                try with_reducible rfl
              · kernel_rfl
              · kernel_rfl
              · kernel_rfl
              · kernel_rfl
              · exact fun _ _ _ h => h
              · exact hHeld
              · exact hShut
              clear hShut
              intro hShut
              try simp only [Act.put, List.setIfInBounds_toArray, List.set_cons_zero, List.set_cons_succ]
              refine wpAnyN_take_2 (v := ?v21n) ?_ ?_ ?_ ?_ ?_ ?hy21n ?_ ?_ ?_
              case hy21n =>
                refine Or.inl ⟨by rfl, ?_⟩
                intro w hSw
                try dsimp only at hSw
                go_simp
                try with_reducible rfl
              · kernel_rfl
              · kernel_rfl
              · kernel_rfl
              · kernel_rfl
              · exact fun _ _ _ h => h
              · exact hHeld
              · exact hShut
              clear hShut
              intro hShut
              try simp only [Act.put, List.setIfInBounds_toArray, List.set_cons_zero, List.set_cons_succ]
              refine wpAnyN_take_3 (v := ?v22n) ?_ ?_ ?_ ?_ ?_ ?hy22n ?_ ?_ ?_
              case hy22n =>
                refine Or.inl ⟨by rfl, ?_⟩
                intro w hSw
                try dsimp only at hSw
                go_simp
                try with_reducible rfl
              · kernel_rfl
              · kernel_rfl
              · kernel_rfl
              · kernel_rfl
              · exact fun _ _ _ h => h
              · exact hHeld
              · exact hShut
              clear hShut
              intro hShut
              try simp only [Act.put, List.setIfInBounds_toArray, List.set_cons_zero, List.set_cons_succ]
              refine wpAnyN_take_4 (v := ?v23n) ?_ ?_ ?_ ?_ ?_ ?hy23n ?_ ?_ ?_
              case hy23n =>
                refine Or.inl ⟨by rfl, ?_⟩
                intro w hSw
                try dsimp only at hSw
                go_simp
                try with_reducible rfl
              · kernel_rfl
              · kernel_rfl
              · kernel_rfl
              · kernel_rfl
              · exact fun _ _ _ h => h
              · exact hHeld
              · exact hShut
              clear hShut
              intro hShut
              try simp only [Act.put, List.setIfInBounds_toArray, List.set_cons_zero, List.set_cons_succ]
              refine wpAnyN_take_5 (v := ?v24n) ?_ ?_ ?_ ?_ ?_ ?hy24n ?_ ?_ ?_
              case hy24n =>
                refine Or.inl ⟨by rfl, ?_⟩
                intro w hSw
                try dsimp only at hSw
                go_simp
                try with_reducible rfl
              · kernel_rfl
              · kernel_rfl
              · kernel_rfl
              · kernel_rfl
              · exact fun _ _ _ h => h
              · exact hHeld
              · exact hShut
              clear hShut
              intro hShut
              try simp only [Act.put, List.setIfInBounds_toArray, List.set_cons_zero, List.set_cons_succ]
              refine wpAnyN_one_6 (by kernel_rfl) (by exact hShut) (fun K hK => ?_)
              go_simp
              refine hsome.out.mono ?_
              intro e w3 h3
              obtain ⟨rfl, hR3, hg3⟩ := h3
              replace hg3 : W1.grownBy w3 (some p) := (by first | exact hg3 | exact grown_undrew hg3)
              have HI2 := Lib.hid (HI1.moved hR3 hg3 hne hp)
              clear hR3
              have d3 := (World.cell?_of_block (hg3.block bt (heap_lt hTb) (fun e => hne (Option.some.inj e)))).trans c1
              have d4 := (World.cell?_of_block (hg3.block sb hgl (fun e => hgw (Option.some.inj e)))).trans s2
              have d5 := (World.cell?_of_block (hg3.block sb hgl (fun e => hgw (Option.some.inj e)))).trans s3
              clear hg3 hTb hTo c1
              go_wp2_with fail
              refine hK.out _ _ (fun _ => (by exact ⟨d3, d4, d5⟩)) (fun hH hS2 => ?_)
              clear hK K hHeld hShut
              have hShut := hS2
              clear hS2
              have hHeld := hH rfl
              clear hH
              try simp only [Act.put, List.setIfInBounds_toArray, List.set_cons_zero, List.set_cons_succ]
              refine wpAnyN_one_7 (by kernel_rfl) (by exact hShut) (fun K hK => ?_)
              go_simp
              refine hK.out _ _ (fun _ => (by exact ⟨keep_cell ((Below.refl _ _).alloc (Nat.le_refl _) _) d3, keep_cell ((Below.refl _ _).alloc (Nat.le_refl _) _) d4, keep_cell ((Below.refl _ _).alloc (Nat.le_refl _) _) d5⟩)) (fun hH hS2 => ?_)
              clear hK K hHeld hShut
              have hShut := hS2
              clear hS2
              have hHeld := hH rfl
              clear hH
              try simp only [Act.put, List.setIfInBounds_toArray, List.set_cons_zero, List.set_cons_succ]
              obtain ⟨v, hTb, hTo⟩ := HI2.out.T
              have hsz3 : w1.heap.size ≤ w3.heap.size := HI2.out.C.size
              have ev : v = .slice A' told.length C' := by have := box_cell hTb; rw [d3] at this; exact (Option.some.inj this).symm
              subst ev
              have HOWN := Lib.hid (hTo.alloc (.cells #[.int .i64 pv] 2))
              have HNEW : Hid (∀ (q : Nat) (u : Value), [Value.int .i64 pv][q]? = some u → ((w3.alloc (.cells #[.int .i64 pv] 2))).cell? ((⟨w3.heap.size, 0, none⟩ : Addr).add q) = some u) := Lib.hid (fun q u hu => cells_new _ _ _ q u (by simpa using hu))
              refine wpAnyN_one_8 (by kernel_rfl) (by exact hShut) (fun K hK => ?_)
              refine if_true_ofR (by rfl) ?_
              refine wp_append_own _ (.tmp 16) (.tmp 23) 46 rfl w1.heap.size 2 i0 (.int .i64 0) 1 8 Try.underlying46 hi0 hz0 hz1 hz2 rfl (by decide) (.slice A' told.length C') told.length (i64s told) (by first | rfl | simp [Act.eval, Act.put]) (by first | exact HOWN.out | exact HOWN.out.drew | exact HOWN.out.drew.drew | exact HOWN.out.drew.drew.drew) ⟨w3.heap.size, 0, none⟩ 1 1 [.int .i64 pv] (by first | rfl | simp [Act.eval, Act.put]) rfl HNEW.out (fun x hx => by simp at hx; subst hx; rfl) (by unfold maxLen; omega) (by omega) (by show w1.heap.size ≤ (w3.alloc _).heap.size; simp; omega) ?_
              intro v' w2 hown2 hgrow _
              obtain ⟨A2, C2, hv'⟩ := own_val hown2
              subst hv'
              have hgrow2 : (w3.alloc (.cells #[.int .i64 pv] 2)).grownBy w2 (Value.slice A' told.length C').ownBlock := by first | exact hgrow | exact grown_undrew hgrow | exact grown_undrew (grown_undrew hgrow) | exact grown_undrew (grown_undrew (grown_undrew hgrow))
              obtain ⟨g2, HT, HC⟩ := Told.push hTb hTo ((Below.refl _ _).alloc (Nat.le_refl _) _) hown2 hgrow2
              have d1 := box_cell g2
              have d2 := box_frozen g2
              have HI3 := Lib.hid (HI2.out.tell HT HC hne hp)
              clear HT HC g2
              refine hK.out _ _ (fun h => absurd h (by decide)) (fun _ hS2 => ?_)
              clear hK K hShut
              have hShut := hS2
              clear hS2
              try simp only [Act.put, List.setIfInBounds_toArray, List.set_cons_zero, List.set_cons_succ]
              refine wpAnyN_one_9 (by kernel_rfl) (by exact hShut) (fun K hK => ?_)
              go_simp
              refine hK.out _ _ (fun h => absurd h (by decide)) (fun _ hS2 => ?_)
              clear hK K hShut
              have hShut := hS2
              clear hS2
              try simp only [Act.put, List.setIfInBounds_toArray, List.set_cons_zero, List.set_cons_succ]
              refine wpAnyN_done (by kernel_rfl) ?_ _
              clear hShut hHeld
              go_wp2_with fail
              go_roundw
              case rel => exact ⟨k + 1, told ++ [pv], i + 1, by omega, by go_num, Lib.hid (by rw [HN.out, HE.out]), HI3.out⟩
              case measure => simp [intOf]; omega
          · have HE : Hid (stepD ws n ⟨dv, tx, fr, up⟩ told i = (told, .inr ((placeN ws i n : Int), 3))) := Lib.hid (by unfold stepD; rw [if_neg (by show ¬ dv % 5 = 0; omega), if_neg (by show ¬ dv % 5 = 1; omega), if_neg (by show ¬ dv % 5 = 2; omega), if_neg (by show ¬ dv % 5 = 3; omega)]; dsimp only; rw [dif_pos hi]; rw [if_neg hok])
            have hE1 : numE ws i n ws[i] fr up = (PanEnd (placeN ws i n : Int) 3, i) := by unfold numE; rw [if_neg hok]
            replace hsome : Calls Try.prog 27 #[.pointer (some ⟨p, 0, none⟩), .int .i64 fr, .int .i64 up] W1.drew (fun e w' => Moved W1.drew p A C ws (numE ws i n ws[i] fr up).2 n (numE ws i n ws[i] fr up).1 e w') := hsome
            rw [hE1] at hsome
            dsimp only at hsome
            replace hsome := Lib.hid hsome
            clear hE1 hok
            replace HErr := Lib.hid HErr
            obtain ⟨v, hTb, hTo⟩ := HI1.T
            obtain ⟨A', C', rfl⟩ := told_val hTo
            have c1 := box_cell hTb
            go_upto_region 4 with fail
            refine wp_region_N (fun j => decide (j < 8)) (fun wz => wz.cell? ⟨bt, 0, none⟩ = some (.slice A' told.length C') ∧ wz.cell? ⟨sb, 2, none⟩ = some (.int .i64 fr) ∧ wz.cell? ⟨sb, 3, none⟩ = some (.int .i64 up)) (by kernel_rfl) (by exact ⟨c1, s2, s3⟩) (fun hShut hHeld => ?_)
            refine wpAnyN_take_0 (v := ?v25n) ?_ ?_ ?_ ?_ ?_ ?hy25n ?_ ?_ ?_
            case hy25n =>
              refine Or.inl ⟨by rfl, ?_⟩
              intro w hSw
              try dsimp only at hSw
              go_simp
              try with_reducible rfl
            · kernel_rfl
            · kernel_rfl
            · kernel_rfl
            · kernel_rfl
            · exact fun _ _ _ h => h
            · exact hHeld
            · exact hShut
            clear hShut
            intro hShut
            try simp only [Act.put, List.setIfInBounds_toArray, List.set_cons_zero, List.set_cons_succ]
            refine wpAnyN_take_1 (v := ?v26n) ?_ ?_ ?_ ?_ ?_ ?hy26n ?_ ?_ ?_
            case hy26n =>
              refine Or.inl ⟨by rfl, ?_⟩
              intro w hSw
              try dsimp only at hSw
              go_simp
              try with_reducible rfl
            · kernel_rfl
            · kernel_rfl
            · kernel_rfl
            · kernel_rfl
            · exact fun _ _ _ h => h
            · exact hHeld
            · exact hShut
            clear hShut
            intro hShut
            try simp only [Act.put, List.setIfInBounds_toArray, List.set_cons_zero, List.set_cons_succ]
            refine wpAnyN_take_2 (v := ?v27n) ?_ ?_ ?_ ?_ ?_ ?hy27n ?_ ?_ ?_
            case hy27n =>
              refine Or.inl ⟨by rfl, ?_⟩
              intro w hSw
              try dsimp only at hSw
              go_simp
              try with_reducible rfl
            · kernel_rfl
            · kernel_rfl
            · kernel_rfl
            · kernel_rfl
            · exact fun _ _ _ h => h
            · exact hHeld
            · exact hShut
            clear hShut
            intro hShut
            try simp only [Act.put, List.setIfInBounds_toArray, List.set_cons_zero, List.set_cons_succ]
            refine wpAnyN_take_3 (v := ?v28n) ?_ ?_ ?_ ?_ ?_ ?hy28n ?_ ?_ ?_
            case hy28n =>
              refine Or.inl ⟨by rfl, ?_⟩
              intro w hSw
              try dsimp only at hSw
              go_simp
              try with_reducible rfl
            · kernel_rfl
            · kernel_rfl
            · kernel_rfl
            · kernel_rfl
            · exact fun _ _ _ h => h
            · exact hHeld
            · exact hShut
            clear hShut
            intro hShut
            try simp only [Act.put, List.setIfInBounds_toArray, List.set_cons_zero, List.set_cons_succ]
            refine wpAnyN_take_4 (v := ?v29n) ?_ ?_ ?_ ?_ ?_ ?hy29n ?_ ?_ ?_
            case hy29n =>
              refine Or.inl ⟨by rfl, ?_⟩
              intro w hSw
              try dsimp only at hSw
              go_simp
              try with_reducible rfl
            · kernel_rfl
            · kernel_rfl
            · kernel_rfl
            · kernel_rfl
            · exact fun _ _ _ h => h
            · exact hHeld
            · exact hShut
            clear hShut
            intro hShut
            try simp only [Act.put, List.setIfInBounds_toArray, List.set_cons_zero, List.set_cons_succ]
            refine wpAnyN_take_5 (v := ?v30n) ?_ ?_ ?_ ?_ ?_ ?hy30n ?_ ?_ ?_
            case hy30n =>
              refine Or.inl ⟨by rfl, ?_⟩
              intro w hSw
              try dsimp only at hSw
              go_simp
              try with_reducible rfl
            · kernel_rfl
            · kernel_rfl
            · kernel_rfl
            · kernel_rfl
            · exact fun _ _ _ h => h
            · exact hHeld
            · exact hShut
            clear hShut
            intro hShut
            try simp only [Act.put, List.setIfInBounds_toArray, List.set_cons_zero, List.set_cons_succ]
            refine wpAnyN_one_6 (by kernel_rfl) (by exact hShut) (fun K hK => ?_)
            go_simp
            refine hsome.out.mono ?_
            intro e w3 h3
            obtain ⟨rfl, hR3, hg3⟩ := h3
            replace hg3 : W1.grownBy w3 (some p) := (by first | exact hg3 | exact grown_undrew hg3)
            have HI2 := Lib.hid (HI1.moved hR3 hg3 hne hp)
            clear hR3
            clear hg3 c1
            clear hTb hTo
            unfold PanEnd
            go_wp2_with fail
            exact ⟨rfl, HI2.out.C, told, HI2.out.T, .inr ⟨_, _, rfl, HErr.out _ _ HE.out⟩⟩
        · have HE : Hid (stepD ws n ⟨dv, tx, fr, up⟩ told i = (told, .inr ((placeN ws i n : Int), 3))) := Lib.hid (by unfold stepD; rw [if_neg (by show ¬ dv % 5 = 0; omega), if_neg (by show ¬ dv % 5 = 1; omega), if_neg (by show ¬ dv % 5 = 2; omega), if_neg (by show ¬ dv % 5 = 3; omega)]; dsimp only; rw [dif_neg hi])
          replace HErr := Lib.hid HErr
          obtain ⟨v, hTb, hTo⟩ := HI1.T
          obtain ⟨A', C', rfl⟩ := told_val hTo
          have c1 := box_cell hTb
          go_upto_region 4 with fail
          refine wp_region_N (fun j => decide (j < 8)) (fun wz => wz.cell? ⟨bt, 0, none⟩ = some (.slice A' told.length C') ∧ wz.cell? ⟨sb, 2, none⟩ = some (.int .i64 fr) ∧ wz.cell? ⟨sb, 3, none⟩ = some (.int .i64 up)) (by kernel_rfl) (by exact ⟨c1, s2, s3⟩) (fun hShut hHeld => ?_)
          refine wpAnyN_take_0 (v := ?v31n) ?_ ?_ ?_ ?_ ?_ ?hy31n ?_ ?_ ?_
          case hy31n =>
            refine Or.inl ⟨by rfl, ?_⟩
            intro w hSw
            try dsimp only at hSw
            go_simp
            try with_reducible rfl
          · kernel_rfl
          · kernel_rfl
          · kernel_rfl
          · kernel_rfl
          · exact fun _ _ _ h => h
          · exact hHeld
          · exact hShut
          clear hShut
          intro hShut
          try simp only [Act.put, List.setIfInBounds_toArray, List.set_cons_zero, List.set_cons_succ]
          refine wpAnyN_take_1 (v := ?v32n) ?_ ?_ ?_ ?_ ?_ ?hy32n ?_ ?_ ?_
          case hy32n =>
            refine Or.inl ⟨by rfl, ?_⟩
            intro w hSw
            try dsimp only at hSw
            go_simp
            try with_reducible rfl
          · kernel_rfl
          · kernel_rfl
          · kernel_rfl
          · kernel_rfl
          · exact fun _ _ _ h => h
          · exact hHeld
          · exact hShut
          clear hShut
          intro hShut
          try simp only [Act.put, List.setIfInBounds_toArray, List.set_cons_zero, List.set_cons_succ]
          refine wpAnyN_take_2 (v := ?v33n) ?_ ?_ ?_ ?_ ?_ ?hy33n ?_ ?_ ?_
          case hy33n =>
            refine Or.inl ⟨by rfl, ?_⟩
            intro w hSw
            try dsimp only at hSw
            go_simp
            try with_reducible rfl
          · kernel_rfl
          · kernel_rfl
          · kernel_rfl
          · kernel_rfl
          · exact fun _ _ _ h => h
          · exact hHeld
          · exact hShut
          clear hShut
          intro hShut
          try simp only [Act.put, List.setIfInBounds_toArray, List.set_cons_zero, List.set_cons_succ]
          refine wpAnyN_take_3 (v := ?v34n) ?_ ?_ ?_ ?_ ?_ ?hy34n ?_ ?_ ?_
          case hy34n =>
            refine Or.inl ⟨by rfl, ?_⟩
            intro w hSw
            try dsimp only at hSw
            go_simp
            try with_reducible rfl
          · kernel_rfl
          · kernel_rfl
          · kernel_rfl
          · kernel_rfl
          · exact fun _ _ _ h => h
          · exact hHeld
          · exact hShut
          clear hShut
          intro hShut
          try simp only [Act.put, List.setIfInBounds_toArray, List.set_cons_zero, List.set_cons_succ]
          refine wpAnyN_take_4 (v := ?v35n) ?_ ?_ ?_ ?_ ?_ ?hy35n ?_ ?_ ?_
          case hy35n =>
            refine Or.inl ⟨by rfl, ?_⟩
            intro w hSw
            try dsimp only at hSw
            go_simp
            try with_reducible rfl
          · kernel_rfl
          · kernel_rfl
          · kernel_rfl
          · kernel_rfl
          · exact fun _ _ _ h => h
          · exact hHeld
          · exact hShut
          clear hShut
          intro hShut
          try simp only [Act.put, List.setIfInBounds_toArray, List.set_cons_zero, List.set_cons_succ]
          refine wpAnyN_take_5 (v := ?v36n) ?_ ?_ ?_ ?_ ?_ ?hy36n ?_ ?_ ?_
          case hy36n =>
            refine Or.inl ⟨by rfl, ?_⟩
            intro w hSw
            try dsimp only at hSw
            go_simp
            try with_reducible rfl
          · kernel_rfl
          · kernel_rfl
          · kernel_rfl
          · kernel_rfl
          · exact fun _ _ _ h => h
          · exact hHeld
          · exact hShut
          clear hShut
          intro hShut
          try simp only [Act.put, List.setIfInBounds_toArray, List.set_cons_zero, List.set_cons_succ]
          refine wpAnyN_one_6 (by kernel_rfl) (by exact hShut) (fun K hK => ?_)
          go_simp
          refine (num_none p A C ws i n fr up _ (by first | exact HI1.R | exact HI1.R.drew) hi).mono ?_
          intro e w3 h3
          obtain ⟨rfl, hb3⟩ := looks_below h3
          clear h3
          replace hb3 : Below W1.heap.size W1 w3 := (by first | exact hb3 | exact (Below.refl _ _).drew.trans hb3)
          have HI2 := Lib.hid (HI1.below hb3)
          clear c1 hb3
          clear hTb hTo
          unfold PanEnd
          go_wp2_with fail
          exact ⟨rfl, HI2.out.C, told, HI2.out.T, .inr ⟨_, _, rfl, HErr.out _ _ HE.out⟩⟩
    · obtain rfl : k = l.length := by omega
      have HDD := HD.out
      rw [List.take_length] at HDD
      replace HDD := Lib.hid HDD
      replace HI := Lib.hid HI
      go_wp2_with fail
      go_end0
      exact ⟨HI.out.C, told, HI.out.T, .inl ⟨i, rfl, HI.out.R, HDD.out⟩⟩
end Go.Proofs.Ytnilgmcoojdgoaa
