/-
  The walk of what Parse does with a reader (layer 12).
-/
import Derived.Test.YtljcpgeggbbmfaaPars3
import Derived.Test.YtljcpgeggbbmfaaRegN
namespace Go.Proofs.Ytljcpgeggbbmfaa
set_option linter.unusedVariables false
set_option linter.unusedSimpArgs false
open Go.RowKit
theorem bind_step {α β : Type} {x : PR α} {f : α → Nat → PR β} {r : PR β} {a : α} {i : Nat} (h : r = bindP x f) (hx : x = .inl (a, i)) : r = f a i := by rw [h, hx]; rfl
theorem bind_bad {α β : Type} {x : PR α} {f : α → Nat → PR β} {r : PR β} {e : Int × Int} (h : r = bindP x f) (hx : x = .inr e) : r = .inr e := by rw [h, hx]; rfl
theorem if_true_P {c : Prop} [Decidable c] {A B : Prop} (h : c) (ha : A) : if c then A else B := by rw [if_pos h]; exact ha
theorem grown_undrewP {w w2 : World} {r : Option Nat} (h : w.drew.grownBy w2 r) : w.grownBy w2 r := ⟨h.os, h.tape, h.output, h.size, h.block⟩
def inst0 : InstD := ⟨0, 0, 0, 0, 0, [], [], [], []⟩
def hd0 : HdD := ⟨none, 0, none, 0, none, 0, none, 0⟩
set_option maxHeartbeats 16000000 in
set_option maxRecDepth 100000 in
theorem pdo_any (p bx : Nat) (A : Option Addr) (C : Nat) (ws : List WordD) (n : Nat) (hsz : Hid (∀ x ∈ ws, x.text.size ≤ 9223372036854775807)) (w1 : World) (hne : bx ≠ p) (hbx : bx < w1.heap.size) (hp : p < w1.heap.size)
    (H : PB w1 p bx A C ws n 0 ⟨0, 0, 0, 0, 0, [], [], [], []⟩ ⟨none, 0, none, 0, none, 0, none, 0⟩ [] [] w1) :
    Calls Try.prog 30 #[.pointer (some ⟨p, 0, none⟩), .pointer (some ⟨bx, 0, none⟩)] w1 (PDoEnd w1 p bx A C ws n) := by
  have HQ : Hid (instP ws n = bindP (mustP ws n sWharfage 0) fun _ i => bindP (numP ws n 0 1000000000 i) fun fin i => bindP (fleetP ws n sTrucks i) fun t i => bindP (fleetP ws n sBikes i) fun b i => instP2 ws n fin t b i) := Lib.hid rfl
  obtain ⟨is, his, hs0, hs1, hs2⟩ := info_parts info_sat
  obtain ⟨ic, hic, hc0, hc1, hc2⟩ := info_parts info_cust
  have HB := Lib.hid H
  clear H
  go_enter Try.func30, Try.ntmps30
  go_wp2_with fail
  refine (must_any p A C ws 0 n sWharfage _ HB.out.R).mono ?_
  rintro e w2 ⟨hG, ⟨_, i1, hr, rfl, hR⟩ | ⟨a, c, hr, rfl⟩⟩
  rotate_left
  · have hE := Lib.hid (HB.out.chg.grownAny hG (fun g e => .inl (.inl (by injection e with e; exact e.symm))))
    have hq := Lib.hid (bind_bad HQ.out hr)
    clear hG hr
    unfold PanEnd
    go_wp2_with fail
    exact ⟨rfl, .inr ⟨a, c, rfl, hq.out, hE.out⟩⟩
  replace HB := Lib.hid (HB.out.moved hR hG hne hp)
  replace HQ := Lib.hid (bind_step HQ.out hr)
  clear hG hr hR
  go_wp2_with fail
  refine (num_any p A C ws i1 n 0 1000000000 hsz _ HB.out.R).mono ?_
  rintro e w3 ⟨hG, ⟨fin, i2, hr, rfl, hR⟩ | ⟨a, c, hr, rfl⟩⟩
  rotate_left
  · have hE := Lib.hid (HB.out.chg.grownAny hG (fun g e => .inl (.inl (by injection e with e; exact e.symm))))
    have hq := Lib.hid (bind_bad HQ.out hr)
    clear hG hr
    unfold PanEnd
    go_wp2_with fail
    exact ⟨rfl, .inr ⟨a, c, rfl, hq.out, hE.out⟩⟩
  replace HB := Lib.hid (HB.out.moved hR hG hne hp)
  replace HQ := Lib.hid (bind_step HQ.out hr)
  clear hG hr hR
  obtain ⟨c0, f0⟩ := HB.out.cells 0 _ rfl
  replace HB := Lib.hid (HB.out.fin hne hbx fin)
  go_wp2_with fail
  clear c0 f0
  generalize w3.setCell ⟨bx, 0, none⟩ (.int .i64 fin) = v3 at *
  clear w3 w2
  refine (fleet_any p A C ws i2 n sTrucks hsz _ HB.out.R).mono ?_
  rintro e w4 ⟨hG, ⟨⟨tm, tr⟩, i3, hr, rfl, hR⟩ | ⟨a, c, hr, rfl⟩⟩
  rotate_left
  · have hE := Lib.hid (HB.out.chg.grownAny hG (fun g e => .inl (.inl (by injection e with e; exact e.symm))))
    have hq := Lib.hid (bind_bad HQ.out hr)
    clear hG hr
    unfold PanEnd
    go_wp2_with fail
    exact ⟨rfl, .inr ⟨a, c, rfl, hq.out, hE.out⟩⟩
  replace HB := Lib.hid (HB.out.moved hR hG hne hp)
  replace HQ := Lib.hid (bind_step HQ.out hr)
  clear hG hr hR
  obtain ⟨c1, f1⟩ := HB.out.cells 1 _ rfl
  obtain ⟨c2, f2⟩ := HB.out.cells 2 _ rfl
  replace HB := Lib.hid (HB.out.trucks hne hbx tm tr)
  go_wp2_with fail
  clear c1 f1 c2 f2
  generalize ((w4.setCell ⟨bx, 1, none⟩ (.int .i64 tm)).setCell ⟨bx, 2, none⟩ (.int .i64 tr)) = v4 at *
  clear w4 v3
  refine (fleet_any p A C ws i3 n sBikes hsz _ HB.out.R).mono ?_
  rintro e w5 ⟨hG, ⟨⟨bm, br⟩, i4, hr, rfl, hR⟩ | ⟨a, c, hr, rfl⟩⟩
  rotate_left
  · have hE := Lib.hid (HB.out.chg.grownAny hG (fun g e => .inl (.inl (by injection e with e; exact e.symm))))
    have hq := Lib.hid (bind_bad HQ.out hr)
    clear hG hr
    unfold PanEnd
    go_wp2_with fail
    exact ⟨rfl, .inr ⟨a, c, rfl, hq.out, hE.out⟩⟩
  replace HB := Lib.hid (HB.out.moved hR hG hne hp)
  replace HQ := Lib.hid (bind_step HQ.out hr)
  clear hG hr hR
  obtain ⟨c3, f3⟩ := HB.out.cells 3 _ rfl
  obtain ⟨c4, f4⟩ := HB.out.cells 4 _ rfl
  replace HB := Lib.hid (HB.out.bikes hne hbx bm br)
  go_wp2_with fail
  clear c3 f3 c4 f4
  generalize ((w5.setCell ⟨bx, 3, none⟩ (.int .i64 bm)).setCell ⟨bx, 4, none⟩ (.int .i64 br)) = v5 at *
  clear w5 v4
  refine (must_any p A C ws i4 n sSats _ HB.out.R).mono ?_
  rintro e w6 ⟨hG, ⟨_, i5, hr, rfl, hR⟩ | ⟨a, c, hr, rfl⟩⟩
  rotate_left
  · have hE := Lib.hid (HB.out.chg.grownAny hG (fun g e => .inl (.inl (by injection e with e; exact e.symm))))
    have hq := Lib.hid (bind_bad HQ.out hr)
    clear hG hr
    unfold PanEnd
    go_wp2_with fail
    exact ⟨rfl, .inr ⟨a, c, rfl, hq.out, hE.out⟩⟩
  replace HB := Lib.hid (HB.out.moved hR hG hne hp)
  replace HQ := Lib.hid (bind_step HQ.out hr)
  clear hG hr hR
  go_wp2_with fail
  refine (num_any p A C ws i5 n 1 12 hsz _ HB.out.R).mono ?_
  rintro e w7 ⟨hG, ⟨m1, i6, hr, rfl, hR⟩ | ⟨a, c, hr, rfl⟩⟩
  rotate_left
  · have hE := Lib.hid (HB.out.chg.grownAny hG (fun g e => .inl (.inl (by injection e with e; exact e.symm))))
    have hq := Lib.hid (bind_bad HQ.out hr)
    clear hG hr
    unfold PanEnd
    go_wp2_with fail
    exact ⟨rfl, .inr ⟨a, c, rfl, hq.out, hE.out⟩⟩
  replace HB := Lib.hid (HB.out.moved hR hG hne hp)
  replace HQ := Lib.hid (bind_step HQ.out hr)
  obtain ⟨hm1, hm2, _, _⟩ := numP_ok hr
  obtain ⟨mN, rfl⟩ : ∃ mN : Nat, m1 = (mN : Int) := ⟨m1.toNat, by omega⟩
  clear hG hr hR
  replace HQ : Hid (instP ws n = bindP (upP (fun _ => satP ws n) (mN - 0) 0 i6) (fun xs j => instP3 ws n fin (tm, tr) (bm, br) ([] ++ xs) j)) := Lib.hid HQ.out
  go_wp2_with fail
  go_loopw [18] (fun ix wr => ∃ (k q : Nat) (l : List SatD) (sa : Option Addr) (sc : Nat), k ≤ mN ∧ ix = .int .i64 k ∧ Hid (l.length = k) ∧ Hid (instP ws n = bindP (upP (fun _ => satP ws n) (mN - k) k q) (fun xs j => instP3 ws n fin (tm, tr) (bm, br) (l ++ xs) j)) ∧ PB w1 p bx A C ws n q ⟨fin, tm, tr, bm, br, l, [], [], []⟩ ⟨sa, sc, none, 0, none, 0, none, 0⟩ [] [] wr) (fun ix _ => mN - (intOf ix).toNat)
  case atStart => exact ⟨0, i6, [], none, 0, Nat.zero_le _, rfl, Lib.hid rfl, HQ, HB.out⟩
  case round =>
    obtain ⟨k, q, l, sa, sc, hk, rfl, HL, HQ2, HB2⟩ := hrel
    clear HQ HB
    replace HB := Lib.hid HB2
    replace HQ := HQ2
    clear HB2 HQ2
    by_cases hkm : k < mN
    · have HGo : Hid (∀ x j2, satP ws n q = .inl (x, j2) → instP ws n = bindP (upP (fun _ => satP ws n) (mN - (k + 1)) (k + 1) j2) (fun xs j => instP3 ws n fin (tm, tr) (bm, br) ((l ++ [x]) ++ xs) j)) := Lib.hid (fun x j2 h => by
        rw [HQ.out, show mN - k = (mN - (k + 1)) + 1 by omega]
        exact upP_goK (f := fun _ => satP ws n) (k := k) h l (fun xs j => instP3 ws n fin (tm, tr) (bm, br) xs j))
      have HBad : Hid (∀ e, satP ws n q = .inr e → instP ws n = .inr e) := Lib.hid (fun e h => by
        rw [HQ.out, show mN - k = (mN - (k + 1)) + 1 by omega]
        exact upP_bad (f := fun _ => satP ws n) (k := k) h _)
      clear HQ
      have hl : l.length = k := HL.out
      replace hl := Lib.hid hl
      have c5 := (HB.out.cells 5 _ rfl).1
      have HBd := Lib.hid HB.out.drew
      go_upto_region 7 with fail
      refine wp_region_N (fun j => decide (j < 6)) (fun wz => wz.cell? ⟨bx, 5, none⟩ = some (.slice sa l.length sc)) (by kernel_rfl) (by exact c5) (fun hShut hHeld => ?_)
      refine wpAnyN_take_0 (v := ?v1n) ?_ ?_ ?_ ?_ ?_ ?hy1n ?_ ?_ ?_
      case hy1n =>
        refine Or.inl ⟨by rfl, ?_⟩
        intro w hSw
        try dsimp only at hSw
        go_simp
        try with_reducible rfl
      · kernel_rfl
      · kernel_rfl
      · kernel_rfl
      · kernel_rfl
      · exact fun _ _ _ h => h
      · exact hHeld
      · exact hShut
      clear hShut
      intro hShut
      try simp only [Act.put, List.setIfInBounds_toArray, List.set_cons_zero, List.set_cons_succ]
      refine wpAnyN_take_1 (v := ?v2n) ?_ ?_ ?_ ?_ ?_ ?hy2n ?_ ?_ ?_
      case hy2n =>
        refine Or.inl ⟨by rfl, ?_⟩
        intro w hSw
        try dsimp only at hSw
        go_simp
        try with_reducible rfl
      · kernel_rfl
      · kernel_rfl
      · kernel_rfl
      · kernel_rfl
      · exact fun _ _ _ h => h
      · exact hHeld
      · exact hShut
      clear hShut
      intro hShut
      try simp only [Act.put, List.setIfInBounds_toArray, List.set_cons_zero, List.set_cons_succ]
      refine wpAnyN_take_2 (v := ?v3n) ?_ ?_ ?_ ?_ ?_ ?hy3n ?_ ?_ ?_
      case hy3n =>
        refine Or.inl ⟨by rfl, ?_⟩
        intro w hSw
        try dsimp only at hSw
        go_simp
        try with_reducible rfl
      · kernel_rfl
      · kernel_rfl
      · kernel_rfl
      · kernel_rfl
      · exact fun _ _ _ h => h
      · exact hHeld
      · exact hShut
      clear hShut
      intro hShut
      try simp only [Act.put, List.setIfInBounds_toArray, List.set_cons_zero, List.set_cons_succ]
      refine wpAnyN_one_3 (by kernel_rfl) (by exact hShut) (fun K hK => ?_)
      go_simp
      refine (sat_any p A C ws q n hsz _ (by exact HBd.out.R)).mono ?_
      rintro e w8 ⟨hG, ⟨x, q2, hr, rfl, hR⟩ | ⟨a, c, hr, rfl⟩⟩
      rotate_left
      · have hE := Lib.hid (HBd.out.chg.grownAny hG (fun g e => .inl (.inl (by injection e with e; exact e.symm))))
        have hq := Lib.hid (HBad.out _ hr)
        clear hG hr
        unfold PanEnd
        go_wp2_with fail
        exact ⟨rfl, .inr ⟨a, c, rfl, hq.out, hE.out⟩⟩
      have HB5 := Lib.hid (HBd.out.moved hR hG hne hp)
      have HQ5 := Lib.hid (HGo.out _ _ hr)
      clear hG hr hR HGo HBad HBd HB c5
      have c5 := (HB5.out.cells 5 _ rfl).1
      go_wp2_with fail
      refine hK.out _ _ (fun _ => (by exact c5)) (fun hH hS2 => ?_)
      clear hK K hHeld hShut
      have hShut := hS2
      clear hS2
      have hHeld := hH rfl
      clear hH
      try simp only [Act.put, List.setIfInBounds_toArray, List.set_cons_zero, List.set_cons_succ]
      refine wpAnyN_one_4 (by kernel_rfl) (by exact hShut) (fun K hK => ?_)
      go_simp
      refine hK.out _ _ (fun _ => (by exact keep_cell ((Below.refl _ _).alloc (Nat.le_refl _) _) c5)) (fun hH hS2 => ?_)
      clear hK K hHeld hShut
      have hShut := hS2
      clear hS2
      have hHeld := hH rfl
      clear hH
      try simp only [Act.put, List.setIfInBounds_toArray, List.set_cons_zero, List.set_cons_succ]
      have hw8 : w1.heap.size ≤ w8.heap.size := HB5.out.chg.size
      have HOWN := Lib.hid (HB5.out.o5.alloc (.cells #[.int .i64 x.room, .int .i64 x.hold] 62))
      have HNEW : Hid (∀ (q : Nat) (u : Value), [.int .i64 x.room, .int .i64 x.hold][q]? = some u → (w8.alloc (.cells #[.int .i64 x.room, .int .i64 x.hold] 62)).cell? ((⟨w8.heap.size, 0, none⟩ : Addr).add q) = some u) := Lib.hid (fun q u hu => cells_new _ _ _ q u (by simpa using hu))
      refine wpAnyN_one_5 (by kernel_rfl) (by exact hShut) (fun K hK => ?_)
      refine if_true_P (by rfl) ?_
      refine wp_append_own _ (.tmp 21) (.tmp 24) 25 rfl w1.heap.size 62 is (.agg #[.int .i64 0, .int .i64 0]) 2 16 Try.underlying25 his hs0 hs1 hs2 rfl (by decide) (.slice sa l.length sc) l.length (l.flatMap satV) (by first | rfl | simp [Act.eval, Act.put]) (by first | exact HOWN.out | exact HOWN.out.drew | exact HOWN.out.drew.drew) ⟨w8.heap.size, 0, none⟩ 1 1 [.int .i64 x.room, .int .i64 x.hold] (by first | rfl | simp [Act.eval, Act.put]) rfl HNEW.out (fun x hx => by simp at hx; rcases hx with rfl | rfl <;> rfl) (by have := hl.out; unfold maxLen; omega) (by have := hl.out; omega) (by show w1.heap.size ≤ (w8.alloc _).heap.size; simp; omega) ?_
      intro v' w9 hown2 hgrow _
      obtain ⟨A', C', hv'⟩ := own_val hown2
      subst hv'
      have hgrow2 : (w8.alloc (.cells #[.int .i64 x.room, .int .i64 x.hold] 62)).grownBy w9 (Value.slice sa l.length sc).ownBlock := by first | exact hgrow | exact grown_undrewP hgrow | exact grown_undrewP (grown_undrewP hgrow)
      obtain ⟨d5, f5, HZ⟩ := HB5.out.sat hne hbx hp x _ hown2 hgrow2
      replace HZ := Lib.hid HZ
      clear hown2 hgrow hgrow2 HOWN HNEW
      refine hK.out _ _ (fun _ => (by exact d5)) (fun hH hS2 => ?_)
      clear hK K hHeld hShut
      have hShut := hS2
      clear hS2
      have hHeld := hH rfl
      clear hH
      try simp only [Act.put, List.setIfInBounds_toArray, List.set_cons_zero, List.set_cons_succ]
      refine wpAnyN_one_6 (by kernel_rfl) (by exact hShut) (fun K hK => ?_)
      go_simp
      refine hK.out _ _ (fun h => absurd h (by decide)) (fun _ hS2 => ?_)
      clear hK K hShut
      have hShut := hS2
      clear hS2
      try simp only [Act.put, List.setIfInBounds_toArray, List.set_cons_zero, List.set_cons_succ]
      refine wpAnyN_one_7 (by kernel_rfl) (by exact hShut) (fun K hK => ?_)
      go_simp
      refine hK.out _ _ (fun h => absurd h (by decide)) (fun _ hS2 => ?_)
      clear hK K hShut
      have hShut := hS2
      clear hS2
      try simp only [Act.put, List.setIfInBounds_toArray, List.set_cons_zero, List.set_cons_succ]
      refine wpAnyN_done (by kernel_rfl) ?_ _
      clear hShut hHeld
      go_wp2_with fail
      go_roundw
      case rel => exact ⟨k + 1, q2, l ++ [x], A', C', by omega, by go_num, Lib.hid (by rw [List.length_append, hl.out]; rfl), HQ5, HZ.out⟩
      case measure => simp [intOf]; omega
    · obtain rfl : k = mN := by omega
      have hl : l.length ≤ 12 := by have := HL.out; omega
      replace HQ : Hid (instP ws n = instP3 ws n fin (tm, tr) (bm, br) l q) := Lib.hid (by rw [HQ.out, Nat.sub_self, upP_endK])
      clear HL
      generalize hsats : l = sats at *
      clear hsats
      generalize sa = ha at *
      generalize sc = hc at *
      replace HQ : Hid (instP ws n = bindP (mustP ws n sCusts q) fun _ i => bindP (numP ws n 1 48 i) fun m i => bindP (upP (fun _ => custP ws n) m.toNat 0 i) fun cs i => instP4 ws n fin (tm, tr) (bm, br) sats cs i) := Lib.hid HQ.out
      go_wp2_with fail
      refine (must_any p A C ws q n sCusts _ HB.out.R).mono ?_
      rintro e w10 ⟨hG, ⟨_, i8, hr, rfl, hR⟩ | ⟨a, c, hr, rfl⟩⟩
      rotate_left
      · have hE := Lib.hid (HB.out.chg.grownAny hG (fun g e => .inl (.inl (by injection e with e; exact e.symm))))
        have hq := Lib.hid (bind_bad HQ.out hr)
        clear hG hr
        unfold PanEnd
        go_wp2_with fail
        exact ⟨rfl, .inr ⟨a, c, rfl, hq.out, hE.out⟩⟩
      replace HB := Lib.hid (HB.out.moved hR hG hne hp)
      replace HQ := Lib.hid (bind_step HQ.out hr)
      clear hG hr hR
      go_wp2_with fail
      refine (num_any p A C ws i8 n 1 48 hsz _ HB.out.R).mono ?_
      rintro e w11 ⟨hG, ⟨m1, i9, hr, rfl, hR⟩ | ⟨a, c, hr, rfl⟩⟩
      rotate_left
      · have hE := Lib.hid (HB.out.chg.grownAny hG (fun g e => .inl (.inl (by injection e with e; exact e.symm))))
        have hq := Lib.hid (bind_bad HQ.out hr)
        clear hG hr
        unfold PanEnd
        go_wp2_with fail
        exact ⟨rfl, .inr ⟨a, c, rfl, hq.out, hE.out⟩⟩
      replace HB := Lib.hid (HB.out.moved hR hG hne hp)
      replace HQ := Lib.hid (bind_step HQ.out hr)
      obtain ⟨hm3, hm4, _, _⟩ := numP_ok hr
      obtain ⟨mC, rfl⟩ : ∃ mC : Nat, m1 = (mC : Int) := ⟨m1.toNat, by omega⟩
      clear hG hr hR
      replace HQ : Hid (instP ws n = bindP (upP (fun _ => custP ws n) (mC - 0) 0 i9) (fun xs j => instP4 ws n fin (tm, tr) (bm, br) sats ([] ++ xs) j)) := Lib.hid HQ.out
      go_wp2_with fail
      go_loopw [32] (fun ix wr => ∃ (k q : Nat) (l : List CustD) (sa : Option Addr) (sc : Nat), k ≤ mC ∧ ix = .int .i64 k ∧ Hid (l.length = k) ∧ Hid (instP ws n = bindP (upP (fun _ => custP ws n) (mC - k) k q) (fun xs j => instP4 ws n fin (tm, tr) (bm, br) sats (l ++ xs) j)) ∧ PB w1 p bx A C ws n q ⟨fin, tm, tr, bm, br, sats, l, [], []⟩ ⟨ha, hc, sa, sc, none, 0, none, 0⟩ [] [] wr) (fun ix _ => mC - (intOf ix).toNat)
      case atStart => exact ⟨0, i9, [], none, 0, Nat.zero_le _, rfl, Lib.hid rfl, HQ, HB.out⟩
      case round =>
        obtain ⟨k, q, l, sa, sc, hk, rfl, HL, HQ2, HB2⟩ := hrel
        clear HQ HB
        replace HB := Lib.hid HB2
        replace HQ := HQ2
        clear HB2 HQ2
        by_cases hkm : k < mC
        · have HGo : Hid (∀ x j2, custP ws n q = .inl (x, j2) → instP ws n = bindP (upP (fun _ => custP ws n) (mC - (k + 1)) (k + 1) j2) (fun xs j => instP4 ws n fin (tm, tr) (bm, br) sats ((l ++ [x]) ++ xs) j)) := Lib.hid (fun x j2 h => by
            rw [HQ.out, show mC - k = (mC - (k + 1)) + 1 by omega]
            exact upP_goK (f := fun _ => custP ws n) (k := k) h l (fun xs j => instP4 ws n fin (tm, tr) (bm, br) sats xs j))
          have HBad : Hid (∀ e, custP ws n q = .inr e → instP ws n = .inr e) := Lib.hid (fun e h => by
            rw [HQ.out, show mC - k = (mC - (k + 1)) + 1 by omega]
            exact upP_bad (f := fun _ => custP ws n) (k := k) h _)
          clear HQ
          have hl : l.length = k := HL.out
          replace hl := Lib.hid hl
          have c5 := (HB.out.cells 6 _ rfl).1
          have HBd := Lib.hid HB.out.drew
          go_upto_region 12 with fail
          refine wp_region_N (fun j => decide (j < 6)) (fun wz => wz.cell? ⟨bx, 6, none⟩ = some (.slice sa l.length sc)) (by kernel_rfl) (by exact c5) (fun hShut hHeld => ?_)
          refine wpAnyN_take_0 (v := ?v4n) ?_ ?_ ?_ ?_ ?_ ?hy4n ?_ ?_ ?_
          case hy4n =>
            refine Or.inl ⟨by rfl, ?_⟩
            intro w hSw
            try dsimp only at hSw
            go_simp
            try with_reducible rfl
          · kernel_rfl
          · kernel_rfl
          · kernel_rfl
          · kernel_rfl
          · exact fun _ _ _ h => h
          · exact hHeld
          · exact hShut
          clear hShut
          intro hShut
          try simp only [Act.put, List.setIfInBounds_toArray, List.set_cons_zero, List.set_cons_succ]
          refine wpAnyN_take_1 (v := ?v5n) ?_ ?_ ?_ ?_ ?_ ?hy5n ?_ ?_ ?_
          case hy5n =>
            refine Or.inl ⟨by rfl, ?_⟩
            intro w hSw
            try dsimp only at hSw
            go_simp
            try with_reducible rfl
          · kernel_rfl
          · kernel_rfl
          · kernel_rfl
          · kernel_rfl
          · exact fun _ _ _ h => h
          · exact hHeld
          · exact hShut
          clear hShut
          intro hShut
          try simp only [Act.put, List.setIfInBounds_toArray, List.set_cons_zero, List.set_cons_succ]
          refine wpAnyN_take_2 (v := ?v6n) ?_ ?_ ?_ ?_ ?_ ?hy6n ?_ ?_ ?_
          case hy6n =>
            refine Or.inl ⟨by rfl, ?_⟩
            intro w hSw
            try dsimp only at hSw
            go_simp
            try with_reducible rfl
          · kernel_rfl
          · kernel_rfl
          · kernel_rfl
          · kernel_rfl
          · exact fun _ _ _ h => h
          · exact hHeld
          · exact hShut
          clear hShut
          intro hShut
          try simp only [Act.put, List.setIfInBounds_toArray, List.set_cons_zero, List.set_cons_succ]
          refine wpAnyN_one_3 (by kernel_rfl) (by exact hShut) (fun K hK => ?_)
          go_simp
          refine (cust_any p A C ws q n hsz _ (by exact HBd.out.R)).mono ?_
          rintro e w8 ⟨hG, ⟨x, q2, hr, rfl, hR⟩ | ⟨a, c, hr, rfl⟩⟩
          rotate_left
          · have hE := Lib.hid (HBd.out.chg.grownAny hG (fun g e => .inl (.inl (by injection e with e; exact e.symm))))
            have hq := Lib.hid (HBad.out _ hr)
            clear hG hr
            unfold PanEnd
            go_wp2_with fail
            exact ⟨rfl, .inr ⟨a, c, rfl, hq.out, hE.out⟩⟩
          have HB5 := Lib.hid (HBd.out.moved hR hG hne hp)
          have HQ5 := Lib.hid (HGo.out _ _ hr)
          clear hG hr hR HGo HBad HBd HB c5
          have c5 := (HB5.out.cells 6 _ rfl).1
          go_wp2_with fail
          refine hK.out _ _ (fun _ => (by exact c5)) (fun hH hS2 => ?_)
          clear hK K hHeld hShut
          have hShut := hS2
          clear hS2
          have hHeld := hH rfl
          clear hH
          try simp only [Act.put, List.setIfInBounds_toArray, List.set_cons_zero, List.set_cons_succ]
          refine wpAnyN_one_4 (by kernel_rfl) (by exact hShut) (fun K hK => ?_)
          go_simp
          refine hK.out _ _ (fun _ => (by exact keep_cell ((Below.refl _ _).alloc (Nat.le_refl _) _) c5)) (fun hH hS2 => ?_)
          clear hK K hHeld hShut
          have hShut := hS2
          clear hS2
          have hHeld := hH rfl
          clear hH
          try simp only [Act.put, List.setIfInBounds_toArray, List.set_cons_zero, List.set_cons_succ]
          have hw8 : w1.heap.size ≤ w8.heap.size := HB5.out.chg.size
          have HOWN := Lib.hid (HB5.out.o6.alloc (.cells #[.int .i64 x.load, .int .i64 x.opn, .int .i64 x.close, .int .i64 x.stay] 66))
          have HNEW : Hid (∀ (q : Nat) (u : Value), [.int .i64 x.load, .int .i64 x.opn, .int .i64 x.close, .int .i64 x.stay][q]? = some u → (w8.alloc (.cells #[.int .i64 x.load, .int .i64 x.opn, .int .i64 x.close, .int .i64 x.stay] 66)).cell? ((⟨w8.heap.size, 0, none⟩ : Addr).add q) = some u) := Lib.hid (fun q u hu => cells_new _ _ _ q u (by simpa using hu))
          refine wpAnyN_one_5 (by kernel_rfl) (by exact hShut) (fun K hK => ?_)
          refine if_true_P (by rfl) ?_
          refine wp_append_own _ (.tmp 35) (.tmp 38) 26 rfl w1.heap.size 66 ic (.agg #[.int .i64 0, .int .i64 0, .int .i64 0, .int .i64 0]) 4 32 Try.underlying26 hic hc0 hc1 hc2 rfl (by decide) (.slice sa l.length sc) l.length (l.flatMap custV) (by first | rfl | simp [Act.eval, Act.put]) (by first | exact HOWN.out | exact HOWN.out.drew | exact HOWN.out.drew.drew) ⟨w8.heap.size, 0, none⟩ 1 1 [.int .i64 x.load, .int .i64 x.opn, .int .i64 x.close, .int .i64 x.stay] (by first | rfl | simp [Act.eval, Act.put]) rfl HNEW.out (fun x hx => by simp at hx; rcases hx with rfl | rfl | rfl | rfl <;> rfl) (by have := hl.out; unfold maxLen; omega) (by have := hl.out; omega) (by show w1.heap.size ≤ (w8.alloc _).heap.size; simp; omega) ?_
          intro v' w9 hown2 hgrow _
          obtain ⟨A', C', hv'⟩ := own_val hown2
          subst hv'
          have hgrow2 : (w8.alloc (.cells #[.int .i64 x.load, .int .i64 x.opn, .int .i64 x.close, .int .i64 x.stay] 66)).grownBy w9 (Value.slice sa l.length sc).ownBlock := by first | exact hgrow | exact grown_undrewP hgrow | exact grown_undrewP (grown_undrewP hgrow)
          obtain ⟨d5, f5, HZ⟩ := HB5.out.cust hne hbx hp x _ hown2 hgrow2
          replace HZ := Lib.hid HZ
          clear hown2 hgrow hgrow2 HOWN HNEW
          refine hK.out _ _ (fun _ => (by exact d5)) (fun hH hS2 => ?_)
          clear hK K hHeld hShut
          have hShut := hS2
          clear hS2
          have hHeld := hH rfl
          clear hH
          try simp only [Act.put, List.setIfInBounds_toArray, List.set_cons_zero, List.set_cons_succ]
          refine wpAnyN_one_6 (by kernel_rfl) (by exact hShut) (fun K hK => ?_)
          go_simp
          refine hK.out _ _ (fun h => absurd h (by decide)) (fun _ hS2 => ?_)
          clear hK K hShut
          have hShut := hS2
          clear hS2
          try simp only [Act.put, List.setIfInBounds_toArray, List.set_cons_zero, List.set_cons_succ]
          refine wpAnyN_one_7 (by kernel_rfl) (by exact hShut) (fun K hK => ?_)
          go_simp
          refine hK.out _ _ (fun h => absurd h (by decide)) (fun _ hS2 => ?_)
          clear hK K hShut
          have hShut := hS2
          clear hS2
          try simp only [Act.put, List.setIfInBounds_toArray, List.set_cons_zero, List.set_cons_succ]
          refine wpAnyN_done (by kernel_rfl) ?_ _
          clear hShut hHeld
          go_wp2_with fail
          go_roundw
          case rel => exact ⟨k + 1, q2, l ++ [x], A', C', by omega, by go_num, Lib.hid (by rw [List.length_append, hl.out]; rfl), HQ5, HZ.out⟩
          case measure => simp [intOf]; omega
        · obtain rfl : k = mC := by omega
          have hl2 : l.length ≤ 48 := by have := HL.out; omega
          replace HQ : Hid (instP ws n = instP4 ws n fin (tm, tr) (bm, br) sats l q) := Lib.hid (by rw [HQ.out, Nat.sub_self, upP_endK])
          clear HL
          replace HQ : Hid (instP ws n = bindP (matP ws n sCost (1 + sats.length + l.length) q) fun co i => bindP (matP ws n sTime (1 + sats.length + l.length) i) fun ti i => bindP (mustP ws n sEnd i) fun _ i => .inl (⟨fin, tm, tr, bm, br, sats, l, co, ti⟩, i)) := Lib.hid HQ.out
          go_upto_region 14 with fail
          have NN := Lib.hid (rfl : nodesN ⟨fin, tm, tr, bm, br, sats, l, [], []⟩ = 1 + sats.length + l.length)
          obtain ⟨c0, f0⟩ := HB.out.cells 0 _ rfl
          obtain ⟨c1, f1⟩ := HB.out.cells 1 _ rfl
          obtain ⟨c2, f2⟩ := HB.out.cells 2 _ rfl
          obtain ⟨c3, f3⟩ := HB.out.cells 3 _ rfl
          obtain ⟨c4, f4⟩ := HB.out.cells 4 _ rfl
          obtain ⟨c5, f5⟩ := HB.out.cells 5 _ rfl
          obtain ⟨c6, f6⟩ := HB.out.cells 6 _ rfl
          obtain ⟨c7, f7⟩ := HB.out.cells 7 _ rfl
          obtain ⟨c8, f8⟩ := HB.out.cells 8 _ rfl
          go_wp2_with fail
          refine (nodes_below ⟨fin, tm, tr, bm, br, sats, l, [], []⟩ ⟨ha, hc, sa, sc, none, 0, none, 0⟩ _ (by show sats.length ≤ 1000000; omega) (by show l.length ≤ 1000000; omega)).mono ?_
          rintro e w12a ⟨rfl, hbn⟩
          replace HB := Lib.hid (HB.out.below hbn)
          clear hbn c0 c1 c2 c3 c4 c5 c6 c7 c8 f0 f1 f2 f3 f4 f5 f6 f7 f8
          go_wp2_with fail
          refine (prow_any p A C ws q n sCost (nodesN ⟨fin, tm, tr, bm, br, sats, l, [], []⟩) (by show 1 + sats.length + l.length ≤ 1000; omega) hsz _ HB.out.R).mono ?_
          rintro e w12 ⟨hG, ⟨co, i10, oa, oc, h7, hr, rfl, hR, hO⟩ | ⟨a, c, hr, rfl⟩⟩
          rotate_left
          · have hE := Lib.hid (HB.out.chg.grownAny hG (fun g e => .inl (.inl (by injection e with e; exact e.symm))))
            have hq := Lib.hid (bind_bad HQ.out hr)
            clear hG hr
            unfold PanEnd
            go_wp2_with fail
            exact ⟨rfl, .inr ⟨a, c, rfl, hq.out, hE.out⟩⟩
          have hO2 := Lib.hid (hO.base HB.out.chg.size)
          replace HB := Lib.hid (HB.out.moved hR hG hne hp)
          replace HQ := Lib.hid (bind_step HQ.out hr)
          clear hG hr hR hO
          obtain ⟨c7, f7⟩ := HB.out.cells 7 _ rfl
          replace HB := Lib.hid (HB.out.cost hne hbx hO2.out)
          clear hO2
          go_upto_region 15 with fail
          clear c7 f7
          generalize w12.setCell ⟨bx, 7, none⟩ (.slice oa co.length oc) = v12 at *
          have NN := Lib.hid (rfl : nodesN ⟨fin, tm, tr, bm, br, sats, l, co, []⟩ = 1 + sats.length + l.length)
          obtain ⟨c0, f0⟩ := HB.out.cells 0 _ rfl
          obtain ⟨c1, f1⟩ := HB.out.cells 1 _ rfl
          obtain ⟨c2, f2⟩ := HB.out.cells 2 _ rfl
          obtain ⟨c3, f3⟩ := HB.out.cells 3 _ rfl
          obtain ⟨c4, f4⟩ := HB.out.cells 4 _ rfl
          obtain ⟨c5, f5⟩ := HB.out.cells 5 _ rfl
          obtain ⟨c6, f6⟩ := HB.out.cells 6 _ rfl
          obtain ⟨c7, f7⟩ := HB.out.cells 7 _ rfl
          obtain ⟨c8, f8⟩ := HB.out.cells 8 _ rfl
          go_wp2_with fail
          refine (nodes_below ⟨fin, tm, tr, bm, br, sats, l, co, []⟩ ⟨ha, hc, sa, sc, oa, oc, none, 0⟩ _ (by show sats.length ≤ 1000000; omega) (by show l.length ≤ 1000000; omega)).mono ?_
          rintro e w13a ⟨rfl, hbn⟩
          replace HB := Lib.hid (HB.out.below hbn)
          clear hbn c0 c1 c2 c3 c4 c5 c6 c7 c8 f0 f1 f2 f3 f4 f5 f6 f7 f8
          go_wp2_with fail
          refine (prow_any p A C ws i10 n sTime (nodesN ⟨fin, tm, tr, bm, br, sats, l, co, []⟩) (by show 1 + sats.length + l.length ≤ 1000; omega) hsz _ HB.out.R).mono ?_
          rintro e w13 ⟨hG, ⟨ti, i11, ta, tc, h8, hr, rfl, hR, hO⟩ | ⟨a, c, hr, rfl⟩⟩
          rotate_left
          · have hE := Lib.hid (HB.out.chg.grownAny hG (fun g e => .inl (.inl (by injection e with e; exact e.symm))))
            have hq := Lib.hid (bind_bad HQ.out hr)
            clear hG hr
            unfold PanEnd
            go_wp2_with fail
            exact ⟨rfl, .inr ⟨a, c, rfl, hq.out, hE.out⟩⟩
          have hO2 := Lib.hid (hO.base HB.out.chg.size)
          replace HB := Lib.hid (HB.out.moved hR hG hne hp)
          replace HQ := Lib.hid (bind_step HQ.out hr)
          clear hG hr hR hO
          obtain ⟨c8, f8⟩ := HB.out.cells 8 _ rfl
          replace HB := Lib.hid (HB.out.time hne hbx hO2.out)
          clear hO2
          go_wp2_with fail
          clear c8 f8
          generalize w13.setCell ⟨bx, 8, none⟩ (.slice ta ti.length tc) = v13 at *
          refine (must_any p A C ws i11 n sEnd _ HB.out.R).mono ?_
          rintro e w14 ⟨hG, ⟨_, i12, hr, rfl, hR⟩ | ⟨a, c, hr, rfl⟩⟩
          rotate_left
          · have hE := Lib.hid (HB.out.chg.grownAny hG (fun g e => .inl (.inl (by injection e with e; exact e.symm))))
            have hq := Lib.hid (bind_bad HQ.out hr)
            clear hG hr
            unfold PanEnd
            go_wp2_with fail
            exact ⟨rfl, .inr ⟨a, c, rfl, hq.out, hE.out⟩⟩
          replace HB := Lib.hid (HB.out.moved hR hG hne hp)
          replace HQ := Lib.hid (bind_step HQ.out hr)
          clear hG hr hR
          go_wp2_with fail
          go_end0
          exact .inl ⟨i12, _, _, h7, h8, rfl, HQ.out, HB.out⟩
end Go.Proofs.Ytljcpgeggbbmfaa
