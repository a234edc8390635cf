/-
  The walk of wharfagelaw12.Text: an instance's words, one behind the other (layer 12).
-/
import Derived.Test.YtljcpgeggbbmfaaInstT3
import Derived.Test.YtljcpgeggbbmfaaRefText
namespace Go.Proofs.Ytljcpgeggbbmfaa
set_option linter.unusedVariables false
set_option linter.unusedSimpArgs false
open Go.RowKit
theorem num12 (n : Int) (hn : I64 n) (w : World) : Calls Try.prog 22 #[.int .i64 n] w fun e w' => e = .returned (.string (nT n)) ∧ w' = w := (refText_any n w hn).mono fun e w' ⟨he, hw⟩ => ⟨he, hw.symm⟩
theorem num_t {n : Int} {w : World} {T : ByteArray} (h : Calls Try.prog 22 #[.int .i64 n] w fun e w' => e = .returned (.string (nT n)) ∧ w' = w) (hT : nT n = T) : Calls Try.prog 22 #[.int .i64 n] w fun e w' => e = .returned (.string T) ∧ w' = w := by rw [← hT]; exact h
theorem i64_of {n : Int} (h1 : 0 ≤ n) (h2 : n ≤ 1000000000) : I64 n := by unfold I64; omega
theorem fold_snoc {α : Type} (f : α → ByteArray) (a : ByteArray) (l : List α) {k : Nat} (h : k < l.length) : foldTx f a (l.take (k + 1)) = foldTx f a (l.take k) ++ f l[k] := by
  unfold foldTx; rw [List.take_succ_eq_append_getElem h, List.foldl_append]; rfl
theorem mat_snoc (a : ByteArray) (ls : List (List Int)) {k : Nat} (h : k < ls.length) : matTx a (ls.take (k + 1)) = rowTx (matTx a (ls.take k)) ls[k] := by
  unfold matTx; rw [List.take_succ_eq_append_getElem h, List.foldl_append]; rfl
theorem fold_size {α : Type} (f : α → ByteArray) (c : Nat) (l : List α) (h : ∀ x ∈ l, (f x).size ≤ c) : ∀ a : ByteArray, (foldTx f a l).size ≤ a.size + c * l.length := by
  induction l with
  | nil => intro a; exact Nat.le_refl _
  | cons x l ih =>
    intro a
    have h1 := ih (fun y hy => h y (List.mem_cons_of_mem _ hy)) (a ++ f x)
    have h2 := h x (List.mem_cons_self)
    rw [ByteArray.size_append] at h1
    rw [List.length_cons, Nat.mul_succ]
    show (foldTx f (a ++ f x) l).size ≤ _
    omega
theorem b32_size : b32.size = 1 := rfl
theorem satTx_size (x : SatD) : (satTx x).size ≤ 42 := by
  have := nT_size x.room; have := nT_size x.hold
  unfold satTx
  simp only [ByteArray.size_append, b32_size]; omega
theorem custTx_size (x : CustD) : (custTx x).size ≤ 84 := by
  have := nT_size x.load; have := nT_size x.opn; have := nT_size x.close; have := nT_size x.stay
  unfold custTx
  simp only [ByteArray.size_append, b32_size]; omega
theorem cellTx_size (x : Int) : (cellTx x).size ≤ 21 := by
  have := nT_size x
  unfold cellTx
  simp only [ByteArray.size_append, b32_size]; omega
theorem row_size (a : ByteArray) (r : List Int) : (rowTx a r).size ≤ a.size + 21 * r.length := fold_size cellTx 21 r (fun x _ => cellTx_size x) a
theorem mat_size (m : Nat) (ls : List (List Int)) (h : ∀ r ∈ ls, r.length ≤ m) : ∀ a : ByteArray, (matTx a ls).size ≤ a.size + 21 * m * ls.length := by
  induction ls with
  | nil => intro a; exact Nat.le_refl _
  | cons r ls ih =>
    intro a
    have h1 := ih (fun y hy => h y (List.mem_cons_of_mem _ hy)) (rowTx a r)
    have h2 := h r (List.mem_cons_self)
    have h3 := row_size a r
    rw [List.length_cons, Nat.mul_succ]
    show (matTx (rowTx a r) ls).size ≤ _
    omega
theorem headTx_size (X : InstD) : (headTx X).size ≤ 158 := by
  have := nT_size X.fin; have := nT_size X.tm; have := nT_size X.tr; have := nT_size X.bm; have := nT_size X.br; have := nT_size (X.sats.length : Int)
  unfold headTx
  simp only [ByteArray.size_append, b32_size]
  have s0 : (⟨#[119, 104, 97, 114, 102, 97, 103, 101, 32]⟩ : ByteArray).size = 9 := rfl
  have s1 : (⟨#[32, 116, 114, 117, 99, 107, 115, 32]⟩ : ByteArray).size = 8 := rfl
  have s2 : (⟨#[32, 98, 105, 107, 101, 115, 32]⟩ : ByteArray).size = 7 := rfl
  have s3 : (⟨#[32, 115, 97, 116, 101, 108, 108, 105, 116, 101, 115, 32]⟩ : ByteArray).size = 12 := rfl
  rw [s0, s1, s2, s3]; omega
theorem take_len {α : Type} (l : List α) (k m : Nat) (h : l.length ≤ m) : (l.take k).length ≤ m := by rw [List.length_take]; omega
theorem sats_size (X : InstD) (h : X.sats.length ≤ 12) (k : Nat) : (foldTx satTx (headTx X) (X.sats.take k)).size ≤ 662 := by
  have h1 := fold_size satTx 42 (X.sats.take k) (fun x _ => satTx_size x) (headTx X)
  have h2 := headTx_size X
  have h3 := take_len X.sats k 12 h
  omega
theorem tx2_size (X : InstD) (h : X.sats.length ≤ 12) : (tx2 X).size ≤ 693 := by
  have h1 := sats_size X h X.sats.length
  rw [List.take_length] at h1
  have h2 := nT_size (X.custs.length : Int)
  unfold tx2 tx1
  simp only [ByteArray.size_append]
  have s0 : (⟨#[32, 99, 117, 115, 116, 111, 109, 101, 114, 115, 32]⟩ : ByteArray).size = 11 := rfl
  rw [s0]; omega
theorem custs_size (X : InstD) (h : X.sats.length ≤ 12) (hc : X.custs.length ≤ 48) (k : Nat) : (foldTx custTx (tx2 X) (X.custs.take k)).size ≤ 4725 := by
  have h1 := fold_size custTx 84 (X.custs.take k) (fun x _ => custTx_size x) (tx2 X)
  have h2 := tx2_size X h
  have h3 := take_len X.custs k 48 hc
  omega
theorem take_rows (ls : List (List Int)) (k : Nat) (h : ∀ r ∈ ls, r.length ≤ 61) : ∀ r ∈ ls.take k, r.length ≤ 61 := fun r hr => h r (List.mem_of_mem_take hr)
theorem mats_size (a : ByteArray) (ls : List (List Int)) (hl : ls.length ≤ 61) (h : ∀ r ∈ ls, r.length ≤ 61) (k : Nat) : (matTx a (ls.take k)).size ≤ a.size + 78141 := by
  have h1 := mat_size 61 (ls.take k) (take_rows ls k h) a
  have h3 := take_len ls k 61 hl
  have : 21 * 61 * (ls.take k).length ≤ 21 * 61 * 61 := Nat.mul_le_mul_left _ h3
  omega
theorem below_new (w : World) (o : Obj) : Below w.heap.size w (w.alloc o) := (Below.refl _ _).alloc (Nat.le_refl _) o
theorem below_dr (w : World) (n : Nat) : Below w.heap.size w (w.drewN n) := below_drewN (Below.refl _ _) n
/-- a world behind another one: what lies below g is as it was. -/
structure On (g : Nat) (w w1 : World) : Prop where
  b : Below g w w1
  le : g ≤ w1.heap.size
theorem On.go {g : Nat} {w w1 w2 : World} (h : On g w w1) (hb : Below w1.heap.size w1 w2) : On g w w2 := ⟨h.b.trans (hb.mono h.le), Nat.le_trans h.le hb.size⟩
theorem On.alloc {g : Nat} {w w1 : World} (h : On g w w1) (o : Obj) : On g w (w1.alloc o) := h.go (below_new w1 o)
theorem On.drewN {g : Nat} {w w1 : World} (h : On g w w1) (n : Nat) : On g w (w1.drewN n) := h.go (below_drewN (Below.refl _ _) n)
set_option maxHeartbeats 16000000 in
set_option maxRecDepth 100000 in
theorem text12_any (X : InstD) (h : HdD) (K : ReadOk X) (w : World) (H : InstIs w X h) :
    Calls Try.prog 19 #[.agg (instC X h)] w fun e w' => e = .returned (.string (textI X)) ∧ Below w.heap.size w w' := by
  obtain ⟨sa, sc, ca, cc, oa, oc, ta, tc⟩ := h
  obtain ⟨H1, H2, H3, H4, hls, hlc, hlo, hln⟩ := H
  have k12 := K.s2
  have k48 := K.c2
  have n61 : nodesN X ≤ 61 := by unfold nodesN; omega
  have lo61 : X.cost.length ≤ 61 := by rw [K.o]; exact n61
  have lt61 : X.time.length ≤ 61 := by rw [K.t]; exact n61
  have ro61 : ∀ r ∈ X.cost, r.length ≤ 61 := fun r hr => by rw [K.ro r hr]; exact n61
  have rt61 : ∀ r ∈ X.time, r.length ≤ 61 := fun r hr => by rw [K.rt r hr]; exact n61
  have hsat := Lib.hid K.sat
  have hcust := Lib.hid K.cust
  have hco := Lib.hid K.co
  have hti := Lib.hid K.ti
  have i1 : I64 X.fin := i64_of K.fin.1 K.fin.2
  have i2 : I64 X.tm := i64_of (by have := K.tm; omega) (by have := K.tm; omega)
  have i3 : I64 X.tr := i64_of K.tr.1 K.tr.2
  have i4 : I64 X.bm := i64_of (by have := K.bm; omega) (by have := K.bm; omega)
  have i5 : I64 X.br := i64_of K.br.1 K.br.2
  have i6 : I64 (X.sats.length : Int) := i64_of (by omega) (by omega)
  have hF := Lib.hid num12
  replace i1 := Lib.hid i1
  replace i2 := Lib.hid i2
  replace i3 := Lib.hid i3
  replace i4 := Lib.hid i4
  replace i5 := Lib.hid i5
  replace i6 := Lib.hid i6
  have hF7 := Lib.hid (num12 (X.custs.length : Int) (i64_of (by omega) (by omega)))
  have z1 := nT_size X.fin
  have z2 := nT_size X.tm
  have z3 := nT_size X.tr
  have z4 := nT_size X.bm
  have z5 := nT_size X.br
  have z6 := nT_size (X.sats.length : Int)
  have HD : headTx X = (((((((((((⟨#[119, 104, 97, 114, 102, 97, 103, 101, 32]⟩ : ByteArray) ++ nT X.fin) ++ ⟨#[32, 116, 114, 117, 99, 107, 115, 32]⟩) ++ nT X.tm) ++ ⟨#[32]⟩) ++ nT X.tr) ++ ⟨#[32, 98, 105, 107, 101, 115, 32]⟩) ++ nT X.bm) ++ ⟨#[32]⟩) ++ nT X.br) ++ ⟨#[32, 115, 97, 116, 101, 108, 108, 105, 116, 101, 115, 32]⟩) ++ nT (X.sats.length : Int) := rfl
  have hE0 := Lib.hid (sats_size X k12)
  have hE1 : Hid (foldTx satTx (headTx X) X.sats = tx1 X) := Lib.hid rfl
  have hE2 : Hid (tx2 X = tx1 X ++ ((⟨#[32, 99, 117, 115, 116, 111, 109, 101, 114, 115, 32]⟩ : ByteArray) ++ nT (X.custs.length : Int))) := Lib.hid rfl
  have hE3 := Lib.hid (custs_size X k12 k48)
  have hE4 : Hid (foldTx custTx (tx2 X) X.custs = tx3 X) := Lib.hid rfl
  have hE5 : Hid (matTx (tx3 X ++ ⟨#[32, 99, 111, 115, 116]⟩) X.cost = tx4 X) := Lib.hid rfl
  have hE6 : Hid (matTx (tx4 X ++ ⟨#[32, 116, 105, 109, 101]⟩) X.time = tx5 X) := Lib.hid rfl
  have hE7 : Hid (textI X = tx5 X ++ ⟨#[32, 101, 110, 100]⟩) := Lib.hid rfl
  clear K
  have BX := Boxed.new w X ⟨sa, sc, ca, cc, oa, oc, ta, tc⟩ 29
  have BW := (Below.refl w.heap.size w).alloc (Nat.le_refl _) (.cells (instC X ⟨sa, sc, ca, cc, oa, oc, ta, tc⟩) 29)
  dsimp only [instC] at H1 H2 H3 H4 BX BW ⊢
  replace H1 := Lib.hid (H1.below BW)
  replace H2 := Lib.hid (H2.below BW)
  replace H3 := Lib.hid (H3.below BW)
  replace H4 := Lib.hid (H4.below BW)
  replace BX := Lib.hid BX
  replace BW := Lib.hid (On.mk BW BW.size)
  generalize hT1 : nT X.fin = T1 at z1 HD
  replace hT1 := Lib.hid hT1
  generalize hT2 : nT X.tm = T2 at z2 HD
  replace hT2 := Lib.hid hT2
  generalize hT3 : nT X.tr = T3 at z3 HD
  replace hT3 := Lib.hid hT3
  generalize hT4 : nT X.bm = T4 at z4 HD
  replace hT4 := Lib.hid hT4
  generalize hT5 : nT X.br = T5 at z5 HD
  replace hT5 := Lib.hid hT5
  generalize hT6 : nT (X.sats.length : Int) = T6 at z6 HD
  replace hT6 := Lib.hid hT6
  replace HD := Lib.hid HD
  have y1 : ¬ 9223372036854775807 < 9 + T1.size := by omega
  have y2 : ¬ 9223372036854775807 < 9 + T1.size + 8 := by omega
  have y3 : ¬ 9223372036854775807 < 9 + T1.size + 8 + T2.size := by omega
  have y4 : ¬ 9223372036854775807 < 9 + T1.size + 8 + T2.size + 1 := by omega
  have y5 : ¬ 9223372036854775807 < 9 + T1.size + 8 + T2.size + 1 + T3.size := by omega
  have y6 : ¬ 9223372036854775807 < 9 + T1.size + 8 + T2.size + 1 + T3.size + 7 := by omega
  have y7 : ¬ 9223372036854775807 < 9 + T1.size + 8 + T2.size + 1 + T3.size + 7 + T4.size := by omega
  have y8 : ¬ 9223372036854775807 < 9 + T1.size + 8 + T2.size + 1 + T3.size + 7 + T4.size + 1 := by omega
  have y9 : ¬ 9223372036854775807 < 9 + T1.size + 8 + T2.size + 1 + T3.size + 7 + T4.size + 1 + T5.size := by omega
  have y10 : ¬ 9223372036854775807 < 9 + T1.size + 8 + T2.size + 1 + T3.size + 7 + T4.size + 1 + T5.size + 12 := by omega
  have y11 : ¬ 9223372036854775807 < 9 + T1.size + 8 + T2.size + 1 + T3.size + 7 + T4.size + 1 + T5.size + 12 + T6.size := by omega
  clear z1 z2 z3 z4 z5 z6
  go_enter Try.func19, Try.ntmps19
  go_upto_region 1 with fail
  go_cut [3] (fun v wx => v = .string (headTx X) ∧ ∃ nq, wx = (w.alloc (.cells #[.int .i64 X.fin, .int .i64 X.tm, .int .i64 X.tr, .int .i64 X.bm, .int .i64 X.br, .slice sa X.sats.length sc, .slice ca X.custs.length cc, .slice oa X.cost.length oc, .slice ta X.time.length tc] 29)).drewN nq)
  case first =>
    go_quiet ((go_at_call 22; exact Calls.quiet_of_same (num_t (hF.out _ (by first | exact i1.out | exact i2.out | exact i3.out | exact i4.out | exact i5.out | exact i6.out) _) (by first | exact hT1.out | exact hT2.out | exact hT3.out | exact hT4.out | exact hT5.out | exact hT6.out))))
    go_wp2_with fail
    go_meet
    exact ⟨by rw [HD.out], _, rfl⟩
  case rest =>
  obtain ⟨rfl, nq, rfl⟩ := hcut
  clear y1 y2 y3 y4 y5 y6 y7 y8 y9 y10 y11 i1 i2 i3 i4 i5 i6 hT1 hT2 hT3 hT4 hT5 hT6 HD T1 T2 T3 T4 T5 T6

  have hD := below_dr (w.alloc (.cells #[.int .i64 X.fin, .int .i64 X.tm, .int .i64 X.tr, .int .i64 X.bm, .int .i64 X.br, .slice sa X.sats.length sc, .slice ca X.custs.length cc, .slice oa X.cost.length oc, .slice ta X.time.length tc] 29)) nq
  replace H1 := Lib.hid (H1.out.below hD)
  replace H2 := Lib.hid (H2.out.below hD)
  replace H3 := Lib.hid (H3.out.below hD)
  replace H4 := Lib.hid (H4.out.below hD)
  replace BX := Lib.hid (BX.out.below hD)
  replace BW := Lib.hid (BW.out.go hD)
  clear hD
  generalize (w.alloc (.cells #[.int .i64 X.fin, .int .i64 X.tm, .int .i64 X.tr, .int .i64 X.bm, .int .i64 X.br, .slice sa X.sats.length sc, .slice ca X.custs.length cc, .slice oa X.cost.length oc, .slice ta X.time.length tc] 29)).drewN nq = W at *
  have d5 := BX.out.2 5 _ rfl
  generalize hg0 : w.heap.size = g0 at *
  replace hg0 := Lib.hid hg0
  go_wp2_with fail
  clear d5
  go_loopw [3, 51] (fun v i wr => ∃ k : Nat, k ≤ X.sats.length ∧ i = .int .i64 k ∧ v = .string (foldTx satTx (headTx X) (X.sats.take k)) ∧ Below W.heap.size W wr) (fun _ i _ => X.sats.length - (intOf i).toNat)
  case atStart => exact ⟨0, Nat.zero_le _, rfl, rfl, Below.refl _ _⟩
  case round =>
    obtain ⟨k, hk, rfl, rfl, hb⟩ := hrel
    by_cases hlt : k < X.sats.length
    · obtain ⟨b, off, rfl, hc1, hc2⟩ := (H1.out.below hb).sat hlt
      have HS := fold_snoc satTx (headTx X) X.sats hlt
      have zs := hE0.out k
      obtain ⟨⟨i1, i2⟩, i3, i4⟩ := hsat.out X.sats[k] (List.getElem_mem hlt)
      have j1 := i64_of i1 i2
      have j2 := i64_of i3 i4
      have u1 := nT_size X.sats[k].room
      have u2 := nT_size X.sats[k].hold
      have hT : satTx X.sats[k] = (((⟨#[32]⟩ : ByteArray) ++ nT X.sats[k].room) ++ ⟨#[32]⟩) ++ nT X.sats[k].hold := rfl
      rw [hT] at HS
      clear hT i1 i2 i3 i4
      generalize X.sats[k] = x at *
      generalize hT1 : nT x.room = T1 at *
      generalize hT2 : nT x.hold = T2 at *
      replace hT1 := Lib.hid hT1
      replace hT2 := Lib.hid hT2
      have i1 := Lib.hid j1
      have i2 := Lib.hid j2
      clear j1 j2
      generalize foldTx satTx (headTx X) (X.sats.take k) = T at *
      replace HS := Lib.hid HS
      have y1 : ¬ 9223372036854775807 < 1 + T1.size := by omega
      have y2 : ¬ 9223372036854775807 < 1 + T1.size + 1 := by omega
      have y3 : ¬ 9223372036854775807 < 1 + T1.size + 1 + T2.size := by omega
      have y4 : ¬ 9223372036854775807 < T.size + (1 + T1.size + 1 + T2.size) := by omega
      clear zs u1 u2
      have hbz := Lib.hid hb
      clear hb
      go_upto_region 5 with fail
      go_quiet ((go_at_call 22; exact Calls.quiet_of_same (num_t (hF.out _ (by first | exact i1.out | exact i2.out) _) (by first | exact hT1.out | exact hT2.out))))
      go_wp2_with fail
      go_roundw
      case rel => exact ⟨k + 1, by omega, by go_num, by rw [HS.out], below_drewN (hbz.out.alloc hbz.out.size _) _⟩
      case measure => simp [intOf]; omega
    · obtain rfl : k = X.sats.length := by omega
      have zs := hE0.out X.sats.length
      rw [List.take_length, hE1.out] at zs ⊢
      have hE2' := hE2.out
      have uc := nT_size (X.custs.length : Int)
      have hF7' := hF7.out
      generalize tx1 X = T at *
      generalize nT (X.custs.length : Int) = T7 at hE2' uc hF7'
      clear hE2 hE1 hF7 hE0
      replace hE2' := Lib.hid hE2'
      replace hF7' := Lib.hid hF7'
      have y1 : ¬ 9223372036854775807 < 11 + T7.size := by omega
      have y2 : ¬ 9223372036854775807 < T.size + (11 + T7.size) := by omega
      clear zs uc
      replace H2 := Lib.hid (H2.out.below hb)
      replace H3 := Lib.hid (H3.out.below hb)
      replace H4 := Lib.hid (H4.out.below hb)
      replace BX := Lib.hid (BX.out.below hb)
      replace BW := Lib.hid (BW.out.go hb)
      have d6 := BX.out.2 6 _ rfl
      clear hb hlt hk H1
      go_wp2_with fail
      refine (hF7'.out _).mono ?_
      rintro e w9 ⟨rfl, rfl⟩
      go_wp2_with fail
      clear d6 y1 y2
      obtain ⟨W1, rfl⟩ : ∃ W1 : World, W1 = w9 := ⟨_, rfl⟩
      go_loopw [3, 77] (fun v i wr => ∃ k : Nat, k ≤ X.custs.length ∧ i = .int .i64 k ∧ v = .string (foldTx custTx (tx2 X) (X.custs.take k)) ∧ Below W1.heap.size W1 wr) (fun _ i _ => X.custs.length - (intOf i).toNat)
      case atStart => exact ⟨0, Nat.zero_le _, rfl, by rw [← hE2'.out]; rfl, Below.refl _ _⟩
      case round =>
        clear hE2' hF7'
        obtain ⟨k, hk, rfl, rfl, hb⟩ := hrel
        by_cases hlt : k < X.custs.length
        · obtain ⟨b, off, rfl, hc1, hc2, hc3, hc4⟩ := (H2.out.below hb).cust hlt
          have HS := fold_snoc custTx (tx2 X) X.custs hlt
          have zs := hE3.out k
          obtain ⟨⟨i1, i2⟩, ⟨i3, i4⟩, ⟨i5, i6⟩, i7, i8⟩ := hcust.out X.custs[k] (List.getElem_mem hlt)
          have j1 := i64_of (n := X.custs[k].load) (by omega) i2
          have j2 := i64_of i3 i4
          have j3 := i64_of (n := X.custs[k].close) (by omega) i6
          have j4 := i64_of i7 i8
          have u1 := nT_size X.custs[k].load
          have u2 := nT_size X.custs[k].opn
          have u3 := nT_size X.custs[k].close
          have u4 := nT_size X.custs[k].stay
          have hT : custTx X.custs[k] = ((((((((⟨#[32]⟩ : ByteArray) ++ nT X.custs[k].load) ++ ⟨#[32]⟩) ++ nT X.custs[k].opn) ++ ⟨#[32]⟩) ++ nT X.custs[k].close) ++ ⟨#[32]⟩) ++ nT X.custs[k].stay) := rfl
          rw [hT] at HS
          clear hT i1 i2 i3 i4 i5 i6 i7 i8
          generalize X.custs[k] = x at *
          generalize hT1 : nT x.load = T1 at *
          generalize hT2 : nT x.opn = T2 at *
          generalize hT3 : nT x.close = T3 at *
          generalize hT4 : nT x.stay = T4 at *
          replace hT1 := Lib.hid hT1
          replace hT2 := Lib.hid hT2
          replace hT3 := Lib.hid hT3
          replace hT4 := Lib.hid hT4
          have i1 := Lib.hid j1
          have i2 := Lib.hid j2
          have i3 := Lib.hid j3
          have i4 := Lib.hid j4
          clear j1 j2 j3 j4
          generalize foldTx custTx (tx2 X) (X.custs.take k) = T at *
          replace HS := Lib.hid HS
          have y1 : ¬ 9223372036854775807 < 1 + T1.size := by omega
          have y2 : ¬ 9223372036854775807 < 1 + T1.size + 1 := by omega
          have y3 : ¬ 9223372036854775807 < 1 + T1.size + 1 + T2.size := by omega
          have y4 : ¬ 9223372036854775807 < 1 + T1.size + 1 + T2.size + 1 := by omega
          have y5 : ¬ 9223372036854775807 < 1 + T1.size + 1 + T2.size + 1 + T3.size := by omega
          have y6 : ¬ 9223372036854775807 < 1 + T1.size + 1 + T2.size + 1 + T3.size + 1 := by omega
          have y7 : ¬ 9223372036854775807 < 1 + T1.size + 1 + T2.size + 1 + T3.size + 1 + T4.size := by omega
          have y8 : ¬ 9223372036854775807 < T.size + (1 + T1.size + 1 + T2.size + 1 + T3.size + 1 + T4.size) := by omega
          clear zs u1 u2 u3 u4
          have hbz := Lib.hid hb
          clear hb
          go_upto_region 11 with fail
          go_quiet ((go_at_call 22; exact Calls.quiet_of_same (num_t (hF.out _ (by first | exact i1.out | exact i2.out | exact i3.out | exact i4.out) _) (by first | exact hT1.out | exact hT2.out | exact hT3.out | exact hT4.out))))
          go_wp2_with fail
          go_roundw
          case rel => exact ⟨k + 1, by omega, by go_num, by rw [HS.out], below_drewN (hbz.out.alloc hbz.out.size _) _⟩
          case measure => simp [intOf]; omega
        · obtain rfl : k = X.custs.length := by omega
          have z3 := hE3.out X.custs.length
          rw [List.take_length, hE4.out] at z3 ⊢
          have z4 := mats_size (tx3 X ++ ⟨#[32, 99, 111, 115, 116]⟩) X.cost lo61 ro61 X.cost.length
          have z5 := mats_size (tx4 X ++ ⟨#[32, 116, 105, 109, 101]⟩) X.time lt61 rt61 X.time.length
          rw [List.take_length, hE5.out, ByteArray.size_append, show (⟨#[32, 99, 111, 115, 116]⟩ : ByteArray).size = 5 from rfl] at z4
          rw [List.take_length, hE6.out, ByteArray.size_append, show (⟨#[32, 116, 105, 109, 101]⟩ : ByteArray).size = 5 from rfl] at z5
          replace H3 := Lib.hid (H3.out.below hb)
          replace H4 := Lib.hid (H4.out.below hb)
          replace BX := Lib.hid (BX.out.below hb)
          replace BW := Lib.hid (BW.out.go hb)
          have d7 := BX.out.2 7 _ rfl
          have d8 := BX.out.2 8 _ rfl
          clear hb hlt hk H2 hE3
          obtain ⟨TN, hTN⟩ : ∃ TN : Nat → ByteArray, TN = fun k => match k with | 0 => tx3 X | 1 => tx4 X | _ => tx5 X := ⟨_, rfl⟩
          have t0 : tx3 X = TN 0 := (congrFun hTN 0).symm
          have t1 : tx4 X = TN 1 := (congrFun hTN 1).symm
          have t2 : tx5 X = TN 2 := (congrFun hTN 2).symm
          clear hTN
          rw [t0] at z3 z4 hE5 ⊢
          rw [t1] at z4 z5 hE5 hE6
          rw [t2] at z5 hE6 hE7
          clear t0 t1 t2 hE4
          go_wp2_with fail
          clear d7 d8
          have hN := Lib.hid (below_new wr (.cells #[.slice oa X.cost.length oc, .slice ta X.time.length tc] 27))
          have m0 : Hid ((wr.alloc (.cells #[.slice oa X.cost.length oc, .slice ta X.time.length tc] 27)).cell? ⟨wr.heap.size, 0, none⟩ = some (.slice oa X.cost.length oc)) := Lib.hid (cells_new wr #[.slice oa X.cost.length oc, .slice ta X.time.length tc] 27 0 _ rfl)
          have m1 : Hid ((wr.alloc (.cells #[.slice oa X.cost.length oc, .slice ta X.time.length tc] 27)).cell? ⟨wr.heap.size, 1, none⟩ = some (.slice ta X.time.length tc)) := Lib.hid (cells_new wr #[.slice oa X.cost.length oc, .slice ta X.time.length tc] 27 1 _ rfl)
          replace H3 := Lib.hid (H3.out.below hN.out)
          replace H4 := Lib.hid (H4.out.below hN.out)
          replace BW := Lib.hid (BW.out.go hN.out)
          clear hN
          generalize wr.alloc (.cells #[.slice oa X.cost.length oc, .slice ta X.time.length tc] 27) = W2 at *
          generalize wr.heap.size = g2 at *
          go_loopw [3, 109] (fun v i wr => ∃ k : Nat, k ≤ 2 ∧ i = .int .i64 k ∧ v = .string (TN k) ∧ Below W2.heap.size W2 wr) (fun _ i _ => 2 - (intOf i).toNat)
          case atStart => exact ⟨0, by omega, rfl, rfl, Below.refl _ _⟩
          case round =>
            obtain ⟨k, hk, rfl, rfl, hb⟩ := hrel
            rcases Nat.lt_or_ge k 2 with hlt | hge
            · rcases Nat.lt_or_ge k 1 with h01 | h01

              · obtain rfl : k = 0 := by omega
                have d0 := keep_cell hb m0.out
                have hR := Lib.hid (H3.out.below hb)
                have hbz := Lib.hid (keep_below (Below.refl _ _) hb)
                have zk : ¬ 9223372036854775807 < (TN 0).size + 5 := by omega
                clear hb
                go_wp2_with fail
                clear d0 zk
                have hN := Lib.hid (below_new wr (.cells #[.string ⟨#[32, 99, 111, 115, 116]⟩, .string ⟨#[32, 116, 105, 109, 101]⟩] 9))
                replace hR := Lib.hid (hR.out.below hN.out)
                replace hbz := Lib.hid (keep_below hbz.out hN.out)
                clear hN
                generalize wr.alloc (.cells #[.string ⟨#[32, 99, 111, 115, 116]⟩, .string ⟨#[32, 116, 105, 109, 101]⟩] 9) = W3 at *
                go_loop [3, 122] (fun v i => ∃ j : Nat, j ≤ X.cost.length ∧ i = .int .i64 j ∧ v = .string (matTx (TN 0 ++ ⟨#[32, 99, 111, 115, 116]⟩) (X.cost.take j))) (fun _ i => X.cost.length - (intOf i).toNat)
                case atStart => exact ⟨0, by omega, rfl, rfl⟩
                case round =>
                  obtain ⟨j, hj, rfl, rfl⟩ := hrel
                  by_cases hjl : j < X.cost.length
                  · obtain ⟨b, off, a, c, rfl, hc, hr, HA⟩ := hR.out.row hjl
                    have HS := Lib.hid (mat_snoc (TN 0 ++ ⟨#[32, 99, 111, 115, 116]⟩) X.cost hjl)
                    have zj := mats_size (TN 0 ++ ⟨#[32, 99, 111, 115, 116]⟩) X.cost lo61 ro61 j
                    rw [ByteArray.size_append, show (⟨#[32, 99, 111, 115, 116]⟩ : ByteArray).size = 5 from rfl] at zj
                    have hr61 := ro61 X.cost[j] (List.getElem_mem hjl)
                    have hv := Lib.hid (hco.out j X.cost[j] (List.getElem?_eq_getElem hjl))
                    replace HA := Lib.hid HA
                    generalize X.cost[j] = r at *
                    generalize matTx (TN 0 ++ ⟨#[32, 99, 111, 115, 116]⟩) (X.cost.take j) = T at *
                    go_wp2_with fail
                    go_loop [3, 128] (fun v i => ∃ q : Nat, q ≤ r.length ∧ i = .int .i64 q ∧ v = .string (rowTx T (r.take q))) (fun _ i => r.length - (intOf i).toNat)
                    case atStart => exact ⟨0, by omega, rfl, rfl⟩
                    case round =>
                      obtain ⟨q, hq, rfl, rfl⟩ := hrel
                      by_cases hql : q < r.length
                      · obtain ⟨b', off', rfl, hc'⟩ := HA.out.num hql
                        have HS2 := fold_snoc cellTx T r hql
                        have zq := row_size T (r.take q)
                        have zq2 := take_len r q 61 hr61
                        obtain ⟨v1, v2, _⟩ := hv.out q r[q] (List.getElem?_eq_getElem hql)
                        have G1 := num12 r[q] (i64_of v1 v2)
                        have u1 := nT_size r[q]
                        have hT : cellTx r[q] = (⟨#[32]⟩ : ByteArray) ++ nT r[q] := rfl
                        rw [hT] at HS2
                        clear hT v1 v2
                        generalize r[q] = n at *
                        generalize nT n = T1 at *
                        have HS3 : Hid (rowTx T (r.take (q + 1)) = rowTx T (r.take q) ++ (⟨#[32]⟩ ++ T1)) := Lib.hid HS2
                        clear HS2
                        generalize rowTx T (r.take q) = T2 at *
                        replace G1 := Lib.hid G1
                        have y1 : ¬ 9223372036854775807 < 1 + T1.size := by omega
                        have y2 : ¬ 9223372036854775807 < T2.size + (1 + T1.size) := by omega
                        clear zq zq2 u1 zj
                        go_wp2_with fail
                        refine (G1.out _).mono ?_
                        rintro e w9 ⟨rfl, rfl⟩
                        go_wp2_with fail
                        go_round
                        case rel => exact ⟨q + 1, by omega, by go_num, by rw [HS3.out]⟩
                        case measure => simp [intOf]; omega
                      · obtain rfl : q = r.length := by omega
                        go_wp2_with fail
                        go_round
                        case rel =>
                          refine ⟨_, _, _, _, ⟨j + 1, by omega, rfl, ?_⟩, rfl, rfl, rfl, by go_num⟩
                          rw [HS.out]
                        case measure => simp [intOf]; omega
                  · obtain rfl : j = X.cost.length := by omega
                    rw [List.take_length, hE5.out]
                    go_wp2_with fail
                    go_roundw
                    case rel => exact ⟨1, by omega, rfl, rfl, hbz.out⟩
                    case measure => simp [intOf]
              · obtain rfl : k = 1 := by omega
                have d0 := keep_cell hb m1.out
                have hR := Lib.hid (H4.out.below hb)
                have hbz := Lib.hid (keep_below (Below.refl _ _) hb)
                have zk : ¬ 9223372036854775807 < (TN 1).size + 5 := by omega
                clear hb
                go_wp2_with fail
                clear d0 zk
                have hN := Lib.hid (below_new wr (.cells #[.string ⟨#[32, 99, 111, 115, 116]⟩, .string ⟨#[32, 116, 105, 109, 101]⟩] 9))
                replace hR := Lib.hid (hR.out.below hN.out)
                replace hbz := Lib.hid (keep_below hbz.out hN.out)
                clear hN
                generalize wr.alloc (.cells #[.string ⟨#[32, 99, 111, 115, 116]⟩, .string ⟨#[32, 116, 105, 109, 101]⟩] 9) = W3 at *
                go_loop [3, 122] (fun v i => ∃ j : Nat, j ≤ X.time.length ∧ i = .int .i64 j ∧ v = .string (matTx (TN 1 ++ ⟨#[32, 116, 105, 109, 101]⟩) (X.time.take j))) (fun _ i => X.time.length - (intOf i).toNat)
                case atStart => exact ⟨0, by omega, rfl, rfl⟩
                case round =>
                  obtain ⟨j, hj, rfl, rfl⟩ := hrel
                  by_cases hjl : j < X.time.length
                  · obtain ⟨b, off, a, c, rfl, hc, hr, HA⟩ := hR.out.row hjl
                    have HS := Lib.hid (mat_snoc (TN 1 ++ ⟨#[32, 116, 105, 109, 101]⟩) X.time hjl)
                    have zj := mats_size (TN 1 ++ ⟨#[32, 116, 105, 109, 101]⟩) X.time lt61 rt61 j
                    rw [ByteArray.size_append, show (⟨#[32, 116, 105, 109, 101]⟩ : ByteArray).size = 5 from rfl] at zj
                    have hr61 := rt61 X.time[j] (List.getElem_mem hjl)
                    have hv := Lib.hid (hti.out j X.time[j] (List.getElem?_eq_getElem hjl))
                    replace HA := Lib.hid HA
                    generalize X.time[j] = r at *
                    generalize matTx (TN 1 ++ ⟨#[32, 116, 105, 109, 101]⟩) (X.time.take j) = T at *
                    go_wp2_with fail
                    go_loop [3, 128] (fun v i => ∃ q : Nat, q ≤ r.length ∧ i = .int .i64 q ∧ v = .string (rowTx T (r.take q))) (fun _ i => r.length - (intOf i).toNat)
                    case atStart => exact ⟨0, by omega, rfl, rfl⟩
                    case round =>
                      obtain ⟨q, hq, rfl, rfl⟩ := hrel
                      by_cases hql : q < r.length
                      · obtain ⟨b', off', rfl, hc'⟩ := HA.out.num hql
                        have HS2 := fold_snoc cellTx T r hql
                        have zq := row_size T (r.take q)
                        have zq2 := take_len r q 61 hr61
                        obtain ⟨v1, v2, _⟩ := hv.out q r[q] (List.getElem?_eq_getElem hql)
                        have G1 := num12 r[q] (i64_of v1 v2)
                        have u1 := nT_size r[q]
                        have hT : cellTx r[q] = (⟨#[32]⟩ : ByteArray) ++ nT r[q] := rfl
                        rw [hT] at HS2
                        clear hT v1 v2
                        generalize r[q] = n at *
                        generalize nT n = T1 at *
                        have HS3 : Hid (rowTx T (r.take (q + 1)) = rowTx T (r.take q) ++ (⟨#[32]⟩ ++ T1)) := Lib.hid HS2
                        clear HS2
                        generalize rowTx T (r.take q) = T2 at *
                        replace G1 := Lib.hid G1
                        have y1 : ¬ 9223372036854775807 < 1 + T1.size := by omega
                        have y2 : ¬ 9223372036854775807 < T2.size + (1 + T1.size) := by omega
                        clear zq zq2 u1 zj
                        go_wp2_with fail
                        refine (G1.out _).mono ?_
                        rintro e w9 ⟨rfl, rfl⟩
                        go_wp2_with fail
                        go_round
                        case rel => exact ⟨q + 1, by omega, by go_num, by rw [HS3.out]⟩
                        case measure => simp [intOf]; omega
                      · obtain rfl : q = r.length := by omega
                        go_wp2_with fail
                        go_round
                        case rel =>
                          refine ⟨_, _, _, _, ⟨j + 1, by omega, rfl, ?_⟩, rfl, rfl, rfl, by go_num⟩
                          rw [HS.out]
                        case measure => simp [intOf]; omega
                  · obtain rfl : j = X.time.length := by omega
                    rw [List.take_length, hE6.out]
                    go_wp2_with fail
                    go_roundw
                    case rel => exact ⟨2, by omega, rfl, rfl, hbz.out⟩
                    case measure => simp [intOf]
            · obtain rfl : k = 2 := by omega
              have hbz := Lib.hid (BW.out.go hb)
              have yk : ¬ 9223372036854775807 < (TN 2).size + 4 := by omega
              clear hb
              go_wp2_with fail
              go_ret
              exact ⟨by rw [hE7.out]; rfl, by first | exact hbz.out.b | (rw [hg0.out]; exact hbz.out.b)⟩
end Go.Proofs.Ytljcpgeggbbmfaa
