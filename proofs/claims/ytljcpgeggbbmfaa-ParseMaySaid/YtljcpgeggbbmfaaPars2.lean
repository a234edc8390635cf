/-
  The walk of what reads rows of numbers (layer 12).
-/
import Derived.Test.YtljcpgeggbbmfaaPars1
import Derived.Test.YtljcpgeggbbmfaaRowsO
namespace Go.Proofs.Ytljcpgeggbbmfaa
set_option linter.unusedVariables false
set_option linter.unusedSimpArgs false
open Go.RowKit
/-- what is left of a matrix that is read. -/
def matLeft (ws : List WordD) (n m r i : Nat) (done : List (List Int)) : PR (List (List Int)) := bindP (upP (rowP ws n m) (m - r) r i) (fun xs j => .inl (done ++ xs, j))
def rowLeft (ws : List WordD) (n m r k i : Nat) (done : List Int) : PR (List Int) := bindP (upP (cellP ws n r) (m - k) k i) (fun xs j => .inl (done ++ xs, j))
def MatEnd (w : World) (p : Nat) (A : Option Addr) (C : Nat) (ws : List WordD) (n : Nat) (r : PR (List (List Int))) (e : Ending) (w' : World) : Prop :=
  w.grownBy w' (some p) ∧ ((∃ ls j A' C' hs, r = .inl (ls, j) ∧ e = .returned (.slice A' ls.length C') ∧ RdrIs w' p A C ws j n ∧ RowsOwn w.heap.size w' (.slice A' ls.length C') ls hs) ∨ (∃ a c, r = .inr (a, c) ∧ e = PanEnd a c))
theorem RowsOwn.stepG {B : Nat} {w w' : World} {v : Value} {ls : List (List Int)} {hs : List Value} (h : RowsOwn B w v ls hs) {p : Nat} (hg : w.grownBy w' (some p)) (hp : p < B) : RowsOwn B w' v ls hs := h.grownG hg hp
theorem grown_any {w w1 w2 : World} {p : Nat} (h : w.grownBy w1 (some p)) {r : Option Nat} (hg : w1.grownBy w2 r) (hr : ∀ g, r = some g → w.heap.size ≤ g) : w.grownBy w2 (some p) :=
  ⟨hg.os.trans h.os, hg.tape.trans h.tape, hg.output.trans h.output, Nat.le_trans h.size hg.size, fun k hk hne => (hg.block k (Nat.lt_of_lt_of_le hk h.size) (fun e => by have := hr k (by first | exact e | exact e.symm); omega)).trans (h.block k hk hne)⟩
theorem rdr_any {w1 w2 : World} {p : Nat} {A : Option Addr} {C : Nat} {ws : List WordD} {i n : Nat} (h : RdrIs w1 p A C ws i n) {r : Option Nat} (hg : w1.grownBy w2 r) (hr : ∀ g, r = some g → p < g) : RdrIs w2 p A C ws i n := by
  refine ⟨(hg.block p (heap_lt h.blk) (fun e => ?_)).trans h.blk, fun hne => ?_, h.lt, h.hi, h.le⟩
  · have := hr p (by first | exact e | exact e.symm); omega
  · obtain ⟨b, off, e, hc⟩ := h.rd hne
    have hlt : b < p := h.lt _ e
    exact ⟨b, off, e, fun q u hu => (World.cell?_of_block (hg.block b (by have := heap_lt h.blk; omega) (fun e => by have := hr b (by first | exact e | exact e.symm); omega))).trans (hc q u hu)⟩
theorem i64s_snocP (l : List Int) (v : Int) : i64s (l ++ [v]) = i64s l ++ [.int .i64 v] := by simp [i64s]
set_option maxHeartbeats 16000000 in
set_option maxRecDepth 100000 in
theorem prow_any (p : Nat) (A : Option Addr) (C : Nat) (ws : List WordD) (i n : Nat) (t : ByteArray) (m : Nat) (hm : m ≤ 1000) (hsz : Hid (∀ x ∈ ws, x.text.size ≤ 9223372036854775807)) (w : World) (R : RdrIs w p A C ws i n) :
    Calls Try.prog 36 #[.pointer (some ⟨p, 0, none⟩), .string t, .int .i64 m] w (MatEnd w p A C ws n (matP ws n t m i)) := by
  have hp := heap_lt R.blk
  obtain ⟨i0, hi0, hz0, hz1, hz2⟩ := info_parts info_i64
  obtain ⟨i1, hi1, hy0, hy1, hy2⟩ := info_parts info_row
  replace R := Lib.hid R
  go_enter Try.func36, Try.ntmps36
  go_wp2_with fail
  refine (must_any p A C ws i n t _ R.out).mono ?_
  rintro e w1 ⟨hG, ⟨_, j1, hr1, rfl, hR⟩ | ⟨a, c, hr1, rfl⟩⟩
  rotate_left
  · replace hG := Lib.hid hG
    replace hr1 := Lib.hid hr1
    unfold PanEnd
    go_wp2_with fail
    exact ⟨rfl, hG.out, .inr ⟨a, c, by unfold matP; rw [hr1.out]; rfl, rfl⟩⟩
  have HM : Hid (matP ws n t m i = matLeft ws n m 0 j1 []) := Lib.hid (by unfold matP matLeft; rw [hr1, bindP_inl, Nat.sub_zero, bindP_eta])
  replace hG := Lib.hid hG
  replace hR := Lib.hid hR
  clear hr1 R
  go_wp2_with fail
  go_loopw [7, 16] (fun v ix wr => ∃ (r j : Nat) (done : List (List Int)) (hs : List Value), r ≤ m ∧ ix = .int .i64 r ∧ Hid (done.length = r) ∧ Hid (matP ws n t m i = matLeft ws n m r j done) ∧ RdrIs wr p A C ws j n ∧ RowsOwn w.heap.size wr v done hs ∧ w.grownBy wr (some p)) (fun _ ix _ => m - (intOf ix).toNat)
  case atStart => exact ⟨0, j1, [], [], Nat.zero_le _, rfl, Lib.hid rfl, HM, hR.out, RowsOwn.nil _ _, hG.out⟩
  case round =>
    obtain ⟨r, j, done, hs, hr, rfl, HL, HQ, R1, HO, G1⟩ := hrel
    clear HM hG hR
    obtain ⟨A0, C0, hv⟩ := own_val HO.own
    subst hv
    replace R1 := Lib.hid R1
    replace HO := Lib.hid HO
    replace G1 := Lib.hid G1
    by_cases hrm : r < m
    · have HQ2 : Hid (∀ x j2, rowP ws n m r j = .inl (x, j2) → matP ws n t m i = matLeft ws n m (r + 1) j2 (done ++ [x])) := Lib.hid (fun x j2 h => by
        rw [HQ.out]; unfold matLeft
        rw [show m - r = (m - (r + 1)) + 1 by omega, upP_go h])
      have HQ3 : Hid (∀ e, rowP ws n m r j = .inr e → matP ws n t m i = .inr e) := Lib.hid (fun e h => by
        rw [HQ.out]; unfold matLeft
        rw [show m - r = (m - (r + 1)) + 1 by omega, upP_bad h])
      have HR0 : Hid (rowP ws n m r j = rowLeft ws n m r 0 j []) := Lib.hid (by unfold rowP rowLeft; rw [Nat.sub_zero, bindP_eta])
      obtain ⟨M, hM⟩ : ∃ M, wr.heap.size = M := ⟨_, rfl⟩
      have HBL : ∀ (q : Nat) (a : Addr) (n C : Nat), hs[q]? = some (.slice (some a) n C) → a.block < M := fun q a n C h => by rw [← hM]; exact HO.out.blocks q a n C h
      replace HBL := Lib.hid HBL
      have hwM : w.heap.size ≤ M := by rw [← hM]; exact G1.out.size
      replace hM := Lib.hid hM
      clear HQ
      go_wp2_with fail
      go_loopw [9, 20] (fun v ix wq => ∃ (k q : Nat) (row : List Int), k ≤ m ∧ ix = .int .i64 k ∧ Hid (row.length = k) ∧ Hid (rowP ws n m r j = rowLeft ws n m r k q row) ∧ RdrIs wq p A C ws q n ∧ RowsOwn w.heap.size wq (.slice A0 done.length C0) done hs ∧ wq.ownsRow M 2 1 v row.length (i64s row) ∧ w.grownBy wq (some p) ∧ M ≤ wq.heap.size) (fun _ ix _ => m - (intOf ix).toNat)
      case atStart => exact ⟨0, j, [], Nat.zero_le _, rfl, Lib.hid rfl, HR0, R1.out, HO.out, World.ownsRow_nil _ _ _ _, G1.out, Nat.le_of_eq hM.out.symm⟩
      case round =>
        obtain ⟨k, q, row, hk, rfl, HL2, HP, R2, HO2, HX, G2, hMq⟩ := hrel
        clear R1 HO G1 HR0
        obtain ⟨A1, C1, hv1⟩ := own_val HX
        subst hv1
        replace R2 := Lib.hid R2
        replace HO2 := Lib.hid HO2
        replace HX := Lib.hid HX
        replace G2 := Lib.hid G2
        by_cases hkm : k < m
        · have HP2 : Hid (∀ x q2, cellP ws n r k q = .inl (x, q2) → rowP ws n m r j = rowLeft ws n m r (k + 1) q2 (row ++ [x])) := Lib.hid (fun x q2 h => by
            rw [HP.out]; unfold rowLeft
            rw [show m - k = (m - (k + 1)) + 1 by omega, upP_go h])
          have HP3 : Hid (∀ e, cellP ws n r k q = .inr e → rowP ws n m r j = .inr e) := Lib.hid (fun e h => by
            rw [HP.out]; unfold rowLeft
            rw [show m - k = (m - (k + 1)) + 1 by omega, upP_bad h])
          clear HP
          by_cases hrk : r = k
          · subst hrk
            have hcell : Hid (cellP ws n r r q = numP ws n 0 0 q) := Lib.hid (by unfold cellP; rw [if_pos rfl])
            go_wp2_with fail
            refine (num_any p A C ws q n 0 0 hsz _ R2.out).mono ?_
            rintro e w5 ⟨hG, ⟨x, q2, hc, rfl, hR⟩ | ⟨a, c, hc, rfl⟩⟩
            rotate_left
            · replace hG := Lib.hid (grown_trans1 G2.out hG)
              replace hc := Lib.hid (HQ3.out _ (HP3.out _ (hcell.out.trans hc)))
              unfold PanEnd
              go_wp2_with fail
              exact ⟨rfl, hG.out, .inr ⟨a, c, hc.out, rfl⟩⟩
            have HE := Lib.hid (HP2.out _ _ (hcell.out.trans hc))
            have G3 := Lib.hid (grown_trans1 G2.out hG)
            have HO3 := Lib.hid (HO2.out.stepG hG hp)
            have HX3 := Lib.hid (own_grownG HX.out hG (Nat.lt_of_lt_of_le hp hwM))
            have R3 := Lib.hid hR
            replace hMq : M ≤ w5.heap.size := Nat.le_trans hMq hG.size
            clear hc hG hR G2 HO2 HX R2 HP2 HP3 hcell
            have hw5 : w.heap.size ≤ w5.heap.size := G3.out.size
            have hrl : row.length = r := HL2.out
            have HOWN := Lib.hid (HX3.out.alloc (.cells #[.int .i64 x] 2))
            have HNEW : Hid (∀ (q : Nat) (u : Value), [Value.int .i64 x][q]? = some u → (w5.alloc (.cells #[.int .i64 x] 2)).cell? ((⟨w5.heap.size, 0, none⟩ : Addr).add q) = some u) := Lib.hid (fun q u hu => cells_new _ _ _ q u (by simpa using hu))
            replace hrl := Lib.hid hrl
            go_wp2_with (first | (at_builtin; refine wpList_append_own _ rfl _ _ 53 rfl M 2 i0 (.int .i64 0) 1 8 Try.underlying53 hi0 hz0 hz1 hz2 rfl (by decide) _ row.length _ rfl HOWN.out ⟨w5.heap.size, 0, none⟩ 1 1 [.int .i64 x] rfl rfl HNEW.out (fun x hx => by simp at hx; subst hx; rfl) (by have := hrl.out; unfold maxLen; omega) (by have := hrl.out; omega) (by simp; omega) ?_; intro v' w6 hown2 hgrow _))
            go_roundw
            case rel =>
              have hap : ∀ g, (Value.slice A1 row.length C1).ownBlock = some g → M ≤ g := fun g hg => (own_lt HX3.out hg).1
              have hba : w5.grownBy (w5.alloc (.cells #[.int .i64 x] 2)) none := grown_of_below ((Below.refl _ _).alloc (Nat.le_refl _) _)
              have hal : Below w5.heap.size w5 (w5.alloc (.cells #[.int .i64 x] 2)) := (Below.refl _ _).alloc (Nat.le_refl _) _
              refine ⟨r + 1, q2, row ++ [x], by omega, by go_num, Lib.hid (by rw [List.length_append, hrl.out]; rfl), HE, ?_, ?_, ?_, ?_, ?_⟩
              · exact rdr_any (rdr_any R3.out hba (fun g hg => by cases hg)) hgrow (fun g hg => by have := hap g hg; omega)
              · exact (HO3.out.below hal).grown hgrow (own_types (own_below HO3.out.own hal) (own_below HX3.out hal) (by decide)) (fun q A n C hq => by
                  cases A with
                  | none => exact .inl rfl
                  | some a => exact .inr (fun e => by have h1 := HBL.out q a n C hq; have h2 := hap a.block e.symm; omega))
              · rw [List.length_append, i64s_snocP]; exact hown2
              · exact grown_any (grown_any G3.out hba (fun g hg => by cases hg)) hgrow (fun g hg => Nat.le_trans hwM (hap g hg))
              · exact Nat.le_trans hMq (Nat.le_trans (by simp) hgrow.size)
            case measure => simp [intOf]; omega
          · have hcell : Hid (cellP ws n r k q = numP ws n 0 1000000000 q) := Lib.hid (by unfold cellP; rw [if_neg hrk])
            have hne : ¬ (r : Int) = (k : Int) := by omega
            go_wp2_with fail
            refine (num_any p A C ws q n 0 1000000000 hsz _ R2.out).mono ?_
            rintro e w5 ⟨hG, ⟨x, q2, hc, rfl, hR⟩ | ⟨a, c, hc, rfl⟩⟩
            rotate_left
            · replace hG := Lib.hid (grown_trans1 G2.out hG)
              replace hc := Lib.hid (HQ3.out _ (HP3.out _ (hcell.out.trans hc)))
              unfold PanEnd
              go_wp2_with fail
              exact ⟨rfl, hG.out, .inr ⟨a, c, hc.out, rfl⟩⟩
            have HE := Lib.hid (HP2.out _ _ (hcell.out.trans hc))
            have G3 := Lib.hid (grown_trans1 G2.out hG)
            have HO3 := Lib.hid (HO2.out.stepG hG hp)
            have HX3 := Lib.hid (own_grownG HX.out hG (Nat.lt_of_lt_of_le hp hwM))
            have R3 := Lib.hid hR
            replace hMq : M ≤ w5.heap.size := Nat.le_trans hMq hG.size
            clear hc hG hR G2 HO2 HX R2 HP2 HP3 hcell
            have hw5 : w.heap.size ≤ w5.heap.size := G3.out.size
            have hrl : row.length = k := HL2.out
            have HOWN := Lib.hid (HX3.out.alloc (.cells #[.int .i64 x] 2))
            have HNEW : Hid (∀ (q : Nat) (u : Value), [Value.int .i64 x][q]? = some u → (w5.alloc (.cells #[.int .i64 x] 2)).cell? ((⟨w5.heap.size, 0, none⟩ : Addr).add q) = some u) := Lib.hid (fun q u hu => cells_new _ _ _ q u (by simpa using hu))
            replace hrl := Lib.hid hrl
            go_wp2_with (first | (at_builtin; refine wpList_append_own _ rfl _ _ 53 rfl M 2 i0 (.int .i64 0) 1 8 Try.underlying53 hi0 hz0 hz1 hz2 rfl (by decide) _ row.length _ rfl HOWN.out ⟨w5.heap.size, 0, none⟩ 1 1 [.int .i64 x] rfl rfl HNEW.out (fun x hx => by simp at hx; subst hx; rfl) (by have := hrl.out; unfold maxLen; omega) (by have := hrl.out; omega) (by simp; omega) ?_; intro v' w6 hown2 hgrow _))
            go_roundw
            case rel =>
              have hap : ∀ g, (Value.slice A1 row.length C1).ownBlock = some g → M ≤ g := fun g hg => (own_lt HX3.out hg).1
              have hba : w5.grownBy (w5.alloc (.cells #[.int .i64 x] 2)) none := grown_of_below ((Below.refl _ _).alloc (Nat.le_refl _) _)
              have hal : Below w5.heap.size w5 (w5.alloc (.cells #[.int .i64 x] 2)) := (Below.refl _ _).alloc (Nat.le_refl _) _
              refine ⟨k + 1, q2, row ++ [x], by omega, by go_num, Lib.hid (by rw [List.length_append, hrl.out]; rfl), HE, ?_, ?_, ?_, ?_, ?_⟩
              · exact rdr_any (rdr_any R3.out hba (fun g hg => by cases hg)) hgrow (fun g hg => by have := hap g hg; omega)
              · exact (HO3.out.below hal).grown hgrow (own_types (own_below HO3.out.own hal) (own_below HX3.out hal) (by decide)) (fun q A n C hq => by
                  cases A with
                  | none => exact .inl rfl
                  | some a => exact .inr (fun e => by have h1 := HBL.out q a n C hq; have h2 := hap a.block e.symm; omega))
              · rw [List.length_append, i64s_snocP]; exact hown2
              · exact grown_any (grown_any G3.out hba (fun g hg => by cases hg)) hgrow (fun g hg => Nat.le_trans hwM (hap g hg))
              · exact Nat.le_trans hMq (Nat.le_trans (by simp) hgrow.size)
            case measure => simp [intOf]; omega
        · obtain rfl : k = m := by omega
          have hrow : Hid (rowP ws n k r j = .inl (row, q)) := Lib.hid (by rw [HP.out]; unfold rowLeft; rw [Nat.sub_self, upP_end])
          have HE := Lib.hid (HQ2.out _ _ hrow.out)
          clear HP HQ3 HQ2 hrow
          have hrl : done.length = r := HL.out
          replace hrl := Lib.hid hrl
          have hww := G2.out.size
          have HOWN := Lib.hid (HO2.out.own.alloc (.cells #[.slice A1 row.length C1] 53))
          have HNEW : Hid (∀ (q : Nat) (u : Value), [Value.slice A1 row.length C1][q]? = some u → (wr.alloc (.cells #[.slice A1 row.length C1] 53)).cell? ((⟨wr.heap.size, 0, none⟩ : Addr).add q) = some u) := Lib.hid (fun q u hu => cells_new _ _ _ q u (by simpa using hu))
          go_wp2_with (first | (at_builtin; refine wpList_append_own _ rfl _ _ 27 rfl w.heap.size 53 i1 (.slice none 0 0) 1 24 Try.underlying27 hi1 hy0 hy1 hy2 rfl (by decide) _ done.length _ rfl HOWN.out ⟨wr.heap.size, 0, none⟩ 1 1 [.slice A1 row.length C1] rfl rfl HNEW.out (fun x hx => by simp at hx; subst hx; rfl) (by have := hrl.out; unfold maxLen; omega) (by have := hrl.out; omega) (by simp; omega) ?_; intro v' w6 hown2 hgrow _))
          go_roundw
          case rel =>
            have hap : ∀ g, (Value.slice A0 done.length C0).ownBlock = some g → w.heap.size ≤ g := fun g hg => (own_lt HO2.out.own hg).1
            have hba : wr.grownBy (wr.alloc (.cells #[.slice A1 row.length C1] 53)) none := grown_of_below ((Below.refl _ _).alloc (Nat.le_refl _) _)
            refine ⟨r + 1, q, done ++ [row], hs ++ [.slice A1 row.length C1], by omega, by go_num, Lib.hid (by rw [List.length_append, hrl.out]; rfl), HE, ?_, ?_, ?_⟩
            · exact rdr_any (rdr_any R2.out hba (fun g hg => by cases hg)) hgrow (fun g hg => by have := hap g hg; omega)
            · exact HO2.out.push (own_base HX.out hwM) _ hown2 hgrow
            · exact grown_any (grown_any G2.out hba (fun g hg => by cases hg)) hgrow hap
          case measure => simp [intOf]; omega
    · obtain rfl : r = m := by omega
      have hmat : Hid (matP ws n t r i = .inl (done, j)) := Lib.hid (by rw [HQ.out]; unfold matLeft; rw [Nat.sub_self, upP_end])
      clear HQ HL
      go_wp2_with fail
      go_ret
      exact ⟨G1.out, .inl ⟨done, j, A0, C0, hs, hmat.out, rfl, R1.out, HO.out⟩⟩
end Go.Proofs.Ytljcpgeggbbmfaa
