/-
  The walk of show.Line: words and numbers, a blank between, a newline behind (layer 13).
-/
import Derived.Test.YtljcpgeggbbmfaaOwnB
import Derived.Test.YtljcpgeggbbmfaaText
import Derived.WalkArith
namespace Go.Proofs.Ytljcpgeggbbmfaa
set_option linter.unusedVariables false
set_option linter.unusedSimpArgs false
open Go.RowKit
/-- a number more on the line. -/
def stepL (b : List UInt8) (n : Int) : List UInt8 := (if b = [] then [] else b ++ [32]) ++ textV n
def lineF (b : List UInt8) (ns : List Int) : List UInt8 := ns.foldl stepL b
theorem stepL_len (b : List UInt8) (n : Int) : (stepL b n).length ≤ b.length + 21 := by
  have := textV_len n
  unfold stepL
  split
  · simp; omega
  · simp; omega
theorem lineF_snoc (b : List UInt8) (ns : List Int) {k : Nat} (h : k < ns.length) : lineF b (ns.take (k + 1)) = stepL (lineF b (ns.take k)) ns[k] := by
  unfold lineF; rw [List.take_succ_eq_append_getElem h, List.foldl_append]; rfl
theorem lineF_len (ns : List Int) : ∀ b : List UInt8, (lineF b ns).length ≤ b.length + 21 * ns.length := by
  induction ns with
  | nil => intro b; exact Nat.le_refl _
  | cons n ns ih =>
    intro b
    have h1 := ih (stepL b n)
    have h2 := stepL_len b n
    rw [List.length_cons, Nat.mul_succ]
    show (lineF (stepL b n) ns).length ≤ _
    omega
/-- numbers that can be read, as an argument's elements. -/
theorem elems_rd {w : World} {A : Option Addr} {ns : List Int} (h : Rd w A (i64s ns)) (hn : ∀ n ∈ ns, I64 n) : Elems .i64 w A ns := by
  intro k hk
  obtain ⟨b, off, e, hc⟩ := h.num hk
  have hgd : ns.getD k 0 = ns[k] := by rw [List.getD_eq_getElem?_getD, List.getElem?_eq_getElem hk]; rfl
  refine ⟨⟨b, off, none⟩, e, ?_, ?_⟩
  · rw [hgd]
    have ha : (⟨b, off, none⟩ : Addr).add k = ⟨b, off + k, none⟩ := by unfold Addr.add; by_cases hz : k = 0 <;> simp [hz]
    rw [ha]; exact hc
  · rw [hgd]
    have := hn ns[k] (List.getElem_mem hk)
    unfold I64 at this
    exact WalkArith.wf_i64 this
/-- numbers that have just been laid into memory. -/
theorem elems_new (w : World) (T : TypeId) (ns : List Int) (hn : ∀ n ∈ ns, I64 n) : Elems .i64 (w.alloc (.cells (i64s ns).toArray T)) (some ⟨w.heap.size, 0, none⟩) ns :=
  elems_rd (fun _ => ⟨w.heap.size, 0, rfl, fun j u hu => by rw [World.cell?_alloc_new, Nat.zero_add, List.getElem?_toArray]; exact hu⟩) hn
theorem stepL_ne (b : List UInt8) (n : Int) : stepL b n ≠ [] := by
  have := (textV_in n).1
  unfold stepL
  intro h
  exact this (List.append_eq_nil_iff.1 h).2
set_option maxHeartbeats 16000000 in
set_option maxRecDepth 100000 in
theorem line_any (s : ByteArray) (A : Option Addr) (C : Nat) (ns : List Int) (w : World) (hs : s.size ≤ 1000000) (hl : ns.length ≤ 1000000) (HR : Elems .i64 w A ns) :
    Calls Try.prog 23 #[.string s, .slice A ns.length C] w fun e w' => e = .returned (.string ⟨(lineF (L s) ns ++ [10]).toArray⟩) ∧ Below w.heap.size w w' := by
  have hconv := fun w' => conv_bytes s w'
  have hst := Lib.hid (OwnB.start w s (by omega))
  have hb0 := Lib.hid (below_bytes w s)
  have hsz := Lib.hid (fun k => lineF_len (ns.take k) (L s))
  replace HR := Lib.hid HR
  go_enter Try.func23, Try.ntmps23
  go_wp2_with fail
  generalize hw1 : Lib.bytesWorld w 5 s = w1 at *
  replace hw1 := Lib.hid hw1
  clear hconv
  go_loopw [5, 12] (fun v i wr => ∃ k : Nat, k ≤ ns.length ∧ i = .int .i64 k ∧ OwnB wr w.heap.size v (lineF (L s) (ns.take k)) ∧ Below w.heap.size w wr) (fun _ i _ => ns.length - (intOf i).toNat)
  case atStart => exact ⟨0, Nat.zero_le _, rfl, hst.out, hb0.out⟩
  case round =>
    obtain ⟨k, hk, rfl, hO, hb⟩ := hrel
    have k0 : (0 : Int) ≤ (k : Int) := by omega
    have hlen := hsz.out k
    have htk : (ns.take k).length ≤ ns.length := by rw [List.length_take]; omega
    have hLs : (L s).length = s.size := rfl
    have hbz := Lib.hid hb
    by_cases hkl : k < ns.length
    · obtain ⟨ad, rfl, hc, hw⟩ := (HR.out.below hb) k hkl
      have k1 : (k : Int) < (ns.length : Int) := by omega
      have hI := Lib.hid (I64_of hw)
      have HS := lineF_snoc (L s) ns hkl
      have hgd : ns.getD k 0 = ns[k] := by rw [List.getD_eq_getElem?_getD, List.getElem?_eq_getElem hkl]; rfl
      rw [← hgd] at HS
      replace HS := Lib.hid HS
      clear hgd hw
      generalize ns.getD k 0 = n at *
      generalize lineF (L s) (ns.take k) = l at *
      obtain ⟨g, cap, rfl⟩ := hO.val
      have lz : l.length ≤ 30000000 := by omega
      clear hlen htk hb
      by_cases hln : l = []
      · subst hln
        replace hO := Lib.hid hO
        go_wp2_with fail
        refine (text_any n _ hI.out).mono ?_
        rintro e w3 ⟨rfl, hb3⟩
        have hO3 := Lib.hid (hO.out.below hb3)
        have hb4 := Lib.hid (On.go ⟨hbz.out, hbz.out.size⟩ hb3)
        have hsz3 := (textV_len n)
        have hsz4 : ByteArray.size ⟨(textV n).toArray⟩ ≤ 20 := by show (textV n).toArray.size ≤ 20; simpa using hsz3
        clear hb3
        go_wp2_with (at_builtin; refine wpB_str rfl _ _ rfl w.heap.size _ [] rfl hO3.out ⟨(textV n).toArray⟩ rfl (by simp; omega) hb4.out.le ?_; intro v' w4 hO4 hg4)
        have hb5 : Below w.heap.size w w4 := hb4.out.b.grown hg4 hb4.out.le (fun k hk => hO3.out.own hk)
        replace hO4 := Lib.hid hO4
        go_roundw
        case rel => exact ⟨k + 1, by omega, by go_num, by rw [HS.out]; exact hO4.out, hb5⟩
        case measure => simp [intOf]; omega
      · have hpos : (0 : Int) < (l.length : Int) := by
          have := List.length_pos_iff.2 hln
          omega
        have hO1 := Lib.hid (hO.below (below_new wr (.cells #[.int .u8 32] 5)))
        have hcell := Lib.hid (cells_new wr #[.int .u8 32] 5 0 _ rfl)
        have hOn := Lib.hid ((On.mk hbz.out hbz.out.size).alloc (.cells #[.int .u8 32] 5))
        go_wp2_with (at_builtin; refine wpB_one rfl _ _ rfl w.heap.size _ l rfl hO1.out ⟨wr.heap.size, 0, none⟩ 32 rfl hcell.out (by omega) hOn.out.le ?_; intro v2 w2 hO2 hg2)
        have hb2 : Below w.heap.size w w2 := hOn.out.b.grown hg2 hOn.out.le (fun k hk => hO1.out.own hk)
        refine (text_any n _ hI.out).mono ?_
        rintro e w3 ⟨rfl, hb3⟩
        have hO3 := Lib.hid (hO2.below hb3)
        have hb4 := Lib.hid (On.go ⟨hb2, hb2.size⟩ hb3)
        have hsz3 := (textV_len n)
        have hsz4 : ByteArray.size ⟨(textV n).toArray⟩ ≤ 20 := by show (textV n).toArray.size ≤ 20; simpa using hsz3
        clear hb3 hO2 hg2 hO1 hOn hcell
        go_wp2_with (at_builtin; refine wpB_str rfl _ _ rfl w.heap.size _ (l ++ [32]) rfl hO3.out ⟨(textV n).toArray⟩ rfl (by simp; omega) hb4.out.le ?_; intro v' w4 hO4 hg4)
        have hb5 : Below w.heap.size w w4 := hb4.out.b.grown hg4 hb4.out.le (fun k hk => hO3.out.own hk)
        have hS2 : Hid (stepL l n = l ++ [32] ++ L ⟨(textV n).toArray⟩) := Lib.hid (by unfold stepL; rw [if_neg hln])
        replace hO4 := Lib.hid hO4
        go_roundw
        case rel => exact ⟨k + 1, by omega, by go_num, by rw [HS.out, hS2.out]; exact hO4.out, hb5⟩
        case measure => simp [intOf]; omega
    · obtain rfl : k = ns.length := by omega
      rw [List.take_length] at hO hlen
      generalize hl9 : lineF (L s) ns = l at *
      replace hl9 := Lib.hid hl9
      obtain ⟨g, cap, rfl⟩ := hO.val
      have lz : l.length ≤ 30000000 := by omega
      have hO1 := Lib.hid (hO.below (below_new wr (.cells #[.int .u8 10] 5)))
      have hcell := Lib.hid (cells_new wr #[.int .u8 10] 5 0 _ rfl)
      have hOn := Lib.hid ((On.mk hbz.out hbz.out.size).alloc (.cells #[.int .u8 10] 5))
      clear hb hO hlen htk
      go_wp2_with (at_builtin; refine wpB_one rfl _ _ rfl w.heap.size _ l rfl hO1.out ⟨wr.heap.size, 0, none⟩ 10 rfl hcell.out (by omega) hOn.out.le ?_; intro v2 w2 hO2 hg2; obtain ⟨g2, cap2, rfl⟩ := hO2.val; obtain ⟨R, hR⟩ : ∃ R : ByteArray, (⟨(l ++ [10]).toArray⟩ : ByteArray) = R := ⟨_, rfl⟩; have hcv := conv_back hO2; rw [List.length_append, hR, List.length_singleton] at hcv; replace hR := Lib.hid hR)
      have hb2 : Below w.heap.size w w2 := hOn.out.b.grown hg2 hOn.out.le (fun k hk => hO1.out.own hk)
      go_ret
      exact ⟨by rw [hl9.out, hR.out]; rfl, hb2⟩
end Go.Proofs.Ytljcpgeggbbmfaa
