/-
  The walk of wharfagelaw11.square: the matrix that it makes, in memory of its own.
-/
import Derived.Test.YtljcpgeggbbmfaaMat
import Derived.Test.YtljcpgeggbbmfaaCheck
import Derived.Deep.OwnRows
namespace Go.Proofs.Ytljcpgeggbbmfaa
set_option linter.unusedVariables false
set_option linter.unusedSimpArgs false
open Go.RowKit
/-- v is a slice of the call's own (blocks from B on) whose elements are slices of m numbers, each a whole block of its own: the rows of ls. -/
structure MatOwn (B : Nat) (w : World) (v : Value) (m : Nat) (ls : List (List Int)) (gs : List Nat) : Prop where
  len : gs.length = ls.length
  inc : gs.Pairwise (· < ·)
  rows : ∀ (j g : Nat) (r : List Int), gs[j]? = some g → ls[j]? = some r → B ≤ g ∧ r.length = m ∧ w.heap[g]? = some (.cells (i64s r).toArray 2 (0, 0))
  own : w.ownsRow B 53 1 v ls.length (gs.map fun g => Value.slice (some ⟨g, 0, none⟩) m m)
theorem heap_lt {w : World} {g : Nat} {o : Obj} (h : w.heap[g]? = some o) : g < w.heap.size := (Array.getElem?_eq_some_iff.1 h).1
theorem MatOwn.lt {B : Nat} {w : World} {v : Value} {m : Nat} {ls : List (List Int)} {gs : List Nat} (h : MatOwn B w v m ls gs) : ∀ g ∈ gs, g < w.heap.size := by
  intro g hg
  obtain ⟨j, hj, rfl⟩ := List.getElem_of_mem hg
  have h2 : j < ls.length := by rw [← h.len]; exact hj
  exact heap_lt (h.rows j _ _ (List.getElem?_eq_getElem hj) (List.getElem?_eq_getElem h2)).2.2
theorem MatOwn.not_own {B : Nat} {w : World} {v : Value} {m : Nat} {ls : List (List Int)} {gs : List Nat} (h : MatOwn B w v m ls gs) : ∀ g ∈ gs, v.ownBlock ≠ some g := by
  intro g hg he
  obtain ⟨j, hj, rfl⟩ := List.getElem_of_mem hg
  have h2 : j < ls.length := by rw [← h.len]; exact hj
  have hb := (h.rows j _ _ (List.getElem?_eq_getElem hj) (List.getElem?_eq_getElem h2)).2.2
  rcases h.own.2 with ⟨rfl, _⟩ | ⟨g', cap, cur, rfl, _, hh, _⟩
  · simp [Value.ownBlock] at he
  · have : g' = gs[j] := by simpa [Value.ownBlock] using he
    subst this
    rw [hb] at hh
    injection hh with hh
    injection hh with _ ht
    exact absurd ht (by decide)
theorem MatOwn.grown {B : Nat} {w w' : World} {v : Value} {m : Nat} {ls : List (List Int)} {gs : List Nat} (h : MatOwn B w v m ls gs) {row : Option Nat} (hg : w.grownBy w' row) (hr : ∀ g ∈ gs, row ≠ some g) (hv : v.ownBlock = none ∨ v.ownBlock ≠ row) : MatOwn B w' v m ls gs :=
  ⟨h.len, h.inc, fun j g r hj hl => by
    obtain ⟨a, b, c⟩ := h.rows j g r hj hl
    exact ⟨a, b, (hg.block g (heap_lt c) (fun e => hr g (List.mem_of_getElem? hj) e.symm)).trans c⟩, h.own.kept hg hv⟩
theorem grown_of_below {w w' : World} (h : Below w.heap.size w w') : w.grownBy w' none := ⟨h.os, h.tape, h.output, h.size, fun k hk _ => h.block k hk⟩
theorem MatOwn.below {B : Nat} {w w' : World} {v : Value} {m : Nat} {ls : List (List Int)} {gs : List Nat} (h : MatOwn B w v m ls gs) (hb : Below w.heap.size w w') : MatOwn B w' v m ls gs :=
  h.grown (grown_of_below hb) (fun g _ => by simp) (by cases e : v.ownBlock <;> simp)
theorem MatOwn.rows2 {B : Nat} {w : World} {A : Option Addr} {n C m : Nat} {ls : List (List Int)} {gs : List Nat} (h : MatOwn B w (.slice A n C) m ls gs) (hm : m ≤ 9223372036854775807) : Rows2 w A ls := by
  refine ⟨gs.map fun g => Value.slice (some ⟨g, 0, none⟩) m m, by simp [h.len], ?_, fun i r hi => ?_⟩
  · intro hne
    rcases h.own.2 with ⟨_, hn⟩ | ⟨g, cap, cur, hv, _, _, _⟩
    · have := h.len
      rw [hn] at this
      exact absurd (by rw [List.eq_nil_of_length_eq_zero this]; rfl) hne
    · injection hv with hA hn' hc'
      subst hA
      refine ⟨g, 0, rfl, fun j u hu => ?_⟩
      have hc := h.own.cells (g := g) rfl j u hu
      rw [show (⟨g, 0, none⟩ : Addr).add j = ⟨g, 0 + j, none⟩ from by unfold Addr.add; by_cases hz : j = 0 <;> simp [hz]] at hc
      exact hc
  · have hi2 : i < gs.length := by rw [h.len]; exact (List.getElem?_eq_some_iff.1 hi).1
    obtain ⟨_, hr, hb⟩ := h.rows i gs[i] r (List.getElem?_eq_getElem hi2) hi
    refine ⟨some ⟨gs[i], 0, none⟩, m, by simp [hi2, hr], by omega, fun _ => ⟨gs[i], 0, rfl, fun j u hu => ?_⟩⟩
    rw [cell_of_row w gs[i] (0 + j) _ _ _ hb, Nat.zero_add]
    simpa using hu
theorem own_lt {w : World} {B e size n : Nat} {v : Value} {xs : List Value} (h : w.ownsRow B e size v n xs) {g : Nat} (hg : v.ownBlock = some g) : B ≤ g ∧ g < w.heap.size := by
  rcases h.2 with ⟨rfl, _⟩ | ⟨g', cap, cur, rfl, hb, hh, _⟩
  · simp [Value.ownBlock] at hg
  · obtain rfl : g' = g := by simpa [Value.ownBlock] using hg
    exact ⟨hb, heap_lt hh⟩
theorem own_form {w : World} {B e size n : Nat} {v : Value} {xs : List Value} (h : w.ownsRow B e size v n xs) (hn : 0 < n) : ∃ g cap, v = .slice (some ⟨g, 0, none⟩) n cap := by
  rcases h.2 with ⟨_, h0⟩ | ⟨g, cap, _, hv, _⟩
  · omega
  · exact ⟨g, cap, hv⟩
theorem MatOwn.push {B : Nat} {wo w1 : World} {v v' : Value} {m : Nat} {ls : List (List Int)} {gs : List Nat} (h : MatOwn B wo v m ls gs) (r : List Int) (hr : r.length = m) (hB : B ≤ wo.heap.size) (o : Obj)
    (hown : w1.ownsRow B 53 1 v' (ls.length + 1) (gs.map (fun g => Value.slice (some ⟨g, 0, none⟩) m m) ++ [.slice (some ⟨wo.heap.size, 0, none⟩) m m]))
    (hg : ((wo.alloc (.cells (i64s r).toArray 2)).alloc o).grownBy w1 v.ownBlock) : MatOwn B w1 v' m (ls ++ [r]) (gs ++ [wo.heap.size]) := by
  have hno := h.not_own
  have hlt := h.lt
  refine ⟨by simp [h.len], ?_, fun j g r' hj hl => ?_, by simpa using hown⟩
  · rw [List.pairwise_append]
    exact ⟨h.inc, by simp, fun a ha b hb => by simp at hb; subst hb; exact hlt a ha⟩
  · by_cases hjl : j < gs.length
    · rw [List.getElem?_append_left hjl] at hj
      rw [List.getElem?_append_left (by rw [← h.len]; exact hjl)] at hl
      obtain ⟨a, b, c⟩ := h.rows j g r' hj hl
      have hgm := List.mem_of_getElem? hj
      refine ⟨a, b, (hg.block g (by have := heap_lt c; simp; omega) (fun e => hno g hgm e.symm)).trans ?_⟩
      rw [Below.heap_alloc _ _ g (by have := heap_lt c; simp; omega), Below.heap_alloc _ _ g (heap_lt c)]
      exact c
    · have e : j = gs.length := by
        have := (List.getElem?_eq_some_iff.1 hj).1
        simp at this; omega
      subst e
      rw [List.getElem?_append_right (Nat.le_refl _), Nat.sub_self] at hj
      rw [List.getElem?_append_right (by rw [h.len]; exact Nat.le_refl _), h.len, Nat.sub_self] at hl
      injection hj with hj
      injection hl with hl
      subst hj; subst hl
      refine ⟨hB, hr, (hg.block _ (by simp; omega) (fun e => ?_)).trans ?_⟩
      · have := (own_lt h.own e.symm).2; omega
      · rw [Below.heap_alloc _ _ _ (by simp), heap_alloc_new]
theorem info_row : (Try.prog.info? 53).map (fun i => (i.zero, i.size, i.bytes)) = some (some (.slice none 0 0), 1, 24) := by kernel_rfl
theorem info_i64 : (Try.prog.info? 2).map (fun i => (i.zero, i.size, i.bytes)) = some (some (.int .i64 0), 1, 8) := by kernel_rfl
def SqEnd (l : List Nat) (n : Nat) (w : World) (e : Ending) (w' : World) : Prop :=
  ∃ (A : Option Addr) (C : Nat) (gs : List Nat), e = .returned (.slice A n C) ∧ MatOwn w.heap.size w' (.slice A n C) n (matM l n) gs ∧ Below w.heap.size w w'
theorem matM_snoc (l : List Nat) (n i : Nat) (h : i < n) : (matM l n).take (i + 1) = (matM l n).take i ++ [rowM l n i] := by
  rw [List.take_add_one, matM_get l n i h]; rfl
set_option maxHeartbeats 4000000 in
set_option maxRecDepth 100000 in
theorem sqr_any (a : Option Addr) (c : Nat) (l : List Nat) (n : Nat) (w : World) (hn : 1 ≤ n) (hn2 : n ≤ 1000) (hl : l.length ≤ 9223372036854775807) (hb8 : ∀ q, l.getD q 0 < 256) (HL : Rd w a (u8s l)) :
    Calls Try.prog 47 #[.slice a l.length c, .int .i64 n] w (SqEnd l n w) := by
  obtain ⟨i0, hi0, hz0, hz1, hz2⟩ := info_parts info_row
  have hmk := fun (W : World) => run_make_row' (P := Try.prog) 53 2 (.int .i64 0) 8 Try.underlying53 info_i64 rfl .i64 .i64 n (by omega) (by omega) W
  replace HL := Lib.hid HL
  replace hb8 := Lib.hid hb8
  go_enter Try.func47, Try.ntmps47
  go_wp2
  go_loopw [5, 6, 11] (fun v k i wr => ∃ (j : Nat) (gs : List Nat), j ≤ n ∧ i = .int .i64 j ∧ k = .int .i64 (kN l n j 0) ∧ MatOwn w.heap.size wr v n ((matM l n).take j) gs ∧ Below w.heap.size w wr) (fun _ _ i _ => n - (intOf i).toNat)
  case atStart => exact ⟨0, [], by omega, rfl, by rw [kN_zero]; rfl, ⟨rfl, List.Pairwise.nil, fun j g r h => by simp at h, rfl, .inl ⟨rfl, rfl⟩⟩, Below.refl _ _⟩
  case round =>
    obtain ⟨i, gs, hi, rfl, rfl, HM, hb⟩ := hrel
    by_cases hlt : i < n
    · have hkb : (kN l n i 0 : Int) ≤ 2000000 := by have := kN_le (l := l) (n := n) (i := i) (j := 0) hn2 (by omega) (by omega); omega
      replace HM := Lib.hid HM
      have hmk0 : ∀ (W : World), (Instr.makeSlice 53 (.int .i64 (n : Int)) (.int .i64 (n : Int))).run Try.prog W = .ok (.slice (some ⟨W.heap.size, 0, none⟩) n n) (W.alloc (.cells (rowA l n i 0) 2)) := fun W => by rw [hmk W, rowA_zero l n i]
      replace hmk := Lib.hid hmk
      go_wp2
      clear hmk0
      obtain ⟨wo, rfl⟩ : ∃ wo : World, wo = wr := ⟨_, rfl⟩
      go_loopw [6, 18] (fun k q wr => ∃ (j : Nat), j ≤ n ∧ q = .int .i64 j ∧ k = .int .i64 (kN l n i j) ∧ wr = wo.alloc (.cells (rowA l n i j) 2)) (fun _ q _ => n - (intOf q).toNat)
      case atStart => exact ⟨0, by omega, rfl, rfl, rfl⟩
      case round =>
        obtain ⟨j, hj, rfl, rfl, rfl⟩ := hrel
        by_cases hjl : j < n
        · have hkj : (kN l n i j : Int) ≤ 2000000 := by have := kN_le (l := l) (n := n) (i := i) (j := j) hn2 (by omega) (by omega); omega
          by_cases hsk : i = j ∨ l.length = 0
          · have HS := Lib.hid (rowA_skip l n i j hsk)
            have HK := Lib.hid (kN_same (l := l) (n := n) hsk)
            by_cases hij : i = j
            · have hne : ((i : Int) != (j : Int)) = false := by rw [bne_eq_false_iff_eq]; omega
              clear hsk hij
              go_wp2
              go_roundw
              case rel => exact ⟨j + 1, by omega, by go_num, by rw [HK.out], by rw [HS.out]⟩
              case measure => simp [intOf]; omega
            · have hl0 : l.length ≤ 0 := by omega
              have hne : ((i : Int) != (j : Int)) = true := by rw [bne_iff_ne]; omega
              clear hsk hij
              go_wp2
              go_roundw
              case rel => exact ⟨j + 1, by omega, by go_num, by rw [HK.out], by rw [HS.out]⟩
              case measure => simp [intOf]; omega
          · have hij : i ≠ j := fun e => hsk (.inl e)
            have hl0 : 0 < l.length := by omega
            have hne : ((i : Int) != (j : Int)) = true := by rw [bne_iff_ne]; omega
            have HK := Lib.hid (kN_next (l := l) (n := n) hij (by omega))
            obtain ⟨b, off, rfl, hc⟩ := HL.out.byte (k := kN l n i j % l.length) (Nat.mod_lt _ hl0)
            have hc2 := keep_cell ((Below.refl _ _).alloc (Nat.le_refl _) (.cells (rowA l n i j) 2)) (keep_cell hb hc)
            clear hc
            have h256 := hb8.out (kN l n i j % l.length)
            have hget := rowA_get l n i j hjl
            have hset : (rowA l n i j).setIfInBounds j (.int .i64 ((l.getD (kN l n i j % l.length) 0 : Nat) % 30 : Int)) = rowA l n i (j + 1) := by
              rw [← rowA_set l n i j hjl]
              unfold cellM kN
              rw [if_neg hsk, if_neg (by omega)]
              rfl
            have hx0 : ¬ (l.length : Int) = 0 := by omega
            have hx1 : (0 : Int) ≤ (kN l n i j : Int) % (l.length : Int) := Int.emod_nonneg _ hx0
            have hx2 : (kN l n i j : Int) % (l.length : Int) < (l.length : Int) := Int.emod_lt_of_pos _ (by omega)
            generalize l.getD (kN l n i j % l.length) 0 = x at *
            clear hsk hij
            go_wp2
            go_roundw
            case rel => exact ⟨j + 1, by omega, by go_num, by rw [HK.out]; go_num, rfl⟩
            case measure => simp [intOf]; omega
        · obtain rfl : j = n := by omega
          have hfull := rowA_full l j i
          rw [hfull]
          have HN := Lib.hid (show wo.heap.size < (wo.alloc (.cells (i64s (rowM l j i)).toArray 2)).heap.size by simp)
          have HLen := Lib.hid (show ((matM l j).take i).length = i by rw [List.length_take, matM_length]; omega)
          have HB := Lib.hid (hb.size)
          have HOWN := Lib.hid ((HM.out.own.alloc (.cells (i64s (rowM l j i)).toArray 2)).alloc (.cells #[.slice (some ⟨wo.heap.size, 0, none⟩) j j] 53))
          have HNEW : Hid (∀ (q : Nat) (u : Value), [Value.slice (some ⟨wo.heap.size, 0, none⟩) j j][q]? = some u → ((wo.alloc (.cells (i64s (rowM l j i)).toArray 2)).alloc (.cells #[.slice (some ⟨wo.heap.size, 0, none⟩) j j] 53)).cell? ((⟨wo.heap.size + 1, 0, none⟩ : Addr).add q) = some u) := Lib.hid (fun q u hu => by
            have e : wo.heap.size + 1 = (wo.alloc (.cells (i64s (rowM l j i)).toArray 2)).heap.size := by simp
            rw [e]; exact cell_one_new _ _ _ q u hu)
          go_wp2_with (first | (at_builtin; refine wpList_append_own _ rfl _ _ 27 rfl w.heap.size 53 i0 (.slice none 0 0) 1 24 Try.underlying27 hi0 hz0 hz1 hz2 rfl (by decide) _ _ _ rfl HOWN.out ⟨wo.heap.size + 1, 0, none⟩ 1 1 [.slice (some ⟨wo.heap.size, 0, none⟩) j j] rfl rfl HNEW.out (fun x hx => by simp at hx; subst hx; rfl) (by have := HLen.out; unfold maxLen; omega) (by have := HLen.out; omega) (by have := HB.out; simp; omega) ?_; intro v' w1 hown1 hgrow _))
          go_roundw
          case rel =>
            have HP := HM.out.push (rowM l j i) (rowM_length _ _ _) hb.size _ (by rw [HLen.out] at hown1 ⊢; exact hown1) hgrow
            rw [← matM_snoc l j i hlt] at HP
            exact ⟨i + 1, gs ++ [wo.heap.size], by omega, by go_num, by rw [kN_row hlt], HP, ((hb.alloc hb.size _).alloc (by have := hb.size; simp; omega) _).grown hgrow (by have := hb.size; simp; omega) (fun k hk => (own_lt HM.out.own hk).1)⟩
          case measure => simp [intOf]; omega
    · obtain rfl : i = n := by omega
      rw [List.take_of_length_le (by rw [matM_length]; exact Nat.le_refl _)] at HM
      obtain ⟨g, cap, hv⟩ := own_form HM.own (by rw [matM_length]; omega)
      rw [matM_length] at hv
      subst hv
      replace HM := Lib.hid HM
      replace hb := Lib.hid hb
      go_wp2
      go_ret
      exact ⟨_, _, gs, rfl, HM.out, hb.out⟩
end Go.Proofs.Ytljcpgeggbbmfaa
