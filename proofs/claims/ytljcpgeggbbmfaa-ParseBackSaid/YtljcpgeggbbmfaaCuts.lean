/-
  The walk of ParseCuts (layer 12).
-/
import Derived.Test.YtljcpgeggbbmfaaTextW
namespace Go.Proofs.Ytljcpgeggbbmfaa
set_option linter.unusedVariables false
set_option linter.unusedSimpArgs false
open Go.RowKit
theorem u16_nat {x : Int} (h : (Lit.int .u16 x).wf = true) : ∃ n : Nat, x = (n : Int) ∧ n < 65536 := by
  have : (0 : Int) ≤ x ∧ x ≤ 65535 := by simpa [Lit.wf, IntKind.min, IntKind.max, IntKind.signed, IntKind.bits] using h
  exact ⟨x.toNat, by omega, by omega⟩
theorem ext_size (T : ByteArray) (k : Nat) (h : k ≤ T.size) : (T.extract 0 k).size = k := by rw [ByteArray.size_extract]; omega
/-- what is read of a beginning of an instance's text: none; the place within it, and an error. -/
theorem cut_out (X : InstD) (hs : (textI X).size ≤ 5200) (k : Nat) (hk : k + 3 ≤ (textI X).size) : ∃ (a : Nat) (c : Int), a ≤ k ∧ c ≠ 0 ∧ ∀ w, Calls Try.prog 14 #[.string ((textI X).extract 0 k)] w (POut (.inr ((a : Int), c)) w) := by
  have hz := ext_size (textI X) k (by omega)
  have hne := cut_noend X k hk
  generalize (textI X).extract 0 k = s at *
  rcases bad_or s with hok | ⟨j, hj⟩
  · obtain ⟨a, c, h1, h2, h3⟩ := parseW_noend (n := s.size) hne (fun x hx => (wordsL_pos s x hx).1)
    refine ⟨a, c, by omega, h3, fun w => ?_⟩
    have := parse_fine s (by omega) hok w
    rwa [h1] at this
  · exact ⟨j, 3, by have := hj.1; omega, by decide, fun w => parse_bad s (by omega) hj w⟩
theorem same_none (h : HdD) (w : World) (IX : InstIs w ⟨0, 0, 0, 0, 0, [], [], [], []⟩ h) :
    Calls Try.prog 17 #[.agg (instC ⟨0, 0, 0, 0, 0, [], [], [], []⟩ h), .agg #[.int .i64 0, .int .i64 0, .int .i64 0, .int .i64 0, .int .i64 0, .slice none 0 0, .slice none 0 0, .slice none 0 0, .slice none 0 0]] w fun e w' => e = .returned (.bool true) ∧ Below w.heap.size w w' :=
  same_self ⟨0, 0, 0, 0, 0, [], [], [], []⟩ h ⟨none, 0, none, 0, none, 0, none, 0⟩ w IX (inst00_is w)
set_option maxHeartbeats 16000000 in
set_option maxRecDepth 100000 in
theorem walk_ParseCuts (w : World) (S : SmallD) (h : SmallH) (H : SmallIs w S h) (n : Nat) (hn : n < 65536) :
    Calls Try.prog 7 #[.agg (smallC S h), .int .u16 (n : Int)] w fun e w' => e = .returned (.bool true) ∧ Below w.heap.size w w' := by
  have K := Lib.hid (make_ok H)
  have HT := Lib.hid (make_text H)
  obtain ⟨sa, sc, ca, cc, oa, oc, ta, tc⟩ := h
  have BW := (Below.refl w.heap.size w).alloc (Nat.le_refl _) (.cells #[Value.int .u8 S.fin, .int .u8 S.tm, .int .u8 S.tr, .int .u8 S.bm, .int .u8 S.br, .slice sa S.sats.length sc, .slice ca S.custs.length cc, .slice oa S.cost.length oc, .slice ta S.time.length tc, .bool S.tight, .bool S.loose] 40)
  replace H := Lib.hid (H.below BW)
  have DD : ∀ j u, #[Value.int .u8 S.fin, .int .u8 S.tm, .int .u8 S.tr, .int .u8 S.bm, .int .u8 S.br, .slice sa S.sats.length sc, .slice ca S.custs.length cc, .slice oa S.cost.length oc, .slice ta S.time.length tc, .bool S.tight, .bool S.loose][j]? = some u → (w.alloc (.cells #[Value.int .u8 S.fin, .int .u8 S.tm, .int .u8 S.tr, .int .u8 S.bm, .int .u8 S.br, .slice sa S.sats.length sc, .slice ca S.custs.length cc, .slice oa S.cost.length oc, .slice ta S.time.length tc, .bool S.tight, .bool S.loose] 40)).cell? ⟨w.heap.size, j, none⟩ = some u := fun j u hu => by rw [World.cell?_alloc_new]; exact hu
  have gA : w.heap.size < (w.alloc (.cells #[Value.int .u8 S.fin, .int .u8 S.tm, .int .u8 S.tr, .int .u8 S.bm, .int .u8 S.br, .slice sa S.sats.length sc, .slice ca S.custs.length cc, .slice oa S.cost.length oc, .slice ta S.time.length tc, .bool S.tight, .bool S.loose] 40)).heap.size := by simp
  replace DD := Lib.hid DD
  replace BW := Lib.hid BW
  go_enter Try.func7, Try.ntmps7
  go_wp2_with fail
  refine (awake12_any _).mono ?_
  rintro e W ⟨rfl, hA⟩
  generalize (w.alloc (.cells #[Value.int .u8 S.fin, .int .u8 S.tm, .int .u8 S.tr, .int .u8 S.bm, .int .u8 S.br, .slice sa S.sats.length sc, .slice ca S.custs.length cc, .slice oa S.cost.length oc, .slice ta S.time.length tc, .bool S.tight, .bool S.loose] 40)) = WA at *
  generalize hg : w.heap.size = g at *
  replace hg := Lib.hid hg
  replace H := Lib.hid (H.out.below hA)
  have d0 : W.cell? ⟨g, 0, none⟩ = some (Value.int .u8 S.fin) := keep_cell hA (DD.out 0 _ rfl)
  have d1 : W.cell? ⟨g, 1, none⟩ = some (.int .u8 S.tm) := keep_cell hA (DD.out 1 _ rfl)
  have d2 : W.cell? ⟨g, 2, none⟩ = some (.int .u8 S.tr) := keep_cell hA (DD.out 2 _ rfl)
  have d3 : W.cell? ⟨g, 3, none⟩ = some (.int .u8 S.bm) := keep_cell hA (DD.out 3 _ rfl)
  have d4 : W.cell? ⟨g, 4, none⟩ = some (.int .u8 S.br) := keep_cell hA (DD.out 4 _ rfl)
  have d5 : W.cell? ⟨g, 5, none⟩ = some (.slice sa S.sats.length sc) := keep_cell hA (DD.out 5 _ rfl)
  have d6 : W.cell? ⟨g, 6, none⟩ = some (.slice ca S.custs.length cc) := keep_cell hA (DD.out 6 _ rfl)
  have d7 : W.cell? ⟨g, 7, none⟩ = some (.slice oa S.cost.length oc) := keep_cell hA (DD.out 7 _ rfl)
  have d8 : W.cell? ⟨g, 8, none⟩ = some (.slice ta S.time.length tc) := keep_cell hA (DD.out 8 _ rfl)
  have d9 : W.cell? ⟨g, 9, none⟩ = some (.bool S.tight) := keep_cell hA (DD.out 9 _ rfl)
  have d10 : W.cell? ⟨g, 10, none⟩ = some (.bool S.loose) := keep_cell hA (DD.out 10 _ rfl)
  have g1 : g < W.heap.size := Nat.lt_of_lt_of_le gA hA.size
  have hW := Lib.hid (BW.out.trans (hA.mono (by have := hg.out; have := gA; omega)))
  clear BW hA gA DD
  go_wp2_with fail
  refine (make_any S ⟨sa, sc, ca, cc, oa, oc, ta, tc⟩ _ H.out).mono ?_
  rintro e w1 ⟨hx, g7, g8, rfl, hM, hb1⟩
  have IX := Lib.hid hM.make
  have hW1 := Lib.hid ((On.mk hW.out (Nat.le_of_lt g1)).go hb1)
  clear d0 d1 d2 d3 d4 d5 d6 d7 d8 d9 d10
  clear hM hb1 hW H g7 g8
  generalize makeI S = X at *
  go_wp2_with fail
  refine (text12_any X hx K.out _ IX.out).mono ?_
  rintro e w2 ⟨rfl, hb2⟩
  have hW2 := Lib.hid (hW1.out.go hb2)
  clear hb2 hW1 IX
  have h3 := (textI_3 X).1
  have h52 := HT.out.1
  have hCut := Lib.hid (cut_out X h52)
  generalize textI X = T at *
  obtain ⟨m, hm⟩ : ∃ m : Nat, T.size = m + 2 := ⟨T.size - 2, by omega⟩
  have m0 : ¬ m = 0 := by omega
  have p1 : IntKind.i64.wrap (n : Int) = (n : Int) := IntWalk.i64_in _ (by omega)
  have p2 : IntKind.i64.wrap ((T.size : Int) - 2) = (m : Int) := by rw [IntWalk.i64_in _ (by omega)]; omega
  have p3 : (n : Int).tmod (m : Int) = ((n % m : Nat) : Int) := (Int.ofNat_tmod n m).symm
  have hk : n % m < m := Nat.mod_lt _ (by omega)
  obtain ⟨a, c, ha, hc, hP⟩ := hCut.out (n % m) (by omega)
  generalize n % m = k at *
  have k0 : (0 : Int) ≤ (k : Int) := by omega
  have k1 : (k : Int) ≤ (T.size : Int) := by omega
  have a0 : (0 : Int) ≤ (a : Int) := by omega
  have a1 : (a : Int) ≤ (k : Int) := by omega
  have c0 : (c != 0) = true := by rw [bne_iff_ne]; exact hc
  replace hP := Lib.hid hP
  clear hCut HT K
  go_wp2_with fail
  refine (hP.out _).mono ?_
  rintro e w3 ⟨hb3, ⟨Y, h, hr, _⟩ | ⟨a', c', hr, hc', rfl⟩⟩
  · cases hr
  injection hr with hr
  injection hr with e1 e2
  subst e1
  subst e2
  have hW3 := Lib.hid ((hW2.out.go hb3).alloc (.cells #[.int .i64 0, .int .i64 0, .int .i64 0, .int .i64 0, .int .i64 0, .slice none 0 0, .slice none 0 0, .slice none 0 0, .slice none 0 0] 29))
  clear hb3 hW2 hP
  go_wp2_with fail
  refine (same_none ⟨none, 0, none, 0, none, 0, none, 0⟩ _ (inst00_is _)).mono ?_
  rintro e w4 ⟨rfl, hb4⟩
  have hW4 := Lib.hid (hW3.out.go hb4)
  clear hb4 hW3
  go_wp2_with fail
  go_ret
  exact ⟨rfl, by first | exact hW4.out.b | (rw [hg.out]; exact hW4.out.b)⟩
theorem law_ParseCuts (w : World) (v : Value) (hv : ∃ (S : SmallD) (h : SmallH), v = .agg (smallC S h) ∧ SmallIs w S h) (n : Int) (hn : (Lit.int .u16 n).wf = true) :
    Calls Try.prog 7 #[v, .int .u16 n] w fun e w' => e = .returned (.bool true) ∧ Below w.heap.size w w' := by
  obtain ⟨S, h, rfl, H⟩ := hv
  obtain ⟨k, rfl, hk⟩ := u16_nat hn
  exact walk_ParseCuts w S h H k hk
end Go.Proofs.Ytljcpgeggbbmfaa
