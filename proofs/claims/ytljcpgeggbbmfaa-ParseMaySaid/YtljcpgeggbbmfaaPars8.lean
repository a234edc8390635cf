/-
  Layer 12's Awake, and the walk of ParseMay.
-/
import Derived.Test.YtljcpgeggbbmfaaPars7
import Derived.Test.YtljcpgeggbbmfaaMakeOk
import Derived.Test.YtljcpgeggbbmfaaAwake3
import Derived.Test.YtljcpgeggbbmfaaSame5
namespace Go.Proofs.Ytljcpgeggbbmfaa
set_option linter.unusedVariables false
set_option linter.unusedSimpArgs false
open Go.RowKit
def s12 : ByteArray := ⟨#[119, 104, 97, 114, 102, 97, 103, 101, 32, 53, 32, 116, 114, 117, 99, 107, 115, 32, 48, 32, 57]⟩
theorem ok_s12 : okAll s12 = true := by kernel_rfl
def ws12 : List WordD := [⟨⟨#[119, 104, 97, 114, 102, 97, 103, 101]⟩, 0⟩, ⟨⟨#[53]⟩, 9⟩, ⟨⟨#[116, 114, 117, 99, 107, 115]⟩, 11⟩, ⟨⟨#[48]⟩, 18⟩, ⟨⟨#[57]⟩, 20⟩]
theorem words_s12 : wordsL s12 = ws12 := by kernel_rfl
theorem must_s12 : mustP ws12 21 sWharfage 0 = .inl ((), 1) := by kernel_rfl
theorem num_s12 : numP ws12 21 0 1000000000 1 = .inl (5, 2) := by kernel_rfl
theorem must2_s12 : mustP ws12 21 sTrucks 2 = .inl ((), 3) := by kernel_rfl
theorem num2_s12 : numP ws12 21 1 60 3 = .inr (18, 2) := by kernel_rfl
theorem parse_s12 : parseW (wordsL s12) s12.size = .inr (18, 2) := by
  have h : instP ws12 21 = .inr (18, 2) := by
    unfold instP
    rw [must_s12, bindP_inl, num_s12, bindP_inl]
    unfold fleetP
    rw [must2_s12, bindP_inl, num2_s12]; rfl
  rw [words_s12, show s12.size = 21 from rfl]
  unfold parseW
  rw [h]
theorem ReadOk.code {X : InstD} (K : ReadOk X) : codeI X = 0 := by
  have cB : countB X = true := by
    unfold countB manyB
    simp only [Bool.and_eq_true, decide_eq_true_eq]
    have := K.s1; have := K.s2; have := K.c1; have := K.c2; have := K.tm; have := K.bm
    omega
  have sq : ∀ ls : List (List Int), ls.length = nodesN X → (∀ r ∈ ls, r.length = nodesN X) → sqB ls (nodesN X) = true := fun ls h1 h2 => by
    unfold sqB
    rw [Bool.and_eq_true, List.all_eq_true]
    exact ⟨by simp [h1], fun r hr => by simp [h2 r hr]⟩
  have row : ∀ ls : List (List Int), (∀ (i : Nat) (r : List Int), ls[i]? = some r → ∀ (k : Nat) (v : Int), r[k]? = some v → 0 ≤ v ∧ v ≤ 1000000000 ∧ (i = k → v = 0)) → allAt rowB ls = true := fun ls h =>
    allAt_of _ _ fun i r hr => allAt_of _ _ fun k v hv => by
      obtain ⟨a, b, c⟩ := h i r hr k v hv
      unfold cellB
      rw [mayB_of a b, Bool.true_and]
      by_cases e : i = k
      · rw [c e]; simp
      · have : (i == k) = false := by rw [beq_eq_false_iff_ne]; exact e
        rw [this]; rfl
  have nB : numsB X = true := by
    unfold numsB
    have e4 : allAt satB X.sats = true := allAt_of _ _ fun k x hx => by
      obtain ⟨⟨a, b⟩, c, d⟩ := K.sat x (List.mem_of_getElem? hx)
      unfold satB; rw [mayB_of a b, mayB_of c d]; rfl
    have e5 : allAt custB X.custs = true := allAt_of _ _ fun k x hx => by
      obtain ⟨⟨a, b⟩, ⟨c, d⟩, ⟨e, f⟩, g, h⟩ := K.cust x (List.mem_of_getElem? hx)
      unfold custB; rw [mayB_of a b, mayB_of c d, mayB_of e f, mayB_of g h]; rfl
    rw [mayB_of K.fin.1 K.fin.2, mayB_of K.tr.1 K.tr.2, mayB_of K.br.1 K.br.2, e4, e5, row _ K.co, row _ K.ti]; rfl
  unfold codeI
  rw [cB, sq _ K.o K.ro, sq _ K.t K.rt, nB]; rfl
theorem code_read (X : InstD) (h : HdD) (w : World) (H : InstIs w X h) (K : ReadOk X) :
    Calls Try.prog 15 #[.agg (instC X h)] w fun e w' => e = .returned (.int .i64 0) ∧ Below w.heap.size w w' :=
  (code_any X h w H (by have := K.s2; omega) (by have := K.c2; omega)).mono fun e w' ⟨he, hb⟩ => ⟨by rw [he, K.code], hb⟩
set_option maxHeartbeats 8000000 in
set_option maxRecDepth 100000 in
theorem awake12_any (w : World) : Calls Try.prog 13 #[] w fun e w' => e = .returned (.bool true) ∧ Below w.heap.size w w' := by
  have HP := Lib.hid (fun w => parse_fine s12 (by decide) ok_s12 w)
  go_enter Try.func13, Try.ntmps13
  go_wp2_with fail
  refine (HP.out _).mono ?_
  rintro e w1 ⟨hb, ⟨X, h, hr, _⟩ | ⟨a, c, hr, _, rfl⟩⟩
  · rw [parse_s12] at hr; cases hr
  rw [parse_s12] at hr
  injection hr with hr
  injection hr with h1 h2
  subst h1
  subst h2
  have hb3 := Lib.hid (hb.alloc hb.size (.cells #[.int .i64 0, .int .i64 0, .int .i64 0, .int .i64 0, .int .i64 0, .slice none 0 0, .slice none 0 0, .slice none 0 0, .slice none 0 0] 29))
  clear hb HP
  go_wp2_with fail
  refine (awake_any _).mono ?_
  rintro e w2 ⟨rfl, hb4⟩
  have hb5 := Lib.hid (hb3.out.trans (hb4.mono hb3.out.size))
  clear hb4
  go_wp2_with fail
  go_ret
  exact ⟨rfl, hb5.out⟩
set_option maxHeartbeats 16000000 in
set_option maxRecDepth 100000 in
theorem walk_ParseMay (w : World) (s : ByteArray) (hs : s.size ≤ 9223372036854775807) :
    Calls Try.prog 3 #[.string s] w fun e w' => e = .returned (.bool true) ∧ Below w.heap.size w w' := by
  by_cases hl : 3000 < s.size
  · have hl2 : (3000 : Int) < (s.size : Int) := by omega
    go_enter Try.func3, Try.ntmps3
    go_wp2_with fail
    refine (awake12_any _).mono ?_
    rintro e w1 ⟨rfl, hb⟩
    go_wp2_with fail
    go_ret
    exact ⟨rfl, hb⟩
  have hl2 : ¬ (3000 : Int) < (s.size : Int) := by omega
  have HP : ∃ r : InstD ⊕ (Int × Int), Hid (∀ w, Calls Try.prog 14 #[.string s] w (POut r w)) := by
    rcases bad_or s with hok | ⟨k, hk⟩
    · exact ⟨_, Lib.hid (fun w => parse_fine s (by omega) hok w)⟩
    · exact ⟨_, Lib.hid (fun w => parse_bad s (by omega) hk w)⟩
  obtain ⟨r, HP⟩ := HP
  go_enter Try.func3, Try.ntmps3
  go_wp2_with fail
  refine (awake12_any _).mono ?_
  rintro e w1 ⟨rfl, hb⟩
  replace hb := Lib.hid hb
  go_wp2_with fail
  refine (HP.out _).mono ?_
  rintro e w2 ⟨hb2, ⟨X, h, hr, K, rfl, HI⟩ | ⟨a, c, hr, hc, rfl⟩⟩
  · clear hr HP
    obtain ⟨k1, q1, k2, q2, k3, q3, k4, q4⟩ := h
    have hn := heap_alloc_new w2 (.cells #[.int .i64 X.fin, .int .i64 X.tm, .int .i64 X.tr, .int .i64 X.bm, .int .i64 X.br, .slice k1 X.sats.length q1, .slice k2 X.custs.length q2, .slice k3 X.cost.length q3, .slice k4 X.time.length q4] 29)
    have hb3 : Below w2.heap.size w2 (w2.alloc (.cells #[.int .i64 X.fin, .int .i64 X.tm, .int .i64 X.tr, .int .i64 X.bm, .int .i64 X.br, .slice k1 X.sats.length q1, .slice k2 X.custs.length q2, .slice k3 X.cost.length q3, .slice k4 X.time.length q4] 29)) := (Below.refl _ _).alloc (Nat.le_refl _) _
    have hb4 := Lib.hid ((hb.out.trans (hb2.mono hb.out.size)).trans (hb3.mono (Nat.le_trans hb.out.size hb2.size)))
    have HI3 := Lib.hid (HI.below hb3)
    have hn2 := Lib.hid hn
    replace K := Lib.hid K
    clear hb hb2 HI hn hb3
    go_upto_region 6 with fail
    generalize w2.alloc (.cells #[.int .i64 X.fin, .int .i64 X.tm, .int .i64 X.tr, .int .i64 X.bm, .int .i64 X.br, .slice k1 X.sats.length q1, .slice k2 X.custs.length q2, .slice k3 X.cost.length q3, .slice k4 X.time.length q4] 29) = W3 at *
    obtain ⟨⟨c0, c1, c2, c3, c4, c5, c6, c7, c8⟩, _⟩ := row9 hn2.out
    go_wp2_with fail
    refine (code_read X ⟨k1, q1, k2, q2, k3, q3, k4, q4⟩ _ HI3.out K.out).mono ?_
    rintro e w5 ⟨rfl, hb5⟩
    have hb6 := Lib.hid (hb4.out.trans (hb5.mono hb4.out.size))
    clear hb5
    go_wp2_with fail
    go_ret
    exact ⟨rfl, hb6.out⟩
  · clear hr HP
    have hne : (c != 0) = true := by rw [bne_iff_ne]; exact hc
    have hne2 : ¬ c = 0 := hc
    have hb4 := Lib.hid ((hb.out.trans (hb2.mono hb.out.size)).alloc (Nat.le_trans hb.out.size hb2.size) (.cells #[.int .i64 0, .int .i64 0, .int .i64 0, .int .i64 0, .int .i64 0, .slice none 0 0, .slice none 0 0, .slice none 0 0, .slice none 0 0] 29))
    clear hb hb2
    go_wp2_with fail
    go_ret
    exact ⟨rfl, hb4.out⟩
theorem law_ParseMay (w : World) (s : ByteArray) (hs : s.size ≤ maxLen) : Calls Try.prog 3 #[.string s] w fun e w' => e = .returned (.bool true) ∧ Below w.heap.size w w' :=
  walk_ParseMay w s hs
end Go.Proofs.Ytljcpgeggbbmfaa
