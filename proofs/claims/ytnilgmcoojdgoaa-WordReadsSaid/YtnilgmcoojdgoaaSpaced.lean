/-
  The walk of WordSpaced (layer 5).
-/
import Derived.Test.YtnilgmcoojdgoaaLaws5
import Derived.Test.YtnilgmcoojdgoaaTexts5
import Derived.IntWalk
import Derived.Deep.QuietTactic
import Derived.BigQuiet
namespace Go.Proofs.Ytnilgmcoojdgoaa
set_option linter.unusedVariables false
set_option linter.unusedSimpArgs false
open Go.RowKit
/-- what stands between words, by a number. -/
def gapB (q : Nat) : ByteArray :=
  if q % 5 = 0 then ⟨#[10]⟩ else if q % 5 = 1 then ⟨#[32, 32]⟩ else if q % 5 = 2 then ⟨#[32, 35, 32, 110, 111, 32, 119, 111, 114, 100, 115, 44, 32, 55, 10]⟩ else if q % 5 = 3 then ⟨#[10, 10, 32]⟩ else ⟨#[35, 10]⟩
def gapAt (gs : List Int) (i : Nat) : ByteArray := if i < gs.length then gapB (gs.getD i 0).toNat else ⟨#[32]⟩
theorem gapAt_ok (gs : List Int) (i : Nat) : isGap (L (gapAt gs i)) ∧ (L (gapAt gs i)).length ≤ 15 ∧ (L (gapAt gs i)).all (fun c => okB c.toNat) = true := by
  unfold gapAt
  split
  · unfold gapB
    split
    · exact ⟨gap_b, by decide, by decide⟩
    · split
      · exact ⟨gap_c, by decide, by decide⟩
      · split
        · exact ⟨gap_d, by decide, by decide⟩
        · split
          · exact ⟨gap_e, by decide, by decide⟩
          · exact ⟨gap_f, by decide, by decide⟩
  · exact ⟨gap_a, by decide, by decide⟩
def txtAt (ws : List WordD) (i : Nat) : ByteArray := (ws[i]?.map WordD.text).getD ByteArray.empty
theorem txtAt_in {ws : List WordD} {i : Nat} (h : i < ws.length) : txtAt ws i = ws[i].text := by unfold txtAt; rw [List.getElem?_eq_getElem h]; rfl
/-- the text that is built of the words, up to the k-th. -/
def tB (ws : List WordD) (gs : List Int) : Nat → ByteArray
  | 0 => ⟨#[]⟩
  | k + 1 => tB ws gs k ++ (txtAt ws k ++ gapAt gs k)
theorem tB_mono (ws : List WordD) (gs : List Int) {j k : Nat} (h : j ≤ k) : (tB ws gs j).size ≤ (tB ws gs k).size := by
  induction k with
  | zero => rw [Nat.le_zero.1 h]; exact Nat.le_refl _
  | succ k ih =>
    rcases Nat.lt_or_ge j (k + 1) with h1 | h1
    · have := ih (by omega)
      show _ ≤ (tB ws gs k ++ (txtAt ws k ++ gapAt gs k)).size
      rw [ByteArray.size_append]; omega
    · rw [show j = k + 1 by omega]; exact Nat.le_refl _
theorem text_le (s : ByteArray) : ∀ x ∈ wordsL s, x.text.size ≤ s.size := by
  intro x hx
  obtain ⟨_, e, he, h1, h2⟩ := wordsL_pos s x hx
  rw [he, ByteArray.size_extract]; omega
def pairsT (ws : List WordD) (gs : List Int) (k : Nat) : List (List UInt8 × List UInt8) := (List.range k).map fun i => (L (txtAt ws i), L (gapAt gs i))
theorem joinT_append (a b : List (List UInt8 × List UInt8)) : joinT (a ++ b) = joinT a ++ joinT b := by
  induction a with
  | nil => rfl
  | cons x a ih => obtain ⟨p, q⟩ := x; simp only [List.cons_append, joinT, ih, List.append_assoc]
theorem L_append (a b : ByteArray) : L (a ++ b) = L a ++ L b := by
  show (a ++ b).data.toList = _
  rw [ByteArray.data_append, Array.toList_append]
theorem tB_join (ws : List WordD) (gs : List Int) : ∀ k, L (tB ws gs k) = joinT (pairsT ws gs k)
  | 0 => rfl
  | k + 1 => by
    show L (tB ws gs k ++ (txtAt ws k ++ gapAt gs k)) = _
    rw [L_append, L_append, tB_join ws gs k]
    unfold pairsT
    rw [List.range_succ, List.map_append, joinT_append]
    simp [joinT]
theorem pairs_fst (ws : List WordD) (gs : List Int) : (pairsT ws gs ws.length).map Prod.fst = ws.map (fun x => L x.text) := by
  unfold pairsT
  rw [List.map_map]
  apply List.ext_getElem
  · simp
  · intro i h1 h2
    have hi : i < ws.length := by simpa using h1
    simp [txtAt_in hi]
theorem joinT_len (l : List (List UInt8 × List UInt8)) (h : ∀ x ∈ l, x.2.length ≤ 15) : (joinT l).length ≤ ((l.map Prod.fst).map List.length).sum + 15 * l.length := by
  induction l with
  | nil => simp [joinT]
  | cons x l ih =>
    obtain ⟨p, q⟩ := x
    have h1 := h (p, q) (List.mem_cons_self)
    have h2 := ih (fun x hx => h x (List.mem_cons_of_mem _ hx))
    simp only [joinT, List.length_append, List.map_cons, List.sum_cons, List.length_cons] at *
    omega
theorem joinT_all (p : UInt8 → Bool) (l : List (List UInt8 × List UInt8)) (h : ∀ x ∈ l, x.1.all p = true ∧ x.2.all p = true) : (joinT l).all p = true := by
  induction l with
  | nil => rfl
  | cons x l ih =>
    obtain ⟨a, b⟩ := x
    obtain ⟨h1, h2⟩ := h (a, b) (List.mem_cons_self)
    simp only [joinT, List.all_append, h1, h2, ih (fun x hx => h x (List.mem_cons_of_mem _ hx))]
    rfl
theorem L_inj {a b : ByteArray} (h : L a = L b) : a = b := ByteArray.ext (Array.ext' h)
/-- the words of the text that is built. -/
theorem spaced (s : ByteArray) (gs : List Int) (hs : s.size ≤ 600) (hok : okAll s = true) :
    okAll (tB (wordsL s) gs (wordsL s).length) = true ∧ (tB (wordsL s) gs (wordsL s).length).size ≤ 20000 ∧ (wordsL (tB (wordsL s) gs (wordsL s).length)).length = (wordsL s).length ∧
    ∀ i (h : i < (wordsL s).length) (h2 : i < (wordsL (tB (wordsL s) gs (wordsL s).length)).length), (wordsL (tB (wordsL s) gs (wordsL s).length))[i].text = (wordsL s)[i].text := by
  have ht := words_texts s
  obtain ⟨h1, h2⟩ := endT_ok (L s)
  rw [← ht] at h1 h2
  have hlen := wordsL_len s
  rw [okAll_iff] at hok
  have hbytes : ∀ c ∈ L s, okB c.toNat = true := fun c hc => List.all_eq_true.1 hok c hc
  generalize wordsL s = ws at *
  have hp : ∀ x ∈ pairsT ws gs ws.length, (isW x.1 ∧ isGap x.2) ∧ x.2.length ≤ 15 ∧ x.1.all (fun c => okB c.toNat) = true ∧ x.2.all (fun c => okB c.toNat) = true := by
    intro x hx
    obtain ⟨i, hi, rfl⟩ := List.mem_map.1 hx
    have hi := List.mem_range.1 hi
    obtain ⟨g1, g2, g3⟩ := gapAt_ok gs i
    have hm : L (txtAt ws i) ∈ ws.map (fun x => L x.text) := by
      rw [txtAt_in hi]
      exact List.mem_map.2 ⟨ws[i], List.getElem_mem hi, rfl⟩
    exact ⟨⟨(h1 _ hm).1, g1⟩, g2, List.all_eq_true.2 (fun c hc => hbytes c ((h1 _ hm).2 c hc)), g3⟩
  have hj := tB_join ws gs ws.length
  have he := end_join (pairsT ws gs ws.length) (fun x hx => (hp x hx).1)
  rw [pairs_fst, ← hj] at he
  have hw := words_texts (tB ws gs ws.length)
  rw [he] at hw
  refine ⟨?_, ?_, ?_, ?_⟩
  · rw [okAll_iff, hj]
    exact joinT_all _ _ (fun x hx => (hp x hx).2.2)
  · have := joinT_len (pairsT ws gs ws.length) (fun x hx => (hp x hx).2.1)
    rw [← hj, pairs_fst, L_length] at this
    have hl : (pairsT ws gs ws.length).length = ws.length := by unfold pairsT; simp
    rw [hl] at this
    have e : (L s).length = s.size := rfl
    omega
  · have := congrArg List.length hw
    simpa using this
  · intro i ha hb
    have := congrArg (fun l => l[i]?) hw
    simp only [List.getElem?_map, List.getElem?_eq_getElem ha, List.getElem?_eq_getElem hb, Option.map_some] at this
    injection this with this
    exact L_inj this
set_option maxHeartbeats 16000000 in
set_option maxRecDepth 100000 in
theorem walk_WordSpaced (w : World) (s : ByteArray) (hs2 : s.size ≤ 9223372036854775807) (a : Option Addr) (cap : Nat) (gs : List Int) (hgl : gs.length ≤ 9223372036854775807) (HE : Elems .u8 w a gs) :
    Calls Try.prog 7 #[.string s, .slice a gs.length cap] w fun e w' => e = .returned (.bool true) ∧ Below w.heap.size w w' := by
  have hA := Lib.hid awake5_any
  replace HE := Lib.hid HE
  have hSp := Lib.hid (fun w' => split_any s w' hs2)
  go_enter Try.func7, Try.ntmps7
  go_wp2_with fail
  refine (hA.out _).mono ?_
  rintro e w1 ⟨rfl, hb1⟩
  replace hb1 := Lib.hid hb1
  go_wp2_with fail
  refine (hSp.out _).mono ?_
  rintro e w2 (⟨h9, rfl, hb2⟩ | ⟨k, h9, h8, rfl, hb2⟩ | ⟨h9, hok, A, C, rfl, hO, hb2⟩)
  · have hbb := Lib.hid (keep_below hb1.out hb2)
    have h600 : (600 : Int) < (s.size : Int) := by omega
    clear hb2
    go_wp2_with fail
    go_ret
    exact ⟨rfl, hbb.out⟩
  · have hbb := Lib.hid (keep_below hb1.out hb2)
    clear hb2 h8
    by_cases h1 : 600 < s.size
    · go_wp2_with fail
      go_ret
      exact ⟨rfl, hbb.out⟩
    · by_cases h2 : 40 < gs.length
      · go_wp2_with fail
        go_ret
        exact ⟨rfl, hbb.out⟩
      · go_wp2_with fail
        go_ret
        exact ⟨rfl, hbb.out⟩
  · have hbb := Lib.hid (keep_below hb1.out hb2)
    have hR1 := Lib.hid (own_rd' hO)
    clear hb2 hO
    by_cases h1 : 600 < s.size
    · go_wp2_with fail
      go_ret
      exact ⟨rfl, hbb.out⟩
    · by_cases h2 : 40 < gs.length
      · go_wp2_with fail
        go_ret
        exact ⟨rfl, hbb.out⟩
      · obtain ⟨t1, t2, t3, t4⟩ := spaced s gs (by omega) hok
        have hlen := wordsL_len s
        have htl := text_le s
        have hpos := Lib.hid (wordsL_pos (tB (wordsL s) gs (wordsL s).length))
        generalize wordsL s = ws at *
        have k2 : (ws.length : Int) ≤ 601 := by omega
        replace t4 := Lib.hid t4
        have htm := Lib.hid (fun k (hk : k ≤ ws.length) => Nat.le_trans (tB_mono ws gs hk) t2)
        replace htl := Lib.hid htl
        replace hlen := Lib.hid hlen
        have hHE := Lib.hid (fun i hi => (HE.out.below hbb.out) i hi)
        go_wp2_with fail
        go_loopw [8, 39] (fun t i wr => ∃ k : Nat, k ≤ ws.length ∧ i = .int .i64 k ∧ t = .string (tB ws gs k) ∧ Below w2.heap.size w2 wr) (fun _ i _ => ws.length - (intOf i).toNat)
        case atStart => exact ⟨0, Nat.zero_le _, rfl, rfl, Below.refl _ _⟩
        case round =>
          obtain ⟨k, hk, rfl, rfl, hb⟩ := hrel
          have k0 : (0 : Int) ≤ (k : Int) := by omega
          by_cases hkl : k < ws.length
          · obtain ⟨b, off, rfl, hc1, hc2⟩ := (hR1.out.below hb).word hkl
            have k1 : (k : Int) < (ws.length : Int) := by omega
            have hxs := htl.out ws[k] (List.getElem_mem hkl)
            have hts := htm.out k hk
            have hT : Hid (tB ws gs (k + 1) = tB ws gs k ++ (ws[k].text ++ gapAt gs k)) := Lib.hid (by show tB ws gs k ++ (txtAt ws k ++ gapAt gs k) = _; rw [txtAt_in hkl])
            have hG : Hid (gapAt gs k = if k < gs.length then gapB (gs.getD k 0).toNat else ⟨#[32]⟩) := Lib.hid rfl
            generalize ws[k] = x at *
            generalize tB ws gs k = tt at *
            have hbz := Lib.hid hb
            have z1 : ¬ 9223372036854775807 < x.text.size + 1 := by omega
            have z2 : ¬ 9223372036854775807 < x.text.size + 2 := by omega
            have z3 : ¬ 9223372036854775807 < x.text.size + 3 := by omega
            have z4 : ¬ 9223372036854775807 < x.text.size + 15 := by omega
            have y1 : ¬ 9223372036854775807 < tt.size + (x.text.size + 1) := by omega
            have y2 : ¬ 9223372036854775807 < tt.size + (x.text.size + 2) := by omega
            have y3 : ¬ 9223372036854775807 < tt.size + (x.text.size + 3) := by omega
            have y4 : ¬ 9223372036854775807 < tt.size + (x.text.size + 15) := by omega
            by_cases hkg : k < gs.length
            · obtain ⟨ad, rfl, hg, hw⟩ := (HE.out.below (keep_below hbb.out hb)) k hkg
              have hg2 := keep_cell ((Below.refl _ _).alloc (Nat.le_refl _) (.cells #[.string x.text, .int .i64 (x.pos : Int)] 32)) hg
              have hg3 := keep_cell ((Below.refl _ _).alloc (Nat.le_refl _) (.cells #[.string ⟨#[10]⟩, .string ⟨#[32, 32]⟩, .string ⟨#[32, 35, 32, 110, 111, 32, 119, 111, 114, 100, 115, 44, 32, 55, 10]⟩, .string ⟨#[10, 10, 32]⟩, .string ⟨#[35, 10]⟩] 9)) hg2
              have hq0 : (0 : Int) ≤ gs.getD k 0 ∧ gs.getD k 0 ≤ 255 := by simpa [Lit.wf, IntKind.min, IntKind.max, IntKind.signed, IntKind.bits] using hw
              obtain ⟨q, hq⟩ : ∃ q : Nat, gs.getD k 0 = (q : Int) := ⟨(gs.getD k 0).toNat, by omega⟩
              rw [hq] at hg hg2 hg3 hq0
              have hG2 : Hid (gapAt gs k = gapB q) := Lib.hid (by rw [hG.out, if_pos hkg, hq, Int.toNat_natCast])
              have k3 : (k : Int) < (gs.length : Int) := by omega
              have q2 : q ≤ 255 := by omega
              clear hq hw hb hG
              have hcase : (q : Int) % 5 = 0 ∨ (q : Int) % 5 = 1 ∨ (q : Int) % 5 = 2 ∨ (q : Int) % 5 = 3 ∨ (q : Int) % 5 = 4 := by omega
              have n5 : Hid (∀ r : Int, (q : Int) % 5 = r → (q % 5 : Nat) = r.toNat) := Lib.hid (fun r h => by omega)
              rcases hcase with hc | hc | hc | hc | hc
              all_goals
                have hcn := n5.out _ hc
                have hG3 : Hid (gapAt gs k = gapB q) := hG2
                unfold gapB at hG3
                have hG4 := hG3.out
                rw [hcn] at hG4
                clear hcn hG3
                replace hG4 := Lib.hid hG4
                go_wp2_with fail
                go_roundw
                case rel => exact ⟨k + 1, by omega, by go_num, by rw [hT.out, hG4.out]; rfl, (hbz.out.alloc hbz.out.size _).alloc (by have := hbz.out.size; simp; omega) _⟩
                case measure => simp [intOf]; omega
            · have hG2 : Hid (gapAt gs k = ⟨#[32]⟩) := Lib.hid (by rw [hG.out, if_neg hkg])
              have k3 : ¬ (k : Int) < (gs.length : Int) := by omega
              clear hb
              go_wp2_with fail
              go_roundw
              case rel => exact ⟨k + 1, by omega, by go_num, by rw [hT.out, hG2.out], hbz.out.alloc hbz.out.size _⟩
              case measure => simp [intOf]; omega
          · obtain rfl : k = ws.length := by omega
            have hS2 := Lib.hid (fun w' => split_ok (tB ws gs ws.length) w' (by omega) t1)
            have t3' := Lib.hid t3
            generalize tB ws gs ws.length = T at *
            generalize hmw : wordsL T = ms at *
            have hml : ms.length = ws.length := t3
            rw [hml] at hS2
            have hR2 := Lib.hid (hR1.out.below hb)
            have hbz := Lib.hid (keep_below hbb.out hb)
            clear hb htm hHE t3
            have hTs : (T.size : Int) ≤ 20000 := by omega
            replace hml := Lib.hid hml
            replace hmw := Lib.hid hmw
            go_wp2_with fail
            refine (hS2.out _).mono ?_
            rintro e w4 ⟨A2, C2, rfl, hO2, hb4⟩
            have hR3 := Lib.hid (own_rd' hO2)
            replace hR2 := Lib.hid (hR2.out.below hb4)
            replace hbz := Lib.hid (keep_below hbz.out hb4)
            clear hO2 hb4
            go_wp2_with fail
            go_loopw [80] (fun i wr => ∃ k : Nat, k ≤ ws.length ∧ i = .int .i64 k ∧ Below w4.heap.size w4 wr) (fun i _ => ws.length - (intOf i).toNat)
            case atStart => exact ⟨0, Nat.zero_le _, rfl, Below.refl _ _⟩
            case round =>
              obtain ⟨k, hk, rfl, hb⟩ := hrel
              have k0 : (0 : Int) ≤ (k : Int) := by omega
              by_cases hkl : k < ws.length
              · have hkm : k < ms.length := by have := hml.out; omega
                obtain ⟨b, off, rfl, hc1, hc2⟩ := (hR2.out.below hb).word hkl
                obtain ⟨b', off', rfl, hc1', hc2'⟩ := (hR3.out.below hb).word hkm
                have k1 : (k : Int) < (ws.length : Int) := by omega
                have htx := t4.out k hkl hkm
                obtain ⟨p1, e, p2, p3, p4⟩ := hpos.out ms[k] (List.getElem_mem hkm)
                rw [htx] at hc1' p2
                have hxs := htl.out ws[k] (List.getElem_mem hkl)
                generalize ws[k] = x at *
                generalize ms[k].pos = y at *
                have hxz : x.text.size = e - y := by rw [p2, ByteArray.size_extract]; omega
                have q1 : (0 : Int) ≤ (y : Int) := by omega
                have q2 : (y : Int) ≤ (T.size : Int) - (x.text.size : Int) := by omega
                have q3 : T.extract y (y + x.text.size) = x.text := by rw [hxz, p2]; congr 1; omega
                have q4 : (y : Int) + (x.text.size : Int) ≤ (T.size : Int) := by omega
                have q5 : (y : Int) ≤ (y : Int) + (x.text.size : Int) := by omega
                have q6 : IntKind.i64.wrap ((T.size : Int) - (x.text.size : Int)) = (T.size : Int) - (x.text.size : Int) := IntWalk.i64_in _ (by omega)
                have q7 : IntKind.i64.wrap ((y : Int) + (x.text.size : Int)) = (y : Int) + (x.text.size : Int) := IntWalk.i64_in _ (by omega)
                have q8 : ((y : Int) + (x.text.size : Int)).toNat = y + x.text.size := by omega
                clear p1 p2 p3 p4 htx hxz
                replace hb := Lib.hid hb
                go_upto_region 22 with fail
                go_quiet (fail)
                go_wp2_with fail
                go_roundw
                case rel => exact ⟨k + 1, by omega, by go_num, below_drewN hb.out _⟩
                case measure => simp [intOf]; omega
              · obtain rfl : k = ws.length := by omega
                replace hb := Lib.hid hb
                go_wp2_with fail
                go_ret
                exact ⟨rfl, keep_below hbz.out hb.out⟩
theorem law_WordSpaced (w : World) (s : ByteArray) (hs : s.size ≤ maxLen) (a : Option Addr) (len cap : Nat) (zs : List Int) (hr : IsRow .u8 w a len cap zs) :
    Calls Try.prog 7 #[.string s, .slice a len cap] w fun e w' => e = .returned (.bool true) ∧ Below w.heap.size w w' := by
  obtain ⟨hE, hl, hm⟩ := elems_of hr
  have := walk_WordSpaced w s (by unfold maxLen at hs; omega) a cap (zs.take len) (by omega) hE
  rwa [hl] at this
end Go.Proofs.Ytnilgmcoojdgoaa
