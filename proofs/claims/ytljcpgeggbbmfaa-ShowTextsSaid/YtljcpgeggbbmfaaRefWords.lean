/-
  The walk of the reference's Words (layer 5).
-/
import Derived.Test.YtljcpgeggbbmfaaSplit
namespace Go.Proofs.Ytljcpgeggbbmfaa
set_option linter.unusedVariables false
set_option linter.unusedSimpArgs false
open Go.RowKit
theorem info_rword : (Try.prog.info? 48).map (fun i => (i.zero, i.size, i.bytes)) = some (some (.agg #[.string ByteArray.empty, .int .i64 0]), 2, 24) := by kernel_rfl
def WordsEnd (s : ByteArray) (w : World) (e : Ending) (w' : World) : Prop :=
  (∃ k : Nat, IsBad s k ∧ e = .returned (.tuple #[.slice none 0 0, .int .i64 (k : Int)]) ∧ Below w.heap.size w w') ∨
  (okAll s = true ∧ ∃ A C, e = .returned (.tuple #[.slice A (wordsL s).length C, .int .i64 (-1)]) ∧ w'.ownsRow w.heap.size 48 2 (.slice A (wordsL s).length C) (wordsL s).length ((wordsL s).flatMap wordV) ∧ Below w.heap.size w w')
/-- where the reference stands between two words. -/
def Between (s : ByteArray) (k : Nat) : Prop := k = s.size ∨ ((stN s k).note = false ∧ ((stN s k).frm = none ∨ isDel (bX s k) = true)) ∨ ((stN s k).note = true ∧ bX s k = 10)
/-- the words up to a place, the one that has begun among them. -/
def upTo (s : ByteArray) (k : Nat) : List WordD := flushW s (stN s k) k
theorem wordsL_upTo (s : ByteArray) : wordsL s = upTo s s.size := by
  unfold wordsL upTo
  show (stepS s s.size (bX s s.size) (stN s s.size)).out = _
  rw [bX_end s (Nat.lt_irrefl _)]
  have h := (stN_ok s s.size (Nat.le_succ _)).note
  generalize stN s s.size = t at *
  unfold stepS
  split
  · rename_i hn
    unfold flushW
    rw [h hn]
  · rfl
theorem upTo_none {s : ByteArray} {k : Nat} {out : List WordD} {nt : Bool} (h : stN s k = ⟨out, none, nt⟩) : upTo s k = out := by unfold upTo; rw [h]; rfl
theorem upTo_some {s : ByteArray} {k f : Nat} {out : List WordD} {nt : Bool} (h : stN s k = ⟨out, some f, nt⟩) : upTo s k = out ++ [⟨s.extract f k, f⟩] := by unfold upTo; rw [h]; rfl
/-- behind a blank. -/
theorem step_blank {s : ByteArray} {k : Nat} (hc : bX s k = 32 ∨ bX s k = 10) (hJ : Between s k) (hk : k < s.size) (hks : k ≤ s.size + 1) : stN s (k + 1) = ⟨upTo s k, none, false⟩ := by
  have hn := (stN_ok s k hks).note
  rcases hJ with h | h | h
  · omega
  · show stepS s k (bX s k) (stN s k) = _
    have : isDel (bX s k) = true := by rcases hc with h | h <;> rw [h] <;> rfl
    unfold stepS
    rw [h.1, this]
    simp only [Bool.false_eq_true, if_false, if_true]
    rcases hc with h' | h' <;> rw [h'] <;> rfl
  · have hf := hn h.1
    show stepS s k (bX s k) (stN s k) = _
    unfold stepS upTo flushW
    rw [h.1, h.2, hf]
    rfl
/-- behind the sign that begins a remark. -/
theorem step_hash {s : ByteArray} {k : Nat} (hc : bX s k = 35) (hJ : Between s k) (hk : k < s.size) : stN s (k + 1) = ⟨upTo s k, none, true⟩ := by
  rcases hJ with h | h | h
  · omega
  · show stepS s k (bX s k) (stN s k) = _
    unfold stepS
    rw [h.1, hc]
    rfl
  · rw [hc] at h; exact absurd h.2 (by decide)
/-- within a remark. -/
theorem step_note {s : ByteArray} {k : Nat} {O : List WordD} (h : stN s k = ⟨O, none, true⟩) (hc : bX s k ≠ 10) : stN s (k + 1) = ⟨O, none, true⟩ := by
  show stepS s k (bX s k) (stN s k) = _
  rw [h]
  unfold stepS
  simp [hc]
/-- where a word begins. -/
theorem step_begin {s : ByteArray} {k : Nat} (hc : isDel (bX s k) = false) (hJ : Between s k) (hk : k < s.size) : stN s (k + 1) = ⟨upTo s k, some k, false⟩ := by
  have hb : bX s k ≠ 10 := fun e => by rw [e] at hc; cases hc
  rcases hJ with h | h | h
  · omega
  · rcases h.2 with h2 | h2
    · show stepS s k (bX s k) (stN s k) = _
      unfold upTo flushW stepS
      rw [h.1, hc, h2]
      simp
    · rw [hc] at h2; cases h2
  · exact absurd h.2 hb
/-- within a word. -/
theorem step_word {s : ByteArray} {k f : Nat} {O : List WordD} (h : stN s k = ⟨O, some f, false⟩) (hc : isDel (bX s k) = false) : stN s (k + 1) = ⟨O, some f, false⟩ := by
  show stepS s k (bX s k) (stN s k) = _
  rw [h]
  unfold stepS
  simp [hc]
theorem upTo_len (s : ByteArray) (k : Nat) (h : k ≤ s.size + 1) : (upTo s k).length ≤ k := by
  have h1 := (stN_ok s k h).more
  unfold upTo flushW
  cases hf : (stN s k).frm with
  | none => rw [hf] at h1; simp at h1; exact h1
  | some f => rw [hf] at h1; simp at h1 ⊢; exact h1
set_option maxHeartbeats 8000000 in
set_option maxRecDepth 100000 in
theorem words_any (s : ByteArray) (w : World) (h2 : s.size ≤ 131072) :
    Calls Try.prog 18 #[.string s] w (WordsEnd s w) := by
  obtain ⟨i0, hi0, hz0, hz1, hz2⟩ := info_parts info_rword
  go_enter Try.func18, Try.ntmps18
  go_wp2_with fail
  go_loop [5] (fun i => ∃ k : Nat, k ≤ s.size ∧ i = .int .i64 k ∧ Hid (okTo s k = true)) (fun i => s.size - (intOf i).toNat)
  case atStart => exact ⟨0, by omega, rfl, Lib.hid rfl⟩
  case round =>
    obtain ⟨k, hk, rfl, HK⟩ := hrel
    have k0 : (0 : Int) ≤ (k : Int) := by omega
    by_cases hlt : k < s.size
    · have hbx := Lib.hid (bX_in s hlt)
      have bl : s[k].toNat < 256 := s[k].toNat_lt
      have HQ : Hid (okTo s (k + 1) = (okTo s k && okB (bX s k))) := Lib.hid rfl
      by_cases c10 : s[k].toNat = 10
      · have hok := Lib.hid (show okTo s (k + 1) = true by rw [HQ.out, HK.out, hbx.out, c10]; rfl)
        go_wp2_with fail
        go_round
        case rel => exact ⟨k + 1, by omega, by go_num, hok⟩
        case measure => simp [intOf]; omega
      · have n1 : ((s[k].toNat : Int) != 10) = true := by rw [bne_iff_ne]; omega
        by_cases clo : s[k].toNat < 32
        · have HB : Hid (IsBad s k) := Lib.hid ⟨hlt, HK.out, by rw [hbx.out]; exact okB_lo c10 clo⟩
          go_wp2_with fail
          go_ret2
          exact .inl ⟨k, HB.out, rfl, Below.refl _ _⟩
        · by_cases chi : 126 < s[k].toNat
          · have HB : Hid (IsBad s k) := Lib.hid ⟨hlt, HK.out, by rw [hbx.out]; exact okB_hi chi⟩
            go_wp2_with fail
            go_ret2
            exact .inl ⟨k, HB.out, rfl, Below.refl _ _⟩
          · have hok := Lib.hid (show okTo s (k + 1) = true by rw [HQ.out, HK.out, hbx.out, okB_in (by omega) (by omega)]; rfl)
            go_wp2_with fail
            go_round
            case rel => exact ⟨k + 1, by omega, by go_num, hok⟩
            case measure => simp [intOf]; omega
    · obtain rfl : k = s.size := by omega
      have hA : Hid (okAll s = true) := HK
      go_wp2_with fail
      go_loopw [4, 6] (fun v i wx => ∃ k : Nat, k ≤ s.size ∧ i = .int .i64 k ∧ Hid (Between s k) ∧ wx.ownsRow w.heap.size 48 2 v (upTo s k).length ((upTo s k).flatMap wordV) ∧ Below w.heap.size w wx) (fun _ i _ => s.size - (intOf i).toNat)
      case atStart => exact ⟨0, by omega, rfl, Lib.hid (.inr (.inl ⟨rfl, .inl rfl⟩)), World.ownsRow_nil _ _ _ _, Below.refl _ _⟩
      case round =>
        obtain ⟨k, hk, rfl, HJ, HO, hb⟩ := hrel
        have k0 : (0 : Int) ≤ (k : Int) := by omega
        by_cases hlt : k < s.size
        · have hbx := Lib.hid (bX_in s hlt)
          have bl : s[k].toNat < 256 := s[k].toNat_lt
          by_cases c35 : s[k].toNat = 35
          · have HS := Lib.hid (step_hash (by rw [hbx.out, c35]) HJ.out hlt)
            replace HO := Lib.hid HO
            replace hb := Lib.hid hb
            go_wp2_with fail
            go_loop [6] (fun i => ∃ j : Nat, k ≤ j ∧ j ≤ s.size ∧ i = .int .i64 j ∧ Hid (j = k ∨ stN s j = ⟨upTo s k, none, true⟩) ) (fun i => s.size - (intOf i).toNat)
            case atStart => exact ⟨k, by omega, by omega, rfl, Lib.hid (.inl rfl)⟩
            case round =>
              obtain ⟨j, hkj, hj, rfl, HH⟩ := hrel
              have j0 : (0 : Int) ≤ (j : Int) := by omega
              by_cases hjt : j < s.size
              · have hbj := Lib.hid (bX_in s hjt)
                by_cases c10 : s[j].toNat = 10
                · have hne : j ≠ k := fun e => by subst e; omega
                  have HE := Lib.hid (HH.out.resolve_left hne)
                  go_wp2_with fail
                  go_roundw
                  case rel => exact ⟨j, by omega, by go_num, Lib.hid (.inr (.inr ⟨by rw [HE.out], by rw [hbj.out, c10]⟩)), by rw [upTo_none HE.out]; exact HO.out, hb.out⟩
                  case measure => simp [intOf]; omega
                · have n1 : ((s[j].toNat : Int) != 10) = true := by rw [bne_iff_ne]; omega
                  have HE : Hid (stN s (j + 1) = ⟨upTo s k, none, true⟩) := Lib.hid (by
                    rcases HH.out with h | h
                    · rw [h]; exact HS.out
                    · exact step_note h (by rw [hbj.out]; exact c10))
                  go_wp2_with fail
                  go_round
                  case rel => exact ⟨j + 1, by omega, by omega, by go_num, Lib.hid (.inr HE.out)⟩
                  case measure => simp [intOf]; omega
              · obtain rfl : j = s.size := by omega
                have HE := Lib.hid (HH.out.resolve_left (by omega))
                go_wp2_with fail
                go_roundw
                case rel => exact ⟨s.size, by omega, by go_num, Lib.hid (.inl rfl), by rw [upTo_none HE.out]; exact HO.out, hb.out⟩
                case measure => simp [intOf]; omega
          · have n35 : ((s[k].toNat : Int) == 35) = false := by rw [beq_eq_false_iff_ne]; omega
            by_cases cb : s[k].toNat = 32 ∨ s[k].toNat = 10
            · have HE := Lib.hid (step_blank (by rw [hbx.out]; exact cb) HJ.out hlt (by omega))
              replace HO := Lib.hid HO
              replace hb := Lib.hid hb
              rcases cb with cb | cb
              all_goals
                go_wp2_with fail
                go_roundw
                case rel => exact ⟨k + 1, by omega, by go_num, Lib.hid (.inr (.inl ⟨by rw [HE.out], .inl (by rw [HE.out])⟩)), by rw [upTo_none HE.out]; exact HO.out, hb.out⟩
                case measure => simp [intOf]; omega
            · have n32 : ((s[k].toNat : Int) == 32) = false := by rw [beq_eq_false_iff_ne]; omega
              have n10 : ((s[k].toNat : Int) == 10) = false := by rw [beq_eq_false_iff_ne]; omega
              have m32 : ((s[k].toNat : Int) != 32) = true := by rw [bne_iff_ne]; omega
              have m10 : ((s[k].toNat : Int) != 10) = true := by rw [bne_iff_ne]; omega
              have m35 : ((s[k].toNat : Int) != 35) = true := by rw [bne_iff_ne]; omega
              have hdl : Hid (isDel (bX s k) = false) := Lib.hid (by rw [hbx.out]; unfold isDel; simp; omega)
              have HS := Lib.hid (step_begin hdl.out HJ.out hlt)
              have hul := Lib.hid (upTo_len s k (by omega))
              replace HO := Lib.hid HO
              replace hb := Lib.hid hb
              go_wp2_with fail
              go_loop [6] (fun i => ∃ j : Nat, k ≤ j ∧ j ≤ s.size ∧ i = .int .i64 j ∧ Hid (j = k ∨ stN s j = ⟨upTo s k, some k, false⟩) ) (fun i => s.size - (intOf i).toNat)
              case atStart => exact ⟨k, by omega, by omega, rfl, Lib.hid (.inl rfl)⟩
              case round =>
                obtain ⟨j, hkj, hj, rfl, HH⟩ := hrel
                have j0 : (0 : Int) ≤ (j : Int) := by omega
                have j1 : (k : Int) ≤ (j : Int) := by omega
                have j2 : (j : Int) ≤ (s.size : Int) := by omega
                clear n35 n32 n10 m32 m10 m35
                by_cases hend : j = s.size ∨ ∃ h : j < s.size, isDel s[j].toNat = true
                · have hne : j ≠ k := fun e => by
                    rcases hend with h | ⟨h, hd⟩
                    · omega
                    · subst e; have := hdl.out; rw [hbx.out, hd] at this; cases this
                  have HE := Lib.hid (HH.out.resolve_left hne)
                  have HOWN := Lib.hid (HO.out.alloc (.cells #[.string (s.extract k j), .int .i64 (k : Int)] 48))
                  have hbs := Lib.hid hb.out.size
                  have HNEW : Hid (∀ (q : Nat) (u : Value), [Value.string (s.extract k j), .int .i64 (k : Int)][q]? = some u → (wr.alloc (.cells #[.string (s.extract k j), .int .i64 (k : Int)] 48)).cell? ((⟨wr.heap.size, 0, none⟩ : Addr).add q) = some u) := Lib.hid (fun q u hu => cells_new _ _ _ q u (by simpa using hu))
                  have hJ2 : Hid (Between s j) := Lib.hid (by
                    rcases hend with h | ⟨h, hd⟩
                    · exact .inl h
                    · exact .inr (.inl ⟨by rw [HE.out], .inr (by rw [bX_in s h]; exact hd)⟩))
                  rcases hend with h | ⟨hjt, hd⟩
                  · subst h
                    go_wp2_with (first | (at_builtin; refine wpList_append_own _ rfl _ _ 42 rfl _ 48 i0 (.agg #[.string ByteArray.empty, .int .i64 0]) 2 24 Try.underlying42 hi0 hz0 hz1 hz2 rfl (by decide) _ _ _ rfl HOWN.out ⟨wr.heap.size, 0, none⟩ 1 1 [.string (s.extract k s.size), .int .i64 (k : Int)] rfl rfl HNEW.out (fun x hx => by simp at hx; rcases hx with rfl | rfl <;> rfl) (by have := hul.out; unfold maxLen; omega) (by have := hul.out; omega) (by have := hbs.out; simp; omega) ?_; intro v' w2 hown2 hgrow _))
                    go_roundw
                    case rel => exact ⟨s.size, by omega, by go_num, hJ2, by rw [upTo_some HE.out, List.length_append, List.flatMap_append]; exact hown2, (hb.out.alloc hbs.out _).grown hgrow (by have := hbs.out; simp; omega) (fun g hg => (own_lt HO.out hg).1)⟩
                    case measure => simp [intOf]; omega
                  · have hd3 : s[j].toNat = 32 ∨ s[j].toNat = 10 ∨ s[j].toNat = 35 := by
                      unfold isDel at hd; simp at hd; omega
                    clear hd
                    have q1 : ((32 : Int) != 10) = true := by decide
                    rcases hd3 with hd | hd | hd
                    · go_wp2_with (first | (at_builtin; refine wpList_append_own _ rfl _ _ 42 rfl _ 48 i0 (.agg #[.string ByteArray.empty, .int .i64 0]) 2 24 Try.underlying42 hi0 hz0 hz1 hz2 rfl (by decide) _ _ _ rfl HOWN.out ⟨wr.heap.size, 0, none⟩ 1 1 [.string (s.extract k j), .int .i64 (k : Int)] rfl rfl HNEW.out (fun x hx => by simp at hx; rcases hx with rfl | rfl <;> rfl) (by have := hul.out; unfold maxLen; omega) (by have := hul.out; omega) (by have := hbs.out; simp; omega) ?_; intro v' w2 hown2 hgrow _))
                      go_roundw
                      case rel => exact ⟨j, by omega, by go_num, hJ2, by rw [upTo_some HE.out, List.length_append, List.flatMap_append]; exact hown2, (hb.out.alloc hbs.out _).grown hgrow (by have := hbs.out; simp; omega) (fun g hg => (own_lt HO.out hg).1)⟩
                      case measure => simp [intOf]; omega
                    · go_wp2_with (first | (at_builtin; refine wpList_append_own _ rfl _ _ 42 rfl _ 48 i0 (.agg #[.string ByteArray.empty, .int .i64 0]) 2 24 Try.underlying42 hi0 hz0 hz1 hz2 rfl (by decide) _ _ _ rfl HOWN.out ⟨wr.heap.size, 0, none⟩ 1 1 [.string (s.extract k j), .int .i64 (k : Int)] rfl rfl HNEW.out (fun x hx => by simp at hx; rcases hx with rfl | rfl <;> rfl) (by have := hul.out; unfold maxLen; omega) (by have := hul.out; omega) (by have := hbs.out; simp; omega) ?_; intro v' w2 hown2 hgrow _))
                      go_roundw
                      case rel => exact ⟨j, by omega, by go_num, hJ2, by rw [upTo_some HE.out, List.length_append, List.flatMap_append]; exact hown2, (hb.out.alloc hbs.out _).grown hgrow (by have := hbs.out; simp; omega) (fun g hg => (own_lt HO.out hg).1)⟩
                      case measure => simp [intOf]; omega
                    · go_wp2_with (first | (at_builtin; refine wpList_append_own _ rfl _ _ 42 rfl _ 48 i0 (.agg #[.string ByteArray.empty, .int .i64 0]) 2 24 Try.underlying42 hi0 hz0 hz1 hz2 rfl (by decide) _ _ _ rfl HOWN.out ⟨wr.heap.size, 0, none⟩ 1 1 [.string (s.extract k j), .int .i64 (k : Int)] rfl rfl HNEW.out (fun x hx => by simp at hx; rcases hx with rfl | rfl <;> rfl) (by have := hul.out; unfold maxLen; omega) (by have := hul.out; omega) (by have := hbs.out; simp; omega) ?_; intro v' w2 hown2 hgrow _))
                      go_roundw
                      case rel => exact ⟨j, by omega, by go_num, hJ2, by rw [upTo_some HE.out, List.length_append, List.flatMap_append]; exact hown2, (hb.out.alloc hbs.out _).grown hgrow (by have := hbs.out; simp; omega) (fun g hg => (own_lt HO.out hg).1)⟩
                      case measure => simp [intOf]; omega
                · have hjt : j < s.size := by omega
                  have hbj := Lib.hid (bX_in s hjt)
                  have hd : isDel s[j].toNat = false := by
                    cases e : isDel s[j].toNat with
                    | false => rfl
                    | true => exact absurd (.inr ⟨hjt, e⟩) hend
                  have hd3 : s[j].toNat ≠ 32 ∧ s[j].toNat ≠ 10 ∧ s[j].toNat ≠ 35 := by
                    unfold isDel at hd; simp at hd; omega
                  have m32 : ((s[j].toNat : Int) != 32) = true := by rw [bne_iff_ne]; omega
                  have m10 : ((s[j].toNat : Int) != 10) = true := by rw [bne_iff_ne]; omega
                  have m35 : ((s[j].toNat : Int) != 35) = true := by rw [bne_iff_ne]; omega
                  have HE : Hid (stN s (j + 1) = ⟨upTo s k, some k, false⟩) := Lib.hid (by
                    rcases HH.out with h | h
                    · rw [h]; exact HS.out
                    · exact step_word h (by rw [hbj.out]; exact hd))
                  clear hend hd hd3
                  go_wp2_with fail
                  go_round
                  case rel => exact ⟨j + 1, by omega, by omega, by go_num, Lib.hid (.inr HE.out)⟩
                  case measure => simp [intOf]; omega
        · obtain rfl : k = s.size := by omega
          rw [← wordsL_upTo] at HO
          obtain ⟨A1, C1, hv⟩ := own_val HO
          subst hv
          replace HO := Lib.hid HO
          replace hb := Lib.hid hb
          go_wp2_with fail
          go_ret2
          exact .inr ⟨hA.out, A1, C1, rfl, HO.out, hb.out⟩
end Go.Proofs.Ytljcpgeggbbmfaa
