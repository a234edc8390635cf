/-
  The walk of word.Split (layer 5): a text's words, or where the first byte is that may not stand.
-/
import Derived.Test.YtljcpgeggbbmfaaWords
import Derived.Test.YtljcpgeggbbmfaaOwn
namespace Go.Proofs.Ytljcpgeggbbmfaa
set_option linter.unusedVariables false
set_option linter.unusedSimpArgs false
open Go.RowKit
theorem info_word : (Try.prog.info? 118).map (fun i => (i.zero, i.size, i.bytes)) = some (some (.agg #[.string ByteArray.empty, .int .i64 0]), 2, 24) := by kernel_rfl
def SplitEnd (s : ByteArray) (w : World) (e : Ending) (w' : World) : Prop :=
  (131072 < s.size ∧ e = .returned (.tuple #[.slice none 0 0, .int .i64 0, .int .i64 4]) ∧ Below w.heap.size w w') ∨
  (∃ k : Nat, s.size ≤ 131072 ∧ IsBad s k ∧ e = .returned (.tuple #[.slice none 0 0, .int .i64 (k : Int), .int .i64 3]) ∧ Below w.heap.size w w') ∨
  (s.size ≤ 131072 ∧ okAll s = true ∧ ∃ A C, e = .returned (.tuple #[.slice A (wordsL s).length C, .int .i64 0, .int .i64 0]) ∧ w'.ownsRow w.heap.size 118 2 (.slice A (wordsL s).length C) (wordsL s).length ((wordsL s).flatMap wordV) ∧ Below w.heap.size w w')
theorem okB_lo {c : Nat} (h1 : c ≠ 10) (h2 : c < 32) : okB c = false := by
  unfold okB
  rw [show (c == 10) = false from by rw [beq_eq_false_iff_ne]; exact h1, decide_eq_false (by omega)]; rfl
theorem okB_hi {c : Nat} (h2 : 126 < c) : okB c = false := by
  unfold okB
  rw [show (c == 10) = false from by rw [beq_eq_false_iff_ne]; omega, show decide (c ≤ 126) = false from decide_eq_false (by omega)]; simp
theorem okB_in {c : Nat} (h1 : 32 ≤ c) (h2 : c ≤ 126) : okB c = true := by
  unfold okB
  rw [decide_eq_true h1, decide_eq_true h2]; simp
set_option maxHeartbeats 8000000 in
set_option maxRecDepth 100000 in
theorem split_any (s : ByteArray) (w : World) (hs : s.size ≤ 9223372036854775807) :
    Calls Try.prog 58 #[.string s] w (SplitEnd s w) := by
  by_cases h2 : 131072 < s.size
  · go_enter Try.func58, Try.ntmps58
    go_wp2_with fail
    go_ret3
    exact .inl ⟨h2, rfl, Below.refl _ _⟩
  · clear hs
    have h2 : s.size ≤ 131072 := by omega
    obtain ⟨i0, hi0, hz0, hz1, hz2⟩ := info_parts info_word
    go_enter Try.func58, Try.ntmps58
    go_wp2_with fail
    go_loopw [5, 6, 7, 8] (fun v f nt i wr => ∃ k : Nat, k ≤ s.size + 1 ∧ i = .int .i64 k ∧ f = .int .i64 (frmV (stN s k).frm) ∧ nt = .bool (stN s k).note ∧ Hid (okTo s k = true) ∧
        wr.ownsRow w.heap.size 118 2 v (stN s k).out.length ((stN s k).out.flatMap wordV) ∧ Below w.heap.size w wr) (fun _ _ _ i _ => s.size + 1 - (intOf i).toNat)
    case atStart => exact ⟨0, by omega, rfl, rfl, rfl, Lib.hid rfl, World.ownsRow_nil _ _ _ _, Below.refl _ _⟩
    case round =>
      obtain ⟨k, hk, rfl, rfl, rfl, HK, HO, hb⟩ := hrel
      by_cases hks : k ≤ s.size
      · have HN : Hid (stN s (k + 1) = stepS s k (bX s k) (stN s k)) := Lib.hid rfl
        have HT := stN_ok s k hk
        have HQ : Hid (okTo s (k + 1) = (okTo s k && okB (bX s k))) := Lib.hid rfl
        have hlen := HT.len
        generalize stN s k = t at *
        obtain ⟨out, frm, note⟩ := t
        dsimp only at *
        have hbsz := Lib.hid hb.size
        have k0 : (0 : Int) ≤ (k : Int) := by omega
        by_cases hlt : k < s.size
        · have hbx := Lib.hid (bX_in s hlt)
          have bl : s[k].toNat < 256 := s[k].toNat_lt
          by_cases c10 : s[k].toNat = 10
          · have hc : Hid (bX s k = 10) := Lib.hid (by rw [hbx.out, c10])
            have hok := Lib.hid (show okTo s (k + 1) = true by rw [HQ.out, HK.out, hc.out]; rfl)
            cases note
            · cases frm with
              | none =>
                have HE : Hid (stN s (k + 1) = ⟨out, none, false⟩) := Lib.hid (by first | (rw [HN.out, hc.out]; done) | (rw [HN.out, hc.out]; rfl))
                replace hb := Lib.hid hb
                replace HO := Lib.hid HO
                go_wp2_with fail
                go_roundw
                case rel => exact ⟨k + 1, by omega, by go_num, by first | (rw [HE.out]; done) | (rw [HE.out]; rfl), by rw [HE.out], hok, by rw [HE.out]; exact HO.out, hb.out⟩
                case measure => first | (simp [intOf]; done) | (simp [intOf]; omega)
              | some f =>
                have hf := HT.frm f rfl
                have f0 : (0 : Int) ≤ (f : Int) := by omega
                have f1 : (f : Int) ≤ (k : Int) := by omega
                have HE : Hid (stN s (k + 1) = ⟨out ++ [⟨s.extract f k, f⟩], none, false⟩) := Lib.hid (by first | (rw [HN.out, hc.out]; done) | (rw [HN.out, hc.out]; rfl))
                replace hb := Lib.hid hb
                have HOWN := Lib.hid (HO.alloc (.cells #[.string (s.extract f k), .int .i64 (f : Int)] 118))
                have HO2 := Lib.hid HO
                clear HO
                have HNEW : Hid (∀ (q : Nat) (u : Value), [Value.string (s.extract f k), .int .i64 (f : Int)][q]? = some u → (wr.alloc (.cells #[.string (s.extract f k), .int .i64 (f : Int)] 118)).cell? ((⟨wr.heap.size, 0, none⟩ : Addr).add q) = some u) := Lib.hid (fun q u hu => cells_new _ _ _ q u (by simpa using hu))
                go_wp2_with (first | (at_builtin; refine wpList_append_own _ rfl _ _ 107 rfl w.heap.size 118 i0 (.agg #[.string ByteArray.empty, .int .i64 0]) 2 24 Try.underlying107 hi0 hz0 hz1 hz2 rfl (by decide) _ _ _ rfl HOWN.out ⟨wr.heap.size, 0, none⟩ 1 1 [.string (s.extract f k), .int .i64 (f : Int)] rfl rfl HNEW.out (fun x hx => by simp at hx; rcases hx with rfl | rfl <;> rfl) (by unfold maxLen; omega) (by omega) (by have := hbsz.out; simp; omega) ?_; intro v' w2 hown2 hgrow _))
                go_roundw
                case rel => exact ⟨k + 1, by omega, by go_num, by first | (rw [HE.out]; done) | (rw [HE.out]; rfl), by rw [HE.out], hok, by rw [HE.out, List.length_append, List.flatMap_append]; exact hown2, (hb.out.alloc hbsz.out _).grown hgrow (by have := hbsz.out; simp; omega) (fun g hg => (own_lt HO2.out hg).1)⟩
                case measure => first | (simp [intOf]; done) | (simp [intOf]; omega)
            · have hfr : frm = none := HT.note rfl
              subst hfr
              have HE : Hid (stN s (k + 1) = ⟨out, none, false⟩) := Lib.hid (by first | (rw [HN.out, hc.out]; done) | (rw [HN.out, hc.out]; rfl))
              replace hb := Lib.hid hb
              replace HO := Lib.hid HO
              go_wp2_with fail
              go_roundw
              case rel => exact ⟨k + 1, by omega, by go_num, by first | (rw [HE.out]; done) | (rw [HE.out]; rfl), by rw [HE.out], hok, by rw [HE.out]; exact HO.out, hb.out⟩
              case measure => first | (simp [intOf]; done) | (simp [intOf]; omega)
          · by_cases clo : s[k].toNat < 32
            · have n1 : ((s[k].toNat : Int) != 10) = true := by rw [bne_iff_ne]; omega
              have HB : Hid (IsBad s k) := Lib.hid ⟨hlt, HK.out, by rw [hbx.out]; exact okB_lo c10 clo⟩
              replace hb := Lib.hid hb
              clear HO
              go_wp2_with fail
              go_ret3
              exact .inr (.inl ⟨k, h2, HB.out, rfl, hb.out⟩)
            · by_cases chi : 126 < s[k].toNat
              · have n1 : ((s[k].toNat : Int) != 10) = true := by rw [bne_iff_ne]; omega
                have HB : Hid (IsBad s k) := Lib.hid ⟨hlt, HK.out, by rw [hbx.out]; exact okB_hi chi⟩
                replace hb := Lib.hid hb
                clear HO
                go_wp2_with fail
                go_ret3
                exact .inr (.inl ⟨k, h2, HB.out, rfl, hb.out⟩)
              · by_cases c32 : s[k].toNat = 32
                · have hc : Hid (bX s k = 32) := Lib.hid (by rw [hbx.out, c32])
                  have hok := Lib.hid (show okTo s (k + 1) = true by rw [HQ.out, HK.out, hc.out]; rfl)
                  cases note
                  · cases frm with
                    | none =>
                      have HE : Hid (stN s (k + 1) = ⟨out, none, false⟩) := Lib.hid (by first | (rw [HN.out, hc.out]; done) | (rw [HN.out, hc.out]; rfl))
                      replace hb := Lib.hid hb
                      replace HO := Lib.hid HO
                      go_wp2_with fail
                      go_roundw
                      case rel => exact ⟨k + 1, by omega, by go_num, by first | (rw [HE.out]; done) | (rw [HE.out]; rfl), by rw [HE.out], hok, by rw [HE.out]; exact HO.out, hb.out⟩
                      case measure => first | (simp [intOf]; done) | (simp [intOf]; omega)
                    | some f =>
                      have hf := HT.frm f rfl
                      have f0 : (0 : Int) ≤ (f : Int) := by omega
                      have f1 : (f : Int) ≤ (k : Int) := by omega
                      have HE : Hid (stN s (k + 1) = ⟨out ++ [⟨s.extract f k, f⟩], none, false⟩) := Lib.hid (by first | (rw [HN.out, hc.out]; done) | (rw [HN.out, hc.out]; rfl))
                      replace hb := Lib.hid hb
                      have HOWN := Lib.hid (HO.alloc (.cells #[.string (s.extract f k), .int .i64 (f : Int)] 118))
                      have HO2 := Lib.hid HO
                      clear HO
                      have HNEW : Hid (∀ (q : Nat) (u : Value), [Value.string (s.extract f k), .int .i64 (f : Int)][q]? = some u → (wr.alloc (.cells #[.string (s.extract f k), .int .i64 (f : Int)] 118)).cell? ((⟨wr.heap.size, 0, none⟩ : Addr).add q) = some u) := Lib.hid (fun q u hu => cells_new _ _ _ q u (by simpa using hu))
                      go_wp2_with (first | (at_builtin; refine wpList_append_own _ rfl _ _ 107 rfl w.heap.size 118 i0 (.agg #[.string ByteArray.empty, .int .i64 0]) 2 24 Try.underlying107 hi0 hz0 hz1 hz2 rfl (by decide) _ _ _ rfl HOWN.out ⟨wr.heap.size, 0, none⟩ 1 1 [.string (s.extract f k), .int .i64 (f : Int)] rfl rfl HNEW.out (fun x hx => by simp at hx; rcases hx with rfl | rfl <;> rfl) (by unfold maxLen; omega) (by omega) (by have := hbsz.out; simp; omega) ?_; intro v' w2 hown2 hgrow _))
                      go_roundw
                      case rel => exact ⟨k + 1, by omega, by go_num, by first | (rw [HE.out]; done) | (rw [HE.out]; rfl), by rw [HE.out], hok, by rw [HE.out, List.length_append, List.flatMap_append]; exact hown2, (hb.out.alloc hbsz.out _).grown hgrow (by have := hbsz.out; simp; omega) (fun g hg => (own_lt HO2.out hg).1)⟩
                      case measure => first | (simp [intOf]; done) | (simp [intOf]; omega)
                  · have hfr : frm = none := HT.note rfl
                    subst hfr
                    have HE : Hid (stN s (k + 1) = ⟨out, none, true⟩) := Lib.hid (by first | (rw [HN.out, hc.out]; done) | (rw [HN.out, hc.out]; rfl))
                    replace hb := Lib.hid hb
                    replace HO := Lib.hid HO
                    go_wp2_with fail
                    go_roundw
                    case rel => exact ⟨k + 1, by omega, by go_num, by first | (rw [HE.out]; done) | (rw [HE.out]; rfl), by rw [HE.out], hok, by rw [HE.out]; exact HO.out, hb.out⟩
                    case measure => first | (simp [intOf]; done) | (simp [intOf]; omega)
                · by_cases c35 : s[k].toNat = 35
                  · have hc : Hid (bX s k = 35) := Lib.hid (by rw [hbx.out, c35])
                    have hok := Lib.hid (show okTo s (k + 1) = true by rw [HQ.out, HK.out, hc.out]; rfl)
                    cases note
                    · cases frm with
                      | none =>
                        have HE : Hid (stN s (k + 1) = ⟨out, none, true⟩) := Lib.hid (by first | (rw [HN.out, hc.out]; done) | (rw [HN.out, hc.out]; rfl))
                        replace hb := Lib.hid hb
                        replace HO := Lib.hid HO
                        go_wp2_with fail
                        go_roundw
                        case rel => exact ⟨k + 1, by omega, by go_num, by first | (rw [HE.out]; done) | (rw [HE.out]; rfl), by rw [HE.out], hok, by rw [HE.out]; exact HO.out, hb.out⟩
                        case measure => first | (simp [intOf]; done) | (simp [intOf]; omega)
                      | some f =>
                        have hf := HT.frm f rfl
                        have f0 : (0 : Int) ≤ (f : Int) := by omega
                        have f1 : (f : Int) ≤ (k : Int) := by omega
                        have HE : Hid (stN s (k + 1) = ⟨out ++ [⟨s.extract f k, f⟩], none, true⟩) := Lib.hid (by first | (rw [HN.out, hc.out]; done) | (rw [HN.out, hc.out]; rfl))
                        replace hb := Lib.hid hb
                        have HOWN := Lib.hid (HO.alloc (.cells #[.string (s.extract f k), .int .i64 (f : Int)] 118))
                        have HO2 := Lib.hid HO
                        clear HO
                        have HNEW : Hid (∀ (q : Nat) (u : Value), [Value.string (s.extract f k), .int .i64 (f : Int)][q]? = some u → (wr.alloc (.cells #[.string (s.extract f k), .int .i64 (f : Int)] 118)).cell? ((⟨wr.heap.size, 0, none⟩ : Addr).add q) = some u) := Lib.hid (fun q u hu => cells_new _ _ _ q u (by simpa using hu))
                        go_wp2_with (first | (at_builtin; refine wpList_append_own _ rfl _ _ 107 rfl w.heap.size 118 i0 (.agg #[.string ByteArray.empty, .int .i64 0]) 2 24 Try.underlying107 hi0 hz0 hz1 hz2 rfl (by decide) _ _ _ rfl HOWN.out ⟨wr.heap.size, 0, none⟩ 1 1 [.string (s.extract f k), .int .i64 (f : Int)] rfl rfl HNEW.out (fun x hx => by simp at hx; rcases hx with rfl | rfl <;> rfl) (by unfold maxLen; omega) (by omega) (by have := hbsz.out; simp; omega) ?_; intro v' w2 hown2 hgrow _))
                        go_roundw
                        case rel => exact ⟨k + 1, by omega, by go_num, by first | (rw [HE.out]; done) | (rw [HE.out]; rfl), by rw [HE.out], hok, by rw [HE.out, List.length_append, List.flatMap_append]; exact hown2, (hb.out.alloc hbsz.out _).grown hgrow (by have := hbsz.out; simp; omega) (fun g hg => (own_lt HO2.out hg).1)⟩
                        case measure => first | (simp [intOf]; done) | (simp [intOf]; omega)
                    · have hfr : frm = none := HT.note rfl
                      subst hfr
                      have HE : Hid (stN s (k + 1) = ⟨out, none, true⟩) := Lib.hid (by first | (rw [HN.out, hc.out]; done) | (rw [HN.out, hc.out]; rfl))
                      replace hb := Lib.hid hb
                      replace HO := Lib.hid HO
                      go_wp2_with fail
                      go_roundw
                      case rel => exact ⟨k + 1, by omega, by go_num, by first | (rw [HE.out]; done) | (rw [HE.out]; rfl), by rw [HE.out], hok, by rw [HE.out]; exact HO.out, hb.out⟩
                      case measure => first | (simp [intOf]; done) | (simp [intOf]; omega)
                  · have n1 : ((s[k].toNat : Int) != 10) = true := by rw [bne_iff_ne]; omega
                    have n2 : ((s[k].toNat : Int) == 32) = false := by rw [beq_eq_false_iff_ne]; omega
                    have n3 : ((s[k].toNat : Int) == 10) = false := by rw [beq_eq_false_iff_ne]; omega
                    have n4 : ((s[k].toNat : Int) == 35) = false := by rw [beq_eq_false_iff_ne]; omega
                    have m1 : (32 : Int) ≤ (s[k].toNat : Int) := by omega
                    have m2 : (s[k].toNat : Int) ≤ 126 := by omega
                    have hc : Hid (bX s k ≠ 10 ∧ isDel (bX s k) = false ∧ okB (bX s k) = true) := Lib.hid (by rw [hbx.out]; exact ⟨c10, by simp [isDel, c10, c32, c35], okB_in (by omega) (by omega)⟩)
                    have hok := Lib.hid (show okTo s (k + 1) = true by rw [HQ.out, HK.out, hc.out.2.2]; rfl)
                    cases note
                    · cases frm with
                      | none =>
                        have HE : Hid (stN s (k + 1) = ⟨out, some k, false⟩) := Lib.hid (by rw [HN.out]; simp [stepS, hc.out.2.1])
                        replace hb := Lib.hid hb
                        replace HO := Lib.hid HO
                        go_wp2_with fail
                        go_roundw
                        case rel => exact ⟨k + 1, by omega, by go_num, by first | (rw [HE.out]; done) | (rw [HE.out]; rfl), by rw [HE.out], hok, by rw [HE.out]; exact HO.out, hb.out⟩
                        case measure => first | (simp [intOf]; done) | (simp [intOf]; omega)
                      | some f =>
                        have hf := HT.frm f rfl
                        have f0 : (0 : Int) ≤ (f : Int) := by omega
                        have HE : Hid (stN s (k + 1) = ⟨out, some f, false⟩) := Lib.hid (by rw [HN.out]; simp [stepS, hc.out.2.1])
                        replace hb := Lib.hid hb
                        replace HO := Lib.hid HO
                        go_wp2_with fail
                        go_roundw
                        case rel => exact ⟨k + 1, by omega, by go_num, by first | (rw [HE.out]; done) | (rw [HE.out]; rfl), by rw [HE.out], hok, by rw [HE.out]; exact HO.out, hb.out⟩
                        case measure => first | (simp [intOf]; done) | (simp [intOf]; omega)
                    · have hfr : frm = none := HT.note rfl
                      subst hfr
                      have HE : Hid (stN s (k + 1) = ⟨out, none, true⟩) := Lib.hid (by rw [HN.out]; simp [stepS, hc.out.1])
                      replace hb := Lib.hid hb
                      replace HO := Lib.hid HO
                      go_wp2_with fail
                      go_roundw
                      case rel => exact ⟨k + 1, by omega, by go_num, by first | (rw [HE.out]; done) | (rw [HE.out]; rfl), by rw [HE.out], hok, by rw [HE.out]; exact HO.out, hb.out⟩
                      case measure => first | (simp [intOf]; done) | (simp [intOf]; omega)
        · obtain rfl : k = s.size := by omega
          have hbx := Lib.hid (bX_end s hlt)
          have hc : Hid (bX s s.size = 10) := hbx
          have hok := Lib.hid (show okTo s (s.size + 1) = true by rw [HQ.out, HK.out, hc.out]; rfl)
          cases note
          · cases frm with
            | none =>
              have HE : Hid (stN s (s.size + 1) = ⟨out, none, false⟩) := Lib.hid (by first | (rw [HN.out, hc.out]; done) | (rw [HN.out, hc.out]; rfl))
              replace hb := Lib.hid hb
              replace HO := Lib.hid HO
              go_wp2_with fail
              go_roundw
              case rel => exact ⟨s.size + 1, by omega, by go_num, by first | (rw [HE.out]; done) | (rw [HE.out]; rfl), by rw [HE.out], hok, by rw [HE.out]; exact HO.out, hb.out⟩
              case measure => first | (simp [intOf]; done) | (simp [intOf]; omega)
            | some f =>
              have hf := HT.frm f rfl
              have f0 : (0 : Int) ≤ (f : Int) := by omega
              have f1 : (f : Int) ≤ (s.size : Int) := by omega
              have HE : Hid (stN s (s.size + 1) = ⟨out ++ [⟨s.extract f s.size, f⟩], none, false⟩) := Lib.hid (by first | (rw [HN.out, hc.out]; done) | (rw [HN.out, hc.out]; rfl))
              replace hb := Lib.hid hb
              have HOWN := Lib.hid (HO.alloc (.cells #[.string (s.extract f s.size), .int .i64 (f : Int)] 118))
              have HO2 := Lib.hid HO
              clear HO
              have HNEW : Hid (∀ (q : Nat) (u : Value), [Value.string (s.extract f s.size), .int .i64 (f : Int)][q]? = some u → (wr.alloc (.cells #[.string (s.extract f s.size), .int .i64 (f : Int)] 118)).cell? ((⟨wr.heap.size, 0, none⟩ : Addr).add q) = some u) := Lib.hid (fun q u hu => cells_new _ _ _ q u (by simpa using hu))
              go_wp2_with (first | (at_builtin; refine wpList_append_own _ rfl _ _ 107 rfl w.heap.size 118 i0 (.agg #[.string ByteArray.empty, .int .i64 0]) 2 24 Try.underlying107 hi0 hz0 hz1 hz2 rfl (by decide) _ _ _ rfl HOWN.out ⟨wr.heap.size, 0, none⟩ 1 1 [.string (s.extract f s.size), .int .i64 (f : Int)] rfl rfl HNEW.out (fun x hx => by simp at hx; rcases hx with rfl | rfl <;> rfl) (by unfold maxLen; omega) (by omega) (by have := hbsz.out; simp; omega) ?_; intro v' w2 hown2 hgrow _))
              go_roundw
              case rel => exact ⟨s.size + 1, by omega, by go_num, by first | (rw [HE.out]; done) | (rw [HE.out]; rfl), by rw [HE.out], hok, by rw [HE.out, List.length_append, List.flatMap_append]; exact hown2, (hb.out.alloc hbsz.out _).grown hgrow (by have := hbsz.out; simp; omega) (fun g hg => (own_lt HO2.out hg).1)⟩
              case measure => first | (simp [intOf]; done) | (simp [intOf]; omega)
          · have hfr : frm = none := HT.note rfl
            subst hfr
            have HE : Hid (stN s (s.size + 1) = ⟨out, none, false⟩) := Lib.hid (by first | (rw [HN.out, hc.out]; done) | (rw [HN.out, hc.out]; rfl))
            replace hb := Lib.hid hb
            replace HO := Lib.hid HO
            go_wp2_with fail
            go_roundw
            case rel => exact ⟨s.size + 1, by omega, by go_num, by first | (rw [HE.out]; done) | (rw [HE.out]; rfl), by rw [HE.out], hok, by rw [HE.out]; exact HO.out, hb.out⟩
            case measure => first | (simp [intOf]; done) | (simp [intOf]; omega)
      · obtain rfl : k = s.size + 1 := by omega
        replace HO : wr.ownsRow w.heap.size 118 2 _ (wordsL s).length ((wordsL s).flatMap wordV) := HO
        obtain ⟨A1, C1, hv⟩ := own_val HO
        subst hv
        have HA : Hid (okAll s = true) := Lib.hid (okTo_mono (Nat.le_succ _) HK.out)
        replace HO := Lib.hid HO
        replace hb := Lib.hid hb
        go_wp2_with fail
        go_ret3
        exact .inr (.inr ⟨h2, HA.out, A1, C1, rfl, HO.out, hb.out⟩)
end Go.Proofs.Ytljcpgeggbbmfaa
