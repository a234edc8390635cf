/-
  The walk of inst's numbers (layer 11).
-/
import Derived.Test.YtljcpgeggbbmfaaRd
import Derived.Deep.DeepCutAuto
import Derived.Deep.LoopGhost
namespace Go.Proofs.Ytljcpgeggbbmfaa
set_option linter.unusedVariables false
set_option linter.unusedSimpArgs false
open Go.RowKit
set_option maxHeartbeats 400000 in
theorem may_any (n l : Int) (w : World) :
    Calls Try.prog 69 #[.int .i64 n, .int .i64 l] w fun e w' => e = .returned (.bool (mayB n l)) ∧ w = w' := by
  by_cases h1 : l ≤ n
  · go_enter Try.func69, Try.ntmps69
    go_wp2
    go_ret
    exact ⟨ret_bool (by unfold mayB; rw [decide_eq_true h1]; rfl), rfl⟩
  · go_enter Try.func69, Try.ntmps69
    go_wp2
    go_ret
    exact ⟨ret_bool (by unfold mayB; rw [decide_eq_false (by omega)]; rfl), rfl⟩
/-- the first k of the two matrices are all right. -/
def matB (X : InstD) : Nat → Bool
  | 0 => true
  | 1 => allAt rowB X.cost
  | _ => allAt rowB X.cost && allAt rowB X.time
theorem ix0 (x y : Value) (w : World) : (Instr.index 126 (.agg #[x, y]) (.int .i64 0)).run Try.prog w = .ok x w := by kernel_rfl
theorem ix1 (x y : Value) (w : World) : (Instr.index 126 (.agg #[x, y]) (.int .i64 1)).run Try.prog w = .ok y w := by kernel_rfl
def numsB (X : InstD) : Bool := mayB X.fin 0 && mayB X.tr 0 && mayB X.br 0 && allAt satB X.sats && allAt custB X.custs && allAt rowB X.cost && allAt rowB X.time
theorem bool_eq {a b : Bool} (h : a = b) : Value.bool a = Value.bool b := by rw [h]
set_option maxHeartbeats 4000000 in
set_option maxRecDepth 100000 in
theorem numbers_any (w : World) (X : InstD) (h : HdD) (H : InstIs w X h) :
    Calls Try.prog 55 #[.agg (instC X h)] w fun e w' => e = .returned (.bool (numsB X)) ∧ Below w.heap.size w w' := by
  obtain ⟨sa, sc, ca, cc, oa, oc, ta, tc⟩ := h
  obtain ⟨H1, H2, H3, H4, hls, hlc, hlo, hln⟩ := H
  have BX := Boxed.new w X ⟨sa, sc, ca, cc, oa, oc, ta, tc⟩ 29
  have BW := (Below.refl w.heap.size w).alloc (Nat.le_refl _) (.cells (instC X ⟨sa, sc, ca, cc, oa, oc, ta, tc⟩) 29)
  have c5 := BX.2 5 _ rfl
  have c6 := BX.2 6 _ rfl
  have c7 := BX.2 7 _ rfl
  have c8 := BX.2 8 _ rfl
  have g1 := BX.1
  dsimp only [instC] at H1 H2 H3 H4 c5 c6 c7 c8 g1 BW ⊢
  replace H1 := Lib.hid (H1.below BW)
  replace H2 := Lib.hid (H2.below BW)
  replace H3 := Lib.hid (H3.below BW)
  replace H4 := Lib.hid (H4.below BW)
  clear BX
  replace BW := Lib.hid BW
  replace c5 := Lib.hid c5
  replace c6 := Lib.hid c6
  replace c7 := Lib.hid c7
  replace c8 := Lib.hid c8
  go_enter Try.func55, Try.ntmps55
  go_upto_region 1 with fail
  go_cut [3] (fun v wx => v = .bool (mayB X.fin 0 && mayB X.tr 0 && mayB X.br 0) ∧ wx = w.alloc (.cells #[.int .i64 X.fin, .int .i64 X.tm, .int .i64 X.tr, .int .i64 X.bm, .int .i64 X.br, .slice sa X.sats.length sc, .slice ca X.custs.length cc, .slice oa X.cost.length oc, .slice ta X.time.length tc] 29))
  case first =>
    go_wp2_with (go_at_call 69; refine (may_any _ _ _).mono ?_; rintro e w' ⟨rfl, rfl⟩)
    all_goals
      go_meet
      exact ⟨by simp [*], rfl⟩
  case rest =>
    obtain ⟨rfl, rfl⟩ := hcut
    have hn : numsB X = ((mayB X.fin 0 && mayB X.tr 0 && mayB X.br 0) && allAt satB X.sats && allAt custB X.custs && allAt rowB X.cost && allAt rowB X.time) := rfl
    have HN := Lib.hid hn
    clear hn
    generalize (mayB X.fin 0 && mayB X.tr 0 && mayB X.br 0) = b0 at *
    generalize w.alloc (.cells #[.int .i64 X.fin, .int .i64 X.tm, .int .i64 X.tr, .int .i64 X.bm, .int .i64 X.br, .slice sa X.sats.length sc, .slice ca X.custs.length cc, .slice oa X.cost.length oc, .slice ta X.time.length tc] 29) = W at *
    have d5 := c5.out
    go_wp2
    clear d5
    go_loopw [3, 32] (fun v i wr => ∃ k : Nat, k ≤ X.sats.length ∧ i = .int .i64 k ∧ v = .bool (b0 && allTo satB X.sats k) ∧ Below W.heap.size W wr) (fun _ i _ => X.sats.length - (intOf i).toNat)
    case atStart => exact ⟨0, Nat.zero_le _, rfl, by simp [allTo], Below.refl _ _⟩
    case round =>
      obtain ⟨k, hk, rfl, rfl, hb⟩ := hrel
      by_cases hlt : k < X.sats.length
      · obtain ⟨b, off, rfl, hc1, hc2⟩ := (H1.out.below hb).sat hlt
        have HS := Lib.hid (allTo_succ satB X.sats hlt)
        generalize hb1 : (b0 && allTo satB X.sats k) = b1 at *
        have HB1 := Lib.hid hb1
        clear hb1
        cases b1
        all_goals
          go_wp2_with (go_at_call 69; refine (may_any _ _ _).mono ?_; rintro e w' ⟨rfl, rfl⟩)
          all_goals
            go_roundw
            case rel => exact ⟨k + 1, by omega, by go_num, bool_eq (by rw [HS.out, ← Bool.and_assoc, HB1.out]; unfold satB; simp [*]), hb.alloc hb.size _⟩
            case measure => simp [intOf]; omega
      · obtain rfl : k = X.sats.length := by omega
        have hs : (b0 && allTo satB X.sats X.sats.length) = (b0 && allAt satB X.sats) := rfl
        rw [hs]
        generalize (b0 && allAt satB X.sats) = b1 at *
        clear hs
        have d6 := (hb.cell (p := ⟨w.heap.size, 6, none⟩) g1).trans c6.out
        replace c7 := Lib.hid ((hb.cell (p := ⟨w.heap.size, 7, none⟩) g1).trans c7.out)
        replace c8 := Lib.hid ((hb.cell (p := ⟨w.heap.size, 8, none⟩) g1).trans c8.out)
        have g2 := Nat.lt_of_lt_of_le g1 hb.size
        replace H2 := Lib.hid (H2.out.below hb)
        replace H3 := Lib.hid (H3.out.below hb)
        replace H4 := Lib.hid (H4.out.below hb)
        replace BW := Lib.hid (BW.out.trans (hb.mono (Nat.le_of_lt g1)))
        clear c5 c6 H1 hb hlt hk
        go_wp2
        clear d6 g1
        obtain ⟨W1, rfl⟩ : ∃ W1 : World, W1 = wr := ⟨_, rfl⟩
        go_loopw [3, 51] (fun v i wr => ∃ k : Nat, k ≤ X.custs.length ∧ i = .int .i64 k ∧ v = .bool (b1 && allTo custB X.custs k) ∧ Below W1.heap.size W1 wr) (fun _ i _ => X.custs.length - (intOf i).toNat)
        case atStart => exact ⟨0, Nat.zero_le _, rfl, by simp [allTo], Below.refl _ _⟩
        case round =>
          obtain ⟨k, hk, rfl, rfl, hb⟩ := hrel
          by_cases hlt : k < X.custs.length
          · obtain ⟨b, off, rfl, hc1, hc2, hc3, hc4⟩ := (H2.out.below hb).cust hlt
            have HS := Lib.hid (allTo_succ custB X.custs hlt)
            generalize hb1 : (b1 && allTo custB X.custs k) = b2 at *
            have HB1 := Lib.hid hb1
            clear hb1
            cases b2
            all_goals
              go_wp2_with (go_at_call 69; refine (may_any _ _ _).mono ?_; rintro e w' ⟨rfl, rfl⟩)
              all_goals
                go_roundw
                case rel => exact ⟨k + 1, by omega, by go_num, bool_eq (by rw [HS.out, ← Bool.and_assoc, HB1.out]; unfold custB; simp [*]), hb.alloc hb.size _⟩
                case measure => simp [intOf]; omega
          · obtain rfl : k = X.custs.length := by omega
            have hs : (b1 && allTo custB X.custs X.custs.length) = (b1 && allAt custB X.custs) := rfl
            rw [hs]
            generalize (b1 && allAt custB X.custs) = b2 at *
            clear hs
            have d7 := (hb.cell (p := ⟨w.heap.size, 7, none⟩) g2).trans c7.out
            have d8 := (hb.cell (p := ⟨w.heap.size, 8, none⟩) g2).trans c8.out
            replace H3 := Lib.hid (H3.out.below hb)
            replace H4 := Lib.hid (H4.out.below hb)
            have g3 := BW.out.size
            replace BW := Lib.hid (BW.out.trans (hb.mono g3))
            clear H2 hb hlt hk g3
            go_wp2
            clear d7 d8
            obtain ⟨W2, rfl⟩ : ∃ W2 : World, W2 = wr := ⟨_, rfl⟩
            go_loop [3, 84] (fun v i => ∃ k : Nat, k ≤ 2 ∧ i = .int .i64 k ∧ v = .bool (b2 && matB X k)) (fun _ i => 2 - (intOf i).toNat)
            case atStart => exact ⟨0, by omega, rfl, by simp [matB]⟩
            case round =>
              obtain ⟨k, hk, rfl, rfl⟩ := hrel
              by_cases hlt : k < 2
              · obtain ⟨ls, A, C, hl, HR, hm, ix⟩ : ∃ (ls : List (List Int)) (A : Option Addr) (C : Nat), ls.length ≤ 9223372036854775807 ∧ Hid (Rows2 W2 A ls) ∧ Hid (matB X (k + 1) = (matB X k && allAt rowB ls)) ∧
                    ∀ w, (Instr.index 126 (.agg #[.slice oa X.cost.length oc, .slice ta X.time.length tc]) (.int .i64 (k : Int))).run Try.prog w = .ok (.slice A ls.length C) w := by
                  rcases Nat.lt_or_ge k 1 with h0 | h0
                  · obtain rfl : k = 0 := by omega
                    exact ⟨X.cost, oa, oc, hlo, H3, Lib.hid (by simp [matB]), fun w => ix0 _ _ w⟩
                  · obtain rfl : k = 1 := by omega
                    exact ⟨X.time, ta, tc, hln, H4, Lib.hid rfl, fun w => ix1 _ _ w⟩
                generalize hb3 : (b2 && matB X k) = b3 at *
                have HB3 := Lib.hid hb3
                clear hb3
                go_wp2
                go_loop [3, 89] (fun v i => ∃ j : Nat, j ≤ ls.length ∧ i = .int .i64 j ∧ v = .bool (b3 && allTo rowB ls j)) (fun _ i => ls.length - (intOf i).toNat)
                case atStart => exact ⟨0, by omega, rfl, by simp [allTo]⟩
                case round =>
                  obtain ⟨j, hj, rfl, rfl⟩ := hrel
                  by_cases hjl : j < ls.length
                  · obtain ⟨b, off, a, c, rfl, hc, hr, HA⟩ := HR.out.row hjl
                    have HS := Lib.hid (allTo_succ rowB ls hjl)
                    replace HA := Lib.hid HA
                    generalize ls[j] = r at *
                    generalize hb4 : (b3 && allTo rowB ls j) = b4 at *
                    have HB4 := Lib.hid hb4
                    clear hb4
                    go_wp2
                    go_loop [3, 96] (fun v i => ∃ q : Nat, q ≤ r.length ∧ i = .int .i64 q ∧ v = .bool (b4 && allTo (cellB j) r q)) (fun _ i => r.length - (intOf i).toNat)
                    case atStart => exact ⟨0, by omega, rfl, by simp [allTo]⟩
                    case round =>
                      obtain ⟨q, hq, rfl, rfl⟩ := hrel
                      by_cases hql : q < r.length
                      · obtain ⟨b', off', rfl, hc'⟩ := HA.out.num hql
                        have HS' := Lib.hid (allTo_succ (cellB j) r hql)
                        generalize r[q] = n at *
                        generalize hb5 : (b4 && allTo (cellB j) r q) = b5 at *
                        have HB5 := Lib.hid hb5
                        clear hb5
                        by_cases hjq : j = q
                        · subst hjq
                          cases b5
                          all_goals
                            go_wp2_with (go_at_call 69; refine (may_any _ _ _).mono ?_; rintro e w' ⟨rfl, rfl⟩)
                            all_goals
                              go_round
                              case rel => exact ⟨j + 1, by omega, by go_num, bool_eq (by rw [HS'.out, ← Bool.and_assoc, HB5.out]; unfold cellB; simp [*])⟩
                              case measure => simp [intOf]; omega
                        · have hne : ((j : Int) == (q : Int)) = false := by rw [beq_eq_false_iff_ne]; omega
                          have hne2 : (j == q) = false := by rw [beq_eq_false_iff_ne]; exact hjq
                          cases b5
                          all_goals
                            go_wp2_with (go_at_call 69; refine (may_any _ _ _).mono ?_; rintro e w' ⟨rfl, rfl⟩)
                            all_goals
                              go_round
                              case rel => exact ⟨q + 1, by omega, by go_num, bool_eq (by rw [HS'.out, ← Bool.and_assoc, HB5.out]; unfold cellB; simp [*])⟩
                              case measure => simp [intOf]; omega
                      · obtain rfl : q = r.length := by omega
                        go_wp2
                        go_round
                        case rel => exact ⟨j + 1, by omega, by go_num, bool_eq (by rw [HS.out, ← Bool.and_assoc, HB4.out]; rfl)⟩
                        case measure => simp [intOf]; omega
                  · obtain rfl : j = ls.length := by omega
                    go_wp2
                    go_round
                    case rel => exact ⟨k + 1, by omega, by go_num, bool_eq (by rw [hm.out, ← Bool.and_assoc, HB3.out]; rfl)⟩
                    case measure => simp [intOf]; omega
              · obtain rfl : k = 2 := by omega
                go_wp2
                go_ret
                exact ⟨ret_bool (by rw [HN.out, Bool.and_assoc]; rfl), BW.out⟩
end Go.Proofs.Ytljcpgeggbbmfaa
