/-
  The walk of wharfagelaw11.Code where there are as many things as may be.
-/
import Derived.Test.YtljcpgeggbbmfaaGood
namespace Go.Proofs.Ytljcpgeggbbmfaa
set_option linter.unusedVariables false
set_option linter.unusedSimpArgs false
open Go.RowKit
/-- the sizes of the first k of the two matrices are right. -/
def sizB (X : InstD) (m : Nat) : Nat → Bool
  | 0 => true
  | 1 => sqB X.cost m
  | _ => sqB X.cost m && sqB X.time m
set_option maxHeartbeats 8000000 in
set_option maxRecDepth 100000 in
theorem code_main (X : InstD) (h : HdD) (w : World) (H : InstIs w X h) (hc : countB X = true) :
    Calls Try.prog 15 #[.agg (instC X h)] w fun e w' => e = .returned (.int .i64 (codeI X)) ∧ Below w.heap.size w w' := by
  have HC : Hid (codeI X = if !(sqB X.cost (nodesN X) && sqB X.time (nodesN X)) then 4 else if !numsB X then 2 else 0) := Lib.hid (by unfold codeI; rw [hc]; rfl)
  obtain ⟨b1, b2, b3, b4, b5, b6, b7, b8⟩ : 1 ≤ X.tm ∧ X.tm ≤ 60 ∧ 1 ≤ X.bm ∧ X.bm ≤ 60 ∧ 1 ≤ X.sats.length ∧ X.sats.length ≤ 12 ∧ 1 ≤ X.custs.length ∧ X.custs.length ≤ 48 := by
    unfold countB manyB at hc
    simp only [Bool.and_eq_true, decide_eq_true_eq] at hc
    omega
  clear hc
  obtain ⟨sa, sc, ca, cc, oa, oc, ta, tc⟩ := h
  obtain ⟨H1, H2, H3, H4, hls, hlc, hlo, hln⟩ := H
  have BX := Boxed.new w X ⟨sa, sc, ca, cc, oa, oc, ta, tc⟩ 29
  have BW := (Below.refl w.heap.size w).alloc (Nat.le_refl _) (.cells (instC X ⟨sa, sc, ca, cc, oa, oc, ta, tc⟩) 29)
  have g0 := BX.1
  have d0 : (w.alloc (.cells (instC X ⟨sa, sc, ca, cc, oa, oc, ta, tc⟩) 29)).cell? ⟨w.heap.size, 0, none⟩ = some (.int .i64 X.fin) := BX.2 0 _ rfl
  have d2 : (w.alloc (.cells (instC X ⟨sa, sc, ca, cc, oa, oc, ta, tc⟩) 29)).cell? ⟨w.heap.size, 2, none⟩ = some (.int .i64 X.tr) := BX.2 2 _ rfl
  have d4 : (w.alloc (.cells (instC X ⟨sa, sc, ca, cc, oa, oc, ta, tc⟩) 29)).cell? ⟨w.heap.size, 4, none⟩ = some (.int .i64 X.br) := BX.2 4 _ rfl
  have d5 : (w.alloc (.cells (instC X ⟨sa, sc, ca, cc, oa, oc, ta, tc⟩) 29)).cell? ⟨w.heap.size, 5, none⟩ = some (.slice sa X.sats.length sc) := BX.2 5 _ rfl
  have d7 : (w.alloc (.cells (instC X ⟨sa, sc, ca, cc, oa, oc, ta, tc⟩) 29)).cell? ⟨w.heap.size, 7, none⟩ = some (.slice oa X.cost.length oc) := BX.2 7 _ rfl
  have d8 : (w.alloc (.cells (instC X ⟨sa, sc, ca, cc, oa, oc, ta, tc⟩) 29)).cell? ⟨w.heap.size, 8, none⟩ = some (.slice ta X.time.length tc) := BX.2 8 _ rfl
  have d6 : (w.alloc (.cells (instC X ⟨sa, sc, ca, cc, oa, oc, ta, tc⟩) 29)).cell? ⟨w.heap.size, 6, none⟩ = some (.slice ca X.custs.length cc) := BX.2 6 _ rfl
  dsimp only [instC] at H1 H2 H3 H4 d0 d2 d4 d5 d6 d7 d8 g0 BW ⊢
  replace H1 := Lib.hid (H1.below BW)
  replace H2 := Lib.hid (H2.below BW)
  replace H3 := Lib.hid (H3.below BW)
  replace H4 := Lib.hid (H4.below BW)
  clear BX
  replace BW := Lib.hid BW
  replace d0 := Lib.hid d0
  replace d2 := Lib.hid d2
  replace d4 := Lib.hid d4
  replace d5 := Lib.hid d5
  replace d6 := Lib.hid d6
  replace d7 := Lib.hid d7
  replace d8 := Lib.hid d8
  have HN : Hid (nodesN X = 1 + X.sats.length + X.custs.length) := Lib.hid rfl
  have hmf : ∀ (fn : Fn) (first cap : Array Value) (w : World), (Instr.makeFunc fn first cap).run Try.prog w = .ok (.func fn first cap) w := fun _ _ _ _ => rfl
  go_enter Try.func15, Try.ntmps15
  go_upto_region 4 with fail
  generalize hW : w.alloc (.cells #[.int .i64 X.fin, .int .i64 X.tm, .int .i64 X.tr, .int .i64 X.bm, .int .i64 X.br, .slice sa X.sats.length sc, .slice ca X.custs.length cc, .slice oa X.cost.length oc, .slice ta X.time.length tc] 29) = W at *
  have hWs : Hid (W.heap.size = w.heap.size + 1) := Lib.hid (by rw [← hW]; simp)
  clear hW
  go_cut [1, 2, 3, 4, 5] (fun s1 s2 s3 s4 s5 wx => s1 = .pointer (some ⟨w.heap.size, 0, none⟩) ∧ s2 = .int .i64 0 ∧ s3 = .int .i64 (nodesN X) ∧ s4 = .bool true ∧ s5 = .pointer (some ⟨w.heap.size + 1, 0, none⟩) ∧ wx = W.alloc (.cells #[.bool true] 4))
  case first =>
    have q := hWs.out
    go_wp2
    go_meet
    exact ⟨rfl, rfl, by rw [HN.out]; go_num, rfl, rfl, rfl⟩
  case rest =>
    obtain ⟨rfl, rfl, rfl, rfl, rfl, rfl⟩ := hcut
    have q : (W.alloc (.cells #[.bool true] 4)).heap.size = w.heap.size + 1 + 1 := by rw [← hWs.out]; simp
    have q7 : (W.alloc (.cells #[.bool true] 4)).cell? ⟨w.heap.size, 7, none⟩ = some (.slice oa X.cost.length oc) := keep_cell ((Below.refl _ _).alloc (Nat.le_refl _) _) d7.out
    have q8 : (W.alloc (.cells #[.bool true] 4)).cell? ⟨w.heap.size, 8, none⟩ = some (.slice ta X.time.length tc) := keep_cell ((Below.refl _ _).alloc (Nat.le_refl _) _) d8.out
    have hm : (nodesN X : Int) ≤ 100 := by rw [HN.out]; omega
    have HG := Lib.hid (GoodW.new W (w.heap.size + 1) hWs.out (.slice oa X.cost.length oc) (.slice ta X.time.length tc) 4 27)
    go_wp2
    clear q q7 q8
    go_loopw [4, 78] (fun v i wr => ∃ k : Nat, k ≤ 2 ∧ i = .int .i64 k ∧ v = .bool (sizB X (nodesN X) k) ∧ GoodW W (w.heap.size + 1) (.slice oa X.cost.length oc) (.slice ta X.time.length tc) (matB X k) wr) (fun _ i _ => 2 - (intOf i).toNat)
    case atStart => exact ⟨0, by omega, rfl, rfl, HG.out⟩
    case round =>
      obtain ⟨k, hk, rfl, rfl, hG⟩ := hrel
      by_cases hlt : k < 2
      · have hk2 : decide ((k : Int) < 2) = true := decide_eq_true (by omega)
        obtain ⟨ls, A, C, hl, HR, hmt, hsz, hcl⟩ : ∃ (ls : List (List Int)) (A : Option Addr) (C : Nat), ls.length ≤ 9223372036854775807 ∧ Hid (Rows2 W A ls) ∧ Hid (matB X (k + 1) = (matB X k && allAt rowB ls)) ∧ Hid (sizB X (nodesN X) (k + 1) = (sizB X (nodesN X) k && sqB ls (nodesN X))) ∧
            wr.cell? ⟨w.heap.size + 1 + 1, k, none⟩ = some (.slice A ls.length C) := by
          rcases Nat.lt_or_ge k 1 with h0 | h0
          · obtain rfl : k = 0 := by omega
            exact ⟨X.cost, oa, oc, hlo, H3, Lib.hid (by simp [matB]), Lib.hid (by simp [sizB]), hG.d0⟩
          · obtain rfl : k = 1 := by omega
            exact ⟨X.time, ta, tc, hln, H4, Lib.hid rfl, Lib.hid rfl, hG.d1⟩
        rw [sqB_eq, ← Bool.and_assoc] at hsz
        generalize sizB X (nodesN X) k = s0 at *
        generalize matB X k = m0 at *
        generalize nodesN X = m at *
        have he : ((ls.length : Int) == (m : Int)) = (ls.length == m) := by
          rw [Bool.eq_iff_iff, beq_iff_eq, beq_iff_eq]; omega
        obtain ⟨s1, hs1⟩ : ∃ x, (s0 && (ls.length == m)) = x := ⟨_, rfl⟩
        rw [hs1] at hsz
        generalize (ls.length == m) = q0 at *
        replace hs1 := Lib.hid hs1
        replace hG := Lib.hid hG
        replace hcl := Lib.hid hcl
        cases s0
        all_goals
          have hcl' := hcl.out
          go_wp2
          clear hcl'
          obtain ⟨wo, rfl⟩ : ∃ wo : World, wo = wr := ⟨_, rfl⟩
          go_loopw [4, 91] (fun v i wr => ∃ j : Nat, j ≤ ls.length ∧ i = .int .i64 j ∧ v = .bool (s1 && allTo (lenB m) ls j) ∧ GoodW W (w.heap.size + 1) (.slice oa X.cost.length oc) (.slice ta X.time.length tc) (m0 && allTo rowB ls j) wr) (fun _ i _ => ls.length - (intOf i).toNat)
          case atStart => exact ⟨0, by omega, rfl, bool_eq (by rw [← hs1.out]; simp [allTo]), hG.out.cast (by simp [allTo])⟩
          case round =>
            obtain ⟨j, hj, rfl, rfl, hGj⟩ := hrel
            by_cases hjl : j < ls.length
            · obtain ⟨b, off, a, c, rfl, hcW, hr, HA⟩ := HR.out.row hjl
              have hc := keep_cell hGj.below hcW
              clear hcW
              replace HA := Lib.hid HA
              have HS := Lib.hid (allTo_succ rowB ls hjl)
              have HL := allTo_succ (lenB m) ls hjl
              unfold lenB at HL
              rw [← show allTo (lenB m) ls (j + 1) = allTo (fun _ r => r.length == m) ls (j + 1) from rfl, ← show allTo (lenB m) ls j = allTo (fun _ r => r.length == m) ls j from rfl] at HL
              generalize ls[j] = r at *
              have he2 : ((r.length : Int) == (m : Int)) = (r.length == m) := by
                rw [Bool.eq_iff_iff, beq_iff_eq, beq_iff_eq]; omega
              generalize (r.length == m) = q1 at *
              replace HL : Hid ((s1 && allTo (lenB m) ls (j + 1)) = ((s1 && allTo (lenB m) ls j) && q1)) := Lib.hid (by rw [HL, Bool.and_assoc])
              generalize (s1 && allTo (lenB m) ls j) = x0 at *
              generalize hm1 : (m0 && allTo rowB ls j) = m1 at *
              replace hm1 := Lib.hid hm1
              replace hGj := Lib.hid hGj
              cases x0
              all_goals
                go_wp2
                obtain ⟨wp, rfl⟩ : ∃ wp : World, wp = wr := ⟨_, rfl⟩
                go_loopw [105] (fun i wr => ∃ q : Nat, q ≤ r.length ∧ i = .int .i64 q ∧ GoodW W (w.heap.size + 1) (.slice oa X.cost.length oc) (.slice ta X.time.length tc) (m1 && allTo (cellB j) r q) wr) (fun i _ => r.length - (intOf i).toNat)
                case atStart => exact ⟨0, by omega, rfl, hGj.out.cast (by simp [allTo])⟩
                case round =>
                  obtain ⟨q, hq, rfl, hGq⟩ := hrel
                  by_cases hql : q < r.length
                  · obtain ⟨b', off', rfl, hc'⟩ := (HA.out.below hGq.below).num hql
                    have HS' := Lib.hid (allTo_succ (cellB j) r hql)
                    generalize r[q] = v at *
                    generalize hy0 : (m1 && allTo (cellB j) r q) = y0 at *
                    replace hy0 := Lib.hid hy0
                    obtain ⟨y1, hy1⟩ : ∃ x, (y0 && mayB v 0) = x := ⟨_, rfl⟩
                    have HF : Hid ((m1 && allTo (cellB j) r (q + 1)) = (y1 && (!(j == q) || v == 0))) := Lib.hid (by
                      rw [HS'.out, ← Bool.and_assoc, hy0.out]; unfold cellB; rw [← Bool.and_assoc, hy1])
                    replace hy1 := Lib.hid hy1
                    by_cases hjq : j = q
                    · subst hjq
                      cases y1
                      all_goals
                        go_wp2_with (go_at_call 38; refine (in_good _ _ _ hGq hy1.out).mono ?_; rintro e w2 ⟨rfl, hG2⟩; have c1 := hG2.cell; have f1 := hG2.frozen)
                        go_roundw
                        case rel => exact ⟨j + 1, by omega, by go_num, (hG2.set _).cast (by rw [HF.out]; simp)⟩
                        case measure => simp [intOf]; omega
                    · have hne : ((j : Int) == (q : Int)) = false := by rw [beq_eq_false_iff_ne]; omega
                      have hne2 : (j == q) = false := by rw [beq_eq_false_iff_ne]; exact hjq
                      cases y1
                      all_goals
                        go_wp2_with (go_at_call 38; refine (in_good _ _ _ hGq hy1.out).mono ?_; rintro e w2 ⟨rfl, hG2⟩; have c1 := hG2.cell; have f1 := hG2.frozen)
                        go_roundw
                        case rel => exact ⟨q + 1, by omega, by go_num, (hG2.set _).cast (by rw [HF.out, hne2]; rfl)⟩
                        case measure => simp [intOf]; omega
                  · obtain rfl : q = r.length := by omega
                    go_wp2
                    go_roundw
                    case rel => exact ⟨j + 1, by omega, by go_num, bool_eq (by rw [HL.out]; simp), hGq.cast (by rw [HS.out, ← Bool.and_assoc, hm1.out]; rfl)⟩
                    case measure => simp [intOf]; omega
            · obtain rfl : j = ls.length := by omega
              go_wp2
              go_roundw
              case rel => exact ⟨k + 1, by omega, by go_num, bool_eq (by rw [hsz.out]; rfl), hGj.cast (by rw [hmt.out]; rfl)⟩
              case measure => simp [intOf]; omega
      · obtain rfl : k = 2 := by omega
        have e0 := keep_cell hG.below d0.out
        have e2 := keep_cell hG.below d2.out
        have e4 := keep_cell hG.below d4.out
        have e5 := keep_cell hG.below d5.out
        have hk2 : decide ((2 : Int) < 2) = false := rfl
        have hsz : sizB X (nodesN X) 2 = (sqB X.cost (nodesN X) && sqB X.time (nodesN X)) := rfl
        rw [← hsz] at HC
        generalize sizB X (nodesN X) 2 = sz at *
        clear hsz
        go_wp2_with fail
        refine (in_good _ _ _ hG rfl).mono ?_
        rintro e w2 ⟨rfl, hG2⟩
        replace e2 := keep_cell hG2.below d2.out
        replace e4 := keep_cell hG2.below d4.out
        replace e5 := keep_cell hG2.below d5.out
        go_wp2_with fail
        refine (in_good _ _ _ hG2 rfl).mono ?_
        rintro e w3 ⟨rfl, hG3⟩
        replace e4 := keep_cell hG3.below d4.out
        replace e5 := keep_cell hG3.below d5.out
        go_wp2_with fail
        refine (in_good _ _ _ hG3 rfl).mono ?_
        rintro e w4 ⟨rfl, hG4⟩
        replace e5 := keep_cell hG4.below d5.out
        clear e0 e2 e4 hG hG2 hG3
        have hx : (((matB X 2 && mayB X.fin 0) && mayB X.tr 0) && mayB X.br 0) = (allAt rowB X.cost && allAt rowB X.time && mayB X.fin 0 && mayB X.tr 0 && mayB X.br 0) := rfl
        rw [hx] at hG4
        clear hx
        obtain ⟨x0, hx0⟩ : ∃ x, (allAt rowB X.cost && allAt rowB X.time && mayB X.fin 0 && mayB X.tr 0 && mayB X.br 0) = x := ⟨_, rfl⟩
        rw [hx0] at hG4
        replace hx0 := Lib.hid hx0
        go_wp2
        clear e5
        go_loopw [143] (fun i wr => ∃ k : Nat, k ≤ X.sats.length ∧ i = .int .i64 k ∧ GoodW W (w.heap.size + 1) (.slice oa X.cost.length oc) (.slice ta X.time.length tc) (x0 && allTo satB X.sats k) wr) (fun i _ => X.sats.length - (intOf i).toNat)
        case atStart => exact ⟨0, by omega, rfl, hG4.cast (by simp [allTo])⟩
        case round =>
          obtain ⟨k, hk, rfl, hG⟩ := hrel
          by_cases hlt : k < X.sats.length
          · obtain ⟨b, off, rfl, hc1, hc2⟩ := (H1.out.below hG.below).sat hlt
            have HS := Lib.hid (allTo_succ satB X.sats hlt)
            generalize hz : (x0 && allTo satB X.sats k) = z0 at *
            replace hz := Lib.hid hz
            have hGa := fun o => hG.alloc o
            replace hGa := Lib.hid hGa
            have hgw : Hid (w.heap.size + 1 < wr.heap.size) := Lib.hid (by have := lt_of_cell hG.d0; simp at this; omega)
            go_wp2_with fail
            refine (in_good2 _ _ (hGa.out _)).mono ?_
            rintro e w5 ⟨rfl, hG5, hO⟩
            have f1 : w5.cell? ⟨wr.heap.size, 1, none⟩ = some (.int .i64 X.sats[k].hold) := hO _ _ (by have := hgw.out; simp; omega) (by rw [World.cell?_alloc_new]; rfl)
            clear hO
            go_wp2_with fail
            refine (in_good _ _ _ hG5 rfl).mono ?_
            rintro e w6 ⟨rfl, hG6⟩
            go_wp2
            go_roundw
            case rel => exact ⟨k + 1, by omega, by go_num, hG6.cast (by rw [HS.out, ← Bool.and_assoc, hz.out]; unfold satB; rw [Bool.and_assoc])⟩
            case measure => simp [intOf]; omega
          · obtain rfl : k = X.sats.length := by omega
            have hsx : (x0 && allTo satB X.sats X.sats.length) = (x0 && allAt satB X.sats) := rfl
            rw [hsx] at hG
            clear hsx
            have e6 := keep_cell hG.below d6.out
            go_wp2
            clear e6 hG4
            obtain ⟨wo, rfl⟩ : ∃ wo : World, wo = wr := ⟨_, rfl⟩
            obtain ⟨x1, hx1⟩ : ∃ x, (x0 && allAt satB X.sats) = x := ⟨_, rfl⟩
            rw [hx1] at hG
            replace hx1 := Lib.hid hx1
            go_loopw [159] (fun i wr => ∃ k : Nat, k ≤ X.custs.length ∧ i = .int .i64 k ∧ GoodW W (w.heap.size + 1) (.slice oa X.cost.length oc) (.slice ta X.time.length tc) (x1 && allTo custB X.custs k) wr) (fun i _ => X.custs.length - (intOf i).toNat)
            case atStart => exact ⟨0, by omega, rfl, hG.cast (by simp [allTo])⟩
            case round =>
              obtain ⟨k, hk, rfl, hG⟩ := hrel
              by_cases hlt : k < X.custs.length
              · obtain ⟨b, off, rfl, hc1, hc2, hc3, hc4⟩ := (H2.out.below hG.below).cust hlt
                have HS := Lib.hid (allTo_succ custB X.custs hlt)
                generalize hz : (x1 && allTo custB X.custs k) = z0 at *
                replace hz := Lib.hid hz
                have hGa := fun o => hG.alloc o
                replace hGa := Lib.hid hGa
                have hgw : Hid (w.heap.size + 1 < wr.heap.size) := Lib.hid (by have := lt_of_cell hG.d0; simp at this; omega)
                go_wp2_with fail
                refine (in_good2 _ _ (hGa.out _)).mono ?_
                rintro e w5 ⟨rfl, hG5, hO5⟩
                have f1 : w5.cell? ⟨wr.heap.size, 1, none⟩ = some (.int .i64 X.custs[k].opn) := hO5 _ _ (by have := hgw.out; simp; omega) (by rw [World.cell?_alloc_new]; rfl)
                have f2 : w5.cell? ⟨wr.heap.size, 2, none⟩ = some (.int .i64 X.custs[k].close) := hO5 _ _ (by have := hgw.out; simp; omega) (by rw [World.cell?_alloc_new]; rfl)
                have f3 : w5.cell? ⟨wr.heap.size, 3, none⟩ = some (.int .i64 X.custs[k].stay) := hO5 _ _ (by have := hgw.out; simp; omega) (by rw [World.cell?_alloc_new]; rfl)
                clear hO5
                go_wp2_with fail
                refine (in_good2 _ _ hG5).mono ?_
                rintro e w6 ⟨rfl, hG6, hO6⟩
                replace f1 := hO6 _ _ (by have := hgw.out; simp; omega) f1
                replace f2 := hO6 _ _ (by have := hgw.out; simp; omega) f2
                replace f3 := hO6 _ _ (by have := hgw.out; simp; omega) f3
                clear hO6
                go_wp2_with fail
                refine (in_good2 _ _ hG6).mono ?_
                rintro e w7 ⟨rfl, hG7, hO7⟩
                replace f3 := hO7 _ _ (by have := hgw.out; simp; omega) f3
                clear hO7 f1 f2
                go_wp2_with fail
                refine (in_good2 _ _ hG7).mono ?_
                rintro e w8 ⟨rfl, hG8, _⟩
                go_wp2
                go_roundw
                case rel => exact ⟨k + 1, by omega, by go_num, hG8.cast (by rw [HS.out, ← Bool.and_assoc, hz.out]; unfold custB; simp only [Bool.and_assoc])⟩
                case measure => simp [intOf]; omega
              · obtain rfl : k = X.custs.length := by omega
                have hsx : (x1 && allTo custB X.custs X.custs.length) = numsB X := by
                  show (x1 && allAt custB X.custs) = _
                  rw [← hx1.out, ← hx0.out]
                  unfold numsB
                  generalize allAt custB X.custs = a1
                  generalize allAt satB X.sats = a2
                  generalize allAt rowB X.cost = a3
                  generalize allAt rowB X.time = a4
                  generalize mayB X.fin 0 = a5
                  generalize mayB X.tr 0 = a6
                  generalize mayB X.br 0 = a7
                  cases a1 <;> cases a2 <;> cases a3 <;> cases a4 <;> cases a5 <;> cases a6 <;> cases a7 <;> rfl
                rw [hsx] at hG
                clear hsx
                have c1 := hG.cell
                have hB := BW.out.trans (hG.below.mono (Nat.le_of_lt g0))
                generalize numsB X = nb at *
                cases sz <;> cases nb
                all_goals
                  go_wp2
                  go_ret
                  exact ⟨ret_int (by rw [HC.out]; rfl), hB⟩
end Go.Proofs.Ytljcpgeggbbmfaa
