/-
  The walks of slices.Equal at the three kinds of elements (layer 11).
-/
import Derived.Test.YtljcpgeggbbmfaaCheck
import Derived.Deep.QuietTactic
import Derived.BigQuiet
import Derived.Laws.StructEq
namespace Go.Proofs.Ytljcpgeggbbmfaa
set_option linter.unusedVariables false
set_option linter.unusedSimpArgs false
open Go.RowKit
/-- two lists of one length agree just if they agree at each place. -/
theorem take_snocG {α : Type} (l : List α) {k : Nat} (h : k < l.length) : l.take (k + 1) = l.take k ++ [l[k]] := List.take_succ_eq_append_getElem h
def EqEnd (b : Prop) [Decidable b] (w : World) (e : Ending) (w' : World) : Prop := e = .returned (.bool (decide b)) ∧ ∃ nq, w' = w.drewN nq
set_option maxHeartbeats 1600000 in
theorem eqInts_any (A B : Option Addr) (CA CB : Nat) (xs ys : List Int) (w : World) (hx : xs.length ≤ 9223372036854775807) (hy : ys.length ≤ 9223372036854775807) (RA : Rd w A (i64s xs)) (RB : Rd w B (i64s ys)) :
    Calls Try.prog 44 #[.slice A xs.length CA, .slice B ys.length CB] w (EqEnd (xs = ys) w) := by
  replace RA := Lib.hid RA
  replace RB := Lib.hid RB
  by_cases hl : xs.length = ys.length
  · have hne : ((xs.length : Int) != (ys.length : Int)) = false := by rw [bne_eq_false_iff_eq]; omega
    go_enter Try.func44, Try.ntmps44
    go_wp2_with fail
    go_loopw [13] (fun i wr => ∃ k nq : Nat, k ≤ xs.length ∧ i = .int .i64 k ∧ Hid (xs.take k = ys.take k) ∧ wr = w.drewN nq) (fun i _ => xs.length - (intOf i).toNat)
    case atStart => exact ⟨0, 0, Nat.zero_le _, rfl, Lib.hid (by simp), rfl⟩
    case round =>
      obtain ⟨k, nq, hk, rfl, hs, rfl⟩ := hrel
      by_cases hkl : k < xs.length
      · have hkl2 : k < ys.length := by omega
        obtain ⟨b, off, rfl, hc⟩ := RA.out.num hkl
        obtain ⟨b', off', rfl, hc'⟩ := RB.out.num hkl2
        have e1 := Lib.hid (take_snocG xs hkl)
        have e2 := Lib.hid (take_snocG ys hkl2)
        have hall := Lib.hid (show xs[k] ≠ ys[k] → ¬ xs = ys from fun hn he => hn (by subst he; rfl))
        have k0 : (0 : Int) ≤ (k : Int) := by omega
        have k1 : (k : Int) < (xs.length : Int) := by omega
        have k2 : (k : Int) < (ys.length : Int) := by omega
        generalize xs[k] = x at *
        generalize ys[k] = y at *
        by_cases hxy : x = y
        · subst hxy
          go_wp2_with fail
          go_quiet (fail)
          go_wp2_with fail
          go_roundw
          case rel => exact ⟨k + 1, _, by omega, by go_num, Lib.hid (by rw [e1.out, e2.out, hs.out]), rfl⟩
          case measure => simp [intOf]; omega
        · have hb : (x != y) = true := by rw [bne_iff_ne]; exact hxy
          have hd := Lib.hid (hall.out hxy)
          clear hall hxy
          go_wp2_with fail
          go_quiet (fail)
          go_wp2_with fail
          go_ret
          exact ⟨ret_bool (decide_eq_false hd.out).symm, _, World.drewN_drewN _ _ _⟩
      · obtain rfl : k = xs.length := by omega
        have hd := hs.out
        rw [List.take_length, hl, List.take_length] at hd
        replace hd := Lib.hid hd
        clear hs
        go_wp2_with fail
        go_ret
        exact ⟨ret_bool (decide_eq_true hd.out).symm, _, rfl⟩
  · have hne : ((xs.length : Int) != (ys.length : Int)) = true := by rw [bne_iff_ne]; omega
    have hd := Lib.hid (show ¬ xs = ys from fun e => hl (by rw [e]))
    go_enter Try.func44, Try.ntmps44
    go_wp2_with fail
    go_ret
    exact ⟨ret_bool (decide_eq_false hd.out).symm, 0, rfl⟩
instance : DecidableEq SatD := fun a b => decidable_of_iff (a.room = b.room ∧ a.hold = b.hold) ⟨fun h => by cases a; cases b; simp at h; rw [h.1, h.2], fun h => by rw [h]; exact ⟨rfl, rfl⟩⟩
theorem neq_sat (a b c d : Int) (w : World) : (binOp .neq 62 (.agg #[.int .i64 a, .int .i64 b]) (.agg #[.int .i64 c, .int .i64 d])).run Try.prog w = .ok (.bool (!(a == c && b == d))) w := by
  have hf : Try.prog.fieldsOf 62 = #[{ name := "Room", type := 2, offset := 0, embedded := false, tag := "", pkgPath := "", byteOffset := 0 }, { name := "Hold", type := 2, offset := 1, embedded := false, tag := "", pkgPath := "", byteOffset := 8 }] := by kernel_rfl
  rw [run_neq_struct, run_equalIn_agg w 9999 _ _ _ (by rw [hf]; exact Try.underlying62) (by kernel_rfl), hf]
  have p0 : ∀ x y : Value, ∀ w : World, (part 2 #[x, y] 0).run Try.prog w = .ok x w := fun _ _ _ => by kernel_rfl
  have p1 : ∀ x y : Value, ∀ w : World, (part 2 #[x, y] 1).run Try.prog w = .ok y w := fun _ _ _ => by kernel_rfl
  have q : ∀ (x y : Int) (w : World), (Op.equalIn 9999 2 (.int .i64 x) (.int .i64 y)).run Try.prog w = .ok (x == y) w := fun x y w => run_equalIn_int w 9998 _ _ _ x y Try.underlying2
  simp only [Op.eqFields, Sem.run_bind, p0, p1, q, Result.andThen_ok, Sem.run_ite, Sem.run_pure]
  cases (a == c) <;> cases (b == d) <;> simp
set_option maxHeartbeats 1600000 in
theorem eqSats_any (A B : Option Addr) (CA CB : Nat) (xs ys : List SatD) (w : World) (hx : xs.length ≤ 9223372036854775807) (hy : ys.length ≤ 9223372036854775807) (RA : Rd w A (xs.flatMap satV)) (RB : Rd w B (ys.flatMap satV)) :
    Calls Try.prog 45 #[.slice A xs.length CA, .slice B ys.length CB] w (EqEnd (xs = ys) w) := by
  replace RA := Lib.hid RA
  replace RB := Lib.hid RB
  by_cases hl : xs.length = ys.length
  · have hne : ((xs.length : Int) != (ys.length : Int)) = false := by rw [bne_eq_false_iff_eq]; omega
    go_enter Try.func45, Try.ntmps45
    go_wp2_with fail
    go_loopw [13] (fun i wr => ∃ k nq : Nat, k ≤ xs.length ∧ i = .int .i64 k ∧ Hid (xs.take k = ys.take k) ∧ wr = w.drewN nq) (fun i _ => xs.length - (intOf i).toNat)
    case atStart => exact ⟨0, 0, Nat.zero_le _, rfl, Lib.hid (by simp), rfl⟩
    case round =>
      obtain ⟨k, nq, hk, rfl, hs, rfl⟩ := hrel
      by_cases hkl : k < xs.length
      · have hkl2 : k < ys.length := by omega
        obtain ⟨b, off, rfl, hc, hd1⟩ := RA.out.sat hkl
        obtain ⟨b', off', rfl, hc', hd2⟩ := RB.out.sat hkl2
        have e1 := Lib.hid (take_snocG xs hkl)
        have e2 := Lib.hid (take_snocG ys hkl2)
        have hall := Lib.hid (show xs[k] ≠ ys[k] → ¬ xs = ys from fun hn he => hn (by subst he; rfl))
        have k0 : (0 : Int) ≤ (k : Int) := by omega
        have k1 : (k : Int) < (xs.length : Int) := by omega
        have k2 : (k : Int) < (ys.length : Int) := by omega
        generalize xs[k] = x at *
        generalize ys[k] = y at *
        by_cases hxy : x = y
        · subst hxy
          go_wp2_with fail
          go_quiet (fail)
          go_wp2_with fail
          go_roundw
          case rel => exact ⟨k + 1, _, by omega, by go_num, Lib.hid (by rw [e1.out, e2.out, hs.out]), rfl⟩
          case measure => simp [intOf]; omega
        · obtain ⟨x1, x2⟩ := x
          obtain ⟨y1, y2⟩ := y
          have hb : (x1 == y1 && x2 == y2) = false := by rw [Bool.eq_false_iff]; intro h; rw [Bool.and_eq_true, beq_iff_eq, beq_iff_eq] at h; exact hxy (by rw [h.1, h.2])
          have hq := fun w => neq_sat x1 x2 y1 y2 w
          rw [hb] at hq
          have hd := Lib.hid (hall.out hxy)
          clear hall hxy
          go_wp2_with fail
          go_quiet (fail)
          go_wp2_with fail
          go_ret
          exact ⟨ret_bool (decide_eq_false hd.out).symm, _, World.drewN_drewN _ _ _⟩
      · obtain rfl : k = xs.length := by omega
        have hd := hs.out
        rw [List.take_length, hl, List.take_length] at hd
        replace hd := Lib.hid hd
        clear hs
        go_wp2_with fail
        go_ret
        exact ⟨ret_bool (decide_eq_true hd.out).symm, _, rfl⟩
  · have hne : ((xs.length : Int) != (ys.length : Int)) = true := by rw [bne_iff_ne]; omega
    have hd := Lib.hid (show ¬ xs = ys from fun e => hl (by rw [e]))
    go_enter Try.func45, Try.ntmps45
    go_wp2_with fail
    go_ret
    exact ⟨ret_bool (decide_eq_false hd.out).symm, 0, rfl⟩
instance : DecidableEq CustD := fun a b => decidable_of_iff (a.load = b.load ∧ a.opn = b.opn ∧ a.close = b.close ∧ a.stay = b.stay) ⟨fun h => by cases a; cases b; simp at h; obtain ⟨h1, h2, h3, h4⟩ := h; rw [h1, h2, h3, h4], fun h => by rw [h]; exact ⟨rfl, rfl, rfl, rfl⟩⟩
theorem neq_cust (a b c d a' b' c' d' : Int) (w : World) : (binOp .neq 66 (.agg #[.int .i64 a, .int .i64 b, .int .i64 c, .int .i64 d]) (.agg #[.int .i64 a', .int .i64 b', .int .i64 c', .int .i64 d'])).run Try.prog w = .ok (.bool (!(a == a' && b == b' && c == c' && d == d'))) w := by
  have hf : Try.prog.fieldsOf 66 = #[{ name := "Load", type := 2, offset := 0, embedded := false, tag := "", pkgPath := "", byteOffset := 0 }, { name := "Open", type := 2, offset := 1, embedded := false, tag := "", pkgPath := "", byteOffset := 8 }, { name := "Close", type := 2, offset := 2, embedded := false, tag := "", pkgPath := "", byteOffset := 16 }, { name := "Stay", type := 2, offset := 3, embedded := false, tag := "", pkgPath := "", byteOffset := 24 }] := by kernel_rfl
  rw [run_neq_struct, run_equalIn_agg w 9999 _ _ _ (by rw [hf]; exact Try.underlying66) (by kernel_rfl), hf]
  have p0 : ∀ x0 x1 x2 x3 : Value, ∀ w : World, (part 2 #[x0, x1, x2, x3] 0).run Try.prog w = .ok x0 w := fun _ _ _ _ _ => by kernel_rfl
  have p1 : ∀ x0 x1 x2 x3 : Value, ∀ w : World, (part 2 #[x0, x1, x2, x3] 1).run Try.prog w = .ok x1 w := fun _ _ _ _ _ => by kernel_rfl
  have p2 : ∀ x0 x1 x2 x3 : Value, ∀ w : World, (part 2 #[x0, x1, x2, x3] 2).run Try.prog w = .ok x2 w := fun _ _ _ _ _ => by kernel_rfl
  have p3 : ∀ x0 x1 x2 x3 : Value, ∀ w : World, (part 2 #[x0, x1, x2, x3] 3).run Try.prog w = .ok x3 w := fun _ _ _ _ _ => by kernel_rfl
  have q : ∀ (x y : Int) (w : World), (Op.equalIn 9999 2 (.int .i64 x) (.int .i64 y)).run Try.prog w = .ok (x == y) w := fun x y w => run_equalIn_int w 9998 _ _ _ x y Try.underlying2
  simp only [Op.eqFields, Sem.run_bind, p0, p1, p2, p3, q, Result.andThen_ok, Sem.run_ite, Sem.run_pure]
  cases (a == a') <;> cases (b == b') <;> cases (c == c') <;> cases (d == d') <;> simp
set_option maxHeartbeats 1600000 in
theorem eqCusts_any (A B : Option Addr) (CA CB : Nat) (xs ys : List CustD) (w : World) (hx : xs.length ≤ 9223372036854775807) (hy : ys.length ≤ 9223372036854775807) (RA : Rd w A (xs.flatMap custV)) (RB : Rd w B (ys.flatMap custV)) :
    Calls Try.prog 46 #[.slice A xs.length CA, .slice B ys.length CB] w (EqEnd (xs = ys) w) := by
  replace RA := Lib.hid RA
  replace RB := Lib.hid RB
  by_cases hl : xs.length = ys.length
  · have hne : ((xs.length : Int) != (ys.length : Int)) = false := by rw [bne_eq_false_iff_eq]; omega
    go_enter Try.func46, Try.ntmps46
    go_wp2_with fail
    go_loopw [13] (fun i wr => ∃ k nq : Nat, k ≤ xs.length ∧ i = .int .i64 k ∧ Hid (xs.take k = ys.take k) ∧ wr = w.drewN nq) (fun i _ => xs.length - (intOf i).toNat)
    case atStart => exact ⟨0, 0, Nat.zero_le _, rfl, Lib.hid (by simp), rfl⟩
    case round =>
      obtain ⟨k, nq, hk, rfl, hs, rfl⟩ := hrel
      by_cases hkl : k < xs.length
      · have hkl2 : k < ys.length := by omega
        obtain ⟨b, off, rfl, hc, hc2, hc3, hc4⟩ := RA.out.cust hkl
        obtain ⟨b', off', rfl, hc', hc2', hc3', hc4'⟩ := RB.out.cust hkl2
        have e1 := Lib.hid (take_snocG xs hkl)
        have e2 := Lib.hid (take_snocG ys hkl2)
        have hall := Lib.hid (show xs[k] ≠ ys[k] → ¬ xs = ys from fun hn he => hn (by subst he; rfl))
        have k0 : (0 : Int) ≤ (k : Int) := by omega
        have k1 : (k : Int) < (xs.length : Int) := by omega
        have k2 : (k : Int) < (ys.length : Int) := by omega
        generalize xs[k] = x at *
        generalize ys[k] = y at *
        by_cases hxy : x = y
        · subst hxy
          go_wp2_with fail
          go_quiet (fail)
          go_wp2_with fail
          go_roundw
          case rel => exact ⟨k + 1, _, by omega, by go_num, Lib.hid (by rw [e1.out, e2.out, hs.out]), rfl⟩
          case measure => simp [intOf]; omega
        · obtain ⟨x1, x2, x3, x4⟩ := x
          obtain ⟨y1, y2, y3, y4⟩ := y
          have hb : (x1 == y1 && x2 == y2 && x3 == y3 && x4 == y4) = false := by rw [Bool.eq_false_iff]; intro h; simp only [Bool.and_eq_true, beq_iff_eq] at h; obtain ⟨⟨⟨h1, h2⟩, h3⟩, h4⟩ := h; exact hxy (by rw [h1, h2, h3, h4])
          have hq := fun w => neq_cust x1 x2 x3 x4 y1 y2 y3 y4 w
          rw [hb] at hq
          have hd := Lib.hid (hall.out hxy)
          clear hall hxy
          go_wp2_with fail
          go_quiet (fail)
          go_wp2_with fail
          go_ret
          exact ⟨ret_bool (decide_eq_false hd.out).symm, _, World.drewN_drewN _ _ _⟩
      · obtain rfl : k = xs.length := by omega
        have hd := hs.out
        rw [List.take_length, hl, List.take_length] at hd
        replace hd := Lib.hid hd
        clear hs
        go_wp2_with fail
        go_ret
        exact ⟨ret_bool (decide_eq_true hd.out).symm, _, rfl⟩
  · have hne : ((xs.length : Int) != (ys.length : Int)) = true := by rw [bne_iff_ne]; omega
    have hd := Lib.hid (show ¬ xs = ys from fun e => hl (by rw [e]))
    go_enter Try.func46, Try.ntmps46
    go_wp2_with fail
    go_ret
    exact ⟨ret_bool (decide_eq_false hd.out).symm, 0, rfl⟩
end Go.Proofs.Ytljcpgeggbbmfaa
