/-
  The walks of Tells$1 and Tells: an instance's lines, as the document has them (layer 13).
-/
import Derived.Test.YtljcpgeggbbmfaaSH
import Derived.Test.YtljcpgeggbbmfaaTake
import Derived.Deep.DeepCutAuto
namespace Go.Proofs.Ytljcpgeggbbmfaa
set_option linter.unusedVariables false
set_option linter.unusedSimpArgs false
open Go.RowKit
set_option maxHeartbeats 16000000 in
set_option maxRecDepth 100000 in
theorem tells1_any (s : ByteArray) (A : Option Addr) (C : Nat) (ns : List Int) (w : World) (hs : s.size ≤ 1000000) (hl : ns.length ≤ 1000000) (HE : Elems .i64 w A ns) :
    Calls Try.prog 52 #[.string s, .slice A ns.length C] w fun e w' => e = .returned (.string (lineTx s ns)) ∧ w' = w := by
  have hsz := Lib.hid (fun k => lineF_len (ns.take k) (L s))
  replace HE := Lib.hid HE
  go_enter Try.func52, Try.ntmps52
  go_wp2_with fail
  go_loop [0, 9] (fun v i => ∃ (k : Nat) (T : ByteArray), k ≤ ns.length ∧ i = .int .i64 k ∧ v = .string T ∧ L T = lineF (L s) (ns.take k)) (fun _ i => ns.length - (intOf i).toNat)
  case atStart => exact ⟨0, s, Nat.zero_le _, rfl, rfl, rfl⟩
  case round =>
    obtain ⟨k, T, hk, rfl, rfl, hT⟩ := hrel
    have k0 : (0 : Int) ≤ (k : Int) := by omega
    have hlen := hsz.out k
    have htk : (ns.take k).length ≤ ns.length := by rw [List.length_take]; omega
    have hLs : (L s).length = s.size := rfl
    have hTs : T.size = (lineF (L s) (ns.take k)).length := by rw [← hT]; rfl
    have T9 : T.size ≤ 30000000 := by omega
    clear hlen htk hTs
    by_cases hkl : k < ns.length
    · obtain ⟨ad, rfl, hc, hw⟩ := HE.out k hkl
      have k1 : (k : Int) < (ns.length : Int) := by omega
      have hI := Lib.hid (I64_of hw)
      have HS := lineF_snoc (L s) ns hkl
      have hgd : ns.getD k 0 = ns[k] := by rw [List.getD_eq_getElem?_getD, List.getElem?_eq_getElem hkl]; rfl
      rw [← hgd, ← hT] at HS
      replace HS := Lib.hid HS
      clear hgd hT
      generalize ns.getD k 0 = n at *
      have hNum := Lib.hid (num12 n hI.out)
      have hz := nT_size n
      have hLn := Lib.hid (L_nT n)
      generalize nT n = N at *
      have y1 : ¬ 9223372036854775807 < T.size + 1 := by omega
      have y2 : ¬ 9223372036854775807 < T.size + 1 + N.size := by omega
      have y3 : ¬ 9223372036854775807 < T.size + N.size := by omega
      by_cases hTe : L T = []
      · have hT0 : Hid (L (T ++ N) = stepL (L T) n) := Lib.hid (by rw [L_cat, hLn.out]; unfold stepL; rw [if_pos hTe, hTe])
        have hse2 : T.toList.isEmpty = true := by rw [ByteArray.toList_eq]; exact List.isEmpty_iff.2 hTe
        clear hTe
        go_wp2_with fail
        refine (hNum.out _).mono ?_
        rintro e w9 ⟨rfl, rfl⟩
        go_wp2_with fail
        go_round
        case rel => exact ⟨k + 1, _, by omega, by go_num, rfl, by rw [HS.out]; exact hT0.out⟩
        case measure => simp [intOf]; omega
      · have hT0 : Hid (L ((T ++ ⟨#[32]⟩) ++ N) = stepL (L T) n) := Lib.hid (by rw [L_cat, L_cat, hLn.out]; unfold stepL; rw [if_neg hTe])
        have hse2 : T.toList.isEmpty = false := by rw [ByteArray.toList_eq, Bool.eq_false_iff]; exact fun h => hTe (List.isEmpty_iff.1 h)
        clear hTe
        go_wp2_with fail
        refine (hNum.out _).mono ?_
        rintro e w9 ⟨rfl, rfl⟩
        go_wp2_with fail
        go_round
        case rel => exact ⟨k + 1, _, by omega, by go_num, rfl, by rw [HS.out]; exact hT0.out⟩
        case measure => simp [intOf]; omega
    · obtain rfl : k = ns.length := by omega
      rw [List.take_length] at hT
      have hEq : Hid (lineTx s ns = T ++ ⟨#[10]⟩) := Lib.hid (L_eq (by rw [L_cat, hT]; rfl))
      have y1 : ¬ 9223372036854775807 < T.size + 1 := by omega
      clear hT
      go_wp2_with fail
      go_ret
      exact ⟨by rw [hEq.out]; rfl, rfl⟩
theorem tells_layG (s : ByteArray) (ns : List Int) (w : World) (g : Nat) (hg : g = w.heap.size) (hs : s.size ≤ 1000000) (hl : ns.length ≤ 1000000) (hn : ∀ n ∈ ns, I64 n) :
    Calls Try.prog 52 #[.string s, .slice (some ⟨g, 0, none⟩) ns.length ns.length] (w.alloc (.cells (i64s ns).toArray 2)) fun e w' => e = .returned (.string (lineTx s ns)) ∧ w' = w.alloc (.cells (i64s ns).toArray 2) := by
  subst hg
  exact tells1_any s _ _ ns _ hs hl (elems_new w _ ns hn)
set_option maxHeartbeats 40000000 in
set_option maxRecDepth 100000 in
theorem tells_any (X : InstD) (h : HdD) (K : ReadOk X) (w : World) (H : InstIs w X h) :
    Calls Try.prog 25 #[.agg (instC X h)] w fun e w' => e = .returned (.string (showTx X)) ∧ Below w.heap.size w w' := by
  obtain ⟨sa, sc, ca, cc, oa, oc, ta, tc⟩ := h
  have BX := Boxed.new w X ⟨sa, sc, ca, cc, oa, oc, ta, tc⟩ 29
  have BW := (Below.refl w.heap.size w).alloc (Nat.le_refl _) (.cells (instC X ⟨sa, sc, ca, cc, oa, oc, ta, tc⟩) 29)
  obtain ⟨H1, H2, H3, H4, hls, hlc, hlo, hln⟩ := H
  have k12 := K.s2
  have k48 := K.c2
  have n61 : nodesN X ≤ 61 := by unfold nodesN; omega
  have lo61 : X.cost.length ≤ 61 := by rw [K.o]; exact n61
  have lt61 : X.time.length ≤ 61 := by rw [K.t]; exact n61
  have ro61 := Lib.hid (fun r (hr : r ∈ X.cost) => show r.length ≤ 61 by rw [K.ro r hr]; exact n61)
  have rt61 := Lib.hid (fun r (hr : r ∈ X.time) => show r.length ≤ 61 by rw [K.rt r hr]; exact n61)
  have ron := Lib.hid (fun r (hr : r ∈ X.cost) n (hn : n ∈ r) => show I64 n by
    obtain ⟨i, hi⟩ := List.getElem?_of_mem hr
    obtain ⟨k, hk⟩ := List.getElem?_of_mem hn
    obtain ⟨a, b, _⟩ := K.co i r hi k n hk
    exact i64_of a b)
  have rtn := Lib.hid (fun r (hr : r ∈ X.time) n (hn : n ∈ r) => show I64 n by
    obtain ⟨i, hi⟩ := List.getElem?_of_mem hr
    obtain ⟨k, hk⟩ := List.getElem?_of_mem hn
    obtain ⟨a, b, _⟩ := K.ti i r hi k n hk
    exact i64_of a b)
  have hsat := Lib.hid K.sat
  have hcust := Lib.hid K.cust
  have i1 := Lib.hid (show I64 X.fin from i64_of K.fin.1 K.fin.2)
  have i2 := Lib.hid (show I64 X.tm from i64_of (by have := K.tm; omega) (by have := K.tm; omega))
  have i3 := Lib.hid (show I64 X.tr from i64_of K.tr.1 K.tr.2)
  have i4 := Lib.hid (show I64 X.bm from i64_of (by have := K.bm; omega) (by have := K.bm; omega))
  have i5 := Lib.hid (show I64 X.br from i64_of K.br.1 K.br.2)
  have i6 := Lib.hid (show I64 (X.sats.length : Int) from i64_of (by omega) (by omega))
  have i7 := Lib.hid (show I64 (X.custs.length : Int) from i64_of (by omega) (by omega))
  have l4 : (p4 X).length ≤ 400 := by
    have a := lineL_len (L sWharfage) [X.fin]
    have b := lineL_len (L sTrucks) [X.tm, X.tr]
    have c := lineL_len (L sBikes) [X.bm, X.br]
    have d := lineL_len (L sSats) [(X.sats.length : Int)]
    have e1 : (L sWharfage).length = 8 := rfl
    have e2 : (L sTrucks).length = 6 := rfl
    have e3 : (L sBikes).length = 5 := rfl
    have e4 : (L sSats).length = 10 := rfl
    unfold p4
    simp only [List.length_append, List.length_cons, List.length_nil] at *
    omega
  have hfs := Lib.hid (fun k => flatL_len satL 43 (X.sats.take k) (fun x _ => lineL_len [] [x.room, x.hold]))
  have hfc := Lib.hid (fun k => flatL_len custL 85 (X.custs.take k) (fun x _ => lineL_len [] [x.load, x.opn, x.close, x.stay]))
  have l6b : (lineL (L sCusts) [(X.custs.length : Int)]).length ≤ 100 := by
    have d := lineL_len (L sCusts) [(X.custs.length : Int)]
    have e4 : (L sCusts).length = 9 := rfl
    simp only [List.length_cons, List.length_nil] at *
    omega
  have l8b : (rowsL (L sCost) X.cost).length ≤ 90000 := by
    have a := lineL_len (L sCost) []
    have e4 : (L sCost).length = 4 := rfl
    have b := flatL_len (lineL []) 1283 X.cost (fun r hr => by have := lineL_len [] r; have := ro61.out r hr; simp at *; omega)
    unfold rowsL
    simp only [List.length_append, List.length_cons, List.length_nil] at *
    have : 1283 * X.cost.length ≤ 1283 * 61 := Nat.mul_le_mul_left _ lo61
    omega
  have l9b : (rowsL (L sTime) X.time).length ≤ 90000 := by
    have a := lineL_len (L sTime) []
    have e4 : (L sTime).length = 4 := rfl
    have b := flatL_len (lineL []) 1283 X.time (fun r hr => by have := lineL_len [] r; have := rt61.out r hr; simp at *; omega)
    unfold rowsL
    simp only [List.length_append, List.length_cons, List.length_nil] at *
    have : 1283 * X.time.length ≤ 1283 * 61 := Nat.mul_le_mul_left _ lt61
    omega
  have e5 : Hid (p5 X = p4 X ++ X.sats.flatMap satL) := Lib.hid rfl
  have e6 : Hid (p6 X = p5 X ++ lineL (L sCusts) [(X.custs.length : Int)]) := Lib.hid rfl
  have e7 : Hid (p7 X = p6 X ++ X.custs.flatMap custL) := Lib.hid rfl
  have e8 : Hid (p8 X = p7 X ++ rowsL (L sCost) X.cost) := Lib.hid rfl
  have e9 : Hid (p9 X = p8 X ++ rowsL (L sTime) X.time) := Lib.hid rfl
  have eE : Hid (showI X = p9 X ++ lineL (L sEnd) []) := Lib.hid rfl
  have e4 : Hid (p4 X = ((lineL (L sWharfage) [X.fin] ++ lineL (L sTrucks) [X.tm, X.tr]) ++ lineL (L sBikes) [X.bm, X.br]) ++ lineL (L sSats) [(X.sats.length : Int)]) := Lib.hid rfl
  clear K
  dsimp only [instC] at H1 H2 H3 H4 BX BW ⊢
  replace H1 := Lib.hid (H1.below BW)
  replace H2 := Lib.hid (H2.below BW)
  replace H3 := Lib.hid (H3.below BW)
  replace H4 := Lib.hid (H4.below BW)
  replace BW := Lib.hid (On.mk BW BW.size)
  have hT0 := Lib.hid (fun (w : World) (A : Option Addr) (h : Elems .i64 w A [X.fin]) => tells1_any sWharfage A 1 [X.fin] w (by decide) (by simp) h)
  have z0 := lineTx_size sWharfage [X.fin]
  have q0 : sWharfage.size = 8 := rfl
  have hL0 := Lib.hid (L_lineTx sWharfage [X.fin])
  have hT1 := Lib.hid (fun (w : World) (A : Option Addr) (h : Elems .i64 w A [X.tm, X.tr]) => tells1_any sTrucks A 2 [X.tm, X.tr] w (by decide) (by simp) h)
  have z1 := lineTx_size sTrucks [X.tm, X.tr]
  have q1 : sTrucks.size = 6 := rfl
  have hL1 := Lib.hid (L_lineTx sTrucks [X.tm, X.tr])
  have hT2 := Lib.hid (fun (w : World) (A : Option Addr) (h : Elems .i64 w A [X.bm, X.br]) => tells1_any sBikes A 2 [X.bm, X.br] w (by decide) (by simp) h)
  have z2 := lineTx_size sBikes [X.bm, X.br]
  have q2 : sBikes.size = 5 := rfl
  have hL2 := Lib.hid (L_lineTx sBikes [X.bm, X.br])
  have hT3 := Lib.hid (fun (w : World) (A : Option Addr) (h : Elems .i64 w A [(X.sats.length : Int)]) => tells1_any sSats A 1 [(X.sats.length : Int)] w (by decide) (by simp) h)
  have z3 := lineTx_size sSats [(X.sats.length : Int)]
  have q3 : sSats.size = 10 := rfl
  have hL3 := Lib.hid (L_lineTx sSats [(X.sats.length : Int)])
  generalize lineTx sWharfage [X.fin] = N0 at *
  generalize lineTx sTrucks [X.tm, X.tr] = N1 at *
  generalize lineTx sBikes [X.bm, X.br] = N2 at *
  generalize lineTx sSats [(X.sats.length : Int)] = N3 at *
  simp only [List.length_cons, List.length_nil] at z0 z1 z2 z3
  have y1 : ¬ 9223372036854775807 < N0.size + N1.size := by omega
  have y2 : ¬ 9223372036854775807 < N0.size + N1.size + N2.size := by omega
  have y3 : ¬ 9223372036854775807 < N0.size + N1.size + N2.size + N3.size := by omega
  clear q0 q1 q2 q3
  go_enter Try.func25, Try.ntmps25
  go_upto_region 2 with fail
  generalize (w.alloc (.cells #[.int .i64 X.fin, .int .i64 X.tm, .int .i64 X.tr, .int .i64 X.bm, .int .i64 X.br, .slice sa X.sats.length sc, .slice ca X.custs.length cc, .slice oa X.cost.length oc, .slice ta X.time.length tc] 29)) = W at *
  generalize hg0 : w.heap.size = g0 at *
  replace hg0 := Lib.hid hg0
  have hbx := Lib.hid (fun w' (hb : Below W.heap.size W w') => BX.below hb)
  have hH1 := Lib.hid (fun w' (hb : Below W.heap.size W w') => H1.out.below hb)
  have hH2 := Lib.hid (fun w' (hb : Below W.heap.size W w') => H2.out.below hb)
  have hH3 := Lib.hid (fun w' (hb : Below W.heap.size W w') => H3.out.below hb)
  have hH4 := Lib.hid (fun w' (hb : Below W.heap.size W w') => H4.out.below hb)
  clear BX H1 H2 H3 H4
  have KD : ∀ wz : World, Below W.heap.size W wz → wz.cell? ⟨g0, 0, none⟩ = some (Value.int .i64 X.fin) ∧ wz.cell? ⟨g0, 1, none⟩ = some (.int .i64 X.tm) ∧ wz.cell? ⟨g0, 2, none⟩ = some (.int .i64 X.tr) ∧ wz.cell? ⟨g0, 3, none⟩ = some (.int .i64 X.bm) ∧ wz.cell? ⟨g0, 4, none⟩ = some (.int .i64 X.br) ∧ wz.cell? ⟨g0, 5, none⟩ = some (.slice sa X.sats.length sc) := fun wz hb => ⟨(hbx.out wz hb).2 0 _ rfl, (hbx.out wz hb).2 1 _ rfl, (hbx.out wz hb).2 2 _ rfl, (hbx.out wz hb).2 3 _ rfl, (hbx.out wz hb).2 4 _ rfl, (hbx.out wz hb).2 5 _ rfl⟩
  replace KD := Lib.hid KD
  go_cut [4] (fun s4 wx => ∃ T : ByteArray, s4 = .string T ∧ L T = p4 X ∧ Below W.heap.size W wx)
  case first =>
    refine wp_region_N (fun j => decide (j < 33)) (fun wz => (wz.cell? ⟨g0, 0, none⟩ = some (Value.int .i64 X.fin) ∧ wz.cell? ⟨g0, 1, none⟩ = some (.int .i64 X.tm) ∧ wz.cell? ⟨g0, 2, none⟩ = some (.int .i64 X.tr) ∧ wz.cell? ⟨g0, 3, none⟩ = some (.int .i64 X.bm) ∧ wz.cell? ⟨g0, 4, none⟩ = some (.int .i64 X.br) ∧ wz.cell? ⟨g0, 5, none⟩ = some (.slice sa X.sats.length sc)) ∧ Below W.heap.size W wz) (by kernel_rfl) (by exact ⟨KD.out _ (Below.refl _ _).drew, (Below.refl _ _).drew⟩) (fun hShut hHeld => ?_)
    have HB := Lib.hid ((Below.refl W.heap.size W).drew)
    generalize W.drew = V at *
    refine wpAnyN_take_0 (v := ?v1n) ?_ ?_ ?_ ?_ ?_ ?hy1n ?_ ?_ ?_
    case hy1n =>
      refine Or.inl ⟨by rfl, ?_⟩
      intro w hSw
      try dsimp only at hSw
      go_simp
      try with_reducible rfl
    · kernel_rfl
    · kernel_rfl
    · kernel_rfl
    · kernel_rfl
    · exact fun _ _ _ h => h
    · exact hHeld
    · exact hShut
    clear hShut
    intro hShut
    try simp only [Act.put, List.setIfInBounds_toArray, List.set_cons_zero, List.set_cons_succ]
    refine wpAnyN_take_1 (v := ?v2n) ?_ ?_ ?_ ?_ ?_ ?hy2n ?_ ?_ ?_
    case hy2n =>
      refine Or.inl ⟨by rfl, ?_⟩
      intro w hSw
      try dsimp only at hSw
      go_simp
      try with_reducible rfl
    · kernel_rfl
    · kernel_rfl
    · kernel_rfl
    · kernel_rfl
    · exact fun _ _ _ h => h
    · exact hHeld
    · exact hShut
    clear hShut
    intro hShut
    try simp only [Act.put, List.setIfInBounds_toArray, List.set_cons_zero, List.set_cons_succ]
    refine wpAnyN_take_2 (v := ?v3n) ?_ ?_ ?_ ?_ ?_ ?hy3n ?_ ?_ ?_
    case hy3n =>
      refine Or.inl ⟨by rfl, ?_⟩
      intro w hSw
      try dsimp only at hSw
      go_simp
      try with_reducible rfl
    · kernel_rfl
    · kernel_rfl
    · kernel_rfl
    · kernel_rfl
    · exact fun _ _ _ h => h
    · exact hHeld
    · exact hShut
    clear hShut
    intro hShut
    try simp only [Act.put, List.setIfInBounds_toArray, List.set_cons_zero, List.set_cons_succ]
    refine wpAnyN_take_5 (v := ?v4n) ?_ ?_ ?_ ?_ ?_ ?hy4n ?_ ?_ ?_
    case hy4n =>
      refine Or.inl ⟨by rfl, ?_⟩
      intro w hSw
      try dsimp only at hSw
      go_simp
      try with_reducible rfl
    · kernel_rfl
    · kernel_rfl
    · kernel_rfl
    · kernel_rfl
    · exact fun _ _ _ h => h
    · exact hHeld
    · exact hShut
    clear hShut
    intro hShut
    try simp only [Act.put, List.setIfInBounds_toArray, List.set_cons_zero, List.set_cons_succ]
    refine wpAnyN_take_6 (v := ?v5n) ?_ ?_ ?_ ?_ ?_ ?hy5n ?_ ?_ ?_
    case hy5n =>
      refine Or.inl ⟨by rfl, ?_⟩
      intro w hSw
      try dsimp only at hSw
      go_simp
      try with_reducible rfl
    · kernel_rfl
    · kernel_rfl
    · kernel_rfl
    · kernel_rfl
    · exact fun _ _ _ h => h
    · exact hHeld
    · exact hShut
    clear hShut
    intro hShut
    try simp only [Act.put, List.setIfInBounds_toArray, List.set_cons_zero, List.set_cons_succ]
    refine wpAnyN_take_7 (v := ?v6n) ?_ ?_ ?_ ?_ ?_ ?hy6n ?_ ?_ ?_
    case hy6n =>
      refine Or.inl ⟨by rfl, ?_⟩
      intro w hSw
      try dsimp only at hSw
      go_simp
      try with_reducible rfl
    · kernel_rfl
    · kernel_rfl
    · kernel_rfl
    · kernel_rfl
    · exact fun _ _ _ h => h
    · exact hHeld
    · exact hShut
    clear hShut
    intro hShut
    try simp only [Act.put, List.setIfInBounds_toArray, List.set_cons_zero, List.set_cons_succ]
    refine wpAnyN_take_8 (v := ?v7n) ?_ ?_ ?_ ?_ ?_ ?hy7n ?_ ?_ ?_
    case hy7n =>
      refine Or.inl ⟨by rfl, ?_⟩
      intro w hSw
      try dsimp only at hSw
      go_simp
      try with_reducible rfl
    · kernel_rfl
    · kernel_rfl
    · kernel_rfl
    · kernel_rfl
    · exact fun _ _ _ h => h
    · exact hHeld
    · exact hShut
    clear hShut
    intro hShut
    try simp only [Act.put, List.setIfInBounds_toArray, List.set_cons_zero, List.set_cons_succ]
    refine wpAnyN_take_9 (v := ?v8n) ?_ ?_ ?_ ?_ ?_ ?hy8n ?_ ?_ ?_
    case hy8n =>
      refine Or.inl ⟨by rfl, ?_⟩
      intro w hSw
      try dsimp only at hSw
      go_simp
      try with_reducible rfl
    · kernel_rfl
    · kernel_rfl
    · kernel_rfl
    · kernel_rfl
    · exact fun _ _ _ h => h
    · exact hHeld
    · exact hShut
    clear hShut
    intro hShut
    try simp only [Act.put, List.setIfInBounds_toArray, List.set_cons_zero, List.set_cons_succ]
    refine wpAnyN_take_10 (v := ?v9n) ?_ ?_ ?_ ?_ ?_ ?hy9n ?_ ?_ ?_
    case hy9n =>
      refine Or.inl ⟨by rfl, ?_⟩
      intro w hSw
      try dsimp only at hSw
      go_simp
      try with_reducible rfl
    · kernel_rfl
    · kernel_rfl
    · kernel_rfl
    · kernel_rfl
    · exact fun _ _ _ h => h
    · exact hHeld
    · exact hShut
    clear hShut
    intro hShut
    try simp only [Act.put, List.setIfInBounds_toArray, List.set_cons_zero, List.set_cons_succ]
    refine wpAnyN_take_11 (v := ?v10n) ?_ ?_ ?_ ?_ ?_ ?hy10n ?_ ?_ ?_
    case hy10n =>
      refine Or.inl ⟨by rfl, ?_⟩
      intro w hSw
      try dsimp only at hSw
      go_simp
      try with_reducible rfl
    · kernel_rfl
    · kernel_rfl
    · kernel_rfl
    · kernel_rfl
    · exact fun _ _ _ h => h
    · exact hHeld
    · exact hShut
    clear hShut
    intro hShut
    try simp only [Act.put, List.setIfInBounds_toArray, List.set_cons_zero, List.set_cons_succ]
    refine wpAnyN_take_15 (v := ?v11n) ?_ ?_ ?_ ?_ ?_ ?hy11n ?_ ?_ ?_
    case hy11n =>
      refine Or.inl ⟨by rfl, ?_⟩
      intro w hSw
      try dsimp only at hSw
      go_simp
      try with_reducible rfl
    · kernel_rfl
    · kernel_rfl
    · kernel_rfl
    · kernel_rfl
    · exact fun _ _ _ h => h
    · exact hHeld
    · exact hShut
    clear hShut
    intro hShut
    try simp only [Act.put, List.setIfInBounds_toArray, List.set_cons_zero, List.set_cons_succ]
    refine wpAnyN_take_16 (v := ?v12n) ?_ ?_ ?_ ?_ ?_ ?hy12n ?_ ?_ ?_
    case hy12n =>
      refine Or.inl ⟨by rfl, ?_⟩
      intro w hSw
      try dsimp only at hSw
      go_simp
      try with_reducible rfl
    · kernel_rfl
    · kernel_rfl
    · kernel_rfl
    · kernel_rfl
    · exact fun _ _ _ h => h
    · exact hHeld
    · exact hShut
    clear hShut
    intro hShut
    try simp only [Act.put, List.setIfInBounds_toArray, List.set_cons_zero, List.set_cons_succ]
    refine wpAnyN_take_17 (v := ?v13n) ?_ ?_ ?_ ?_ ?_ ?hy13n ?_ ?_ ?_
    case hy13n =>
      refine Or.inl ⟨by rfl, ?_⟩
      intro w hSw
      try dsimp only at hSw
      go_simp
      try with_reducible rfl
    · kernel_rfl
    · kernel_rfl
    · kernel_rfl
    · kernel_rfl
    · exact fun _ _ _ h => h
    · exact hHeld
    · exact hShut
    clear hShut
    intro hShut
    try simp only [Act.put, List.setIfInBounds_toArray, List.set_cons_zero, List.set_cons_succ]
    refine wpAnyN_take_18 (v := ?v14n) ?_ ?_ ?_ ?_ ?_ ?hy14n ?_ ?_ ?_
    case hy14n =>
      refine Or.inl ⟨by rfl, ?_⟩
      intro w hSw
      try dsimp only at hSw
      go_simp
      try with_reducible rfl
    · kernel_rfl
    · kernel_rfl
    · kernel_rfl
    · kernel_rfl
    · exact fun _ _ _ h => h
    · exact hHeld
    · exact hShut
    clear hShut
    intro hShut
    try simp only [Act.put, List.setIfInBounds_toArray, List.set_cons_zero, List.set_cons_succ]
    refine wpAnyN_take_19 (v := ?v15n) ?_ ?_ ?_ ?_ ?_ ?hy15n ?_ ?_ ?_
    case hy15n =>
      refine Or.inl ⟨by rfl, ?_⟩
      intro w hSw
      try dsimp only at hSw
      go_simp
      try with_reducible rfl
    · kernel_rfl
    · kernel_rfl
    · kernel_rfl
    · kernel_rfl
    · exact fun _ _ _ h => h
    · exact hHeld
    · exact hShut
    clear hShut
    intro hShut
    try simp only [Act.put, List.setIfInBounds_toArray, List.set_cons_zero, List.set_cons_succ]
    refine wpAnyN_take_20 (v := ?v16n) ?_ ?_ ?_ ?_ ?_ ?hy16n ?_ ?_ ?_
    case hy16n =>
      refine Or.inl ⟨by rfl, ?_⟩
      intro w hSw
      try dsimp only at hSw
      go_simp
      try with_reducible rfl
    · kernel_rfl
    · kernel_rfl
    · kernel_rfl
    · kernel_rfl
    · exact fun _ _ _ h => h
    · exact hHeld
    · exact hShut
    clear hShut
    intro hShut
    try simp only [Act.put, List.setIfInBounds_toArray, List.set_cons_zero, List.set_cons_succ]
    refine wpAnyN_take_21 (v := ?v17n) ?_ ?_ ?_ ?_ ?_ ?hy17n ?_ ?_ ?_
    case hy17n =>
      refine Or.inl ⟨by rfl, ?_⟩
      intro w hSw
      try dsimp only at hSw
      go_simp
      try with_reducible rfl
    · kernel_rfl
    · kernel_rfl
    · kernel_rfl
    · kernel_rfl
    · exact fun _ _ _ h => h
    · exact hHeld
    · exact hShut
    clear hShut
    intro hShut
    try simp only [Act.put, List.setIfInBounds_toArray, List.set_cons_zero, List.set_cons_succ]
    refine wpAnyN_take_25 (v := ?v18n) ?_ ?_ ?_ ?_ ?_ ?hy18n ?_ ?_ ?_
    case hy18n =>
      refine Or.inl ⟨by rfl, ?_⟩
      intro w hSw
      try dsimp only at hSw
      go_simp
      try with_reducible rfl
    · kernel_rfl
    · kernel_rfl
    · kernel_rfl
    · kernel_rfl
    · exact fun _ _ _ h => h
    · exact hHeld
    · exact hShut
    clear hShut
    intro hShut
    try simp only [Act.put, List.setIfInBounds_toArray, List.set_cons_zero, List.set_cons_succ]
    refine wpAnyN_take_26 (v := ?v19n) ?_ ?_ ?_ ?_ ?_ ?hy19n ?_ ?_ ?_
    case hy19n =>
      refine Or.inl ⟨by rfl, ?_⟩
      intro w hSw
      try dsimp only at hSw
      go_simp
      try with_reducible rfl
    · kernel_rfl
    · kernel_rfl
    · kernel_rfl
    · kernel_rfl
    · exact fun _ _ _ h => h
    · exact hHeld
    · exact hShut
    clear hShut
    intro hShut
    try simp only [Act.put, List.setIfInBounds_toArray, List.set_cons_zero, List.set_cons_succ]
    refine wpAnyN_take_27 (v := ?v20n) ?_ ?_ ?_ ?_ ?_ ?hy20n ?_ ?_ ?_
    case hy20n =>
      refine Or.inl ⟨by rfl, ?_⟩
      intro w hSw
      try dsimp only at hSw
      go_simp
      try with_reducible rfl
    · kernel_rfl
    · kernel_rfl
    · kernel_rfl
    · kernel_rfl
    · exact fun _ _ _ h => h
    · exact hHeld
    · exact hShut
    clear hShut
    intro hShut
    try simp only [Act.put, List.setIfInBounds_toArray, List.set_cons_zero, List.set_cons_succ]
    refine wpAnyN_take_28 (v := ?v21n) ?_ ?_ ?_ ?_ ?_ ?hy21n ?_ ?_ ?_
    case hy21n =>
      refine Or.inl ⟨by rfl, ?_⟩
      intro w hSw
      try dsimp only at hSw
      go_simp
      try with_reducible rfl
    · kernel_rfl
    · kernel_rfl
    · kernel_rfl
    · kernel_rfl
    · exact fun _ _ _ h => h
    · exact hHeld
    · exact hShut
    clear hShut
    intro hShut
    try simp only [Act.put, List.setIfInBounds_toArray, List.set_cons_zero, List.set_cons_succ]
    refine wpAnyN_strong (S' := fun wz => Below V.heap.size V wz) (fun wz h => ⟨KD.out wz (HB.out.trans (h.mono HB.out.size)), HB.out.trans (h.mono HB.out.size)⟩) _ _ _ _ ?_
    clear hHeld
    have hHeld := Below.refl V.heap.size V
    refine wpAnyN_of_3_12_22_29 (by kernel_rfl) (by exact hShut) (fun K hK => ?_) (fun K hK => ?_) (fun K hK => ?_) (fun K hK => ?_)
    · go_simp
      refine hK.out _ _ (fun _ => (by exact below_new V _)) (fun hH hS2 => ?_)
      clear hK K hHeld hShut
      have hShut := hS2
      clear hS2
      have hHeld := hH rfl
      clear hH
      try simp only [Act.put, List.setIfInBounds_toArray, List.set_cons_zero, List.set_cons_succ]
      have hE0 : Elems .i64 (V.alloc (.cells #[.int .i64 X.fin] 2)) (some ⟨V.heap.size, 0, none⟩) [X.fin] := elems_new V _ [X.fin] (by simp only [List.mem_cons, List.not_mem_nil, or_false, forall_eq_or_imp, forall_eq]; exact i1.out)
      replace hE0 := Lib.hid hE0
      replace HB := Lib.hid (HB.out.trans ((below_new V (.cells #[.int .i64 X.fin] 2)).mono HB.out.size))
      refine wpAnyN_strong (S' := fun wz => Below (V.alloc (.cells #[.int .i64 X.fin] 2)).heap.size (V.alloc (.cells #[.int .i64 X.fin] 2)) wz) (fun wz h => (below_new V (.cells #[.int .i64 X.fin] 2)).trans (h.mono (below_new V (.cells #[.int .i64 X.fin] 2)).size)) _ _ _ _ ?_
      clear hHeld
      have hHeld := Below.refl (V.alloc (.cells #[.int .i64 X.fin] 2)).heap.size (V.alloc (.cells #[.int .i64 X.fin] 2))
      generalize V.alloc (.cells #[.int .i64 X.fin] 2) = V1 at *
      generalize V.heap.size = gb0 at *
      refine wpAnyN_takeC_4 (v := .string N0) (by kernel_rfl) (by kernel_rfl) (by kernel_rfl) (by kernel_rfl) (fun _ _ _ h => h) ⟨by rfl, 52, #[.string ⟨#[119, 104, 97, 114, 102, 97, 103, 101]⟩, .slice (some ⟨gb0, 0, none⟩) 1 1], fun wz => by kernel_rfl, fun wz hz => hT0.out wz _ (hE0.out.below hz)⟩ hHeld hShut (fun hS2 => ?_)
      clear hShut
      have hShut := hS2
      clear hS2
      try simp only [Act.put, List.setIfInBounds_toArray, List.set_cons_zero, List.set_cons_succ]
      refine wpAnyN_of_12_22_29 (by kernel_rfl) (by exact hShut) (fun K hK => ?_) (fun K hK => ?_) (fun K hK => ?_)
      · go_simp
        refine hK.out _ _ (fun _ => (by exact below_new V1 _)) (fun hH hS2 => ?_)
        clear hK K hHeld hShut
        have hShut := hS2
        clear hS2
        have hHeld := hH rfl
        clear hH
        try simp only [Act.put, List.setIfInBounds_toArray, List.set_cons_zero, List.set_cons_succ]
        have hE1 : Elems .i64 (V1.alloc (.cells #[.int .i64 X.tm, .int .i64 X.tr] 2)) (some ⟨V1.heap.size, 0, none⟩) [X.tm, X.tr] := elems_new V1 _ [X.tm, X.tr] (by simp only [List.mem_cons, List.not_mem_nil, or_false, forall_eq_or_imp, forall_eq]; exact ⟨i2.out, i3.out⟩)
        replace hE1 := Lib.hid hE1
        replace hE0 := Lib.hid (hE0.out.below (below_new V1 (.cells #[.int .i64 X.tm, .int .i64 X.tr] 2)))
        replace HB := Lib.hid (HB.out.trans ((below_new V1 (.cells #[.int .i64 X.tm, .int .i64 X.tr] 2)).mono HB.out.size))
        refine wpAnyN_strong (S' := fun wz => Below (V1.alloc (.cells #[.int .i64 X.tm, .int .i64 X.tr] 2)).heap.size (V1.alloc (.cells #[.int .i64 X.tm, .int .i64 X.tr] 2)) wz) (fun wz h => (below_new V1 (.cells #[.int .i64 X.tm, .int .i64 X.tr] 2)).trans (h.mono (below_new V1 (.cells #[.int .i64 X.tm, .int .i64 X.tr] 2)).size)) _ _ _ _ ?_
        clear hHeld
        have hHeld := Below.refl (V1.alloc (.cells #[.int .i64 X.tm, .int .i64 X.tr] 2)).heap.size (V1.alloc (.cells #[.int .i64 X.tm, .int .i64 X.tr] 2))
        generalize V1.alloc (.cells #[.int .i64 X.tm, .int .i64 X.tr] 2) = V2 at *
        generalize V1.heap.size = gb1 at *
        refine wpAnyN_takeC_13 (v := .string N1) (by kernel_rfl) (by kernel_rfl) (by kernel_rfl) (by kernel_rfl) (fun _ _ _ h => h) ⟨by rfl, 52, #[.string ⟨#[116, 114, 117, 99, 107, 115]⟩, .slice (some ⟨gb1, 0, none⟩) 2 2], fun wz => by kernel_rfl, fun wz hz => hT1.out wz _ (hE1.out.below hz)⟩ hHeld hShut (fun hS2 => ?_)
        clear hShut
        have hShut := hS2
        clear hS2
        try simp only [Act.put, List.setIfInBounds_toArray, List.set_cons_zero, List.set_cons_succ]
        refine wpAnyN_take_14 (v := ?v22n) ?_ ?_ ?_ ?_ ?_ ?hy22n ?_ ?_ ?_
        case hy22n =>
          refine Or.inl ⟨by rfl, ?_⟩
          intro w hSw
          try dsimp only at hSw
          go_simp
          try with_reducible rfl
        · kernel_rfl
        · kernel_rfl
        · kernel_rfl
        · kernel_rfl
        · exact fun _ _ _ h => h
        · exact hHeld
        · exact hShut
        clear hShut
        intro hShut
        try simp only [Act.put, List.setIfInBounds_toArray, List.set_cons_zero, List.set_cons_succ]
        refine wpAnyN_of_22_29 (by kernel_rfl) (by exact hShut) (fun K hK => ?_) (fun K hK => ?_)
        · go_simp
          refine hK.out _ _ (fun _ => (by exact below_new V2 _)) (fun hH hS2 => ?_)
          clear hK K hHeld hShut
          have hShut := hS2
          clear hS2
          have hHeld := hH rfl
          clear hH
          try simp only [Act.put, List.setIfInBounds_toArray, List.set_cons_zero, List.set_cons_succ]
          have hE2 : Elems .i64 (V2.alloc (.cells #[.int .i64 X.bm, .int .i64 X.br] 2)) (some ⟨V2.heap.size, 0, none⟩) [X.bm, X.br] := elems_new V2 _ [X.bm, X.br] (by simp only [List.mem_cons, List.not_mem_nil, or_false, forall_eq_or_imp, forall_eq]; exact ⟨i4.out, i5.out⟩)
          replace hE2 := Lib.hid hE2
          replace hE0 := Lib.hid (hE0.out.below (below_new V2 (.cells #[.int .i64 X.bm, .int .i64 X.br] 2)))
          replace hE1 := Lib.hid (hE1.out.below (below_new V2 (.cells #[.int .i64 X.bm, .int .i64 X.br] 2)))
          replace HB := Lib.hid (HB.out.trans ((below_new V2 (.cells #[.int .i64 X.bm, .int .i64 X.br] 2)).mono HB.out.size))
          refine wpAnyN_strong (S' := fun wz => Below (V2.alloc (.cells #[.int .i64 X.bm, .int .i64 X.br] 2)).heap.size (V2.alloc (.cells #[.int .i64 X.bm, .int .i64 X.br] 2)) wz) (fun wz h => (below_new V2 (.cells #[.int .i64 X.bm, .int .i64 X.br] 2)).trans (h.mono (below_new V2 (.cells #[.int .i64 X.bm, .int .i64 X.br] 2)).size)) _ _ _ _ ?_
          clear hHeld
          have hHeld := Below.refl (V2.alloc (.cells #[.int .i64 X.bm, .int .i64 X.br] 2)).heap.size (V2.alloc (.cells #[.int .i64 X.bm, .int .i64 X.br] 2))
          generalize V2.alloc (.cells #[.int .i64 X.bm, .int .i64 X.br] 2) = V3 at *
          generalize V2.heap.size = gb2 at *
          refine wpAnyN_takeC_23 (v := .string N2) (by kernel_rfl) (by kernel_rfl) (by kernel_rfl) (by kernel_rfl) (fun _ _ _ h => h) ⟨by rfl, 52, #[.string ⟨#[98, 105, 107, 101, 115]⟩, .slice (some ⟨gb2, 0, none⟩) 2 2], fun wz => by kernel_rfl, fun wz hz => hT2.out wz _ (hE2.out.below hz)⟩ hHeld hShut (fun hS2 => ?_)
          clear hShut
          have hShut := hS2
          clear hS2
          try simp only [Act.put, List.setIfInBounds_toArray, List.set_cons_zero, List.set_cons_succ]
          refine wpAnyN_take_24 (v := ?v23n) ?_ ?_ ?_ ?_ ?_ ?hy23n ?_ ?_ ?_
          case hy23n =>
            refine Or.inl ⟨by rfl, ?_⟩
            intro w hSw
            try dsimp only at hSw
            go_simp
            try with_reducible rfl
          · kernel_rfl
          · kernel_rfl
          · kernel_rfl
          · kernel_rfl
          · exact fun _ _ _ h => h
          · exact hHeld
          · exact hShut
          clear hShut
          intro hShut
          try simp only [Act.put, List.setIfInBounds_toArray, List.set_cons_zero, List.set_cons_succ]
          refine wpAnyN_one_29 (by kernel_rfl) (by exact hShut) (fun K hK => ?_)
          go_simp
          refine hK.out _ _ (fun _ => (by exact below_new V3 _)) (fun hH hS2 => ?_)
          clear hK K hHeld hShut
          have hShut := hS2
          clear hS2
          have hHeld := hH rfl
          clear hH
          try simp only [Act.put, List.setIfInBounds_toArray, List.set_cons_zero, List.set_cons_succ]
          have hE3 : Elems .i64 (V3.alloc (.cells #[.int .i64 (X.sats.length : Int)] 2)) (some ⟨V3.heap.size, 0, none⟩) [(X.sats.length : Int)] := elems_new V3 _ [(X.sats.length : Int)] (by simp only [List.mem_cons, List.not_mem_nil, or_false, forall_eq_or_imp, forall_eq]; exact i6.out)
          replace hE3 := Lib.hid hE3
          replace hE0 := Lib.hid (hE0.out.below (below_new V3 (.cells #[.int .i64 (X.sats.length : Int)] 2)))
          replace hE1 := Lib.hid (hE1.out.below (below_new V3 (.cells #[.int .i64 (X.sats.length : Int)] 2)))
          replace hE2 := Lib.hid (hE2.out.below (below_new V3 (.cells #[.int .i64 (X.sats.length : Int)] 2)))
          replace HB := Lib.hid (HB.out.trans ((below_new V3 (.cells #[.int .i64 (X.sats.length : Int)] 2)).mono HB.out.size))
          refine wpAnyN_strong (S' := fun wz => Below (V3.alloc (.cells #[.int .i64 (X.sats.length : Int)] 2)).heap.size (V3.alloc (.cells #[.int .i64 (X.sats.length : Int)] 2)) wz) (fun wz h => (below_new V3 (.cells #[.int .i64 (X.sats.length : Int)] 2)).trans (h.mono (below_new V3 (.cells #[.int .i64 (X.sats.length : Int)] 2)).size)) _ _ _ _ ?_
          clear hHeld
          have hHeld := Below.refl (V3.alloc (.cells #[.int .i64 (X.sats.length : Int)] 2)).heap.size (V3.alloc (.cells #[.int .i64 (X.sats.length : Int)] 2))
          generalize V3.alloc (.cells #[.int .i64 (X.sats.length : Int)] 2) = V4 at *
          generalize V3.heap.size = gb3 at *
          refine wpAnyN_takeC_30 (v := .string N3) (by kernel_rfl) (by kernel_rfl) (by kernel_rfl) (by kernel_rfl) (fun _ _ _ h => h) ⟨by rfl, 52, #[.string ⟨#[115, 97, 116, 101, 108, 108, 105, 116, 101, 115]⟩, .slice (some ⟨gb3, 0, none⟩) 1 1], fun wz => by kernel_rfl, fun wz hz => hT3.out wz _ (hE3.out.below hz)⟩ hHeld hShut (fun hS2 => ?_)
          clear hShut
          have hShut := hS2
          clear hS2
          try simp only [Act.put, List.setIfInBounds_toArray, List.set_cons_zero, List.set_cons_succ]
          refine wpAnyN_take_31 (v := ?v24n) ?_ ?_ ?_ ?_ ?_ ?hy24n ?_ ?_ ?_
          case hy24n =>
            refine Or.inl ⟨by rfl, ?_⟩
            intro w hSw
            try dsimp only at hSw
            go_simp
            try with_reducible rfl
          · kernel_rfl
          · kernel_rfl
          · kernel_rfl
          · kernel_rfl
          · exact fun _ _ _ h => h
          · exact hHeld
          · exact hShut
          clear hShut
          intro hShut
          try simp only [Act.put, List.setIfInBounds_toArray, List.set_cons_zero, List.set_cons_succ]
          refine wpAnyN_take_32 (v := ?v25n) ?_ ?_ ?_ ?_ ?_ ?hy25n ?_ ?_ ?_
          case hy25n =>
            refine Or.inl ⟨by rfl, ?_⟩
            intro w hSw
            try dsimp only at hSw
            go_simp
            try with_reducible rfl
          · kernel_rfl
          · kernel_rfl
          · kernel_rfl
          · kernel_rfl
          · exact fun _ _ _ h => h
          · exact hHeld
          · exact hShut
          clear hShut
          intro hShut
          try simp only [Act.put, List.setIfInBounds_toArray, List.set_cons_zero, List.set_cons_succ]
          refine wpAnyN_done (by kernel_rfl) ?_ _
          go_wp2_with fail
          go_meet
          exact ⟨_, rfl, by rw [L_cat, L_cat, L_cat, hL0.out, hL1.out, hL2.out, hL3.out, e4.out], HB.out⟩
        · go_simp
          refine hK.out _ _ (fun _ => (by exact below_new V2 _)) (fun hH hS2 => ?_)
          clear hK K hHeld hShut
          have hShut := hS2
          clear hS2
          have hHeld := hH rfl
          clear hH
          try simp only [Act.put, List.setIfInBounds_toArray, List.set_cons_zero, List.set_cons_succ]
          have hE3 : Elems .i64 (V2.alloc (.cells #[.int .i64 (X.sats.length : Int)] 2)) (some ⟨V2.heap.size, 0, none⟩) [(X.sats.length : Int)] := elems_new V2 _ [(X.sats.length : Int)] (by simp only [List.mem_cons, List.not_mem_nil, or_false, forall_eq_or_imp, forall_eq]; exact i6.out)
          replace hE3 := Lib.hid hE3
          replace hE0 := Lib.hid (hE0.out.below (below_new V2 (.cells #[.int .i64 (X.sats.length : Int)] 2)))
          replace hE1 := Lib.hid (hE1.out.below (below_new V2 (.cells #[.int .i64 (X.sats.length : Int)] 2)))
          replace HB := Lib.hid (HB.out.trans ((below_new V2 (.cells #[.int .i64 (X.sats.length : Int)] 2)).mono HB.out.size))
          refine wpAnyN_strong (S' := fun wz => Below (V2.alloc (.cells #[.int .i64 (X.sats.length : Int)] 2)).heap.size (V2.alloc (.cells #[.int .i64 (X.sats.length : Int)] 2)) wz) (fun wz h => (below_new V2 (.cells #[.int .i64 (X.sats.length : Int)] 2)).trans (h.mono (below_new V2 (.cells #[.int .i64 (X.sats.length : Int)] 2)).size)) _ _ _ _ ?_
          clear hHeld
          have hHeld := Below.refl (V2.alloc (.cells #[.int .i64 (X.sats.length : Int)] 2)).heap.size (V2.alloc (.cells #[.int .i64 (X.sats.length : Int)] 2))
          generalize V2.alloc (.cells #[.int .i64 (X.sats.length : Int)] 2) = V3 at *
          generalize V2.heap.size = gb3 at *
          refine wpAnyN_one_22 (by kernel_rfl) (by exact hShut) (fun K hK => ?_)
          go_simp
          refine hK.out _ _ (fun _ => (by exact below_new V3 _)) (fun hH hS2 => ?_)
          clear hK K hHeld hShut
          have hShut := hS2
          clear hS2
          have hHeld := hH rfl
          clear hH
          try simp only [Act.put, List.setIfInBounds_toArray, List.set_cons_zero, List.set_cons_succ]
          have hE2 : Elems .i64 (V3.alloc (.cells #[.int .i64 X.bm, .int .i64 X.br] 2)) (some ⟨V3.heap.size, 0, none⟩) [X.bm, X.br] := elems_new V3 _ [X.bm, X.br] (by simp only [List.mem_cons, List.not_mem_nil, or_false, forall_eq_or_imp, forall_eq]; exact ⟨i4.out, i5.out⟩)
          replace hE2 := Lib.hid hE2
          replace hE0 := Lib.hid (hE0.out.below (below_new V3 (.cells #[.int .i64 X.bm, .int .i64 X.br] 2)))
          replace hE1 := Lib.hid (hE1.out.below (below_new V3 (.cells #[.int .i64 X.bm, .int .i64 X.br] 2)))
          replace hE3 := Lib.hid (hE3.out.below (below_new V3 (.cells #[.int .i64 X.bm, .int .i64 X.br] 2)))
          replace HB := Lib.hid (HB.out.trans ((below_new V3 (.cells #[.int .i64 X.bm, .int .i64 X.br] 2)).mono HB.out.size))
          refine wpAnyN_strong (S' := fun wz => Below (V3.alloc (.cells #[.int .i64 X.bm, .int .i64 X.br] 2)).heap.size (V3.alloc (.cells #[.int .i64 X.bm, .int .i64 X.br] 2)) wz) (fun wz h => (below_new V3 (.cells #[.int .i64 X.bm, .int .i64 X.br] 2)).trans (h.mono (below_new V3 (.cells #[.int .i64 X.bm, .int .i64 X.br] 2)).size)) _ _ _ _ ?_
          clear hHeld
          have hHeld := Below.refl (V3.alloc (.cells #[.int .i64 X.bm, .int .i64 X.br] 2)).heap.size (V3.alloc (.cells #[.int .i64 X.bm, .int .i64 X.br] 2))
          generalize V3.alloc (.cells #[.int .i64 X.bm, .int .i64 X.br] 2) = V4 at *
          generalize V3.heap.size = gb2 at *
          refine wpAnyN_takeC_23 (v := .string N2) (by kernel_rfl) (by kernel_rfl) (by kernel_rfl) (by kernel_rfl) (fun _ _ _ h => h) ⟨by rfl, 52, #[.string ⟨#[98, 105, 107, 101, 115]⟩, .slice (some ⟨gb2, 0, none⟩) 2 2], fun wz => by kernel_rfl, fun wz hz => hT2.out wz _ (hE2.out.below hz)⟩ hHeld hShut (fun hS2 => ?_)
          clear hShut
          have hShut := hS2
          clear hS2
          try simp only [Act.put, List.setIfInBounds_toArray, List.set_cons_zero, List.set_cons_succ]
          refine wpAnyN_take_24 (v := ?v26n) ?_ ?_ ?_ ?_ ?_ ?hy26n ?_ ?_ ?_
          case hy26n =>
            refine Or.inl ⟨by rfl, ?_⟩
            intro w hSw
            try dsimp only at hSw
            go_simp
            try with_reducible rfl
          · kernel_rfl
          · kernel_rfl
          · kernel_rfl
          · kernel_rfl
          · exact fun _ _ _ h => h
          · exact hHeld
          · exact hShut
          clear hShut
          intro hShut
          try simp only [Act.put, List.setIfInBounds_toArray, List.set_cons_zero, List.set_cons_succ]
          refine wpAnyN_takeC_30 (v := .string N3) (by kernel_rfl) (by kernel_rfl) (by kernel_rfl) (by kernel_rfl) (fun _ _ _ h => h) ⟨by rfl, 52, #[.string ⟨#[115, 97, 116, 101, 108, 108, 105, 116, 101, 115]⟩, .slice (some ⟨gb3, 0, none⟩) 1 1], fun wz => by kernel_rfl, fun wz hz => hT3.out wz _ (hE3.out.below hz)⟩ hHeld hShut (fun hS2 => ?_)
          clear hShut
          have hShut := hS2
          clear hS2
          try simp only [Act.put, List.setIfInBounds_toArray, List.set_cons_zero, List.set_cons_succ]
          refine wpAnyN_take_31 (v := ?v27n) ?_ ?_ ?_ ?_ ?_ ?hy27n ?_ ?_ ?_
          case hy27n =>
            refine Or.inl ⟨by rfl, ?_⟩
            intro w hSw
            try dsimp only at hSw
            go_simp
            try with_reducible rfl
          · kernel_rfl
          · kernel_rfl
          · kernel_rfl
          · kernel_rfl
          · exact fun _ _ _ h => h
          · exact hHeld
          · exact hShut
          clear hShut
          intro hShut
          try simp only [Act.put, List.setIfInBounds_toArray, List.set_cons_zero, List.set_cons_succ]
          refine wpAnyN_take_32 (v := ?v28n) ?_ ?_ ?_ ?_ ?_ ?hy28n ?_ ?_ ?_
          case hy28n =>
            refine Or.inl ⟨by rfl, ?_⟩
            intro w hSw
            try dsimp only at hSw
            go_simp
            try with_reducible rfl
          · kernel_rfl
          · kernel_rfl
          · kernel_rfl
          · kernel_rfl
          · exact fun _ _ _ h => h
          · exact hHeld
          · exact hShut
          clear hShut
          intro hShut
          try simp only [Act.put, List.setIfInBounds_toArray, List.set_cons_zero, List.set_cons_succ]
          refine wpAnyN_done (by kernel_rfl) ?_ _
          go_wp2_with fail
          go_meet
          exact ⟨_, rfl, by rw [L_cat, L_cat, L_cat, hL0.out, hL1.out, hL2.out, hL3.out, e4.out], HB.out⟩
      · go_simp
        refine hK.out _ _ (fun _ => (by exact below_new V1 _)) (fun hH hS2 => ?_)
        clear hK K hHeld hShut
        have hShut := hS2
        clear hS2
        have hHeld := hH rfl
        clear hH
        try simp only [Act.put, List.setIfInBounds_toArray, List.set_cons_zero, List.set_cons_succ]
        have hE2 : Elems .i64 (V1.alloc (.cells #[.int .i64 X.bm, .int .i64 X.br] 2)) (some ⟨V1.heap.size, 0, none⟩) [X.bm, X.br] := elems_new V1 _ [X.bm, X.br] (by simp only [List.mem_cons, List.not_mem_nil, or_false, forall_eq_or_imp, forall_eq]; exact ⟨i4.out, i5.out⟩)
        replace hE2 := Lib.hid hE2
        replace hE0 := Lib.hid (hE0.out.below (below_new V1 (.cells #[.int .i64 X.bm, .int .i64 X.br] 2)))
        replace HB := Lib.hid (HB.out.trans ((below_new V1 (.cells #[.int .i64 X.bm, .int .i64 X.br] 2)).mono HB.out.size))
        refine wpAnyN_strong (S' := fun wz => Below (V1.alloc (.cells #[.int .i64 X.bm, .int .i64 X.br] 2)).heap.size (V1.alloc (.cells #[.int .i64 X.bm, .int .i64 X.br] 2)) wz) (fun wz h => (below_new V1 (.cells #[.int .i64 X.bm, .int .i64 X.br] 2)).trans (h.mono (below_new V1 (.cells #[.int .i64 X.bm, .int .i64 X.br] 2)).size)) _ _ _ _ ?_
        clear hHeld
        have hHeld := Below.refl (V1.alloc (.cells #[.int .i64 X.bm, .int .i64 X.br] 2)).heap.size (V1.alloc (.cells #[.int .i64 X.bm, .int .i64 X.br] 2))
        generalize V1.alloc (.cells #[.int .i64 X.bm, .int .i64 X.br] 2) = V2 at *
        generalize V1.heap.size = gb2 at *
        refine wpAnyN_of_12_29 (by kernel_rfl) (by exact hShut) (fun K hK => ?_) (fun K hK => ?_)
        · go_simp
          refine hK.out _ _ (fun _ => (by exact below_new V2 _)) (fun hH hS2 => ?_)
          clear hK K hHeld hShut
          have hShut := hS2
          clear hS2
          have hHeld := hH rfl
          clear hH
          try simp only [Act.put, List.setIfInBounds_toArray, List.set_cons_zero, List.set_cons_succ]
          have hE1 : Elems .i64 (V2.alloc (.cells #[.int .i64 X.tm, .int .i64 X.tr] 2)) (some ⟨V2.heap.size, 0, none⟩) [X.tm, X.tr] := elems_new V2 _ [X.tm, X.tr] (by simp only [List.mem_cons, List.not_mem_nil, or_false, forall_eq_or_imp, forall_eq]; exact ⟨i2.out, i3.out⟩)
          replace hE1 := Lib.hid hE1
          replace hE0 := Lib.hid (hE0.out.below (below_new V2 (.cells #[.int .i64 X.tm, .int .i64 X.tr] 2)))
          replace hE2 := Lib.hid (hE2.out.below (below_new V2 (.cells #[.int .i64 X.tm, .int .i64 X.tr] 2)))
          replace HB := Lib.hid (HB.out.trans ((below_new V2 (.cells #[.int .i64 X.tm, .int .i64 X.tr] 2)).mono HB.out.size))
          refine wpAnyN_strong (S' := fun wz => Below (V2.alloc (.cells #[.int .i64 X.tm, .int .i64 X.tr] 2)).heap.size (V2.alloc (.cells #[.int .i64 X.tm, .int .i64 X.tr] 2)) wz) (fun wz h => (below_new V2 (.cells #[.int .i64 X.tm, .int .i64 X.tr] 2)).trans (h.mono (below_new V2 (.cells #[.int .i64 X.tm, .int .i64 X.tr] 2)).size)) _ _ _ _ ?_
          clear hHeld
          have hHeld := Below.refl (V2.alloc (.cells #[.int .i64 X.tm, .int .i64 X.tr] 2)).heap.size (V2.alloc (.cells #[.int .i64 X.tm, .int .i64 X.tr] 2))
          generalize V2.alloc (.cells #[.int .i64 X.tm, .int .i64 X.tr] 2) = V3 at *
          generalize V2.heap.size = gb1 at *
          refine wpAnyN_takeC_13 (v := .string N1) (by kernel_rfl) (by kernel_rfl) (by kernel_rfl) (by kernel_rfl) (fun _ _ _ h => h) ⟨by rfl, 52, #[.string ⟨#[116, 114, 117, 99, 107, 115]⟩, .slice (some ⟨gb1, 0, none⟩) 2 2], fun wz => by kernel_rfl, fun wz hz => hT1.out wz _ (hE1.out.below hz)⟩ hHeld hShut (fun hS2 => ?_)
          clear hShut
          have hShut := hS2
          clear hS2
          try simp only [Act.put, List.setIfInBounds_toArray, List.set_cons_zero, List.set_cons_succ]
          refine wpAnyN_take_14 (v := ?v29n) ?_ ?_ ?_ ?_ ?_ ?hy29n ?_ ?_ ?_
          case hy29n =>
            refine Or.inl ⟨by rfl, ?_⟩
            intro w hSw
            try dsimp only at hSw
            go_simp
            try with_reducible rfl
          · kernel_rfl
          · kernel_rfl
          · kernel_rfl
          · kernel_rfl
          · exact fun _ _ _ h => h
          · exact hHeld
          · exact hShut
          clear hShut
          intro hShut
          try simp only [Act.put, List.setIfInBounds_toArray, List.set_cons_zero, List.set_cons_succ]
          refine wpAnyN_takeC_23 (v := .string N2) (by kernel_rfl) (by kernel_rfl) (by kernel_rfl) (by kernel_rfl) (fun _ _ _ h => h) ⟨by rfl, 52, #[.string ⟨#[98, 105, 107, 101, 115]⟩, .slice (some ⟨gb2, 0, none⟩) 2 2], fun wz => by kernel_rfl, fun wz hz => hT2.out wz _ (hE2.out.below hz)⟩ hHeld hShut (fun hS2 => ?_)
          clear hShut
          have hShut := hS2
          clear hS2
          try simp only [Act.put, List.setIfInBounds_toArray, List.set_cons_zero, List.set_cons_succ]
          refine wpAnyN_take_24 (v := ?v30n) ?_ ?_ ?_ ?_ ?_ ?hy30n ?_ ?_ ?_
          case hy30n =>
            refine Or.inl ⟨by rfl, ?_⟩
            intro w hSw
            try dsimp only at hSw
            go_simp
            try with_reducible rfl
          · kernel_rfl
          · kernel_rfl
          · kernel_rfl
          · kernel_rfl
          · exact fun _ _ _ h => h
          · exact hHeld
          · exact hShut
          clear hShut
          intro hShut
          try simp only [Act.put, List.setIfInBounds_toArray, List.set_cons_zero, List.set_cons_succ]
          refine wpAnyN_one_29 (by kernel_rfl) (by exact hShut) (fun K hK => ?_)
          go_simp
          refine hK.out _ _ (fun _ => (by exact below_new V3 _)) (fun hH hS2 => ?_)
          clear hK K hHeld hShut
          have hShut := hS2
          clear hS2
          have hHeld := hH rfl
          clear hH
          try simp only [Act.put, List.setIfInBounds_toArray, List.set_cons_zero, List.set_cons_succ]
          have hE3 : Elems .i64 (V3.alloc (.cells #[.int .i64 (X.sats.length : Int)] 2)) (some ⟨V3.heap.size, 0, none⟩) [(X.sats.length : Int)] := elems_new V3 _ [(X.sats.length : Int)] (by simp only [List.mem_cons, List.not_mem_nil, or_false, forall_eq_or_imp, forall_eq]; exact i6.out)
          replace hE3 := Lib.hid hE3
          replace hE0 := Lib.hid (hE0.out.below (below_new V3 (.cells #[.int .i64 (X.sats.length : Int)] 2)))
          replace hE1 := Lib.hid (hE1.out.below (below_new V3 (.cells #[.int .i64 (X.sats.length : Int)] 2)))
          replace hE2 := Lib.hid (hE2.out.below (below_new V3 (.cells #[.int .i64 (X.sats.length : Int)] 2)))
          replace HB := Lib.hid (HB.out.trans ((below_new V3 (.cells #[.int .i64 (X.sats.length : Int)] 2)).mono HB.out.size))
          refine wpAnyN_strong (S' := fun wz => Below (V3.alloc (.cells #[.int .i64 (X.sats.length : Int)] 2)).heap.size (V3.alloc (.cells #[.int .i64 (X.sats.length : Int)] 2)) wz) (fun wz h => (below_new V3 (.cells #[.int .i64 (X.sats.length : Int)] 2)).trans (h.mono (below_new V3 (.cells #[.int .i64 (X.sats.length : Int)] 2)).size)) _ _ _ _ ?_
          clear hHeld
          have hHeld := Below.refl (V3.alloc (.cells #[.int .i64 (X.sats.length : Int)] 2)).heap.size (V3.alloc (.cells #[.int .i64 (X.sats.length : Int)] 2))
          generalize V3.alloc (.cells #[.int .i64 (X.sats.length : Int)] 2) = V4 at *
          generalize V3.heap.size = gb3 at *
          refine wpAnyN_takeC_30 (v := .string N3) (by kernel_rfl) (by kernel_rfl) (by kernel_rfl) (by kernel_rfl) (fun _ _ _ h => h) ⟨by rfl, 52, #[.string ⟨#[115, 97, 116, 101, 108, 108, 105, 116, 101, 115]⟩, .slice (some ⟨gb3, 0, none⟩) 1 1], fun wz => by kernel_rfl, fun wz hz => hT3.out wz _ (hE3.out.below hz)⟩ hHeld hShut (fun hS2 => ?_)
          clear hShut
          have hShut := hS2
          clear hS2
          try simp only [Act.put, List.setIfInBounds_toArray, List.set_cons_zero, List.set_cons_succ]
          refine wpAnyN_take_31 (v := ?v31n) ?_ ?_ ?_ ?_ ?_ ?hy31n ?_ ?_ ?_
          case hy31n =>
            refine Or.inl ⟨by rfl, ?_⟩
            intro w hSw
            try dsimp only at hSw
            go_simp
            try with_reducible rfl
          · kernel_rfl
          · kernel_rfl
          · kernel_rfl
          · kernel_rfl
          · exact fun _ _ _ h => h
          · exact hHeld
          · exact hShut
          clear hShut
          intro hShut
          try simp only [Act.put, List.setIfInBounds_toArray, List.set_cons_zero, List.set_cons_succ]
          refine wpAnyN_take_32 (v := ?v32n) ?_ ?_ ?_ ?_ ?_ ?hy32n ?_ ?_ ?_
          case hy32n =>
            refine Or.inl ⟨by rfl, ?_⟩
            intro w hSw
            try dsimp only at hSw
            go_simp
            try with_reducible rfl
          · kernel_rfl
          · kernel_rfl
          · kernel_rfl
          · kernel_rfl
          · exact fun _ _ _ h => h
          · exact hHeld
          · exact hShut
          clear hShut
          intro hShut
          try simp only [Act.put, List.setIfInBounds_toArray, List.set_cons_zero, List.set_cons_succ]
          refine wpAnyN_done (by kernel_rfl) ?_ _
          go_wp2_with fail
          go_meet
          exact ⟨_, rfl, by rw [L_cat, L_cat, L_cat, hL0.out, hL1.out, hL2.out, hL3.out, e4.out], HB.out⟩
        · go_simp
          refine hK.out _ _ (fun _ => (by exact below_new V2 _)) (fun hH hS2 => ?_)
          clear hK K hHeld hShut
          have hShut := hS2
          clear hS2
          have hHeld := hH rfl
          clear hH
          try simp only [Act.put, List.setIfInBounds_toArray, List.set_cons_zero, List.set_cons_succ]
          have hE3 : Elems .i64 (V2.alloc (.cells #[.int .i64 (X.sats.length : Int)] 2)) (some ⟨V2.heap.size, 0, none⟩) [(X.sats.length : Int)] := elems_new V2 _ [(X.sats.length : Int)] (by simp only [List.mem_cons, List.not_mem_nil, or_false, forall_eq_or_imp, forall_eq]; exact i6.out)
          replace hE3 := Lib.hid hE3
          replace hE0 := Lib.hid (hE0.out.below (below_new V2 (.cells #[.int .i64 (X.sats.length : Int)] 2)))
          replace hE2 := Lib.hid (hE2.out.below (below_new V2 (.cells #[.int .i64 (X.sats.length : Int)] 2)))
          replace HB := Lib.hid (HB.out.trans ((below_new V2 (.cells #[.int .i64 (X.sats.length : Int)] 2)).mono HB.out.size))
          refine wpAnyN_strong (S' := fun wz => Below (V2.alloc (.cells #[.int .i64 (X.sats.length : Int)] 2)).heap.size (V2.alloc (.cells #[.int .i64 (X.sats.length : Int)] 2)) wz) (fun wz h => (below_new V2 (.cells #[.int .i64 (X.sats.length : Int)] 2)).trans (h.mono (below_new V2 (.cells #[.int .i64 (X.sats.length : Int)] 2)).size)) _ _ _ _ ?_
          clear hHeld
          have hHeld := Below.refl (V2.alloc (.cells #[.int .i64 (X.sats.length : Int)] 2)).heap.size (V2.alloc (.cells #[.int .i64 (X.sats.length : Int)] 2))
          generalize V2.alloc (.cells #[.int .i64 (X.sats.length : Int)] 2) = V3 at *
          generalize V2.heap.size = gb3 at *
          refine wpAnyN_one_12 (by kernel_rfl) (by exact hShut) (fun K hK => ?_)
          go_simp
          refine hK.out _ _ (fun _ => (by exact below_new V3 _)) (fun hH hS2 => ?_)
          clear hK K hHeld hShut
          have hShut := hS2
          clear hS2
          have hHeld := hH rfl
          clear hH
          try simp only [Act.put, List.setIfInBounds_toArray, List.set_cons_zero, List.set_cons_succ]
          have hE1 : Elems .i64 (V3.alloc (.cells #[.int .i64 X.tm, .int .i64 X.tr] 2)) (some ⟨V3.heap.size, 0, none⟩) [X.tm, X.tr] := elems_new V3 _ [X.tm, X.tr] (by simp only [List.mem_cons, List.not_mem_nil, or_false, forall_eq_or_imp, forall_eq]; exact ⟨i2.out, i3.out⟩)
          replace hE1 := Lib.hid hE1
          replace hE0 := Lib.hid (hE0.out.below (below_new V3 (.cells #[.int .i64 X.tm, .int .i64 X.tr] 2)))
          replace hE2 := Lib.hid (hE2.out.below (below_new V3 (.cells #[.int .i64 X.tm, .int .i64 X.tr] 2)))
          replace hE3 := Lib.hid (hE3.out.below (below_new V3 (.cells #[.int .i64 X.tm, .int .i64 X.tr] 2)))
          replace HB := Lib.hid (HB.out.trans ((below_new V3 (.cells #[.int .i64 X.tm, .int .i64 X.tr] 2)).mono HB.out.size))
          refine wpAnyN_strong (S' := fun wz => Below (V3.alloc (.cells #[.int .i64 X.tm, .int .i64 X.tr] 2)).heap.size (V3.alloc (.cells #[.int .i64 X.tm, .int .i64 X.tr] 2)) wz) (fun wz h => (below_new V3 (.cells #[.int .i64 X.tm, .int .i64 X.tr] 2)).trans (h.mono (below_new V3 (.cells #[.int .i64 X.tm, .int .i64 X.tr] 2)).size)) _ _ _ _ ?_
          clear hHeld
          have hHeld := Below.refl (V3.alloc (.cells #[.int .i64 X.tm, .int .i64 X.tr] 2)).heap.size (V3.alloc (.cells #[.int .i64 X.tm, .int .i64 X.tr] 2))
          generalize V3.alloc (.cells #[.int .i64 X.tm, .int .i64 X.tr] 2) = V4 at *
          generalize V3.heap.size = gb1 at *
          refine wpAnyN_takeC_13 (v := .string N1) (by kernel_rfl) (by kernel_rfl) (by kernel_rfl) (by kernel_rfl) (fun _ _ _ h => h) ⟨by rfl, 52, #[.string ⟨#[116, 114, 117, 99, 107, 115]⟩, .slice (some ⟨gb1, 0, none⟩) 2 2], fun wz => by kernel_rfl, fun wz hz => hT1.out wz _ (hE1.out.below hz)⟩ hHeld hShut (fun hS2 => ?_)
          clear hShut
          have hShut := hS2
          clear hS2
          try simp only [Act.put, List.setIfInBounds_toArray, List.set_cons_zero, List.set_cons_succ]
          refine wpAnyN_take_14 (v := ?v33n) ?_ ?_ ?_ ?_ ?_ ?hy33n ?_ ?_ ?_
          case hy33n =>
            refine Or.inl ⟨by rfl, ?_⟩
            intro w hSw
            try dsimp only at hSw
            go_simp
            try with_reducible rfl
          · kernel_rfl
          · kernel_rfl
          · kernel_rfl
          · kernel_rfl
          · exact fun _ _ _ h => h
          · exact hHeld
          · exact hShut
          clear hShut
          intro hShut
          try simp only [Act.put, List.setIfInBounds_toArray, List.set_cons_zero, List.set_cons_succ]
          refine wpAnyN_takeC_23 (v := .string N2) (by kernel_rfl) (by kernel_rfl) (by kernel_rfl) (by kernel_rfl) (fun _ _ _ h => h) ⟨by rfl, 52, #[.string ⟨#[98, 105, 107, 101, 115]⟩, .slice (some ⟨gb2, 0, none⟩) 2 2], fun wz => by kernel_rfl, fun wz hz => hT2.out wz _ (hE2.out.below hz)⟩ hHeld hShut (fun hS2 => ?_)
          clear hShut
          have hShut := hS2
          clear hS2
          try simp only [Act.put, List.setIfInBounds_toArray, List.set_cons_zero, List.set_cons_succ]
          refine wpAnyN_take_24 (v := ?v34n) ?_ ?_ ?_ ?_ ?_ ?hy34n ?_ ?_ ?_
          case hy34n =>
            refine Or.inl ⟨by rfl, ?_⟩
            intro w hSw
            try dsimp only at hSw
            go_simp
            try with_reducible rfl
          · kernel_rfl
          · kernel_rfl
          · kernel_rfl
          · kernel_rfl
          · exact fun _ _ _ h => h
          · exact hHeld
          · exact hShut
          clear hShut
          intro hShut
          try simp only [Act.put, List.setIfInBounds_toArray, List.set_cons_zero, List.set_cons_succ]
          refine wpAnyN_takeC_30 (v := .string N3) (by kernel_rfl) (by kernel_rfl) (by kernel_rfl) (by kernel_rfl) (fun _ _ _ h => h) ⟨by rfl, 52, #[.string ⟨#[115, 97, 116, 101, 108, 108, 105, 116, 101, 115]⟩, .slice (some ⟨gb3, 0, none⟩) 1 1], fun wz => by kernel_rfl, fun wz hz => hT3.out wz _ (hE3.out.below hz)⟩ hHeld hShut (fun hS2 => ?_)
          clear hShut
          have hShut := hS2
          clear hS2
          try simp only [Act.put, List.setIfInBounds_toArray, List.set_cons_zero, List.set_cons_succ]
          refine wpAnyN_take_31 (v := ?v35n) ?_ ?_ ?_ ?_ ?_ ?hy35n ?_ ?_ ?_
          case hy35n =>
            refine Or.inl ⟨by rfl, ?_⟩
            intro w hSw
            try dsimp only at hSw
            go_simp
            try with_reducible rfl
          · kernel_rfl
          · kernel_rfl
          · kernel_rfl
          · kernel_rfl
          · exact fun _ _ _ h => h
          · exact hHeld
          · exact hShut
          clear hShut
          intro hShut
          try simp only [Act.put, List.setIfInBounds_toArray, List.set_cons_zero, List.set_cons_succ]
          refine wpAnyN_take_32 (v := ?v36n) ?_ ?_ ?_ ?_ ?_ ?hy36n ?_ ?_ ?_
          case hy36n =>
            refine Or.inl ⟨by rfl, ?_⟩
            intro w hSw
            try dsimp only at hSw
            go_simp
            try with_reducible rfl
          · kernel_rfl
          · kernel_rfl
          · kernel_rfl
          · kernel_rfl
          · exact fun _ _ _ h => h
          · exact hHeld
          · exact hShut
          clear hShut
          intro hShut
          try simp only [Act.put, List.setIfInBounds_toArray, List.set_cons_zero, List.set_cons_succ]
          refine wpAnyN_done (by kernel_rfl) ?_ _
          go_wp2_with fail
          go_meet
          exact ⟨_, rfl, by rw [L_cat, L_cat, L_cat, hL0.out, hL1.out, hL2.out, hL3.out, e4.out], HB.out⟩
      · go_simp
        refine hK.out _ _ (fun _ => (by exact below_new V1 _)) (fun hH hS2 => ?_)
        clear hK K hHeld hShut
        have hShut := hS2
        clear hS2
        have hHeld := hH rfl
        clear hH
        try simp only [Act.put, List.setIfInBounds_toArray, List.set_cons_zero, List.set_cons_succ]
        have hE3 : Elems .i64 (V1.alloc (.cells #[.int .i64 (X.sats.length : Int)] 2)) (some ⟨V1.heap.size, 0, none⟩) [(X.sats.length : Int)] := elems_new V1 _ [(X.sats.length : Int)] (by simp only [List.mem_cons, List.not_mem_nil, or_false, forall_eq_or_imp, forall_eq]; exact i6.out)
        replace hE3 := Lib.hid hE3
        replace hE0 := Lib.hid (hE0.out.below (below_new V1 (.cells #[.int .i64 (X.sats.length : Int)] 2)))
        replace HB := Lib.hid (HB.out.trans ((below_new V1 (.cells #[.int .i64 (X.sats.length : Int)] 2)).mono HB.out.size))
        refine wpAnyN_strong (S' := fun wz => Below (V1.alloc (.cells #[.int .i64 (X.sats.length : Int)] 2)).heap.size (V1.alloc (.cells #[.int .i64 (X.sats.length : Int)] 2)) wz) (fun wz h => (below_new V1 (.cells #[.int .i64 (X.sats.length : Int)] 2)).trans (h.mono (below_new V1 (.cells #[.int .i64 (X.sats.length : Int)] 2)).size)) _ _ _ _ ?_
        clear hHeld
        have hHeld := Below.refl (V1.alloc (.cells #[.int .i64 (X.sats.length : Int)] 2)).heap.size (V1.alloc (.cells #[.int .i64 (X.sats.length : Int)] 2))
        generalize V1.alloc (.cells #[.int .i64 (X.sats.length : Int)] 2) = V2 at *
        generalize V1.heap.size = gb3 at *
        refine wpAnyN_of_12_22 (by kernel_rfl) (by exact hShut) (fun K hK => ?_) (fun K hK => ?_)
        · go_simp
          refine hK.out _ _ (fun _ => (by exact below_new V2 _)) (fun hH hS2 => ?_)
          clear hK K hHeld hShut
          have hShut := hS2
          clear hS2
          have hHeld := hH rfl
          clear hH
          try simp only [Act.put, List.setIfInBounds_toArray, List.set_cons_zero, List.set_cons_succ]
          have hE1 : Elems .i64 (V2.alloc (.cells #[.int .i64 X.tm, .int .i64 X.tr] 2)) (some ⟨V2.heap.size, 0, none⟩) [X.tm, X.tr] := elems_new V2 _ [X.tm, X.tr] (by simp only [List.mem_cons, List.not_mem_nil, or_false, forall_eq_or_imp, forall_eq]; exact ⟨i2.out, i3.out⟩)
          replace hE1 := Lib.hid hE1
          replace hE0 := Lib.hid (hE0.out.below (below_new V2 (.cells #[.int .i64 X.tm, .int .i64 X.tr] 2)))
          replace hE3 := Lib.hid (hE3.out.below (below_new V2 (.cells #[.int .i64 X.tm, .int .i64 X.tr] 2)))
          replace HB := Lib.hid (HB.out.trans ((below_new V2 (.cells #[.int .i64 X.tm, .int .i64 X.tr] 2)).mono HB.out.size))
          refine wpAnyN_strong (S' := fun wz => Below (V2.alloc (.cells #[.int .i64 X.tm, .int .i64 X.tr] 2)).heap.size (V2.alloc (.cells #[.int .i64 X.tm, .int .i64 X.tr] 2)) wz) (fun wz h => (below_new V2 (.cells #[.int .i64 X.tm, .int .i64 X.tr] 2)).trans (h.mono (below_new V2 (.cells #[.int .i64 X.tm, .int .i64 X.tr] 2)).size)) _ _ _ _ ?_
          clear hHeld
          have hHeld := Below.refl (V2.alloc (.cells #[.int .i64 X.tm, .int .i64 X.tr] 2)).heap.size (V2.alloc (.cells #[.int .i64 X.tm, .int .i64 X.tr] 2))
          generalize V2.alloc (.cells #[.int .i64 X.tm, .int .i64 X.tr] 2) = V3 at *
          generalize V2.heap.size = gb1 at *
          refine wpAnyN_takeC_13 (v := .string N1) (by kernel_rfl) (by kernel_rfl) (by kernel_rfl) (by kernel_rfl) (fun _ _ _ h => h) ⟨by rfl, 52, #[.string ⟨#[116, 114, 117, 99, 107, 115]⟩, .slice (some ⟨gb1, 0, none⟩) 2 2], fun wz => by kernel_rfl, fun wz hz => hT1.out wz _ (hE1.out.below hz)⟩ hHeld hShut (fun hS2 => ?_)
          clear hShut
          have hShut := hS2
          clear hS2
          try simp only [Act.put, List.setIfInBounds_toArray, List.set_cons_zero, List.set_cons_succ]
          refine wpAnyN_take_14 (v := ?v37n) ?_ ?_ ?_ ?_ ?_ ?hy37n ?_ ?_ ?_
          case hy37n =>
            refine Or.inl ⟨by rfl, ?_⟩
            intro w hSw
            try dsimp only at hSw
            go_simp
            try with_reducible rfl
          · kernel_rfl
          · kernel_rfl
          · kernel_rfl
          · kernel_rfl
          · exact fun _ _ _ h => h
          · exact hHeld
          · exact hShut
          clear hShut
          intro hShut
          try simp only [Act.put, List.setIfInBounds_toArray, List.set_cons_zero, List.set_cons_succ]
          refine wpAnyN_one_22 (by kernel_rfl) (by exact hShut) (fun K hK => ?_)
          go_simp
          refine hK.out _ _ (fun _ => (by exact below_new V3 _)) (fun hH hS2 => ?_)
          clear hK K hHeld hShut
          have hShut := hS2
          clear hS2
          have hHeld := hH rfl
          clear hH
          try simp only [Act.put, List.setIfInBounds_toArray, List.set_cons_zero, List.set_cons_succ]
          have hE2 : Elems .i64 (V3.alloc (.cells #[.int .i64 X.bm, .int .i64 X.br] 2)) (some ⟨V3.heap.size, 0, none⟩) [X.bm, X.br] := elems_new V3 _ [X.bm, X.br] (by simp only [List.mem_cons, List.not_mem_nil, or_false, forall_eq_or_imp, forall_eq]; exact ⟨i4.out, i5.out⟩)
          replace hE2 := Lib.hid hE2
          replace hE0 := Lib.hid (hE0.out.below (below_new V3 (.cells #[.int .i64 X.bm, .int .i64 X.br] 2)))
          replace hE1 := Lib.hid (hE1.out.below (below_new V3 (.cells #[.int .i64 X.bm, .int .i64 X.br] 2)))
          replace hE3 := Lib.hid (hE3.out.below (below_new V3 (.cells #[.int .i64 X.bm, .int .i64 X.br] 2)))
          replace HB := Lib.hid (HB.out.trans ((below_new V3 (.cells #[.int .i64 X.bm, .int .i64 X.br] 2)).mono HB.out.size))
          refine wpAnyN_strong (S' := fun wz => Below (V3.alloc (.cells #[.int .i64 X.bm, .int .i64 X.br] 2)).heap.size (V3.alloc (.cells #[.int .i64 X.bm, .int .i64 X.br] 2)) wz) (fun wz h => (below_new V3 (.cells #[.int .i64 X.bm, .int .i64 X.br] 2)).trans (h.mono (below_new V3 (.cells #[.int .i64 X.bm, .int .i64 X.br] 2)).size)) _ _ _ _ ?_
          clear hHeld
          have hHeld := Below.refl (V3.alloc (.cells #[.int .i64 X.bm, .int .i64 X.br] 2)).heap.size (V3.alloc (.cells #[.int .i64 X.bm, .int .i64 X.br] 2))
          generalize V3.alloc (.cells #[.int .i64 X.bm, .int .i64 X.br] 2) = V4 at *
          generalize V3.heap.size = gb2 at *
          refine wpAnyN_takeC_23 (v := .string N2) (by kernel_rfl) (by kernel_rfl) (by kernel_rfl) (by kernel_rfl) (fun _ _ _ h => h) ⟨by rfl, 52, #[.string ⟨#[98, 105, 107, 101, 115]⟩, .slice (some ⟨gb2, 0, none⟩) 2 2], fun wz => by kernel_rfl, fun wz hz => hT2.out wz _ (hE2.out.below hz)⟩ hHeld hShut (fun hS2 => ?_)
          clear hShut
          have hShut := hS2
          clear hS2
          try simp only [Act.put, List.setIfInBounds_toArray, List.set_cons_zero, List.set_cons_succ]
          refine wpAnyN_take_24 (v := ?v38n) ?_ ?_ ?_ ?_ ?_ ?hy38n ?_ ?_ ?_
          case hy38n =>
            refine Or.inl ⟨by rfl, ?_⟩
            intro w hSw
            try dsimp only at hSw
            go_simp
            try with_reducible rfl
          · kernel_rfl
          · kernel_rfl
          · kernel_rfl
          · kernel_rfl
          · exact fun _ _ _ h => h
          · exact hHeld
          · exact hShut
          clear hShut
          intro hShut
          try simp only [Act.put, List.setIfInBounds_toArray, List.set_cons_zero, List.set_cons_succ]
          refine wpAnyN_takeC_30 (v := .string N3) (by kernel_rfl) (by kernel_rfl) (by kernel_rfl) (by kernel_rfl) (fun _ _ _ h => h) ⟨by rfl, 52, #[.string ⟨#[115, 97, 116, 101, 108, 108, 105, 116, 101, 115]⟩, .slice (some ⟨gb3, 0, none⟩) 1 1], fun wz => by kernel_rfl, fun wz hz => hT3.out wz _ (hE3.out.below hz)⟩ hHeld hShut (fun hS2 => ?_)
          clear hShut
          have hShut := hS2
          clear hS2
          try simp only [Act.put, List.setIfInBounds_toArray, List.set_cons_zero, List.set_cons_succ]
          refine wpAnyN_take_31 (v := ?v39n) ?_ ?_ ?_ ?_ ?_ ?hy39n ?_ ?_ ?_
          case hy39n =>
            refine Or.inl ⟨by rfl, ?_⟩
            intro w hSw
            try dsimp only at hSw
            go_simp
            try with_reducible rfl
          · kernel_rfl
          · kernel_rfl
          · kernel_rfl
          · kernel_rfl
          · exact fun _ _ _ h => h
          · exact hHeld
          · exact hShut
          clear hShut
          intro hShut
          try simp only [Act.put, List.setIfInBounds_toArray, List.set_cons_zero, List.set_cons_succ]
          refine wpAnyN_take_32 (v := ?v40n) ?_ ?_ ?_ ?_ ?_ ?hy40n ?_ ?_ ?_
          case hy40n =>
            refine Or.inl ⟨by rfl, ?_⟩
            intro w hSw
            try dsimp only at hSw
            go_simp
            try with_reducible rfl
          · kernel_rfl
          · kernel_rfl
          · kernel_rfl
          · kernel_rfl
          · exact fun _ _ _ h => h
          · exact hHeld
          · exact hShut
          clear hShut
          intro hShut
          try simp only [Act.put, List.setIfInBounds_toArray, List.set_cons_zero, List.set_cons_succ]
          refine wpAnyN_done (by kernel_rfl) ?_ _
          go_wp2_with fail
          go_meet
          exact ⟨_, rfl, by rw [L_cat, L_cat, L_cat, hL0.out, hL1.out, hL2.out, hL3.out, e4.out], HB.out⟩
        · go_simp
          refine hK.out _ _ (fun _ => (by exact below_new V2 _)) (fun hH hS2 => ?_)
          clear hK K hHeld hShut
          have hShut := hS2
          clear hS2
          have hHeld := hH rfl
          clear hH
          try simp only [Act.put, List.setIfInBounds_toArray, List.set_cons_zero, List.set_cons_succ]
          have hE2 : Elems .i64 (V2.alloc (.cells #[.int .i64 X.bm, .int .i64 X.br] 2)) (some ⟨V2.heap.size, 0, none⟩) [X.bm, X.br] := elems_new V2 _ [X.bm, X.br] (by simp only [List.mem_cons, List.not_mem_nil, or_false, forall_eq_or_imp, forall_eq]; exact ⟨i4.out, i5.out⟩)
          replace hE2 := Lib.hid hE2
          replace hE0 := Lib.hid (hE0.out.below (below_new V2 (.cells #[.int .i64 X.bm, .int .i64 X.br] 2)))
          replace hE3 := Lib.hid (hE3.out.below (below_new V2 (.cells #[.int .i64 X.bm, .int .i64 X.br] 2)))
          replace HB := Lib.hid (HB.out.trans ((below_new V2 (.cells #[.int .i64 X.bm, .int .i64 X.br] 2)).mono HB.out.size))
          refine wpAnyN_strong (S' := fun wz => Below (V2.alloc (.cells #[.int .i64 X.bm, .int .i64 X.br] 2)).heap.size (V2.alloc (.cells #[.int .i64 X.bm, .int .i64 X.br] 2)) wz) (fun wz h => (below_new V2 (.cells #[.int .i64 X.bm, .int .i64 X.br] 2)).trans (h.mono (below_new V2 (.cells #[.int .i64 X.bm, .int .i64 X.br] 2)).size)) _ _ _ _ ?_
          clear hHeld
          have hHeld := Below.refl (V2.alloc (.cells #[.int .i64 X.bm, .int .i64 X.br] 2)).heap.size (V2.alloc (.cells #[.int .i64 X.bm, .int .i64 X.br] 2))
          generalize V2.alloc (.cells #[.int .i64 X.bm, .int .i64 X.br] 2) = V3 at *
          generalize V2.heap.size = gb2 at *
          refine wpAnyN_one_12 (by kernel_rfl) (by exact hShut) (fun K hK => ?_)
          go_simp
          refine hK.out _ _ (fun _ => (by exact below_new V3 _)) (fun hH hS2 => ?_)
          clear hK K hHeld hShut
          have hShut := hS2
          clear hS2
          have hHeld := hH rfl
          clear hH
          try simp only [Act.put, List.setIfInBounds_toArray, List.set_cons_zero, List.set_cons_succ]
          have hE1 : Elems .i64 (V3.alloc (.cells #[.int .i64 X.tm, .int .i64 X.tr] 2)) (some ⟨V3.heap.size, 0, none⟩) [X.tm, X.tr] := elems_new V3 _ [X.tm, X.tr] (by simp only [List.mem_cons, List.not_mem_nil, or_false, forall_eq_or_imp, forall_eq]; exact ⟨i2.out, i3.out⟩)
          replace hE1 := Lib.hid hE1
          replace hE0 := Lib.hid (hE0.out.below (below_new V3 (.cells #[.int .i64 X.tm, .int .i64 X.tr] 2)))
          replace hE2 := Lib.hid (hE2.out.below (below_new V3 (.cells #[.int .i64 X.tm, .int .i64 X.tr] 2)))
          replace hE3 := Lib.hid (hE3.out.below (below_new V3 (.cells #[.int .i64 X.tm, .int .i64 X.tr] 2)))
          replace HB := Lib.hid (HB.out.trans ((below_new V3 (.cells #[.int .i64 X.tm, .int .i64 X.tr] 2)).mono HB.out.size))
          refine wpAnyN_strong (S' := fun wz => Below (V3.alloc (.cells #[.int .i64 X.tm, .int .i64 X.tr] 2)).heap.size (V3.alloc (.cells #[.int .i64 X.tm, .int .i64 X.tr] 2)) wz) (fun wz h => (below_new V3 (.cells #[.int .i64 X.tm, .int .i64 X.tr] 2)).trans (h.mono (below_new V3 (.cells #[.int .i64 X.tm, .int .i64 X.tr] 2)).size)) _ _ _ _ ?_
          clear hHeld
          have hHeld := Below.refl (V3.alloc (.cells #[.int .i64 X.tm, .int .i64 X.tr] 2)).heap.size (V3.alloc (.cells #[.int .i64 X.tm, .int .i64 X.tr] 2))
          generalize V3.alloc (.cells #[.int .i64 X.tm, .int .i64 X.tr] 2) = V4 at *
          generalize V3.heap.size = gb1 at *
          refine wpAnyN_takeC_13 (v := .string N1) (by kernel_rfl) (by kernel_rfl) (by kernel_rfl) (by kernel_rfl) (fun _ _ _ h => h) ⟨by rfl, 52, #[.string ⟨#[116, 114, 117, 99, 107, 115]⟩, .slice (some ⟨gb1, 0, none⟩) 2 2], fun wz => by kernel_rfl, fun wz hz => hT1.out wz _ (hE1.out.below hz)⟩ hHeld hShut (fun hS2 => ?_)
          clear hShut
          have hShut := hS2
          clear hS2
          try simp only [Act.put, List.setIfInBounds_toArray, List.set_cons_zero, List.set_cons_succ]
          refine wpAnyN_take_14 (v := ?v41n) ?_ ?_ ?_ ?_ ?_ ?hy41n ?_ ?_ ?_
          case hy41n =>
            refine Or.inl ⟨by rfl, ?_⟩
            intro w hSw
            try dsimp only at hSw
            go_simp
            try with_reducible rfl
          · kernel_rfl
          · kernel_rfl
          · kernel_rfl
          · kernel_rfl
          · exact fun _ _ _ h => h
          · exact hHeld
          · exact hShut
          clear hShut
          intro hShut
          try simp only [Act.put, List.setIfInBounds_toArray, List.set_cons_zero, List.set_cons_succ]
          refine wpAnyN_takeC_23 (v := .string N2) (by kernel_rfl) (by kernel_rfl) (by kernel_rfl) (by kernel_rfl) (fun _ _ _ h => h) ⟨by rfl, 52, #[.string ⟨#[98, 105, 107, 101, 115]⟩, .slice (some ⟨gb2, 0, none⟩) 2 2], fun wz => by kernel_rfl, fun wz hz => hT2.out wz _ (hE2.out.below hz)⟩ hHeld hShut (fun hS2 => ?_)
          clear hShut
          have hShut := hS2
          clear hS2
          try simp only [Act.put, List.setIfInBounds_toArray, List.set_cons_zero, List.set_cons_succ]
          refine wpAnyN_take_24 (v := ?v42n) ?_ ?_ ?_ ?_ ?_ ?hy42n ?_ ?_ ?_
          case hy42n =>
            refine Or.inl ⟨by rfl, ?_⟩
            intro w hSw
            try dsimp only at hSw
            go_simp
            try with_reducible rfl
          · kernel_rfl
          · kernel_rfl
          · kernel_rfl
          · kernel_rfl
          · exact fun _ _ _ h => h
          · exact hHeld
          · exact hShut
          clear hShut
          intro hShut
          try simp only [Act.put, List.setIfInBounds_toArray, List.set_cons_zero, List.set_cons_succ]
          refine wpAnyN_takeC_30 (v := .string N3) (by kernel_rfl) (by kernel_rfl) (by kernel_rfl) (by kernel_rfl) (fun _ _ _ h => h) ⟨by rfl, 52, #[.string ⟨#[115, 97, 116, 101, 108, 108, 105, 116, 101, 115]⟩, .slice (some ⟨gb3, 0, none⟩) 1 1], fun wz => by kernel_rfl, fun wz hz => hT3.out wz _ (hE3.out.below hz)⟩ hHeld hShut (fun hS2 => ?_)
          clear hShut
          have hShut := hS2
          clear hS2
          try simp only [Act.put, List.setIfInBounds_toArray, List.set_cons_zero, List.set_cons_succ]
          refine wpAnyN_take_31 (v := ?v43n) ?_ ?_ ?_ ?_ ?_ ?hy43n ?_ ?_ ?_
          case hy43n =>
            refine Or.inl ⟨by rfl, ?_⟩
            intro w hSw
            try dsimp only at hSw
            go_simp
            try with_reducible rfl
          · kernel_rfl
          · kernel_rfl
          · kernel_rfl
          · kernel_rfl
          · exact fun _ _ _ h => h
          · exact hHeld
          · exact hShut
          clear hShut
          intro hShut
          try simp only [Act.put, List.setIfInBounds_toArray, List.set_cons_zero, List.set_cons_succ]
          refine wpAnyN_take_32 (v := ?v44n) ?_ ?_ ?_ ?_ ?_ ?hy44n ?_ ?_ ?_
          case hy44n =>
            refine Or.inl ⟨by rfl, ?_⟩
            intro w hSw
            try dsimp only at hSw
            go_simp
            try with_reducible rfl
          · kernel_rfl
          · kernel_rfl
          · kernel_rfl
          · kernel_rfl
          · exact fun _ _ _ h => h
          · exact hHeld
          · exact hShut
          clear hShut
          intro hShut
          try simp only [Act.put, List.setIfInBounds_toArray, List.set_cons_zero, List.set_cons_succ]
          refine wpAnyN_done (by kernel_rfl) ?_ _
          go_wp2_with fail
          go_meet
          exact ⟨_, rfl, by rw [L_cat, L_cat, L_cat, hL0.out, hL1.out, hL2.out, hL3.out, e4.out], HB.out⟩
    · go_simp
      refine hK.out _ _ (fun _ => (by exact below_new V _)) (fun hH hS2 => ?_)
      clear hK K hHeld hShut
      have hShut := hS2
      clear hS2
      have hHeld := hH rfl
      clear hH
      try simp only [Act.put, List.setIfInBounds_toArray, List.set_cons_zero, List.set_cons_succ]
      have hE1 : Elems .i64 (V.alloc (.cells #[.int .i64 X.tm, .int .i64 X.tr] 2)) (some ⟨V.heap.size, 0, none⟩) [X.tm, X.tr] := elems_new V _ [X.tm, X.tr] (by simp only [List.mem_cons, List.not_mem_nil, or_false, forall_eq_or_imp, forall_eq]; exact ⟨i2.out, i3.out⟩)
      replace hE1 := Lib.hid hE1
      replace HB := Lib.hid (HB.out.trans ((below_new V (.cells #[.int .i64 X.tm, .int .i64 X.tr] 2)).mono HB.out.size))
      refine wpAnyN_strong (S' := fun wz => Below (V.alloc (.cells #[.int .i64 X.tm, .int .i64 X.tr] 2)).heap.size (V.alloc (.cells #[.int .i64 X.tm, .int .i64 X.tr] 2)) wz) (fun wz h => (below_new V (.cells #[.int .i64 X.tm, .int .i64 X.tr] 2)).trans (h.mono (below_new V (.cells #[.int .i64 X.tm, .int .i64 X.tr] 2)).size)) _ _ _ _ ?_
      clear hHeld
      have hHeld := Below.refl (V.alloc (.cells #[.int .i64 X.tm, .int .i64 X.tr] 2)).heap.size (V.alloc (.cells #[.int .i64 X.tm, .int .i64 X.tr] 2))
      generalize V.alloc (.cells #[.int .i64 X.tm, .int .i64 X.tr] 2) = V1 at *
      generalize V.heap.size = gb1 at *
      refine wpAnyN_of_3_22_29 (by kernel_rfl) (by exact hShut) (fun K hK => ?_) (fun K hK => ?_) (fun K hK => ?_)
      · go_simp
        refine hK.out _ _ (fun _ => (by exact below_new V1 _)) (fun hH hS2 => ?_)
        clear hK K hHeld hShut
        have hShut := hS2
        clear hS2
        have hHeld := hH rfl
        clear hH
        try simp only [Act.put, List.setIfInBounds_toArray, List.set_cons_zero, List.set_cons_succ]
        have hE0 : Elems .i64 (V1.alloc (.cells #[.int .i64 X.fin] 2)) (some ⟨V1.heap.size, 0, none⟩) [X.fin] := elems_new V1 _ [X.fin] (by simp only [List.mem_cons, List.not_mem_nil, or_false, forall_eq_or_imp, forall_eq]; exact i1.out)
        replace hE0 := Lib.hid hE0
        replace hE1 := Lib.hid (hE1.out.below (below_new V1 (.cells #[.int .i64 X.fin] 2)))
        replace HB := Lib.hid (HB.out.trans ((below_new V1 (.cells #[.int .i64 X.fin] 2)).mono HB.out.size))
        refine wpAnyN_strong (S' := fun wz => Below (V1.alloc (.cells #[.int .i64 X.fin] 2)).heap.size (V1.alloc (.cells #[.int .i64 X.fin] 2)) wz) (fun wz h => (below_new V1 (.cells #[.int .i64 X.fin] 2)).trans (h.mono (below_new V1 (.cells #[.int .i64 X.fin] 2)).size)) _ _ _ _ ?_
        clear hHeld
        have hHeld := Below.refl (V1.alloc (.cells #[.int .i64 X.fin] 2)).heap.size (V1.alloc (.cells #[.int .i64 X.fin] 2))
        generalize V1.alloc (.cells #[.int .i64 X.fin] 2) = V2 at *
        generalize V1.heap.size = gb0 at *
        refine wpAnyN_takeC_4 (v := .string N0) (by kernel_rfl) (by kernel_rfl) (by kernel_rfl) (by kernel_rfl) (fun _ _ _ h => h) ⟨by rfl, 52, #[.string ⟨#[119, 104, 97, 114, 102, 97, 103, 101]⟩, .slice (some ⟨gb0, 0, none⟩) 1 1], fun wz => by kernel_rfl, fun wz hz => hT0.out wz _ (hE0.out.below hz)⟩ hHeld hShut (fun hS2 => ?_)
        clear hShut
        have hShut := hS2
        clear hS2
        try simp only [Act.put, List.setIfInBounds_toArray, List.set_cons_zero, List.set_cons_succ]
        refine wpAnyN_takeC_13 (v := .string N1) (by kernel_rfl) (by kernel_rfl) (by kernel_rfl) (by kernel_rfl) (fun _ _ _ h => h) ⟨by rfl, 52, #[.string ⟨#[116, 114, 117, 99, 107, 115]⟩, .slice (some ⟨gb1, 0, none⟩) 2 2], fun wz => by kernel_rfl, fun wz hz => hT1.out wz _ (hE1.out.below hz)⟩ hHeld hShut (fun hS2 => ?_)
        clear hShut
        have hShut := hS2
        clear hS2
        try simp only [Act.put, List.setIfInBounds_toArray, List.set_cons_zero, List.set_cons_succ]
        refine wpAnyN_take_14 (v := ?v45n) ?_ ?_ ?_ ?_ ?_ ?hy45n ?_ ?_ ?_
        case hy45n =>
          refine Or.inl ⟨by rfl, ?_⟩
          intro w hSw
          try dsimp only at hSw
          go_simp
          try with_reducible rfl
        · kernel_rfl
        · kernel_rfl
        · kernel_rfl
        · kernel_rfl
        · exact fun _ _ _ h => h
        · exact hHeld
        · exact hShut
        clear hShut
        intro hShut
        try simp only [Act.put, List.setIfInBounds_toArray, List.set_cons_zero, List.set_cons_succ]
        refine wpAnyN_of_22_29 (by kernel_rfl) (by exact hShut) (fun K hK => ?_) (fun K hK => ?_)
        · go_simp
          refine hK.out _ _ (fun _ => (by exact below_new V2 _)) (fun hH hS2 => ?_)
          clear hK K hHeld hShut
          have hShut := hS2
          clear hS2
          have hHeld := hH rfl
          clear hH
          try simp only [Act.put, List.setIfInBounds_toArray, List.set_cons_zero, List.set_cons_succ]
          have hE2 : Elems .i64 (V2.alloc (.cells #[.int .i64 X.bm, .int .i64 X.br] 2)) (some ⟨V2.heap.size, 0, none⟩) [X.bm, X.br] := elems_new V2 _ [X.bm, X.br] (by simp only [List.mem_cons, List.not_mem_nil, or_false, forall_eq_or_imp, forall_eq]; exact ⟨i4.out, i5.out⟩)
          replace hE2 := Lib.hid hE2
          replace hE0 := Lib.hid (hE0.out.below (below_new V2 (.cells #[.int .i64 X.bm, .int .i64 X.br] 2)))
          replace hE1 := Lib.hid (hE1.out.below (below_new V2 (.cells #[.int .i64 X.bm, .int .i64 X.br] 2)))
          replace HB := Lib.hid (HB.out.trans ((below_new V2 (.cells #[.int .i64 X.bm, .int .i64 X.br] 2)).mono HB.out.size))
          refine wpAnyN_strong (S' := fun wz => Below (V2.alloc (.cells #[.int .i64 X.bm, .int .i64 X.br] 2)).heap.size (V2.alloc (.cells #[.int .i64 X.bm, .int .i64 X.br] 2)) wz) (fun wz h => (below_new V2 (.cells #[.int .i64 X.bm, .int .i64 X.br] 2)).trans (h.mono (below_new V2 (.cells #[.int .i64 X.bm, .int .i64 X.br] 2)).size)) _ _ _ _ ?_
          clear hHeld
          have hHeld := Below.refl (V2.alloc (.cells #[.int .i64 X.bm, .int .i64 X.br] 2)).heap.size (V2.alloc (.cells #[.int .i64 X.bm, .int .i64 X.br] 2))
          generalize V2.alloc (.cells #[.int .i64 X.bm, .int .i64 X.br] 2) = V3 at *
          generalize V2.heap.size = gb2 at *
          refine wpAnyN_takeC_23 (v := .string N2) (by kernel_rfl) (by kernel_rfl) (by kernel_rfl) (by kernel_rfl) (fun _ _ _ h => h) ⟨by rfl, 52, #[.string ⟨#[98, 105, 107, 101, 115]⟩, .slice (some ⟨gb2, 0, none⟩) 2 2], fun wz => by kernel_rfl, fun wz hz => hT2.out wz _ (hE2.out.below hz)⟩ hHeld hShut (fun hS2 => ?_)
          clear hShut
          have hShut := hS2
          clear hS2
          try simp only [Act.put, List.setIfInBounds_toArray, List.set_cons_zero, List.set_cons_succ]
          refine wpAnyN_take_24 (v := ?v46n) ?_ ?_ ?_ ?_ ?_ ?hy46n ?_ ?_ ?_
          case hy46n =>
            refine Or.inl ⟨by rfl, ?_⟩
            intro w hSw
            try dsimp only at hSw
            go_simp
            try with_reducible rfl
          · kernel_rfl
          · kernel_rfl
          · kernel_rfl
          · kernel_rfl
          · exact fun _ _ _ h => h
          · exact hHeld
          · exact hShut
          clear hShut
          intro hShut
          try simp only [Act.put, List.setIfInBounds_toArray, List.set_cons_zero, List.set_cons_succ]
          refine wpAnyN_one_29 (by kernel_rfl) (by exact hShut) (fun K hK => ?_)
          go_simp
          refine hK.out _ _ (fun _ => (by exact below_new V3 _)) (fun hH hS2 => ?_)
          clear hK K hHeld hShut
          have hShut := hS2
          clear hS2
          have hHeld := hH rfl
          clear hH
          try simp only [Act.put, List.setIfInBounds_toArray, List.set_cons_zero, List.set_cons_succ]
          have hE3 : Elems .i64 (V3.alloc (.cells #[.int .i64 (X.sats.length : Int)] 2)) (some ⟨V3.heap.size, 0, none⟩) [(X.sats.length : Int)] := elems_new V3 _ [(X.sats.length : Int)] (by simp only [List.mem_cons, List.not_mem_nil, or_false, forall_eq_or_imp, forall_eq]; exact i6.out)
          replace hE3 := Lib.hid hE3
          replace hE0 := Lib.hid (hE0.out.below (below_new V3 (.cells #[.int .i64 (X.sats.length : Int)] 2)))
          replace hE1 := Lib.hid (hE1.out.below (below_new V3 (.cells #[.int .i64 (X.sats.length : Int)] 2)))
          replace hE2 := Lib.hid (hE2.out.below (below_new V3 (.cells #[.int .i64 (X.sats.length : Int)] 2)))
          replace HB := Lib.hid (HB.out.trans ((below_new V3 (.cells #[.int .i64 (X.sats.length : Int)] 2)).mono HB.out.size))
          refine wpAnyN_strong (S' := fun wz => Below (V3.alloc (.cells #[.int .i64 (X.sats.length : Int)] 2)).heap.size (V3.alloc (.cells #[.int .i64 (X.sats.length : Int)] 2)) wz) (fun wz h => (below_new V3 (.cells #[.int .i64 (X.sats.length : Int)] 2)).trans (h.mono (below_new V3 (.cells #[.int .i64 (X.sats.length : Int)] 2)).size)) _ _ _ _ ?_
          clear hHeld
          have hHeld := Below.refl (V3.alloc (.cells #[.int .i64 (X.sats.length : Int)] 2)).heap.size (V3.alloc (.cells #[.int .i64 (X.sats.length : Int)] 2))
          generalize V3.alloc (.cells #[.int .i64 (X.sats.length : Int)] 2) = V4 at *
          generalize V3.heap.size = gb3 at *
          refine wpAnyN_takeC_30 (v := .string N3) (by kernel_rfl) (by kernel_rfl) (by kernel_rfl) (by kernel_rfl) (fun _ _ _ h => h) ⟨by rfl, 52, #[.string ⟨#[115, 97, 116, 101, 108, 108, 105, 116, 101, 115]⟩, .slice (some ⟨gb3, 0, none⟩) 1 1], fun wz => by kernel_rfl, fun wz hz => hT3.out wz _ (hE3.out.below hz)⟩ hHeld hShut (fun hS2 => ?_)
          clear hShut
          have hShut := hS2
          clear hS2
          try simp only [Act.put, List.setIfInBounds_toArray, List.set_cons_zero, List.set_cons_succ]
          refine wpAnyN_take_31 (v := ?v47n) ?_ ?_ ?_ ?_ ?_ ?hy47n ?_ ?_ ?_
          case hy47n =>
            refine Or.inl ⟨by rfl, ?_⟩
            intro w hSw
            try dsimp only at hSw
            go_simp
            try with_reducible rfl
          · kernel_rfl
          · kernel_rfl
          · kernel_rfl
          · kernel_rfl
          · exact fun _ _ _ h => h
          · exact hHeld
          · exact hShut
          clear hShut
          intro hShut
          try simp only [Act.put, List.setIfInBounds_toArray, List.set_cons_zero, List.set_cons_succ]
          refine wpAnyN_take_32 (v := ?v48n) ?_ ?_ ?_ ?_ ?_ ?hy48n ?_ ?_ ?_
          case hy48n =>
            refine Or.inl ⟨by rfl, ?_⟩
            intro w hSw
            try dsimp only at hSw
            go_simp
            try with_reducible rfl
          · kernel_rfl
          · kernel_rfl
          · kernel_rfl
          · kernel_rfl
          · exact fun _ _ _ h => h
          · exact hHeld
          · exact hShut
          clear hShut
          intro hShut
          try simp only [Act.put, List.setIfInBounds_toArray, List.set_cons_zero, List.set_cons_succ]
          refine wpAnyN_done (by kernel_rfl) ?_ _
          go_wp2_with fail
          go_meet
          exact ⟨_, rfl, by rw [L_cat, L_cat, L_cat, hL0.out, hL1.out, hL2.out, hL3.out, e4.out], HB.out⟩
        · go_simp
          refine hK.out _ _ (fun _ => (by exact below_new V2 _)) (fun hH hS2 => ?_)
          clear hK K hHeld hShut
          have hShut := hS2
          clear hS2
          have hHeld := hH rfl
          clear hH
          try simp only [Act.put, List.setIfInBounds_toArray, List.set_cons_zero, List.set_cons_succ]
          have hE3 : Elems .i64 (V2.alloc (.cells #[.int .i64 (X.sats.length : Int)] 2)) (some ⟨V2.heap.size, 0, none⟩) [(X.sats.length : Int)] := elems_new V2 _ [(X.sats.length : Int)] (by simp only [List.mem_cons, List.not_mem_nil, or_false, forall_eq_or_imp, forall_eq]; exact i6.out)
          replace hE3 := Lib.hid hE3
          replace hE0 := Lib.hid (hE0.out.below (below_new V2 (.cells #[.int .i64 (X.sats.length : Int)] 2)))
          replace hE1 := Lib.hid (hE1.out.below (below_new V2 (.cells #[.int .i64 (X.sats.length : Int)] 2)))
          replace HB := Lib.hid (HB.out.trans ((below_new V2 (.cells #[.int .i64 (X.sats.length : Int)] 2)).mono HB.out.size))
          refine wpAnyN_strong (S' := fun wz => Below (V2.alloc (.cells #[.int .i64 (X.sats.length : Int)] 2)).heap.size (V2.alloc (.cells #[.int .i64 (X.sats.length : Int)] 2)) wz) (fun wz h => (below_new V2 (.cells #[.int .i64 (X.sats.length : Int)] 2)).trans (h.mono (below_new V2 (.cells #[.int .i64 (X.sats.length : Int)] 2)).size)) _ _ _ _ ?_
          clear hHeld
          have hHeld := Below.refl (V2.alloc (.cells #[.int .i64 (X.sats.length : Int)] 2)).heap.size (V2.alloc (.cells #[.int .i64 (X.sats.length : Int)] 2))
          generalize V2.alloc (.cells #[.int .i64 (X.sats.length : Int)] 2) = V3 at *
          generalize V2.heap.size = gb3 at *
          refine wpAnyN_one_22 (by kernel_rfl) (by exact hShut) (fun K hK => ?_)
          go_simp
          refine hK.out _ _ (fun _ => (by exact below_new V3 _)) (fun hH hS2 => ?_)
          clear hK K hHeld hShut
          have hShut := hS2
          clear hS2
          have hHeld := hH rfl
          clear hH
          try simp only [Act.put, List.setIfInBounds_toArray, List.set_cons_zero, List.set_cons_succ]
          have hE2 : Elems .i64 (V3.alloc (.cells #[.int .i64 X.bm, .int .i64 X.br] 2)) (some ⟨V3.heap.size, 0, none⟩) [X.bm, X.br] := elems_new V3 _ [X.bm, X.br] (by simp only [List.mem_cons, List.not_mem_nil, or_false, forall_eq_or_imp, forall_eq]; exact ⟨i4.out, i5.out⟩)
          replace hE2 := Lib.hid hE2
          replace hE0 := Lib.hid (hE0.out.below (below_new V3 (.cells #[.int .i64 X.bm, .int .i64 X.br] 2)))
          replace hE1 := Lib.hid (hE1.out.below (below_new V3 (.cells #[.int .i64 X.bm, .int .i64 X.br] 2)))
          replace hE3 := Lib.hid (hE3.out.below (below_new V3 (.cells #[.int .i64 X.bm, .int .i64 X.br] 2)))
          replace HB := Lib.hid (HB.out.trans ((below_new V3 (.cells #[.int .i64 X.bm, .int .i64 X.br] 2)).mono HB.out.size))
          refine wpAnyN_strong (S' := fun wz => Below (V3.alloc (.cells #[.int .i64 X.bm, .int .i64 X.br] 2)).heap.size (V3.alloc (.cells #[.int .i64 X.bm, .int .i64 X.br] 2)) wz) (fun wz h => (below_new V3 (.cells #[.int .i64 X.bm, .int .i64 X.br] 2)).trans (h.mono (below_new V3 (.cells #[.int .i64 X.bm, .int .i64 X.br] 2)).size)) _ _ _ _ ?_
          clear hHeld
          have hHeld := Below.refl (V3.alloc (.cells #[.int .i64 X.bm, .int .i64 X.br] 2)).heap.size (V3.alloc (.cells #[.int .i64 X.bm, .int .i64 X.br] 2))
          generalize V3.alloc (.cells #[.int .i64 X.bm, .int .i64 X.br] 2) = V4 at *
          generalize V3.heap.size = gb2 at *
          refine wpAnyN_takeC_23 (v := .string N2) (by kernel_rfl) (by kernel_rfl) (by kernel_rfl) (by kernel_rfl) (fun _ _ _ h => h) ⟨by rfl, 52, #[.string ⟨#[98, 105, 107, 101, 115]⟩, .slice (some ⟨gb2, 0, none⟩) 2 2], fun wz => by kernel_rfl, fun wz hz => hT2.out wz _ (hE2.out.below hz)⟩ hHeld hShut (fun hS2 => ?_)
          clear hShut
          have hShut := hS2
          clear hS2
          try simp only [Act.put, List.setIfInBounds_toArray, List.set_cons_zero, List.set_cons_succ]
          refine wpAnyN_take_24 (v := ?v49n) ?_ ?_ ?_ ?_ ?_ ?hy49n ?_ ?_ ?_
          case hy49n =>
            refine Or.inl ⟨by rfl, ?_⟩
            intro w hSw
            try dsimp only at hSw
            go_simp
            try with_reducible rfl
          · kernel_rfl
          · kernel_rfl
          · kernel_rfl
          · kernel_rfl
          · exact fun _ _ _ h => h
          · exact hHeld
          · exact hShut
          clear hShut
          intro hShut
          try simp only [Act.put, List.setIfInBounds_toArray, List.set_cons_zero, List.set_cons_succ]
          refine wpAnyN_takeC_30 (v := .string N3) (by kernel_rfl) (by kernel_rfl) (by kernel_rfl) (by kernel_rfl) (fun _ _ _ h => h) ⟨by rfl, 52, #[.string ⟨#[115, 97, 116, 101, 108, 108, 105, 116, 101, 115]⟩, .slice (some ⟨gb3, 0, none⟩) 1 1], fun wz => by kernel_rfl, fun wz hz => hT3.out wz _ (hE3.out.below hz)⟩ hHeld hShut (fun hS2 => ?_)
          clear hShut
          have hShut := hS2
          clear hS2
          try simp only [Act.put, List.setIfInBounds_toArray, List.set_cons_zero, List.set_cons_succ]
          refine wpAnyN_take_31 (v := ?v50n) ?_ ?_ ?_ ?_ ?_ ?hy50n ?_ ?_ ?_
          case hy50n =>
            refine Or.inl ⟨by rfl, ?_⟩
            intro w hSw
            try dsimp only at hSw
            go_simp
            try with_reducible rfl
          · kernel_rfl
          · kernel_rfl
          · kernel_rfl
          · kernel_rfl
          · exact fun _ _ _ h => h
          · exact hHeld
          · exact hShut
          clear hShut
          intro hShut
          try simp only [Act.put, List.setIfInBounds_toArray, List.set_cons_zero, List.set_cons_succ]
          refine wpAnyN_take_32 (v := ?v51n) ?_ ?_ ?_ ?_ ?_ ?hy51n ?_ ?_ ?_
          case hy51n =>
            refine Or.inl ⟨by rfl, ?_⟩
            intro w hSw
            try dsimp only at hSw
            go_simp
            try with_reducible rfl
          · kernel_rfl
          · kernel_rfl
          · kernel_rfl
          · kernel_rfl
          · exact fun _ _ _ h => h
          · exact hHeld
          · exact hShut
          clear hShut
          intro hShut
          try simp only [Act.put, List.setIfInBounds_toArray, List.set_cons_zero, List.set_cons_succ]
          refine wpAnyN_done (by kernel_rfl) ?_ _
          go_wp2_with fail
          go_meet
          exact ⟨_, rfl, by rw [L_cat, L_cat, L_cat, hL0.out, hL1.out, hL2.out, hL3.out, e4.out], HB.out⟩
      · go_simp
        refine hK.out _ _ (fun _ => (by exact below_new V1 _)) (fun hH hS2 => ?_)
        clear hK K hHeld hShut
        have hShut := hS2
        clear hS2
        have hHeld := hH rfl
        clear hH
        try simp only [Act.put, List.setIfInBounds_toArray, List.set_cons_zero, List.set_cons_succ]
        have hE2 : Elems .i64 (V1.alloc (.cells #[.int .i64 X.bm, .int .i64 X.br] 2)) (some ⟨V1.heap.size, 0, none⟩) [X.bm, X.br] := elems_new V1 _ [X.bm, X.br] (by simp only [List.mem_cons, List.not_mem_nil, or_false, forall_eq_or_imp, forall_eq]; exact ⟨i4.out, i5.out⟩)
        replace hE2 := Lib.hid hE2
        replace hE1 := Lib.hid (hE1.out.below (below_new V1 (.cells #[.int .i64 X.bm, .int .i64 X.br] 2)))
        replace HB := Lib.hid (HB.out.trans ((below_new V1 (.cells #[.int .i64 X.bm, .int .i64 X.br] 2)).mono HB.out.size))
        refine wpAnyN_strong (S' := fun wz => Below (V1.alloc (.cells #[.int .i64 X.bm, .int .i64 X.br] 2)).heap.size (V1.alloc (.cells #[.int .i64 X.bm, .int .i64 X.br] 2)) wz) (fun wz h => (below_new V1 (.cells #[.int .i64 X.bm, .int .i64 X.br] 2)).trans (h.mono (below_new V1 (.cells #[.int .i64 X.bm, .int .i64 X.br] 2)).size)) _ _ _ _ ?_
        clear hHeld
        have hHeld := Below.refl (V1.alloc (.cells #[.int .i64 X.bm, .int .i64 X.br] 2)).heap.size (V1.alloc (.cells #[.int .i64 X.bm, .int .i64 X.br] 2))
        generalize V1.alloc (.cells #[.int .i64 X.bm, .int .i64 X.br] 2) = V2 at *
        generalize V1.heap.size = gb2 at *
        refine wpAnyN_of_3_29 (by kernel_rfl) (by exact hShut) (fun K hK => ?_) (fun K hK => ?_)
        · go_simp
          refine hK.out _ _ (fun _ => (by exact below_new V2 _)) (fun hH hS2 => ?_)
          clear hK K hHeld hShut
          have hShut := hS2
          clear hS2
          have hHeld := hH rfl
          clear hH
          try simp only [Act.put, List.setIfInBounds_toArray, List.set_cons_zero, List.set_cons_succ]
          have hE0 : Elems .i64 (V2.alloc (.cells #[.int .i64 X.fin] 2)) (some ⟨V2.heap.size, 0, none⟩) [X.fin] := elems_new V2 _ [X.fin] (by simp only [List.mem_cons, List.not_mem_nil, or_false, forall_eq_or_imp, forall_eq]; exact i1.out)
          replace hE0 := Lib.hid hE0
          replace hE1 := Lib.hid (hE1.out.below (below_new V2 (.cells #[.int .i64 X.fin] 2)))
          replace hE2 := Lib.hid (hE2.out.below (below_new V2 (.cells #[.int .i64 X.fin] 2)))
          replace HB := Lib.hid (HB.out.trans ((below_new V2 (.cells #[.int .i64 X.fin] 2)).mono HB.out.size))
          refine wpAnyN_strong (S' := fun wz => Below (V2.alloc (.cells #[.int .i64 X.fin] 2)).heap.size (V2.alloc (.cells #[.int .i64 X.fin] 2)) wz) (fun wz h => (below_new V2 (.cells #[.int .i64 X.fin] 2)).trans (h.mono (below_new V2 (.cells #[.int .i64 X.fin] 2)).size)) _ _ _ _ ?_
          clear hHeld
          have hHeld := Below.refl (V2.alloc (.cells #[.int .i64 X.fin] 2)).heap.size (V2.alloc (.cells #[.int .i64 X.fin] 2))
          generalize V2.alloc (.cells #[.int .i64 X.fin] 2) = V3 at *
          generalize V2.heap.size = gb0 at *
          refine wpAnyN_takeC_4 (v := .string N0) (by kernel_rfl) (by kernel_rfl) (by kernel_rfl) (by kernel_rfl) (fun _ _ _ h => h) ⟨by rfl, 52, #[.string ⟨#[119, 104, 97, 114, 102, 97, 103, 101]⟩, .slice (some ⟨gb0, 0, none⟩) 1 1], fun wz => by kernel_rfl, fun wz hz => hT0.out wz _ (hE0.out.below hz)⟩ hHeld hShut (fun hS2 => ?_)
          clear hShut
          have hShut := hS2
          clear hS2
          try simp only [Act.put, List.setIfInBounds_toArray, List.set_cons_zero, List.set_cons_succ]
          refine wpAnyN_takeC_13 (v := .string N1) (by kernel_rfl) (by kernel_rfl) (by kernel_rfl) (by kernel_rfl) (fun _ _ _ h => h) ⟨by rfl, 52, #[.string ⟨#[116, 114, 117, 99, 107, 115]⟩, .slice (some ⟨gb1, 0, none⟩) 2 2], fun wz => by kernel_rfl, fun wz hz => hT1.out wz _ (hE1.out.below hz)⟩ hHeld hShut (fun hS2 => ?_)
          clear hShut
          have hShut := hS2
          clear hS2
          try simp only [Act.put, List.setIfInBounds_toArray, List.set_cons_zero, List.set_cons_succ]
          refine wpAnyN_take_14 (v := ?v52n) ?_ ?_ ?_ ?_ ?_ ?hy52n ?_ ?_ ?_
          case hy52n =>
            refine Or.inl ⟨by rfl, ?_⟩
            intro w hSw
            try dsimp only at hSw
            go_simp
            try with_reducible rfl
          · kernel_rfl
          · kernel_rfl
          · kernel_rfl
          · kernel_rfl
          · exact fun _ _ _ h => h
          · exact hHeld
          · exact hShut
          clear hShut
          intro hShut
          try simp only [Act.put, List.setIfInBounds_toArray, List.set_cons_zero, List.set_cons_succ]
          refine wpAnyN_takeC_23 (v := .string N2) (by kernel_rfl) (by kernel_rfl) (by kernel_rfl) (by kernel_rfl) (fun _ _ _ h => h) ⟨by rfl, 52, #[.string ⟨#[98, 105, 107, 101, 115]⟩, .slice (some ⟨gb2, 0, none⟩) 2 2], fun wz => by kernel_rfl, fun wz hz => hT2.out wz _ (hE2.out.below hz)⟩ hHeld hShut (fun hS2 => ?_)
          clear hShut
          have hShut := hS2
          clear hS2
          try simp only [Act.put, List.setIfInBounds_toArray, List.set_cons_zero, List.set_cons_succ]
          refine wpAnyN_take_24 (v := ?v53n) ?_ ?_ ?_ ?_ ?_ ?hy53n ?_ ?_ ?_
          case hy53n =>
            refine Or.inl ⟨by rfl, ?_⟩
            intro w hSw
            try dsimp only at hSw
            go_simp
            try with_reducible rfl
          · kernel_rfl
          · kernel_rfl
          · kernel_rfl
          · kernel_rfl
          · exact fun _ _ _ h => h
          · exact hHeld
          · exact hShut
          clear hShut
          intro hShut
          try simp only [Act.put, List.setIfInBounds_toArray, List.set_cons_zero, List.set_cons_succ]
          refine wpAnyN_one_29 (by kernel_rfl) (by exact hShut) (fun K hK => ?_)
          go_simp
          refine hK.out _ _ (fun _ => (by exact below_new V3 _)) (fun hH hS2 => ?_)
          clear hK K hHeld hShut
          have hShut := hS2
          clear hS2
          have hHeld := hH rfl
          clear hH
          try simp only [Act.put, List.setIfInBounds_toArray, List.set_cons_zero, List.set_cons_succ]
          have hE3 : Elems .i64 (V3.alloc (.cells #[.int .i64 (X.sats.length : Int)] 2)) (some ⟨V3.heap.size, 0, none⟩) [(X.sats.length : Int)] := elems_new V3 _ [(X.sats.length : Int)] (by simp only [List.mem_cons, List.not_mem_nil, or_false, forall_eq_or_imp, forall_eq]; exact i6.out)
          replace hE3 := Lib.hid hE3
          replace hE0 := Lib.hid (hE0.out.below (below_new V3 (.cells #[.int .i64 (X.sats.length : Int)] 2)))
          replace hE1 := Lib.hid (hE1.out.below (below_new V3 (.cells #[.int .i64 (X.sats.length : Int)] 2)))
          replace hE2 := Lib.hid (hE2.out.below (below_new V3 (.cells #[.int .i64 (X.sats.length : Int)] 2)))
          replace HB := Lib.hid (HB.out.trans ((below_new V3 (.cells #[.int .i64 (X.sats.length : Int)] 2)).mono HB.out.size))
          refine wpAnyN_strong (S' := fun wz => Below (V3.alloc (.cells #[.int .i64 (X.sats.length : Int)] 2)).heap.size (V3.alloc (.cells #[.int .i64 (X.sats.length : Int)] 2)) wz) (fun wz h => (below_new V3 (.cells #[.int .i64 (X.sats.length : Int)] 2)).trans (h.mono (below_new V3 (.cells #[.int .i64 (X.sats.length : Int)] 2)).size)) _ _ _ _ ?_
          clear hHeld
          have hHeld := Below.refl (V3.alloc (.cells #[.int .i64 (X.sats.length : Int)] 2)).heap.size (V3.alloc (.cells #[.int .i64 (X.sats.length : Int)] 2))
          generalize V3.alloc (.cells #[.int .i64 (X.sats.length : Int)] 2) = V4 at *
          generalize V3.heap.size = gb3 at *
          refine wpAnyN_takeC_30 (v := .string N3) (by kernel_rfl) (by kernel_rfl) (by kernel_rfl) (by kernel_rfl) (fun _ _ _ h => h) ⟨by rfl, 52, #[.string ⟨#[115, 97, 116, 101, 108, 108, 105, 116, 101, 115]⟩, .slice (some ⟨gb3, 0, none⟩) 1 1], fun wz => by kernel_rfl, fun wz hz => hT3.out wz _ (hE3.out.below hz)⟩ hHeld hShut (fun hS2 => ?_)
          clear hShut
          have hShut := hS2
          clear hS2
          try simp only [Act.put, List.setIfInBounds_toArray, List.set_cons_zero, List.set_cons_succ]
          refine wpAnyN_take_31 (v := ?v54n) ?_ ?_ ?_ ?_ ?_ ?hy54n ?_ ?_ ?_
          case hy54n =>
            refine Or.inl ⟨by rfl, ?_⟩
            intro w hSw
            try dsimp only at hSw
            go_simp
            try with_reducible rfl
          · kernel_rfl
          · kernel_rfl
          · kernel_rfl
          · kernel_rfl
          · exact fun _ _ _ h => h
          · exact hHeld
          · exact hShut
          clear hShut
          intro hShut
          try simp only [Act.put, List.setIfInBounds_toArray, List.set_cons_zero, List.set_cons_succ]
          refine wpAnyN_take_32 (v := ?v55n) ?_ ?_ ?_ ?_ ?_ ?hy55n ?_ ?_ ?_
          case hy55n =>
            refine Or.inl ⟨by rfl, ?_⟩
            intro w hSw
            try dsimp only at hSw
            go_simp
            try with_reducible rfl
          · kernel_rfl
          · kernel_rfl
          · kernel_rfl
          · kernel_rfl
          · exact fun _ _ _ h => h
          · exact hHeld
          · exact hShut
          clear hShut
          intro hShut
          try simp only [Act.put, List.setIfInBounds_toArray, List.set_cons_zero, List.set_cons_succ]
          refine wpAnyN_done (by kernel_rfl) ?_ _
          go_wp2_with fail
          go_meet
          exact ⟨_, rfl, by rw [L_cat, L_cat, L_cat, hL0.out, hL1.out, hL2.out, hL3.out, e4.out], HB.out⟩
        · go_simp
          refine hK.out _ _ (fun _ => (by exact below_new V2 _)) (fun hH hS2 => ?_)
          clear hK K hHeld hShut
          have hShut := hS2
          clear hS2
          have hHeld := hH rfl
          clear hH
          try simp only [Act.put, List.setIfInBounds_toArray, List.set_cons_zero, List.set_cons_succ]
          have hE3 : Elems .i64 (V2.alloc (.cells #[.int .i64 (X.sats.length : Int)] 2)) (some ⟨V2.heap.size, 0, none⟩) [(X.sats.length : Int)] := elems_new V2 _ [(X.sats.length : Int)] (by simp only [List.mem_cons, List.not_mem_nil, or_false, forall_eq_or_imp, forall_eq]; exact i6.out)
          replace hE3 := Lib.hid hE3
          replace hE1 := Lib.hid (hE1.out.below (below_new V2 (.cells #[.int .i64 (X.sats.length : Int)] 2)))
          replace hE2 := Lib.hid (hE2.out.below (below_new V2 (.cells #[.int .i64 (X.sats.length : Int)] 2)))
          replace HB := Lib.hid (HB.out.trans ((below_new V2 (.cells #[.int .i64 (X.sats.length : Int)] 2)).mono HB.out.size))
          refine wpAnyN_strong (S' := fun wz => Below (V2.alloc (.cells #[.int .i64 (X.sats.length : Int)] 2)).heap.size (V2.alloc (.cells #[.int .i64 (X.sats.length : Int)] 2)) wz) (fun wz h => (below_new V2 (.cells #[.int .i64 (X.sats.length : Int)] 2)).trans (h.mono (below_new V2 (.cells #[.int .i64 (X.sats.length : Int)] 2)).size)) _ _ _ _ ?_
          clear hHeld
          have hHeld := Below.refl (V2.alloc (.cells #[.int .i64 (X.sats.length : Int)] 2)).heap.size (V2.alloc (.cells #[.int .i64 (X.sats.length : Int)] 2))
          generalize V2.alloc (.cells #[.int .i64 (X.sats.length : Int)] 2) = V3 at *
          generalize V2.heap.size = gb3 at *
          refine wpAnyN_one_3 (by kernel_rfl) (by exact hShut) (fun K hK => ?_)
          go_simp
          refine hK.out _ _ (fun _ => (by exact below_new V3 _)) (fun hH hS2 => ?_)
          clear hK K hHeld hShut
          have hShut := hS2
          clear hS2
          have hHeld := hH rfl
          clear hH
          try simp only [Act.put, List.setIfInBounds_toArray, List.set_cons_zero, List.set_cons_succ]
          have hE0 : Elems .i64 (V3.alloc (.cells #[.int .i64 X.fin] 2)) (some ⟨V3.heap.size, 0, none⟩) [X.fin] := elems_new V3 _ [X.fin] (by simp only [List.mem_cons, List.not_mem_nil, or_false, forall_eq_or_imp, forall_eq]; exact i1.out)
          replace hE0 := Lib.hid hE0
          replace hE1 := Lib.hid (hE1.out.below (below_new V3 (.cells #[.int .i64 X.fin] 2)))
          replace hE2 := Lib.hid (hE2.out.below (below_new V3 (.cells #[.int .i64 X.fin] 2)))
          replace hE3 := Lib.hid (hE3.out.below (below_new V3 (.cells #[.int .i64 X.fin] 2)))
          replace HB := Lib.hid (HB.out.trans ((below_new V3 (.cells #[.int .i64 X.fin] 2)).mono HB.out.size))
          refine wpAnyN_strong (S' := fun wz => Below (V3.alloc (.cells #[.int .i64 X.fin] 2)).heap.size (V3.alloc (.cells #[.int .i64 X.fin] 2)) wz) (fun wz h => (below_new V3 (.cells #[.int .i64 X.fin] 2)).trans (h.mono (below_new V3 (.cells #[.int .i64 X.fin] 2)).size)) _ _ _ _ ?_
          clear hHeld
          have hHeld := Below.refl (V3.alloc (.cells #[.int .i64 X.fin] 2)).heap.size (V3.alloc (.cells #[.int .i64 X.fin] 2))
          generalize V3.alloc (.cells #[.int .i64 X.fin] 2) = V4 at *
          generalize V3.heap.size = gb0 at *
          refine wpAnyN_takeC_4 (v := .string N0) (by kernel_rfl) (by kernel_rfl) (by kernel_rfl) (by kernel_rfl) (fun _ _ _ h => h) ⟨by rfl, 52, #[.string ⟨#[119, 104, 97, 114, 102, 97, 103, 101]⟩, .slice (some ⟨gb0, 0, none⟩) 1 1], fun wz => by kernel_rfl, fun wz hz => hT0.out wz _ (hE0.out.below hz)⟩ hHeld hShut (fun hS2 => ?_)
          clear hShut
          have hShut := hS2
          clear hS2
          try simp only [Act.put, List.setIfInBounds_toArray, List.set_cons_zero, List.set_cons_succ]
          refine wpAnyN_takeC_13 (v := .string N1) (by kernel_rfl) (by kernel_rfl) (by kernel_rfl) (by kernel_rfl) (fun _ _ _ h => h) ⟨by rfl, 52, #[.string ⟨#[116, 114, 117, 99, 107, 115]⟩, .slice (some ⟨gb1, 0, none⟩) 2 2], fun wz => by kernel_rfl, fun wz hz => hT1.out wz _ (hE1.out.below hz)⟩ hHeld hShut (fun hS2 => ?_)
          clear hShut
          have hShut := hS2
          clear hS2
          try simp only [Act.put, List.setIfInBounds_toArray, List.set_cons_zero, List.set_cons_succ]
          refine wpAnyN_take_14 (v := ?v56n) ?_ ?_ ?_ ?_ ?_ ?hy56n ?_ ?_ ?_
          case hy56n =>
            refine Or.inl ⟨by rfl, ?_⟩
            intro w hSw
            try dsimp only at hSw
            go_simp
            try with_reducible rfl
          · kernel_rfl
          · kernel_rfl
          · kernel_rfl
          · kernel_rfl
          · exact fun _ _ _ h => h
          · exact hHeld
          · exact hShut
          clear hShut
          intro hShut
          try simp only [Act.put, List.setIfInBounds_toArray, List.set_cons_zero, List.set_cons_succ]
          refine wpAnyN_takeC_23 (v := .string N2) (by kernel_rfl) (by kernel_rfl) (by kernel_rfl) (by kernel_rfl) (fun _ _ _ h => h) ⟨by rfl, 52, #[.string ⟨#[98, 105, 107, 101, 115]⟩, .slice (some ⟨gb2, 0, none⟩) 2 2], fun wz => by kernel_rfl, fun wz hz => hT2.out wz _ (hE2.out.below hz)⟩ hHeld hShut (fun hS2 => ?_)
          clear hShut
          have hShut := hS2
          clear hS2
          try simp only [Act.put, List.setIfInBounds_toArray, List.set_cons_zero, List.set_cons_succ]
          refine wpAnyN_take_24 (v := ?v57n) ?_ ?_ ?_ ?_ ?_ ?hy57n ?_ ?_ ?_
          case hy57n =>
            refine Or.inl ⟨by rfl, ?_⟩
            intro w hSw
            try dsimp only at hSw
            go_simp
            try with_reducible rfl
          · kernel_rfl
          · kernel_rfl
          · kernel_rfl
          · kernel_rfl
          · exact fun _ _ _ h => h
          · exact hHeld
          · exact hShut
          clear hShut
          intro hShut
          try simp only [Act.put, List.setIfInBounds_toArray, List.set_cons_zero, List.set_cons_succ]
          refine wpAnyN_takeC_30 (v := .string N3) (by kernel_rfl) (by kernel_rfl) (by kernel_rfl) (by kernel_rfl) (fun _ _ _ h => h) ⟨by rfl, 52, #[.string ⟨#[115, 97, 116, 101, 108, 108, 105, 116, 101, 115]⟩, .slice (some ⟨gb3, 0, none⟩) 1 1], fun wz => by kernel_rfl, fun wz hz => hT3.out wz _ (hE3.out.below hz)⟩ hHeld hShut (fun hS2 => ?_)
          clear hShut
          have hShut := hS2
          clear hS2
          try simp only [Act.put, List.setIfInBounds_toArray, List.set_cons_zero, List.set_cons_succ]
          refine wpAnyN_take_31 (v := ?v58n) ?_ ?_ ?_ ?_ ?_ ?hy58n ?_ ?_ ?_
          case hy58n =>
            refine Or.inl ⟨by rfl, ?_⟩
            intro w hSw
            try dsimp only at hSw
            go_simp
            try with_reducible rfl
          · kernel_rfl
          · kernel_rfl
          · kernel_rfl
          · kernel_rfl
          · exact fun _ _ _ h => h
          · exact hHeld
          · exact hShut
          clear hShut
          intro hShut
          try simp only [Act.put, List.setIfInBounds_toArray, List.set_cons_zero, List.set_cons_succ]
          refine wpAnyN_take_32 (v := ?v59n) ?_ ?_ ?_ ?_ ?_ ?hy59n ?_ ?_ ?_
          case hy59n =>
            refine Or.inl ⟨by rfl, ?_⟩
            intro w hSw
            try dsimp only at hSw
            go_simp
            try with_reducible rfl
          · kernel_rfl
          · kernel_rfl
          · kernel_rfl
          · kernel_rfl
          · exact fun _ _ _ h => h
          · exact hHeld
          · exact hShut
          clear hShut
          intro hShut
          try simp only [Act.put, List.setIfInBounds_toArray, List.set_cons_zero, List.set_cons_succ]
          refine wpAnyN_done (by kernel_rfl) ?_ _
          go_wp2_with fail
          go_meet
          exact ⟨_, rfl, by rw [L_cat, L_cat, L_cat, hL0.out, hL1.out, hL2.out, hL3.out, e4.out], HB.out⟩
      · go_simp
        refine hK.out _ _ (fun _ => (by exact below_new V1 _)) (fun hH hS2 => ?_)
        clear hK K hHeld hShut
        have hShut := hS2
        clear hS2
        have hHeld := hH rfl
        clear hH
        try simp only [Act.put, List.setIfInBounds_toArray, List.set_cons_zero, List.set_cons_succ]
        have hE3 : Elems .i64 (V1.alloc (.cells #[.int .i64 (X.sats.length : Int)] 2)) (some ⟨V1.heap.size, 0, none⟩) [(X.sats.length : Int)] := elems_new V1 _ [(X.sats.length : Int)] (by simp only [List.mem_cons, List.not_mem_nil, or_false, forall_eq_or_imp, forall_eq]; exact i6.out)
        replace hE3 := Lib.hid hE3
        replace hE1 := Lib.hid (hE1.out.below (below_new V1 (.cells #[.int .i64 (X.sats.length : Int)] 2)))
        replace HB := Lib.hid (HB.out.trans ((below_new V1 (.cells #[.int .i64 (X.sats.length : Int)] 2)).mono HB.out.size))
        refine wpAnyN_strong (S' := fun wz => Below (V1.alloc (.cells #[.int .i64 (X.sats.length : Int)] 2)).heap.size (V1.alloc (.cells #[.int .i64 (X.sats.length : Int)] 2)) wz) (fun wz h => (below_new V1 (.cells #[.int .i64 (X.sats.length : Int)] 2)).trans (h.mono (below_new V1 (.cells #[.int .i64 (X.sats.length : Int)] 2)).size)) _ _ _ _ ?_
        clear hHeld
        have hHeld := Below.refl (V1.alloc (.cells #[.int .i64 (X.sats.length : Int)] 2)).heap.size (V1.alloc (.cells #[.int .i64 (X.sats.length : Int)] 2))
        generalize V1.alloc (.cells #[.int .i64 (X.sats.length : Int)] 2) = V2 at *
        generalize V1.heap.size = gb3 at *
        refine wpAnyN_of_3_22 (by kernel_rfl) (by exact hShut) (fun K hK => ?_) (fun K hK => ?_)
        · go_simp
          refine hK.out _ _ (fun _ => (by exact below_new V2 _)) (fun hH hS2 => ?_)
          clear hK K hHeld hShut
          have hShut := hS2
          clear hS2
          have hHeld := hH rfl
          clear hH
          try simp only [Act.put, List.setIfInBounds_toArray, List.set_cons_zero, List.set_cons_succ]
          have hE0 : Elems .i64 (V2.alloc (.cells #[.int .i64 X.fin] 2)) (some ⟨V2.heap.size, 0, none⟩) [X.fin] := elems_new V2 _ [X.fin] (by simp only [List.mem_cons, List.not_mem_nil, or_false, forall_eq_or_imp, forall_eq]; exact i1.out)
          replace hE0 := Lib.hid hE0
          replace hE1 := Lib.hid (hE1.out.below (below_new V2 (.cells #[.int .i64 X.fin] 2)))
          replace hE3 := Lib.hid (hE3.out.below (below_new V2 (.cells #[.int .i64 X.fin] 2)))
          replace HB := Lib.hid (HB.out.trans ((below_new V2 (.cells #[.int .i64 X.fin] 2)).mono HB.out.size))
          refine wpAnyN_strong (S' := fun wz => Below (V2.alloc (.cells #[.int .i64 X.fin] 2)).heap.size (V2.alloc (.cells #[.int .i64 X.fin] 2)) wz) (fun wz h => (below_new V2 (.cells #[.int .i64 X.fin] 2)).trans (h.mono (below_new V2 (.cells #[.int .i64 X.fin] 2)).size)) _ _ _ _ ?_
          clear hHeld
          have hHeld := Below.refl (V2.alloc (.cells #[.int .i64 X.fin] 2)).heap.size (V2.alloc (.cells #[.int .i64 X.fin] 2))
          generalize V2.alloc (.cells #[.int .i64 X.fin] 2) = V3 at *
          generalize V2.heap.size = gb0 at *
          refine wpAnyN_takeC_4 (v := .string N0) (by kernel_rfl) (by kernel_rfl) (by kernel_rfl) (by kernel_rfl) (fun _ _ _ h => h) ⟨by rfl, 52, #[.string ⟨#[119, 104, 97, 114, 102, 97, 103, 101]⟩, .slice (some ⟨gb0, 0, none⟩) 1 1], fun wz => by kernel_rfl, fun wz hz => hT0.out wz _ (hE0.out.below hz)⟩ hHeld hShut (fun hS2 => ?_)
          clear hShut
          have hShut := hS2
          clear hS2
          try simp only [Act.put, List.setIfInBounds_toArray, List.set_cons_zero, List.set_cons_succ]
          refine wpAnyN_takeC_13 (v := .string N1) (by kernel_rfl) (by kernel_rfl) (by kernel_rfl) (by kernel_rfl) (fun _ _ _ h => h) ⟨by rfl, 52, #[.string ⟨#[116, 114, 117, 99, 107, 115]⟩, .slice (some ⟨gb1, 0, none⟩) 2 2], fun wz => by kernel_rfl, fun wz hz => hT1.out wz _ (hE1.out.below hz)⟩ hHeld hShut (fun hS2 => ?_)
          clear hShut
          have hShut := hS2
          clear hS2
          try simp only [Act.put, List.setIfInBounds_toArray, List.set_cons_zero, List.set_cons_succ]
          refine wpAnyN_take_14 (v := ?v60n) ?_ ?_ ?_ ?_ ?_ ?hy60n ?_ ?_ ?_
          case hy60n =>
            refine Or.inl ⟨by rfl, ?_⟩
            intro w hSw
            try dsimp only at hSw
            go_simp
            try with_reducible rfl
          · kernel_rfl
          · kernel_rfl
          · kernel_rfl
          · kernel_rfl
          · exact fun _ _ _ h => h
          · exact hHeld
          · exact hShut
          clear hShut
          intro hShut
          try simp only [Act.put, List.setIfInBounds_toArray, List.set_cons_zero, List.set_cons_succ]
          refine wpAnyN_one_22 (by kernel_rfl) (by exact hShut) (fun K hK => ?_)
          go_simp
          refine hK.out _ _ (fun _ => (by exact below_new V3 _)) (fun hH hS2 => ?_)
          clear hK K hHeld hShut
          have hShut := hS2
          clear hS2
          have hHeld := hH rfl
          clear hH
          try simp only [Act.put, List.setIfInBounds_toArray, List.set_cons_zero, List.set_cons_succ]
          have hE2 : Elems .i64 (V3.alloc (.cells #[.int .i64 X.bm, .int .i64 X.br] 2)) (some ⟨V3.heap.size, 0, none⟩) [X.bm, X.br] := elems_new V3 _ [X.bm, X.br] (by simp only [List.mem_cons, List.not_mem_nil, or_false, forall_eq_or_imp, forall_eq]; exact ⟨i4.out, i5.out⟩)
          replace hE2 := Lib.hid hE2
          replace hE0 := Lib.hid (hE0.out.below (below_new V3 (.cells #[.int .i64 X.bm, .int .i64 X.br] 2)))
          replace hE1 := Lib.hid (hE1.out.below (below_new V3 (.cells #[.int .i64 X.bm, .int .i64 X.br] 2)))
          replace hE3 := Lib.hid (hE3.out.below (below_new V3 (.cells #[.int .i64 X.bm, .int .i64 X.br] 2)))
          replace HB := Lib.hid (HB.out.trans ((below_new V3 (.cells #[.int .i64 X.bm, .int .i64 X.br] 2)).mono HB.out.size))
          refine wpAnyN_strong (S' := fun wz => Below (V3.alloc (.cells #[.int .i64 X.bm, .int .i64 X.br] 2)).heap.size (V3.alloc (.cells #[.int .i64 X.bm, .int .i64 X.br] 2)) wz) (fun wz h => (below_new V3 (.cells #[.int .i64 X.bm, .int .i64 X.br] 2)).trans (h.mono (below_new V3 (.cells #[.int .i64 X.bm, .int .i64 X.br] 2)).size)) _ _ _ _ ?_
          clear hHeld
          have hHeld := Below.refl (V3.alloc (.cells #[.int .i64 X.bm, .int .i64 X.br] 2)).heap.size (V3.alloc (.cells #[.int .i64 X.bm, .int .i64 X.br] 2))
          generalize V3.alloc (.cells #[.int .i64 X.bm, .int .i64 X.br] 2) = V4 at *
          generalize V3.heap.size = gb2 at *
          refine wpAnyN_takeC_23 (v := .string N2) (by kernel_rfl) (by kernel_rfl) (by kernel_rfl) (by kernel_rfl) (fun _ _ _ h => h) ⟨by rfl, 52, #[.string ⟨#[98, 105, 107, 101, 115]⟩, .slice (some ⟨gb2, 0, none⟩) 2 2], fun wz => by kernel_rfl, fun wz hz => hT2.out wz _ (hE2.out.below hz)⟩ hHeld hShut (fun hS2 => ?_)
          clear hShut
          have hShut := hS2
          clear hS2
          try simp only [Act.put, List.setIfInBounds_toArray, List.set_cons_zero, List.set_cons_succ]
          refine wpAnyN_take_24 (v := ?v61n) ?_ ?_ ?_ ?_ ?_ ?hy61n ?_ ?_ ?_
          case hy61n =>
            refine Or.inl ⟨by rfl, ?_⟩
            intro w hSw
            try dsimp only at hSw
            go_simp
            try with_reducible rfl
          · kernel_rfl
          · kernel_rfl
          · kernel_rfl
          · kernel_rfl
          · exact fun _ _ _ h => h
          · exact hHeld
          · exact hShut
          clear hShut
          intro hShut
          try simp only [Act.put, List.setIfInBounds_toArray, List.set_cons_zero, List.set_cons_succ]
          refine wpAnyN_takeC_30 (v := .string N3) (by kernel_rfl) (by kernel_rfl) (by kernel_rfl) (by kernel_rfl) (fun _ _ _ h => h) ⟨by rfl, 52, #[.string ⟨#[115, 97, 116, 101, 108, 108, 105, 116, 101, 115]⟩, .slice (some ⟨gb3, 0, none⟩) 1 1], fun wz => by kernel_rfl, fun wz hz => hT3.out wz _ (hE3.out.below hz)⟩ hHeld hShut (fun hS2 => ?_)
          clear hShut
          have hShut := hS2
          clear hS2
          try simp only [Act.put, List.setIfInBounds_toArray, List.set_cons_zero, List.set_cons_succ]
          refine wpAnyN_take_31 (v := ?v62n) ?_ ?_ ?_ ?_ ?_ ?hy62n ?_ ?_ ?_
          case hy62n =>
            refine Or.inl ⟨by rfl, ?_⟩
            intro w hSw
            try dsimp only at hSw
            go_simp
            try with_reducible rfl
          · kernel_rfl
          · kernel_rfl
          · kernel_rfl
          · kernel_rfl
          · exact fun _ _ _ h => h
          · exact hHeld
          · exact hShut
          clear hShut
          intro hShut
          try simp only [Act.put, List.setIfInBounds_toArray, List.set_cons_zero, List.set_cons_succ]
          refine wpAnyN_take_32 (v := ?v63n) ?_ ?_ ?_ ?_ ?_ ?hy63n ?_ ?_ ?_
          case hy63n =>
            refine Or.inl ⟨by rfl, ?_⟩
            intro w hSw
            try dsimp only at hSw
            go_simp
            try with_reducible rfl
          · kernel_rfl
          · kernel_rfl
          · kernel_rfl
          · kernel_rfl
          · exact fun _ _ _ h => h
          · exact hHeld
          · exact hShut
          clear hShut
          intro hShut
          try simp only [Act.put, List.setIfInBounds_toArray, List.set_cons_zero, List.set_cons_succ]
          refine wpAnyN_done (by kernel_rfl) ?_ _
          go_wp2_with fail
          go_meet
          exact ⟨_, rfl, by rw [L_cat, L_cat, L_cat, hL0.out, hL1.out, hL2.out, hL3.out, e4.out], HB.out⟩
        · go_simp
          refine hK.out _ _ (fun _ => (by exact below_new V2 _)) (fun hH hS2 => ?_)
          clear hK K hHeld hShut
          have hShut := hS2
          clear hS2
          have hHeld := hH rfl
          clear hH
          try simp only [Act.put, List.setIfInBounds_toArray, List.set_cons_zero, List.set_cons_succ]
          have hE2 : Elems .i64 (V2.alloc (.cells #[.int .i64 X.bm, .int .i64 X.br] 2)) (some ⟨V2.heap.size, 0, none⟩) [X.bm, X.br] := elems_new V2 _ [X.bm, X.br] (by simp only [List.mem_cons, List.not_mem_nil, or_false, forall_eq_or_imp, forall_eq]; exact ⟨i4.out, i5.out⟩)
          replace hE2 := Lib.hid hE2
          replace hE1 := Lib.hid (hE1.out.below (below_new V2 (.cells #[.int .i64 X.bm, .int .i64 X.br] 2)))
          replace hE3 := Lib.hid (hE3.out.below (below_new V2 (.cells #[.int .i64 X.bm, .int .i64 X.br] 2)))
          replace HB := Lib.hid (HB.out.trans ((below_new V2 (.cells #[.int .i64 X.bm, .int .i64 X.br] 2)).mono HB.out.size))
          refine wpAnyN_strong (S' := fun wz => Below (V2.alloc (.cells #[.int .i64 X.bm, .int .i64 X.br] 2)).heap.size (V2.alloc (.cells #[.int .i64 X.bm, .int .i64 X.br] 2)) wz) (fun wz h => (below_new V2 (.cells #[.int .i64 X.bm, .int .i64 X.br] 2)).trans (h.mono (below_new V2 (.cells #[.int .i64 X.bm, .int .i64 X.br] 2)).size)) _ _ _ _ ?_
          clear hHeld
          have hHeld := Below.refl (V2.alloc (.cells #[.int .i64 X.bm, .int .i64 X.br] 2)).heap.size (V2.alloc (.cells #[.int .i64 X.bm, .int .i64 X.br] 2))
          generalize V2.alloc (.cells #[.int .i64 X.bm, .int .i64 X.br] 2) = V3 at *
          generalize V2.heap.size = gb2 at *
          refine wpAnyN_one_3 (by kernel_rfl) (by exact hShut) (fun K hK => ?_)
          go_simp
          refine hK.out _ _ (fun _ => (by exact below_new V3 _)) (fun hH hS2 => ?_)
          clear hK K hHeld hShut
          have hShut := hS2
          clear hS2
          have hHeld := hH rfl
          clear hH
          try simp only [Act.put, List.setIfInBounds_toArray, List.set_cons_zero, List.set_cons_succ]
          have hE0 : Elems .i64 (V3.alloc (.cells #[.int .i64 X.fin] 2)) (some ⟨V3.heap.size, 0, none⟩) [X.fin] := elems_new V3 _ [X.fin] (by simp only [List.mem_cons, List.not_mem_nil, or_false, forall_eq_or_imp, forall_eq]; exact i1.out)
          replace hE0 := Lib.hid hE0
          replace hE1 := Lib.hid (hE1.out.below (below_new V3 (.cells #[.int .i64 X.fin] 2)))
          replace hE2 := Lib.hid (hE2.out.below (below_new V3 (.cells #[.int .i64 X.fin] 2)))
          replace hE3 := Lib.hid (hE3.out.below (below_new V3 (.cells #[.int .i64 X.fin] 2)))
          replace HB := Lib.hid (HB.out.trans ((below_new V3 (.cells #[.int .i64 X.fin] 2)).mono HB.out.size))
          refine wpAnyN_strong (S' := fun wz => Below (V3.alloc (.cells #[.int .i64 X.fin] 2)).heap.size (V3.alloc (.cells #[.int .i64 X.fin] 2)) wz) (fun wz h => (below_new V3 (.cells #[.int .i64 X.fin] 2)).trans (h.mono (below_new V3 (.cells #[.int .i64 X.fin] 2)).size)) _ _ _ _ ?_
          clear hHeld
          have hHeld := Below.refl (V3.alloc (.cells #[.int .i64 X.fin] 2)).heap.size (V3.alloc (.cells #[.int .i64 X.fin] 2))
          generalize V3.alloc (.cells #[.int .i64 X.fin] 2) = V4 at *
          generalize V3.heap.size = gb0 at *
          refine wpAnyN_takeC_4 (v := .string N0) (by kernel_rfl) (by kernel_rfl) (by kernel_rfl) (by kernel_rfl) (fun _ _ _ h => h) ⟨by rfl, 52, #[.string ⟨#[119, 104, 97, 114, 102, 97, 103, 101]⟩, .slice (some ⟨gb0, 0, none⟩) 1 1], fun wz => by kernel_rfl, fun wz hz => hT0.out wz _ (hE0.out.below hz)⟩ hHeld hShut (fun hS2 => ?_)
          clear hShut
          have hShut := hS2
          clear hS2
          try simp only [Act.put, List.setIfInBounds_toArray, List.set_cons_zero, List.set_cons_succ]
          refine wpAnyN_takeC_13 (v := .string N1) (by kernel_rfl) (by kernel_rfl) (by kernel_rfl) (by kernel_rfl) (fun _ _ _ h => h) ⟨by rfl, 52, #[.string ⟨#[116, 114, 117, 99, 107, 115]⟩, .slice (some ⟨gb1, 0, none⟩) 2 2], fun wz => by kernel_rfl, fun wz hz => hT1.out wz _ (hE1.out.below hz)⟩ hHeld hShut (fun hS2 => ?_)
          clear hShut
          have hShut := hS2
          clear hS2
          try simp only [Act.put, List.setIfInBounds_toArray, List.set_cons_zero, List.set_cons_succ]
          refine wpAnyN_take_14 (v := ?v64n) ?_ ?_ ?_ ?_ ?_ ?hy64n ?_ ?_ ?_
          case hy64n =>
            refine Or.inl ⟨by rfl, ?_⟩
            intro w hSw
            try dsimp only at hSw
            go_simp
            try with_reducible rfl
          · kernel_rfl
          · kernel_rfl
          · kernel_rfl
          · kernel_rfl
          · exact fun _ _ _ h => h
          · exact hHeld
          · exact hShut
          clear hShut
          intro hShut
          try simp only [Act.put, List.setIfInBounds_toArray, List.set_cons_zero, List.set_cons_succ]
          refine wpAnyN_takeC_23 (v := .string N2) (by kernel_rfl) (by kernel_rfl) (by kernel_rfl) (by kernel_rfl) (fun _ _ _ h => h) ⟨by rfl, 52, #[.string ⟨#[98, 105, 107, 101, 115]⟩, .slice (some ⟨gb2, 0, none⟩) 2 2], fun wz => by kernel_rfl, fun wz hz => hT2.out wz _ (hE2.out.below hz)⟩ hHeld hShut (fun hS2 => ?_)
          clear hShut
          have hShut := hS2
          clear hS2
          try simp only [Act.put, List.setIfInBounds_toArray, List.set_cons_zero, List.set_cons_succ]
          refine wpAnyN_take_24 (v := ?v65n) ?_ ?_ ?_ ?_ ?_ ?hy65n ?_ ?_ ?_
          case hy65n =>
            refine Or.inl ⟨by rfl, ?_⟩
            intro w hSw
            try dsimp only at hSw
            go_simp
            try with_reducible rfl
          · kernel_rfl
          · kernel_rfl
          · kernel_rfl
          · kernel_rfl
          · exact fun _ _ _ h => h
          · exact hHeld
          · exact hShut
          clear hShut
          intro hShut
          try simp only [Act.put, List.setIfInBounds_toArray, List.set_cons_zero, List.set_cons_succ]
          refine wpAnyN_takeC_30 (v := .string N3) (by kernel_rfl) (by kernel_rfl) (by kernel_rfl) (by kernel_rfl) (fun _ _ _ h => h) ⟨by rfl, 52, #[.string ⟨#[115, 97, 116, 101, 108, 108, 105, 116, 101, 115]⟩, .slice (some ⟨gb3, 0, none⟩) 1 1], fun wz => by kernel_rfl, fun wz hz => hT3.out wz _ (hE3.out.below hz)⟩ hHeld hShut (fun hS2 => ?_)
          clear hShut
          have hShut := hS2
          clear hS2
          try simp only [Act.put, List.setIfInBounds_toArray, List.set_cons_zero, List.set_cons_succ]
          refine wpAnyN_take_31 (v := ?v66n) ?_ ?_ ?_ ?_ ?_ ?hy66n ?_ ?_ ?_
          case hy66n =>
            refine Or.inl ⟨by rfl, ?_⟩
            intro w hSw
            try dsimp only at hSw
            go_simp
            try with_reducible rfl
          · kernel_rfl
          · kernel_rfl
          · kernel_rfl
          · kernel_rfl
          · exact fun _ _ _ h => h
          · exact hHeld
          · exact hShut
          clear hShut
          intro hShut
          try simp only [Act.put, List.setIfInBounds_toArray, List.set_cons_zero, List.set_cons_succ]
          refine wpAnyN_take_32 (v := ?v67n) ?_ ?_ ?_ ?_ ?_ ?hy67n ?_ ?_ ?_
          case hy67n =>
            refine Or.inl ⟨by rfl, ?_⟩
            intro w hSw
            try dsimp only at hSw
            go_simp
            try with_reducible rfl
          · kernel_rfl
          · kernel_rfl
          · kernel_rfl
          · kernel_rfl
          · exact fun _ _ _ h => h
          · exact hHeld
          · exact hShut
          clear hShut
          intro hShut
          try simp only [Act.put, List.setIfInBounds_toArray, List.set_cons_zero, List.set_cons_succ]
          refine wpAnyN_done (by kernel_rfl) ?_ _
          go_wp2_with fail
          go_meet
          exact ⟨_, rfl, by rw [L_cat, L_cat, L_cat, hL0.out, hL1.out, hL2.out, hL3.out, e4.out], HB.out⟩
    · go_simp
      refine hK.out _ _ (fun _ => (by exact below_new V _)) (fun hH hS2 => ?_)
      clear hK K hHeld hShut
      have hShut := hS2
      clear hS2
      have hHeld := hH rfl
      clear hH
      try simp only [Act.put, List.setIfInBounds_toArray, List.set_cons_zero, List.set_cons_succ]
      have hE2 : Elems .i64 (V.alloc (.cells #[.int .i64 X.bm, .int .i64 X.br] 2)) (some ⟨V.heap.size, 0, none⟩) [X.bm, X.br] := elems_new V _ [X.bm, X.br] (by simp only [List.mem_cons, List.not_mem_nil, or_false, forall_eq_or_imp, forall_eq]; exact ⟨i4.out, i5.out⟩)
      replace hE2 := Lib.hid hE2
      replace HB := Lib.hid (HB.out.trans ((below_new V (.cells #[.int .i64 X.bm, .int .i64 X.br] 2)).mono HB.out.size))
      refine wpAnyN_strong (S' := fun wz => Below (V.alloc (.cells #[.int .i64 X.bm, .int .i64 X.br] 2)).heap.size (V.alloc (.cells #[.int .i64 X.bm, .int .i64 X.br] 2)) wz) (fun wz h => (below_new V (.cells #[.int .i64 X.bm, .int .i64 X.br] 2)).trans (h.mono (below_new V (.cells #[.int .i64 X.bm, .int .i64 X.br] 2)).size)) _ _ _ _ ?_
      clear hHeld
      have hHeld := Below.refl (V.alloc (.cells #[.int .i64 X.bm, .int .i64 X.br] 2)).heap.size (V.alloc (.cells #[.int .i64 X.bm, .int .i64 X.br] 2))
      generalize V.alloc (.cells #[.int .i64 X.bm, .int .i64 X.br] 2) = V1 at *
      generalize V.heap.size = gb2 at *
      refine wpAnyN_of_3_12_29 (by kernel_rfl) (by exact hShut) (fun K hK => ?_) (fun K hK => ?_) (fun K hK => ?_)
      · go_simp
        refine hK.out _ _ (fun _ => (by exact below_new V1 _)) (fun hH hS2 => ?_)
        clear hK K hHeld hShut
        have hShut := hS2
        clear hS2
        have hHeld := hH rfl
        clear hH
        try simp only [Act.put, List.setIfInBounds_toArray, List.set_cons_zero, List.set_cons_succ]
        have hE0 : Elems .i64 (V1.alloc (.cells #[.int .i64 X.fin] 2)) (some ⟨V1.heap.size, 0, none⟩) [X.fin] := elems_new V1 _ [X.fin] (by simp only [List.mem_cons, List.not_mem_nil, or_false, forall_eq_or_imp, forall_eq]; exact i1.out)
        replace hE0 := Lib.hid hE0
        replace hE2 := Lib.hid (hE2.out.below (below_new V1 (.cells #[.int .i64 X.fin] 2)))
        replace HB := Lib.hid (HB.out.trans ((below_new V1 (.cells #[.int .i64 X.fin] 2)).mono HB.out.size))
        refine wpAnyN_strong (S' := fun wz => Below (V1.alloc (.cells #[.int .i64 X.fin] 2)).heap.size (V1.alloc (.cells #[.int .i64 X.fin] 2)) wz) (fun wz h => (below_new V1 (.cells #[.int .i64 X.fin] 2)).trans (h.mono (below_new V1 (.cells #[.int .i64 X.fin] 2)).size)) _ _ _ _ ?_
        clear hHeld
        have hHeld := Below.refl (V1.alloc (.cells #[.int .i64 X.fin] 2)).heap.size (V1.alloc (.cells #[.int .i64 X.fin] 2))
        generalize V1.alloc (.cells #[.int .i64 X.fin] 2) = V2 at *
        generalize V1.heap.size = gb0 at *
        refine wpAnyN_takeC_4 (v := .string N0) (by kernel_rfl) (by kernel_rfl) (by kernel_rfl) (by kernel_rfl) (fun _ _ _ h => h) ⟨by rfl, 52, #[.string ⟨#[119, 104, 97, 114, 102, 97, 103, 101]⟩, .slice (some ⟨gb0, 0, none⟩) 1 1], fun wz => by kernel_rfl, fun wz hz => hT0.out wz _ (hE0.out.below hz)⟩ hHeld hShut (fun hS2 => ?_)
        clear hShut
        have hShut := hS2
        clear hS2
        try simp only [Act.put, List.setIfInBounds_toArray, List.set_cons_zero, List.set_cons_succ]
        refine wpAnyN_of_12_29 (by kernel_rfl) (by exact hShut) (fun K hK => ?_) (fun K hK => ?_)
        · go_simp
          refine hK.out _ _ (fun _ => (by exact below_new V2 _)) (fun hH hS2 => ?_)
          clear hK K hHeld hShut
          have hShut := hS2
          clear hS2
          have hHeld := hH rfl
          clear hH
          try simp only [Act.put, List.setIfInBounds_toArray, List.set_cons_zero, List.set_cons_succ]
          have hE1 : Elems .i64 (V2.alloc (.cells #[.int .i64 X.tm, .int .i64 X.tr] 2)) (some ⟨V2.heap.size, 0, none⟩) [X.tm, X.tr] := elems_new V2 _ [X.tm, X.tr] (by simp only [List.mem_cons, List.not_mem_nil, or_false, forall_eq_or_imp, forall_eq]; exact ⟨i2.out, i3.out⟩)
          replace hE1 := Lib.hid hE1
          replace hE0 := Lib.hid (hE0.out.below (below_new V2 (.cells #[.int .i64 X.tm, .int .i64 X.tr] 2)))
          replace hE2 := Lib.hid (hE2.out.below (below_new V2 (.cells #[.int .i64 X.tm, .int .i64 X.tr] 2)))
          replace HB := Lib.hid (HB.out.trans ((below_new V2 (.cells #[.int .i64 X.tm, .int .i64 X.tr] 2)).mono HB.out.size))
          refine wpAnyN_strong (S' := fun wz => Below (V2.alloc (.cells #[.int .i64 X.tm, .int .i64 X.tr] 2)).heap.size (V2.alloc (.cells #[.int .i64 X.tm, .int .i64 X.tr] 2)) wz) (fun wz h => (below_new V2 (.cells #[.int .i64 X.tm, .int .i64 X.tr] 2)).trans (h.mono (below_new V2 (.cells #[.int .i64 X.tm, .int .i64 X.tr] 2)).size)) _ _ _ _ ?_
          clear hHeld
          have hHeld := Below.refl (V2.alloc (.cells #[.int .i64 X.tm, .int .i64 X.tr] 2)).heap.size (V2.alloc (.cells #[.int .i64 X.tm, .int .i64 X.tr] 2))
          generalize V2.alloc (.cells #[.int .i64 X.tm, .int .i64 X.tr] 2) = V3 at *
          generalize V2.heap.size = gb1 at *
          refine wpAnyN_takeC_13 (v := .string N1) (by kernel_rfl) (by kernel_rfl) (by kernel_rfl) (by kernel_rfl) (fun _ _ _ h => h) ⟨by rfl, 52, #[.string ⟨#[116, 114, 117, 99, 107, 115]⟩, .slice (some ⟨gb1, 0, none⟩) 2 2], fun wz => by kernel_rfl, fun wz hz => hT1.out wz _ (hE1.out.below hz)⟩ hHeld hShut (fun hS2 => ?_)
          clear hShut
          have hShut := hS2
          clear hS2
          try simp only [Act.put, List.setIfInBounds_toArray, List.set_cons_zero, List.set_cons_succ]
          refine wpAnyN_take_14 (v := ?v68n) ?_ ?_ ?_ ?_ ?_ ?hy68n ?_ ?_ ?_
          case hy68n =>
            refine Or.inl ⟨by rfl, ?_⟩
            intro w hSw
            try dsimp only at hSw
            go_simp
            try with_reducible rfl
          · kernel_rfl
          · kernel_rfl
          · kernel_rfl
          · kernel_rfl
          · exact fun _ _ _ h => h
          · exact hHeld
          · exact hShut
          clear hShut
          intro hShut
          try simp only [Act.put, List.setIfInBounds_toArray, List.set_cons_zero, List.set_cons_succ]
          refine wpAnyN_takeC_23 (v := .string N2) (by kernel_rfl) (by kernel_rfl) (by kernel_rfl) (by kernel_rfl) (fun _ _ _ h => h) ⟨by rfl, 52, #[.string ⟨#[98, 105, 107, 101, 115]⟩, .slice (some ⟨gb2, 0, none⟩) 2 2], fun wz => by kernel_rfl, fun wz hz => hT2.out wz _ (hE2.out.below hz)⟩ hHeld hShut (fun hS2 => ?_)
          clear hShut
          have hShut := hS2
          clear hS2
          try simp only [Act.put, List.setIfInBounds_toArray, List.set_cons_zero, List.set_cons_succ]
          refine wpAnyN_take_24 (v := ?v69n) ?_ ?_ ?_ ?_ ?_ ?hy69n ?_ ?_ ?_
          case hy69n =>
            refine Or.inl ⟨by rfl, ?_⟩
            intro w hSw
            try dsimp only at hSw
            go_simp
            try with_reducible rfl
          · kernel_rfl
          · kernel_rfl
          · kernel_rfl
          · kernel_rfl
          · exact fun _ _ _ h => h
          · exact hHeld
          · exact hShut
          clear hShut
          intro hShut
          try simp only [Act.put, List.setIfInBounds_toArray, List.set_cons_zero, List.set_cons_succ]
          refine wpAnyN_one_29 (by kernel_rfl) (by exact hShut) (fun K hK => ?_)
          go_simp
          refine hK.out _ _ (fun _ => (by exact below_new V3 _)) (fun hH hS2 => ?_)
          clear hK K hHeld hShut
          have hShut := hS2
          clear hS2
          have hHeld := hH rfl
          clear hH
          try simp only [Act.put, List.setIfInBounds_toArray, List.set_cons_zero, List.set_cons_succ]
          have hE3 : Elems .i64 (V3.alloc (.cells #[.int .i64 (X.sats.length : Int)] 2)) (some ⟨V3.heap.size, 0, none⟩) [(X.sats.length : Int)] := elems_new V3 _ [(X.sats.length : Int)] (by simp only [List.mem_cons, List.not_mem_nil, or_false, forall_eq_or_imp, forall_eq]; exact i6.out)
          replace hE3 := Lib.hid hE3
          replace hE0 := Lib.hid (hE0.out.below (below_new V3 (.cells #[.int .i64 (X.sats.length : Int)] 2)))
          replace hE1 := Lib.hid (hE1.out.below (below_new V3 (.cells #[.int .i64 (X.sats.length : Int)] 2)))
          replace hE2 := Lib.hid (hE2.out.below (below_new V3 (.cells #[.int .i64 (X.sats.length : Int)] 2)))
          replace HB := Lib.hid (HB.out.trans ((below_new V3 (.cells #[.int .i64 (X.sats.length : Int)] 2)).mono HB.out.size))
          refine wpAnyN_strong (S' := fun wz => Below (V3.alloc (.cells #[.int .i64 (X.sats.length : Int)] 2)).heap.size (V3.alloc (.cells #[.int .i64 (X.sats.length : Int)] 2)) wz) (fun wz h => (below_new V3 (.cells #[.int .i64 (X.sats.length : Int)] 2)).trans (h.mono (below_new V3 (.cells #[.int .i64 (X.sats.length : Int)] 2)).size)) _ _ _ _ ?_
          clear hHeld
          have hHeld := Below.refl (V3.alloc (.cells #[.int .i64 (X.sats.length : Int)] 2)).heap.size (V3.alloc (.cells #[.int .i64 (X.sats.length : Int)] 2))
          generalize V3.alloc (.cells #[.int .i64 (X.sats.length : Int)] 2) = V4 at *
          generalize V3.heap.size = gb3 at *
          refine wpAnyN_takeC_30 (v := .string N3) (by kernel_rfl) (by kernel_rfl) (by kernel_rfl) (by kernel_rfl) (fun _ _ _ h => h) ⟨by rfl, 52, #[.string ⟨#[115, 97, 116, 101, 108, 108, 105, 116, 101, 115]⟩, .slice (some ⟨gb3, 0, none⟩) 1 1], fun wz => by kernel_rfl, fun wz hz => hT3.out wz _ (hE3.out.below hz)⟩ hHeld hShut (fun hS2 => ?_)
          clear hShut
          have hShut := hS2
          clear hS2
          try simp only [Act.put, List.setIfInBounds_toArray, List.set_cons_zero, List.set_cons_succ]
          refine wpAnyN_take_31 (v := ?v70n) ?_ ?_ ?_ ?_ ?_ ?hy70n ?_ ?_ ?_
          case hy70n =>
            refine Or.inl ⟨by rfl, ?_⟩
            intro w hSw
            try dsimp only at hSw
            go_simp
            try with_reducible rfl
          · kernel_rfl
          · kernel_rfl
          · kernel_rfl
          · kernel_rfl
          · exact fun _ _ _ h => h
          · exact hHeld
          · exact hShut
          clear hShut
          intro hShut
          try simp only [Act.put, List.setIfInBounds_toArray, List.set_cons_zero, List.set_cons_succ]
          refine wpAnyN_take_32 (v := ?v71n) ?_ ?_ ?_ ?_ ?_ ?hy71n ?_ ?_ ?_
          case hy71n =>
            refine Or.inl ⟨by rfl, ?_⟩
            intro w hSw
            try dsimp only at hSw
            go_simp
            try with_reducible rfl
          · kernel_rfl
          · kernel_rfl
          · kernel_rfl
          · kernel_rfl
          · exact fun _ _ _ h => h
          · exact hHeld
          · exact hShut
          clear hShut
          intro hShut
          try simp only [Act.put, List.setIfInBounds_toArray, List.set_cons_zero, List.set_cons_succ]
          refine wpAnyN_done (by kernel_rfl) ?_ _
          go_wp2_with fail
          go_meet
          exact ⟨_, rfl, by rw [L_cat, L_cat, L_cat, hL0.out, hL1.out, hL2.out, hL3.out, e4.out], HB.out⟩
        · go_simp
          refine hK.out _ _ (fun _ => (by exact below_new V2 _)) (fun hH hS2 => ?_)
          clear hK K hHeld hShut
          have hShut := hS2
          clear hS2
          have hHeld := hH rfl
          clear hH
          try simp only [Act.put, List.setIfInBounds_toArray, List.set_cons_zero, List.set_cons_succ]
          have hE3 : Elems .i64 (V2.alloc (.cells #[.int .i64 (X.sats.length : Int)] 2)) (some ⟨V2.heap.size, 0, none⟩) [(X.sats.length : Int)] := elems_new V2 _ [(X.sats.length : Int)] (by simp only [List.mem_cons, List.not_mem_nil, or_false, forall_eq_or_imp, forall_eq]; exact i6.out)
          replace hE3 := Lib.hid hE3
          replace hE0 := Lib.hid (hE0.out.below (below_new V2 (.cells #[.int .i64 (X.sats.length : Int)] 2)))
          replace hE2 := Lib.hid (hE2.out.below (below_new V2 (.cells #[.int .i64 (X.sats.length : Int)] 2)))
          replace HB := Lib.hid (HB.out.trans ((below_new V2 (.cells #[.int .i64 (X.sats.length : Int)] 2)).mono HB.out.size))
          refine wpAnyN_strong (S' := fun wz => Below (V2.alloc (.cells #[.int .i64 (X.sats.length : Int)] 2)).heap.size (V2.alloc (.cells #[.int .i64 (X.sats.length : Int)] 2)) wz) (fun wz h => (below_new V2 (.cells #[.int .i64 (X.sats.length : Int)] 2)).trans (h.mono (below_new V2 (.cells #[.int .i64 (X.sats.length : Int)] 2)).size)) _ _ _ _ ?_
          clear hHeld
          have hHeld := Below.refl (V2.alloc (.cells #[.int .i64 (X.sats.length : Int)] 2)).heap.size (V2.alloc (.cells #[.int .i64 (X.sats.length : Int)] 2))
          generalize V2.alloc (.cells #[.int .i64 (X.sats.length : Int)] 2) = V3 at *
          generalize V2.heap.size = gb3 at *
          refine wpAnyN_one_12 (by kernel_rfl) (by exact hShut) (fun K hK => ?_)
          go_simp
          refine hK.out _ _ (fun _ => (by exact below_new V3 _)) (fun hH hS2 => ?_)
          clear hK K hHeld hShut
          have hShut := hS2
          clear hS2
          have hHeld := hH rfl
          clear hH
          try simp only [Act.put, List.setIfInBounds_toArray, List.set_cons_zero, List.set_cons_succ]
          have hE1 : Elems .i64 (V3.alloc (.cells #[.int .i64 X.tm, .int .i64 X.tr] 2)) (some ⟨V3.heap.size, 0, none⟩) [X.tm, X.tr] := elems_new V3 _ [X.tm, X.tr] (by simp only [List.mem_cons, List.not_mem_nil, or_false, forall_eq_or_imp, forall_eq]; exact ⟨i2.out, i3.out⟩)
          replace hE1 := Lib.hid hE1
          replace hE0 := Lib.hid (hE0.out.below (below_new V3 (.cells #[.int .i64 X.tm, .int .i64 X.tr] 2)))
          replace hE2 := Lib.hid (hE2.out.below (below_new V3 (.cells #[.int .i64 X.tm, .int .i64 X.tr] 2)))
          replace hE3 := Lib.hid (hE3.out.below (below_new V3 (.cells #[.int .i64 X.tm, .int .i64 X.tr] 2)))
          replace HB := Lib.hid (HB.out.trans ((below_new V3 (.cells #[.int .i64 X.tm, .int .i64 X.tr] 2)).mono HB.out.size))
          refine wpAnyN_strong (S' := fun wz => Below (V3.alloc (.cells #[.int .i64 X.tm, .int .i64 X.tr] 2)).heap.size (V3.alloc (.cells #[.int .i64 X.tm, .int .i64 X.tr] 2)) wz) (fun wz h => (below_new V3 (.cells #[.int .i64 X.tm, .int .i64 X.tr] 2)).trans (h.mono (below_new V3 (.cells #[.int .i64 X.tm, .int .i64 X.tr] 2)).size)) _ _ _ _ ?_
          clear hHeld
          have hHeld := Below.refl (V3.alloc (.cells #[.int .i64 X.tm, .int .i64 X.tr] 2)).heap.size (V3.alloc (.cells #[.int .i64 X.tm, .int .i64 X.tr] 2))
          generalize V3.alloc (.cells #[.int .i64 X.tm, .int .i64 X.tr] 2) = V4 at *
          generalize V3.heap.size = gb1 at *
          refine wpAnyN_takeC_13 (v := .string N1) (by kernel_rfl) (by kernel_rfl) (by kernel_rfl) (by kernel_rfl) (fun _ _ _ h => h) ⟨by rfl, 52, #[.string ⟨#[116, 114, 117, 99, 107, 115]⟩, .slice (some ⟨gb1, 0, none⟩) 2 2], fun wz => by kernel_rfl, fun wz hz => hT1.out wz _ (hE1.out.below hz)⟩ hHeld hShut (fun hS2 => ?_)
          clear hShut
          have hShut := hS2
          clear hS2
          try simp only [Act.put, List.setIfInBounds_toArray, List.set_cons_zero, List.set_cons_succ]
          refine wpAnyN_take_14 (v := ?v72n) ?_ ?_ ?_ ?_ ?_ ?hy72n ?_ ?_ ?_
          case hy72n =>
            refine Or.inl ⟨by rfl, ?_⟩
            intro w hSw
            try dsimp only at hSw
            go_simp
            try with_reducible rfl
          · kernel_rfl
          · kernel_rfl
          · kernel_rfl
          · kernel_rfl
          · exact fun _ _ _ h => h
          · exact hHeld
          · exact hShut
          clear hShut
          intro hShut
          try simp only [Act.put, List.setIfInBounds_toArray, List.set_cons_zero, List.set_cons_succ]
          refine wpAnyN_takeC_23 (v := .string N2) (by kernel_rfl) (by kernel_rfl) (by kernel_rfl) (by kernel_rfl) (fun _ _ _ h => h) ⟨by rfl, 52, #[.string ⟨#[98, 105, 107, 101, 115]⟩, .slice (some ⟨gb2, 0, none⟩) 2 2], fun wz => by kernel_rfl, fun wz hz => hT2.out wz _ (hE2.out.below hz)⟩ hHeld hShut (fun hS2 => ?_)
          clear hShut
          have hShut := hS2
          clear hS2
          try simp only [Act.put, List.setIfInBounds_toArray, List.set_cons_zero, List.set_cons_succ]
          refine wpAnyN_take_24 (v := ?v73n) ?_ ?_ ?_ ?_ ?_ ?hy73n ?_ ?_ ?_
          case hy73n =>
            refine Or.inl ⟨by rfl, ?_⟩
            intro w hSw
            try dsimp only at hSw
            go_simp
            try with_reducible rfl
          · kernel_rfl
          · kernel_rfl
          · kernel_rfl
          · kernel_rfl
          · exact fun _ _ _ h => h
          · exact hHeld
          · exact hShut
          clear hShut
          intro hShut
          try simp only [Act.put, List.setIfInBounds_toArray, List.set_cons_zero, List.set_cons_succ]
          refine wpAnyN_takeC_30 (v := .string N3) (by kernel_rfl) (by kernel_rfl) (by kernel_rfl) (by kernel_rfl) (fun _ _ _ h => h) ⟨by rfl, 52, #[.string ⟨#[115, 97, 116, 101, 108, 108, 105, 116, 101, 115]⟩, .slice (some ⟨gb3, 0, none⟩) 1 1], fun wz => by kernel_rfl, fun wz hz => hT3.out wz _ (hE3.out.below hz)⟩ hHeld hShut (fun hS2 => ?_)
          clear hShut
          have hShut := hS2
          clear hS2
          try simp only [Act.put, List.setIfInBounds_toArray, List.set_cons_zero, List.set_cons_succ]
          refine wpAnyN_take_31 (v := ?v74n) ?_ ?_ ?_ ?_ ?_ ?hy74n ?_ ?_ ?_
          case hy74n =>
            refine Or.inl ⟨by rfl, ?_⟩
            intro w hSw
            try dsimp only at hSw
            go_simp
            try with_reducible rfl
          · kernel_rfl
          · kernel_rfl
          · kernel_rfl
          · kernel_rfl
          · exact fun _ _ _ h => h
          · exact hHeld
          · exact hShut
          clear hShut
          intro hShut
          try simp only [Act.put, List.setIfInBounds_toArray, List.set_cons_zero, List.set_cons_succ]
          refine wpAnyN_take_32 (v := ?v75n) ?_ ?_ ?_ ?_ ?_ ?hy75n ?_ ?_ ?_
          case hy75n =>
            refine Or.inl ⟨by rfl, ?_⟩
            intro w hSw
            try dsimp only at hSw
            go_simp
            try with_reducible rfl
          · kernel_rfl
          · kernel_rfl
          · kernel_rfl
          · kernel_rfl
          · exact fun _ _ _ h => h
          · exact hHeld
          · exact hShut
          clear hShut
          intro hShut
          try simp only [Act.put, List.setIfInBounds_toArray, List.set_cons_zero, List.set_cons_succ]
          refine wpAnyN_done (by kernel_rfl) ?_ _
          go_wp2_with fail
          go_meet
          exact ⟨_, rfl, by rw [L_cat, L_cat, L_cat, hL0.out, hL1.out, hL2.out, hL3.out, e4.out], HB.out⟩
      · go_simp
        refine hK.out _ _ (fun _ => (by exact below_new V1 _)) (fun hH hS2 => ?_)
        clear hK K hHeld hShut
        have hShut := hS2
        clear hS2
        have hHeld := hH rfl
        clear hH
        try simp only [Act.put, List.setIfInBounds_toArray, List.set_cons_zero, List.set_cons_succ]
        have hE1 : Elems .i64 (V1.alloc (.cells #[.int .i64 X.tm, .int .i64 X.tr] 2)) (some ⟨V1.heap.size, 0, none⟩) [X.tm, X.tr] := elems_new V1 _ [X.tm, X.tr] (by simp only [List.mem_cons, List.not_mem_nil, or_false, forall_eq_or_imp, forall_eq]; exact ⟨i2.out, i3.out⟩)
        replace hE1 := Lib.hid hE1
        replace hE2 := Lib.hid (hE2.out.below (below_new V1 (.cells #[.int .i64 X.tm, .int .i64 X.tr] 2)))
        replace HB := Lib.hid (HB.out.trans ((below_new V1 (.cells #[.int .i64 X.tm, .int .i64 X.tr] 2)).mono HB.out.size))
        refine wpAnyN_strong (S' := fun wz => Below (V1.alloc (.cells #[.int .i64 X.tm, .int .i64 X.tr] 2)).heap.size (V1.alloc (.cells #[.int .i64 X.tm, .int .i64 X.tr] 2)) wz) (fun wz h => (below_new V1 (.cells #[.int .i64 X.tm, .int .i64 X.tr] 2)).trans (h.mono (below_new V1 (.cells #[.int .i64 X.tm, .int .i64 X.tr] 2)).size)) _ _ _ _ ?_
        clear hHeld
        have hHeld := Below.refl (V1.alloc (.cells #[.int .i64 X.tm, .int .i64 X.tr] 2)).heap.size (V1.alloc (.cells #[.int .i64 X.tm, .int .i64 X.tr] 2))
        generalize V1.alloc (.cells #[.int .i64 X.tm, .int .i64 X.tr] 2) = V2 at *
        generalize V1.heap.size = gb1 at *
        refine wpAnyN_of_3_29 (by kernel_rfl) (by exact hShut) (fun K hK => ?_) (fun K hK => ?_)
        · go_simp
          refine hK.out _ _ (fun _ => (by exact below_new V2 _)) (fun hH hS2 => ?_)
          clear hK K hHeld hShut
          have hShut := hS2
          clear hS2
          have hHeld := hH rfl
          clear hH
          try simp only [Act.put, List.setIfInBounds_toArray, List.set_cons_zero, List.set_cons_succ]
          have hE0 : Elems .i64 (V2.alloc (.cells #[.int .i64 X.fin] 2)) (some ⟨V2.heap.size, 0, none⟩) [X.fin] := elems_new V2 _ [X.fin] (by simp only [List.mem_cons, List.not_mem_nil, or_false, forall_eq_or_imp, forall_eq]; exact i1.out)
          replace hE0 := Lib.hid hE0
          replace hE1 := Lib.hid (hE1.out.below (below_new V2 (.cells #[.int .i64 X.fin] 2)))
          replace hE2 := Lib.hid (hE2.out.below (below_new V2 (.cells #[.int .i64 X.fin] 2)))
          replace HB := Lib.hid (HB.out.trans ((below_new V2 (.cells #[.int .i64 X.fin] 2)).mono HB.out.size))
          refine wpAnyN_strong (S' := fun wz => Below (V2.alloc (.cells #[.int .i64 X.fin] 2)).heap.size (V2.alloc (.cells #[.int .i64 X.fin] 2)) wz) (fun wz h => (below_new V2 (.cells #[.int .i64 X.fin] 2)).trans (h.mono (below_new V2 (.cells #[.int .i64 X.fin] 2)).size)) _ _ _ _ ?_
          clear hHeld
          have hHeld := Below.refl (V2.alloc (.cells #[.int .i64 X.fin] 2)).heap.size (V2.alloc (.cells #[.int .i64 X.fin] 2))
          generalize V2.alloc (.cells #[.int .i64 X.fin] 2) = V3 at *
          generalize V2.heap.size = gb0 at *
          refine wpAnyN_takeC_4 (v := .string N0) (by kernel_rfl) (by kernel_rfl) (by kernel_rfl) (by kernel_rfl) (fun _ _ _ h => h) ⟨by rfl, 52, #[.string ⟨#[119, 104, 97, 114, 102, 97, 103, 101]⟩, .slice (some ⟨gb0, 0, none⟩) 1 1], fun wz => by kernel_rfl, fun wz hz => hT0.out wz _ (hE0.out.below hz)⟩ hHeld hShut (fun hS2 => ?_)
          clear hShut
          have hShut := hS2
          clear hS2
          try simp only [Act.put, List.setIfInBounds_toArray, List.set_cons_zero, List.set_cons_succ]
          refine wpAnyN_takeC_13 (v := .string N1) (by kernel_rfl) (by kernel_rfl) (by kernel_rfl) (by kernel_rfl) (fun _ _ _ h => h) ⟨by rfl, 52, #[.string ⟨#[116, 114, 117, 99, 107, 115]⟩, .slice (some ⟨gb1, 0, none⟩) 2 2], fun wz => by kernel_rfl, fun wz hz => hT1.out wz _ (hE1.out.below hz)⟩ hHeld hShut (fun hS2 => ?_)
          clear hShut
          have hShut := hS2
          clear hS2
          try simp only [Act.put, List.setIfInBounds_toArray, List.set_cons_zero, List.set_cons_succ]
          refine wpAnyN_take_14 (v := ?v76n) ?_ ?_ ?_ ?_ ?_ ?hy76n ?_ ?_ ?_
          case hy76n =>
            refine Or.inl ⟨by rfl, ?_⟩
            intro w hSw
            try dsimp only at hSw
            go_simp
            try with_reducible rfl
          · kernel_rfl
          · kernel_rfl
          · kernel_rfl
          · kernel_rfl
          · exact fun _ _ _ h => h
          · exact hHeld
          · exact hShut
          clear hShut
          intro hShut
          try simp only [Act.put, List.setIfInBounds_toArray, List.set_cons_zero, List.set_cons_succ]
          refine wpAnyN_takeC_23 (v := .string N2) (by kernel_rfl) (by kernel_rfl) (by kernel_rfl) (by kernel_rfl) (fun _ _ _ h => h) ⟨by rfl, 52, #[.string ⟨#[98, 105, 107, 101, 115]⟩, .slice (some ⟨gb2, 0, none⟩) 2 2], fun wz => by kernel_rfl, fun wz hz => hT2.out wz _ (hE2.out.below hz)⟩ hHeld hShut (fun hS2 => ?_)
          clear hShut
          have hShut := hS2
          clear hS2
          try simp only [Act.put, List.setIfInBounds_toArray, List.set_cons_zero, List.set_cons_succ]
          refine wpAnyN_take_24 (v := ?v77n) ?_ ?_ ?_ ?_ ?_ ?hy77n ?_ ?_ ?_
          case hy77n =>
            refine Or.inl ⟨by rfl, ?_⟩
            intro w hSw
            try dsimp only at hSw
            go_simp
            try with_reducible rfl
          · kernel_rfl
          · kernel_rfl
          · kernel_rfl
          · kernel_rfl
          · exact fun _ _ _ h => h
          · exact hHeld
          · exact hShut
          clear hShut
          intro hShut
          try simp only [Act.put, List.setIfInBounds_toArray, List.set_cons_zero, List.set_cons_succ]
          refine wpAnyN_one_29 (by kernel_rfl) (by exact hShut) (fun K hK => ?_)
          go_simp
          refine hK.out _ _ (fun _ => (by exact below_new V3 _)) (fun hH hS2 => ?_)
          clear hK K hHeld hShut
          have hShut := hS2
          clear hS2
          have hHeld := hH rfl
          clear hH
          try simp only [Act.put, List.setIfInBounds_toArray, List.set_cons_zero, List.set_cons_succ]
          have hE3 : Elems .i64 (V3.alloc (.cells #[.int .i64 (X.sats.length : Int)] 2)) (some ⟨V3.heap.size, 0, none⟩) [(X.sats.length : Int)] := elems_new V3 _ [(X.sats.length : Int)] (by simp only [List.mem_cons, List.not_mem_nil, or_false, forall_eq_or_imp, forall_eq]; exact i6.out)
          replace hE3 := Lib.hid hE3
          replace hE0 := Lib.hid (hE0.out.below (below_new V3 (.cells #[.int .i64 (X.sats.length : Int)] 2)))
          replace hE1 := Lib.hid (hE1.out.below (below_new V3 (.cells #[.int .i64 (X.sats.length : Int)] 2)))
          replace hE2 := Lib.hid (hE2.out.below (below_new V3 (.cells #[.int .i64 (X.sats.length : Int)] 2)))
          replace HB := Lib.hid (HB.out.trans ((below_new V3 (.cells #[.int .i64 (X.sats.length : Int)] 2)).mono HB.out.size))
          refine wpAnyN_strong (S' := fun wz => Below (V3.alloc (.cells #[.int .i64 (X.sats.length : Int)] 2)).heap.size (V3.alloc (.cells #[.int .i64 (X.sats.length : Int)] 2)) wz) (fun wz h => (below_new V3 (.cells #[.int .i64 (X.sats.length : Int)] 2)).trans (h.mono (below_new V3 (.cells #[.int .i64 (X.sats.length : Int)] 2)).size)) _ _ _ _ ?_
          clear hHeld
          have hHeld := Below.refl (V3.alloc (.cells #[.int .i64 (X.sats.length : Int)] 2)).heap.size (V3.alloc (.cells #[.int .i64 (X.sats.length : Int)] 2))
          generalize V3.alloc (.cells #[.int .i64 (X.sats.length : Int)] 2) = V4 at *
          generalize V3.heap.size = gb3 at *
          refine wpAnyN_takeC_30 (v := .string N3) (by kernel_rfl) (by kernel_rfl) (by kernel_rfl) (by kernel_rfl) (fun _ _ _ h => h) ⟨by rfl, 52, #[.string ⟨#[115, 97, 116, 101, 108, 108, 105, 116, 101, 115]⟩, .slice (some ⟨gb3, 0, none⟩) 1 1], fun wz => by kernel_rfl, fun wz hz => hT3.out wz _ (hE3.out.below hz)⟩ hHeld hShut (fun hS2 => ?_)
          clear hShut
          have hShut := hS2
          clear hS2
          try simp only [Act.put, List.setIfInBounds_toArray, List.set_cons_zero, List.set_cons_succ]
          refine wpAnyN_take_31 (v := ?v78n) ?_ ?_ ?_ ?_ ?_ ?hy78n ?_ ?_ ?_
          case hy78n =>
            refine Or.inl ⟨by rfl, ?_⟩
            intro w hSw
            try dsimp only at hSw
            go_simp
            try with_reducible rfl
          · kernel_rfl
          · kernel_rfl
          · kernel_rfl
          · kernel_rfl
          · exact fun _ _ _ h => h
          · exact hHeld
          · exact hShut
          clear hShut
          intro hShut
          try simp only [Act.put, List.setIfInBounds_toArray, List.set_cons_zero, List.set_cons_succ]
          refine wpAnyN_take_32 (v := ?v79n) ?_ ?_ ?_ ?_ ?_ ?hy79n ?_ ?_ ?_
          case hy79n =>
            refine Or.inl ⟨by rfl, ?_⟩
            intro w hSw
            try dsimp only at hSw
            go_simp
            try with_reducible rfl
          · kernel_rfl
          · kernel_rfl
          · kernel_rfl
          · kernel_rfl
          · exact fun _ _ _ h => h
          · exact hHeld
          · exact hShut
          clear hShut
          intro hShut
          try simp only [Act.put, List.setIfInBounds_toArray, List.set_cons_zero, List.set_cons_succ]
          refine wpAnyN_done (by kernel_rfl) ?_ _
          go_wp2_with fail
          go_meet
          exact ⟨_, rfl, by rw [L_cat, L_cat, L_cat, hL0.out, hL1.out, hL2.out, hL3.out, e4.out], HB.out⟩
        · go_simp
          refine hK.out _ _ (fun _ => (by exact below_new V2 _)) (fun hH hS2 => ?_)
          clear hK K hHeld hShut
          have hShut := hS2
          clear hS2
          have hHeld := hH rfl
          clear hH
          try simp only [Act.put, List.setIfInBounds_toArray, List.set_cons_zero, List.set_cons_succ]
          have hE3 : Elems .i64 (V2.alloc (.cells #[.int .i64 (X.sats.length : Int)] 2)) (some ⟨V2.heap.size, 0, none⟩) [(X.sats.length : Int)] := elems_new V2 _ [(X.sats.length : Int)] (by simp only [List.mem_cons, List.not_mem_nil, or_false, forall_eq_or_imp, forall_eq]; exact i6.out)
          replace hE3 := Lib.hid hE3
          replace hE1 := Lib.hid (hE1.out.below (below_new V2 (.cells #[.int .i64 (X.sats.length : Int)] 2)))
          replace hE2 := Lib.hid (hE2.out.below (below_new V2 (.cells #[.int .i64 (X.sats.length : Int)] 2)))
          replace HB := Lib.hid (HB.out.trans ((below_new V2 (.cells #[.int .i64 (X.sats.length : Int)] 2)).mono HB.out.size))
          refine wpAnyN_strong (S' := fun wz => Below (V2.alloc (.cells #[.int .i64 (X.sats.length : Int)] 2)).heap.size (V2.alloc (.cells #[.int .i64 (X.sats.length : Int)] 2)) wz) (fun wz h => (below_new V2 (.cells #[.int .i64 (X.sats.length : Int)] 2)).trans (h.mono (below_new V2 (.cells #[.int .i64 (X.sats.length : Int)] 2)).size)) _ _ _ _ ?_
          clear hHeld
          have hHeld := Below.refl (V2.alloc (.cells #[.int .i64 (X.sats.length : Int)] 2)).heap.size (V2.alloc (.cells #[.int .i64 (X.sats.length : Int)] 2))
          generalize V2.alloc (.cells #[.int .i64 (X.sats.length : Int)] 2) = V3 at *
          generalize V2.heap.size = gb3 at *
          refine wpAnyN_one_3 (by kernel_rfl) (by exact hShut) (fun K hK => ?_)
          go_simp
          refine hK.out _ _ (fun _ => (by exact below_new V3 _)) (fun hH hS2 => ?_)
          clear hK K hHeld hShut
          have hShut := hS2
          clear hS2
          have hHeld := hH rfl
          clear hH
          try simp only [Act.put, List.setIfInBounds_toArray, List.set_cons_zero, List.set_cons_succ]
          have hE0 : Elems .i64 (V3.alloc (.cells #[.int .i64 X.fin] 2)) (some ⟨V3.heap.size, 0, none⟩) [X.fin] := elems_new V3 _ [X.fin] (by simp only [List.mem_cons, List.not_mem_nil, or_false, forall_eq_or_imp, forall_eq]; exact i1.out)
          replace hE0 := Lib.hid hE0
          replace hE1 := Lib.hid (hE1.out.below (below_new V3 (.cells #[.int .i64 X.fin] 2)))
          replace hE2 := Lib.hid (hE2.out.below (below_new V3 (.cells #[.int .i64 X.fin] 2)))
          replace hE3 := Lib.hid (hE3.out.below (below_new V3 (.cells #[.int .i64 X.fin] 2)))
          replace HB := Lib.hid (HB.out.trans ((below_new V3 (.cells #[.int .i64 X.fin] 2)).mono HB.out.size))
          refine wpAnyN_strong (S' := fun wz => Below (V3.alloc (.cells #[.int .i64 X.fin] 2)).heap.size (V3.alloc (.cells #[.int .i64 X.fin] 2)) wz) (fun wz h => (below_new V3 (.cells #[.int .i64 X.fin] 2)).trans (h.mono (below_new V3 (.cells #[.int .i64 X.fin] 2)).size)) _ _ _ _ ?_
          clear hHeld
          have hHeld := Below.refl (V3.alloc (.cells #[.int .i64 X.fin] 2)).heap.size (V3.alloc (.cells #[.int .i64 X.fin] 2))
          generalize V3.alloc (.cells #[.int .i64 X.fin] 2) = V4 at *
          generalize V3.heap.size = gb0 at *
          refine wpAnyN_takeC_4 (v := .string N0) (by kernel_rfl) (by kernel_rfl) (by kernel_rfl) (by kernel_rfl) (fun _ _ _ h => h) ⟨by rfl, 52, #[.string ⟨#[119, 104, 97, 114, 102, 97, 103, 101]⟩, .slice (some ⟨gb0, 0, none⟩) 1 1], fun wz => by kernel_rfl, fun wz hz => hT0.out wz _ (hE0.out.below hz)⟩ hHeld hShut (fun hS2 => ?_)
          clear hShut
          have hShut := hS2
          clear hS2
          try simp only [Act.put, List.setIfInBounds_toArray, List.set_cons_zero, List.set_cons_succ]
          refine wpAnyN_takeC_13 (v := .string N1) (by kernel_rfl) (by kernel_rfl) (by kernel_rfl) (by kernel_rfl) (fun _ _ _ h => h) ⟨by rfl, 52, #[.string ⟨#[116, 114, 117, 99, 107, 115]⟩, .slice (some ⟨gb1, 0, none⟩) 2 2], fun wz => by kernel_rfl, fun wz hz => hT1.out wz _ (hE1.out.below hz)⟩ hHeld hShut (fun hS2 => ?_)
          clear hShut
          have hShut := hS2
          clear hS2
          try simp only [Act.put, List.setIfInBounds_toArray, List.set_cons_zero, List.set_cons_succ]
          refine wpAnyN_take_14 (v := ?v80n) ?_ ?_ ?_ ?_ ?_ ?hy80n ?_ ?_ ?_
          case hy80n =>
            refine Or.inl ⟨by rfl, ?_⟩
            intro w hSw
            try dsimp only at hSw
            go_simp
            try with_reducible rfl
          · kernel_rfl
          · kernel_rfl
          · kernel_rfl
          · kernel_rfl
          · exact fun _ _ _ h => h
          · exact hHeld
          · exact hShut
          clear hShut
          intro hShut
          try simp only [Act.put, List.setIfInBounds_toArray, List.set_cons_zero, List.set_cons_succ]
          refine wpAnyN_takeC_23 (v := .string N2) (by kernel_rfl) (by kernel_rfl) (by kernel_rfl) (by kernel_rfl) (fun _ _ _ h => h) ⟨by rfl, 52, #[.string ⟨#[98, 105, 107, 101, 115]⟩, .slice (some ⟨gb2, 0, none⟩) 2 2], fun wz => by kernel_rfl, fun wz hz => hT2.out wz _ (hE2.out.below hz)⟩ hHeld hShut (fun hS2 => ?_)
          clear hShut
          have hShut := hS2
          clear hS2
          try simp only [Act.put, List.setIfInBounds_toArray, List.set_cons_zero, List.set_cons_succ]
          refine wpAnyN_take_24 (v := ?v81n) ?_ ?_ ?_ ?_ ?_ ?hy81n ?_ ?_ ?_
          case hy81n =>
            refine Or.inl ⟨by rfl, ?_⟩
            intro w hSw
            try dsimp only at hSw
            go_simp
            try with_reducible rfl
          · kernel_rfl
          · kernel_rfl
          · kernel_rfl
          · kernel_rfl
          · exact fun _ _ _ h => h
          · exact hHeld
          · exact hShut
          clear hShut
          intro hShut
          try simp only [Act.put, List.setIfInBounds_toArray, List.set_cons_zero, List.set_cons_succ]
          refine wpAnyN_takeC_30 (v := .string N3) (by kernel_rfl) (by kernel_rfl) (by kernel_rfl) (by kernel_rfl) (fun _ _ _ h => h) ⟨by rfl, 52, #[.string ⟨#[115, 97, 116, 101, 108, 108, 105, 116, 101, 115]⟩, .slice (some ⟨gb3, 0, none⟩) 1 1], fun wz => by kernel_rfl, fun wz hz => hT3.out wz _ (hE3.out.below hz)⟩ hHeld hShut (fun hS2 => ?_)
          clear hShut
          have hShut := hS2
          clear hS2
          try simp only [Act.put, List.setIfInBounds_toArray, List.set_cons_zero, List.set_cons_succ]
          refine wpAnyN_take_31 (v := ?v82n) ?_ ?_ ?_ ?_ ?_ ?hy82n ?_ ?_ ?_
          case hy82n =>
            refine Or.inl ⟨by rfl, ?_⟩
            intro w hSw
            try dsimp only at hSw
            go_simp
            try with_reducible rfl
          · kernel_rfl
          · kernel_rfl
          · kernel_rfl
          · kernel_rfl
          · exact fun _ _ _ h => h
          · exact hHeld
          · exact hShut
          clear hShut
          intro hShut
          try simp only [Act.put, List.setIfInBounds_toArray, List.set_cons_zero, List.set_cons_succ]
          refine wpAnyN_take_32 (v := ?v83n) ?_ ?_ ?_ ?_ ?_ ?hy83n ?_ ?_ ?_
          case hy83n =>
            refine Or.inl ⟨by rfl, ?_⟩
            intro w hSw
            try dsimp only at hSw
            go_simp
            try with_reducible rfl
          · kernel_rfl
          · kernel_rfl
          · kernel_rfl
          · kernel_rfl
          · exact fun _ _ _ h => h
          · exact hHeld
          · exact hShut
          clear hShut
          intro hShut
          try simp only [Act.put, List.setIfInBounds_toArray, List.set_cons_zero, List.set_cons_succ]
          refine wpAnyN_done (by kernel_rfl) ?_ _
          go_wp2_with fail
          go_meet
          exact ⟨_, rfl, by rw [L_cat, L_cat, L_cat, hL0.out, hL1.out, hL2.out, hL3.out, e4.out], HB.out⟩
      · go_simp
        refine hK.out _ _ (fun _ => (by exact below_new V1 _)) (fun hH hS2 => ?_)
        clear hK K hHeld hShut
        have hShut := hS2
        clear hS2
        have hHeld := hH rfl
        clear hH
        try simp only [Act.put, List.setIfInBounds_toArray, List.set_cons_zero, List.set_cons_succ]
        have hE3 : Elems .i64 (V1.alloc (.cells #[.int .i64 (X.sats.length : Int)] 2)) (some ⟨V1.heap.size, 0, none⟩) [(X.sats.length : Int)] := elems_new V1 _ [(X.sats.length : Int)] (by simp only [List.mem_cons, List.not_mem_nil, or_false, forall_eq_or_imp, forall_eq]; exact i6.out)
        replace hE3 := Lib.hid hE3
        replace hE2 := Lib.hid (hE2.out.below (below_new V1 (.cells #[.int .i64 (X.sats.length : Int)] 2)))
        replace HB := Lib.hid (HB.out.trans ((below_new V1 (.cells #[.int .i64 (X.sats.length : Int)] 2)).mono HB.out.size))
        refine wpAnyN_strong (S' := fun wz => Below (V1.alloc (.cells #[.int .i64 (X.sats.length : Int)] 2)).heap.size (V1.alloc (.cells #[.int .i64 (X.sats.length : Int)] 2)) wz) (fun wz h => (below_new V1 (.cells #[.int .i64 (X.sats.length : Int)] 2)).trans (h.mono (below_new V1 (.cells #[.int .i64 (X.sats.length : Int)] 2)).size)) _ _ _ _ ?_
        clear hHeld
        have hHeld := Below.refl (V1.alloc (.cells #[.int .i64 (X.sats.length : Int)] 2)).heap.size (V1.alloc (.cells #[.int .i64 (X.sats.length : Int)] 2))
        generalize V1.alloc (.cells #[.int .i64 (X.sats.length : Int)] 2) = V2 at *
        generalize V1.heap.size = gb3 at *
        refine wpAnyN_of_3_12 (by kernel_rfl) (by exact hShut) (fun K hK => ?_) (fun K hK => ?_)
        · go_simp
          refine hK.out _ _ (fun _ => (by exact below_new V2 _)) (fun hH hS2 => ?_)
          clear hK K hHeld hShut
          have hShut := hS2
          clear hS2
          have hHeld := hH rfl
          clear hH
          try simp only [Act.put, List.setIfInBounds_toArray, List.set_cons_zero, List.set_cons_succ]
          have hE0 : Elems .i64 (V2.alloc (.cells #[.int .i64 X.fin] 2)) (some ⟨V2.heap.size, 0, none⟩) [X.fin] := elems_new V2 _ [X.fin] (by simp only [List.mem_cons, List.not_mem_nil, or_false, forall_eq_or_imp, forall_eq]; exact i1.out)
          replace hE0 := Lib.hid hE0
          replace hE2 := Lib.hid (hE2.out.below (below_new V2 (.cells #[.int .i64 X.fin] 2)))
          replace hE3 := Lib.hid (hE3.out.below (below_new V2 (.cells #[.int .i64 X.fin] 2)))
          replace HB := Lib.hid (HB.out.trans ((below_new V2 (.cells #[.int .i64 X.fin] 2)).mono HB.out.size))
          refine wpAnyN_strong (S' := fun wz => Below (V2.alloc (.cells #[.int .i64 X.fin] 2)).heap.size (V2.alloc (.cells #[.int .i64 X.fin] 2)) wz) (fun wz h => (below_new V2 (.cells #[.int .i64 X.fin] 2)).trans (h.mono (below_new V2 (.cells #[.int .i64 X.fin] 2)).size)) _ _ _ _ ?_
          clear hHeld
          have hHeld := Below.refl (V2.alloc (.cells #[.int .i64 X.fin] 2)).heap.size (V2.alloc (.cells #[.int .i64 X.fin] 2))
          generalize V2.alloc (.cells #[.int .i64 X.fin] 2) = V3 at *
          generalize V2.heap.size = gb0 at *
          refine wpAnyN_takeC_4 (v := .string N0) (by kernel_rfl) (by kernel_rfl) (by kernel_rfl) (by kernel_rfl) (fun _ _ _ h => h) ⟨by rfl, 52, #[.string ⟨#[119, 104, 97, 114, 102, 97, 103, 101]⟩, .slice (some ⟨gb0, 0, none⟩) 1 1], fun wz => by kernel_rfl, fun wz hz => hT0.out wz _ (hE0.out.below hz)⟩ hHeld hShut (fun hS2 => ?_)
          clear hShut
          have hShut := hS2
          clear hS2
          try simp only [Act.put, List.setIfInBounds_toArray, List.set_cons_zero, List.set_cons_succ]
          refine wpAnyN_one_12 (by kernel_rfl) (by exact hShut) (fun K hK => ?_)
          go_simp
          refine hK.out _ _ (fun _ => (by exact below_new V3 _)) (fun hH hS2 => ?_)
          clear hK K hHeld hShut
          have hShut := hS2
          clear hS2
          have hHeld := hH rfl
          clear hH
          try simp only [Act.put, List.setIfInBounds_toArray, List.set_cons_zero, List.set_cons_succ]
          have hE1 : Elems .i64 (V3.alloc (.cells #[.int .i64 X.tm, .int .i64 X.tr] 2)) (some ⟨V3.heap.size, 0, none⟩) [X.tm, X.tr] := elems_new V3 _ [X.tm, X.tr] (by simp only [List.mem_cons, List.not_mem_nil, or_false, forall_eq_or_imp, forall_eq]; exact ⟨i2.out, i3.out⟩)
          replace hE1 := Lib.hid hE1
          replace hE0 := Lib.hid (hE0.out.below (below_new V3 (.cells #[.int .i64 X.tm, .int .i64 X.tr] 2)))
          replace hE2 := Lib.hid (hE2.out.below (below_new V3 (.cells #[.int .i64 X.tm, .int .i64 X.tr] 2)))
          replace hE3 := Lib.hid (hE3.out.below (below_new V3 (.cells #[.int .i64 X.tm, .int .i64 X.tr] 2)))
          replace HB := Lib.hid (HB.out.trans ((below_new V3 (.cells #[.int .i64 X.tm, .int .i64 X.tr] 2)).mono HB.out.size))
          refine wpAnyN_strong (S' := fun wz => Below (V3.alloc (.cells #[.int .i64 X.tm, .int .i64 X.tr] 2)).heap.size (V3.alloc (.cells #[.int .i64 X.tm, .int .i64 X.tr] 2)) wz) (fun wz h => (below_new V3 (.cells #[.int .i64 X.tm, .int .i64 X.tr] 2)).trans (h.mono (below_new V3 (.cells #[.int .i64 X.tm, .int .i64 X.tr] 2)).size)) _ _ _ _ ?_
          clear hHeld
          have hHeld := Below.refl (V3.alloc (.cells #[.int .i64 X.tm, .int .i64 X.tr] 2)).heap.size (V3.alloc (.cells #[.int .i64 X.tm, .int .i64 X.tr] 2))
          generalize V3.alloc (.cells #[.int .i64 X.tm, .int .i64 X.tr] 2) = V4 at *
          generalize V3.heap.size = gb1 at *
          refine wpAnyN_takeC_13 (v := .string N1) (by kernel_rfl) (by kernel_rfl) (by kernel_rfl) (by kernel_rfl) (fun _ _ _ h => h) ⟨by rfl, 52, #[.string ⟨#[116, 114, 117, 99, 107, 115]⟩, .slice (some ⟨gb1, 0, none⟩) 2 2], fun wz => by kernel_rfl, fun wz hz => hT1.out wz _ (hE1.out.below hz)⟩ hHeld hShut (fun hS2 => ?_)
          clear hShut
          have hShut := hS2
          clear hS2
          try simp only [Act.put, List.setIfInBounds_toArray, List.set_cons_zero, List.set_cons_succ]
          refine wpAnyN_take_14 (v := ?v84n) ?_ ?_ ?_ ?_ ?_ ?hy84n ?_ ?_ ?_
          case hy84n =>
            refine Or.inl ⟨by rfl, ?_⟩
            intro w hSw
            try dsimp only at hSw
            go_simp
            try with_reducible rfl
          · kernel_rfl
          · kernel_rfl
          · kernel_rfl
          · kernel_rfl
          · exact fun _ _ _ h => h
          · exact hHeld
          · exact hShut
          clear hShut
          intro hShut
          try simp only [Act.put, List.setIfInBounds_toArray, List.set_cons_zero, List.set_cons_succ]
          refine wpAnyN_takeC_23 (v := .string N2) (by kernel_rfl) (by kernel_rfl) (by kernel_rfl) (by kernel_rfl) (fun _ _ _ h => h) ⟨by rfl, 52, #[.string ⟨#[98, 105, 107, 101, 115]⟩, .slice (some ⟨gb2, 0, none⟩) 2 2], fun wz => by kernel_rfl, fun wz hz => hT2.out wz _ (hE2.out.below hz)⟩ hHeld hShut (fun hS2 => ?_)
          clear hShut
          have hShut := hS2
          clear hS2
          try simp only [Act.put, List.setIfInBounds_toArray, List.set_cons_zero, List.set_cons_succ]
          refine wpAnyN_take_24 (v := ?v85n) ?_ ?_ ?_ ?_ ?_ ?hy85n ?_ ?_ ?_
          case hy85n =>
            refine Or.inl ⟨by rfl, ?_⟩
            intro w hSw
            try dsimp only at hSw
            go_simp
            try with_reducible rfl
          · kernel_rfl
          · kernel_rfl
          · kernel_rfl
          · kernel_rfl
          · exact fun _ _ _ h => h
          · exact hHeld
          · exact hShut
          clear hShut
          intro hShut
          try simp only [Act.put, List.setIfInBounds_toArray, List.set_cons_zero, List.set_cons_succ]
          refine wpAnyN_takeC_30 (v := .string N3) (by kernel_rfl) (by kernel_rfl) (by kernel_rfl) (by kernel_rfl) (fun _ _ _ h => h) ⟨by rfl, 52, #[.string ⟨#[115, 97, 116, 101, 108, 108, 105, 116, 101, 115]⟩, .slice (some ⟨gb3, 0, none⟩) 1 1], fun wz => by kernel_rfl, fun wz hz => hT3.out wz _ (hE3.out.below hz)⟩ hHeld hShut (fun hS2 => ?_)
          clear hShut
          have hShut := hS2
          clear hS2
          try simp only [Act.put, List.setIfInBounds_toArray, List.set_cons_zero, List.set_cons_succ]
          refine wpAnyN_take_31 (v := ?v86n) ?_ ?_ ?_ ?_ ?_ ?hy86n ?_ ?_ ?_
          case hy86n =>
            refine Or.inl ⟨by rfl, ?_⟩
            intro w hSw
            try dsimp only at hSw
            go_simp
            try with_reducible rfl
          · kernel_rfl
          · kernel_rfl
          · kernel_rfl
          · kernel_rfl
          · exact fun _ _ _ h => h
          · exact hHeld
          · exact hShut
          clear hShut
          intro hShut
          try simp only [Act.put, List.setIfInBounds_toArray, List.set_cons_zero, List.set_cons_succ]
          refine wpAnyN_take_32 (v := ?v87n) ?_ ?_ ?_ ?_ ?_ ?hy87n ?_ ?_ ?_
          case hy87n =>
            refine Or.inl ⟨by rfl, ?_⟩
            intro w hSw
            try dsimp only at hSw
            go_simp
            try with_reducible rfl
          · kernel_rfl
          · kernel_rfl
          · kernel_rfl
          · kernel_rfl
          · exact fun _ _ _ h => h
          · exact hHeld
          · exact hShut
          clear hShut
          intro hShut
          try simp only [Act.put, List.setIfInBounds_toArray, List.set_cons_zero, List.set_cons_succ]
          refine wpAnyN_done (by kernel_rfl) ?_ _
          go_wp2_with fail
          go_meet
          exact ⟨_, rfl, by rw [L_cat, L_cat, L_cat, hL0.out, hL1.out, hL2.out, hL3.out, e4.out], HB.out⟩
        · go_simp
          refine hK.out _ _ (fun _ => (by exact below_new V2 _)) (fun hH hS2 => ?_)
          clear hK K hHeld hShut
          have hShut := hS2
          clear hS2
          have hHeld := hH rfl
          clear hH
          try simp only [Act.put, List.setIfInBounds_toArray, List.set_cons_zero, List.set_cons_succ]
          have hE1 : Elems .i64 (V2.alloc (.cells #[.int .i64 X.tm, .int .i64 X.tr] 2)) (some ⟨V2.heap.size, 0, none⟩) [X.tm, X.tr] := elems_new V2 _ [X.tm, X.tr] (by simp only [List.mem_cons, List.not_mem_nil, or_false, forall_eq_or_imp, forall_eq]; exact ⟨i2.out, i3.out⟩)
          replace hE1 := Lib.hid hE1
          replace hE2 := Lib.hid (hE2.out.below (below_new V2 (.cells #[.int .i64 X.tm, .int .i64 X.tr] 2)))
          replace hE3 := Lib.hid (hE3.out.below (below_new V2 (.cells #[.int .i64 X.tm, .int .i64 X.tr] 2)))
          replace HB := Lib.hid (HB.out.trans ((below_new V2 (.cells #[.int .i64 X.tm, .int .i64 X.tr] 2)).mono HB.out.size))
          refine wpAnyN_strong (S' := fun wz => Below (V2.alloc (.cells #[.int .i64 X.tm, .int .i64 X.tr] 2)).heap.size (V2.alloc (.cells #[.int .i64 X.tm, .int .i64 X.tr] 2)) wz) (fun wz h => (below_new V2 (.cells #[.int .i64 X.tm, .int .i64 X.tr] 2)).trans (h.mono (below_new V2 (.cells #[.int .i64 X.tm, .int .i64 X.tr] 2)).size)) _ _ _ _ ?_
          clear hHeld
          have hHeld := Below.refl (V2.alloc (.cells #[.int .i64 X.tm, .int .i64 X.tr] 2)).heap.size (V2.alloc (.cells #[.int .i64 X.tm, .int .i64 X.tr] 2))
          generalize V2.alloc (.cells #[.int .i64 X.tm, .int .i64 X.tr] 2) = V3 at *
          generalize V2.heap.size = gb1 at *
          refine wpAnyN_one_3 (by kernel_rfl) (by exact hShut) (fun K hK => ?_)
          go_simp
          refine hK.out _ _ (fun _ => (by exact below_new V3 _)) (fun hH hS2 => ?_)
          clear hK K hHeld hShut
          have hShut := hS2
          clear hS2
          have hHeld := hH rfl
          clear hH
          try simp only [Act.put, List.setIfInBounds_toArray, List.set_cons_zero, List.set_cons_succ]
          have hE0 : Elems .i64 (V3.alloc (.cells #[.int .i64 X.fin] 2)) (some ⟨V3.heap.size, 0, none⟩) [X.fin] := elems_new V3 _ [X.fin] (by simp only [List.mem_cons, List.not_mem_nil, or_false, forall_eq_or_imp, forall_eq]; exact i1.out)
          replace hE0 := Lib.hid hE0
          replace hE1 := Lib.hid (hE1.out.below (below_new V3 (.cells #[.int .i64 X.fin] 2)))
          replace hE2 := Lib.hid (hE2.out.below (below_new V3 (.cells #[.int .i64 X.fin] 2)))
          replace hE3 := Lib.hid (hE3.out.below (below_new V3 (.cells #[.int .i64 X.fin] 2)))
          replace HB := Lib.hid (HB.out.trans ((below_new V3 (.cells #[.int .i64 X.fin] 2)).mono HB.out.size))
          refine wpAnyN_strong (S' := fun wz => Below (V3.alloc (.cells #[.int .i64 X.fin] 2)).heap.size (V3.alloc (.cells #[.int .i64 X.fin] 2)) wz) (fun wz h => (below_new V3 (.cells #[.int .i64 X.fin] 2)).trans (h.mono (below_new V3 (.cells #[.int .i64 X.fin] 2)).size)) _ _ _ _ ?_
          clear hHeld
          have hHeld := Below.refl (V3.alloc (.cells #[.int .i64 X.fin] 2)).heap.size (V3.alloc (.cells #[.int .i64 X.fin] 2))
          generalize V3.alloc (.cells #[.int .i64 X.fin] 2) = V4 at *
          generalize V3.heap.size = gb0 at *
          refine wpAnyN_takeC_4 (v := .string N0) (by kernel_rfl) (by kernel_rfl) (by kernel_rfl) (by kernel_rfl) (fun _ _ _ h => h) ⟨by rfl, 52, #[.string ⟨#[119, 104, 97, 114, 102, 97, 103, 101]⟩, .slice (some ⟨gb0, 0, none⟩) 1 1], fun wz => by kernel_rfl, fun wz hz => hT0.out wz _ (hE0.out.below hz)⟩ hHeld hShut (fun hS2 => ?_)
          clear hShut
          have hShut := hS2
          clear hS2
          try simp only [Act.put, List.setIfInBounds_toArray, List.set_cons_zero, List.set_cons_succ]
          refine wpAnyN_takeC_13 (v := .string N1) (by kernel_rfl) (by kernel_rfl) (by kernel_rfl) (by kernel_rfl) (fun _ _ _ h => h) ⟨by rfl, 52, #[.string ⟨#[116, 114, 117, 99, 107, 115]⟩, .slice (some ⟨gb1, 0, none⟩) 2 2], fun wz => by kernel_rfl, fun wz hz => hT1.out wz _ (hE1.out.below hz)⟩ hHeld hShut (fun hS2 => ?_)
          clear hShut
          have hShut := hS2
          clear hS2
          try simp only [Act.put, List.setIfInBounds_toArray, List.set_cons_zero, List.set_cons_succ]
          refine wpAnyN_take_14 (v := ?v88n) ?_ ?_ ?_ ?_ ?_ ?hy88n ?_ ?_ ?_
          case hy88n =>
            refine Or.inl ⟨by rfl, ?_⟩
            intro w hSw
            try dsimp only at hSw
            go_simp
            try with_reducible rfl
          · kernel_rfl
          · kernel_rfl
          · kernel_rfl
          · kernel_rfl
          · exact fun _ _ _ h => h
          · exact hHeld
          · exact hShut
          clear hShut
          intro hShut
          try simp only [Act.put, List.setIfInBounds_toArray, List.set_cons_zero, List.set_cons_succ]
          refine wpAnyN_takeC_23 (v := .string N2) (by kernel_rfl) (by kernel_rfl) (by kernel_rfl) (by kernel_rfl) (fun _ _ _ h => h) ⟨by rfl, 52, #[.string ⟨#[98, 105, 107, 101, 115]⟩, .slice (some ⟨gb2, 0, none⟩) 2 2], fun wz => by kernel_rfl, fun wz hz => hT2.out wz _ (hE2.out.below hz)⟩ hHeld hShut (fun hS2 => ?_)
          clear hShut
          have hShut := hS2
          clear hS2
          try simp only [Act.put, List.setIfInBounds_toArray, List.set_cons_zero, List.set_cons_succ]
          refine wpAnyN_take_24 (v := ?v89n) ?_ ?_ ?_ ?_ ?_ ?hy89n ?_ ?_ ?_
          case hy89n =>
            refine Or.inl ⟨by rfl, ?_⟩
            intro w hSw
            try dsimp only at hSw
            go_simp
            try with_reducible rfl
          · kernel_rfl
          · kernel_rfl
          · kernel_rfl
          · kernel_rfl
          · exact fun _ _ _ h => h
          · exact hHeld
          · exact hShut
          clear hShut
          intro hShut
          try simp only [Act.put, List.setIfInBounds_toArray, List.set_cons_zero, List.set_cons_succ]
          refine wpAnyN_takeC_30 (v := .string N3) (by kernel_rfl) (by kernel_rfl) (by kernel_rfl) (by kernel_rfl) (fun _ _ _ h => h) ⟨by rfl, 52, #[.string ⟨#[115, 97, 116, 101, 108, 108, 105, 116, 101, 115]⟩, .slice (some ⟨gb3, 0, none⟩) 1 1], fun wz => by kernel_rfl, fun wz hz => hT3.out wz _ (hE3.out.below hz)⟩ hHeld hShut (fun hS2 => ?_)
          clear hShut
          have hShut := hS2
          clear hS2
          try simp only [Act.put, List.setIfInBounds_toArray, List.set_cons_zero, List.set_cons_succ]
          refine wpAnyN_take_31 (v := ?v90n) ?_ ?_ ?_ ?_ ?_ ?hy90n ?_ ?_ ?_
          case hy90n =>
            refine Or.inl ⟨by rfl, ?_⟩
            intro w hSw
            try dsimp only at hSw
            go_simp
            try with_reducible rfl
          · kernel_rfl
          · kernel_rfl
          · kernel_rfl
          · kernel_rfl
          · exact fun _ _ _ h => h
          · exact hHeld
          · exact hShut
          clear hShut
          intro hShut
          try simp only [Act.put, List.setIfInBounds_toArray, List.set_cons_zero, List.set_cons_succ]
          refine wpAnyN_take_32 (v := ?v91n) ?_ ?_ ?_ ?_ ?_ ?hy91n ?_ ?_ ?_
          case hy91n =>
            refine Or.inl ⟨by rfl, ?_⟩
            intro w hSw
            try dsimp only at hSw
            go_simp
            try with_reducible rfl
          · kernel_rfl
          · kernel_rfl
          · kernel_rfl
          · kernel_rfl
          · exact fun _ _ _ h => h
          · exact hHeld
          · exact hShut
          clear hShut
          intro hShut
          try simp only [Act.put, List.setIfInBounds_toArray, List.set_cons_zero, List.set_cons_succ]
          refine wpAnyN_done (by kernel_rfl) ?_ _
          go_wp2_with fail
          go_meet
          exact ⟨_, rfl, by rw [L_cat, L_cat, L_cat, hL0.out, hL1.out, hL2.out, hL3.out, e4.out], HB.out⟩
    · go_simp
      refine hK.out _ _ (fun _ => (by exact below_new V _)) (fun hH hS2 => ?_)
      clear hK K hHeld hShut
      have hShut := hS2
      clear hS2
      have hHeld := hH rfl
      clear hH
      try simp only [Act.put, List.setIfInBounds_toArray, List.set_cons_zero, List.set_cons_succ]
      have hE3 : Elems .i64 (V.alloc (.cells #[.int .i64 (X.sats.length : Int)] 2)) (some ⟨V.heap.size, 0, none⟩) [(X.sats.length : Int)] := elems_new V _ [(X.sats.length : Int)] (by simp only [List.mem_cons, List.not_mem_nil, or_false, forall_eq_or_imp, forall_eq]; exact i6.out)
      replace hE3 := Lib.hid hE3
      replace HB := Lib.hid (HB.out.trans ((below_new V (.cells #[.int .i64 (X.sats.length : Int)] 2)).mono HB.out.size))
      refine wpAnyN_strong (S' := fun wz => Below (V.alloc (.cells #[.int .i64 (X.sats.length : Int)] 2)).heap.size (V.alloc (.cells #[.int .i64 (X.sats.length : Int)] 2)) wz) (fun wz h => (below_new V (.cells #[.int .i64 (X.sats.length : Int)] 2)).trans (h.mono (below_new V (.cells #[.int .i64 (X.sats.length : Int)] 2)).size)) _ _ _ _ ?_
      clear hHeld
      have hHeld := Below.refl (V.alloc (.cells #[.int .i64 (X.sats.length : Int)] 2)).heap.size (V.alloc (.cells #[.int .i64 (X.sats.length : Int)] 2))
      generalize V.alloc (.cells #[.int .i64 (X.sats.length : Int)] 2) = V1 at *
      generalize V.heap.size = gb3 at *
      refine wpAnyN_of_3_12_22 (by kernel_rfl) (by exact hShut) (fun K hK => ?_) (fun K hK => ?_) (fun K hK => ?_)
      · go_simp
        refine hK.out _ _ (fun _ => (by exact below_new V1 _)) (fun hH hS2 => ?_)
        clear hK K hHeld hShut
        have hShut := hS2
        clear hS2
        have hHeld := hH rfl
        clear hH
        try simp only [Act.put, List.setIfInBounds_toArray, List.set_cons_zero, List.set_cons_succ]
        have hE0 : Elems .i64 (V1.alloc (.cells #[.int .i64 X.fin] 2)) (some ⟨V1.heap.size, 0, none⟩) [X.fin] := elems_new V1 _ [X.fin] (by simp only [List.mem_cons, List.not_mem_nil, or_false, forall_eq_or_imp, forall_eq]; exact i1.out)
        replace hE0 := Lib.hid hE0
        replace hE3 := Lib.hid (hE3.out.below (below_new V1 (.cells #[.int .i64 X.fin] 2)))
        replace HB := Lib.hid (HB.out.trans ((below_new V1 (.cells #[.int .i64 X.fin] 2)).mono HB.out.size))
        refine wpAnyN_strong (S' := fun wz => Below (V1.alloc (.cells #[.int .i64 X.fin] 2)).heap.size (V1.alloc (.cells #[.int .i64 X.fin] 2)) wz) (fun wz h => (below_new V1 (.cells #[.int .i64 X.fin] 2)).trans (h.mono (below_new V1 (.cells #[.int .i64 X.fin] 2)).size)) _ _ _ _ ?_
        clear hHeld
        have hHeld := Below.refl (V1.alloc (.cells #[.int .i64 X.fin] 2)).heap.size (V1.alloc (.cells #[.int .i64 X.fin] 2))
        generalize V1.alloc (.cells #[.int .i64 X.fin] 2) = V2 at *
        generalize V1.heap.size = gb0 at *
        refine wpAnyN_takeC_4 (v := .string N0) (by kernel_rfl) (by kernel_rfl) (by kernel_rfl) (by kernel_rfl) (fun _ _ _ h => h) ⟨by rfl, 52, #[.string ⟨#[119, 104, 97, 114, 102, 97, 103, 101]⟩, .slice (some ⟨gb0, 0, none⟩) 1 1], fun wz => by kernel_rfl, fun wz hz => hT0.out wz _ (hE0.out.below hz)⟩ hHeld hShut (fun hS2 => ?_)
        clear hShut
        have hShut := hS2
        clear hS2
        try simp only [Act.put, List.setIfInBounds_toArray, List.set_cons_zero, List.set_cons_succ]
        refine wpAnyN_of_12_22 (by kernel_rfl) (by exact hShut) (fun K hK => ?_) (fun K hK => ?_)
        · go_simp
          refine hK.out _ _ (fun _ => (by exact below_new V2 _)) (fun hH hS2 => ?_)
          clear hK K hHeld hShut
          have hShut := hS2
          clear hS2
          have hHeld := hH rfl
          clear hH
          try simp only [Act.put, List.setIfInBounds_toArray, List.set_cons_zero, List.set_cons_succ]
          have hE1 : Elems .i64 (V2.alloc (.cells #[.int .i64 X.tm, .int .i64 X.tr] 2)) (some ⟨V2.heap.size, 0, none⟩) [X.tm, X.tr] := elems_new V2 _ [X.tm, X.tr] (by simp only [List.mem_cons, List.not_mem_nil, or_false, forall_eq_or_imp, forall_eq]; exact ⟨i2.out, i3.out⟩)
          replace hE1 := Lib.hid hE1
          replace hE0 := Lib.hid (hE0.out.below (below_new V2 (.cells #[.int .i64 X.tm, .int .i64 X.tr] 2)))
          replace hE3 := Lib.hid (hE3.out.below (below_new V2 (.cells #[.int .i64 X.tm, .int .i64 X.tr] 2)))
          replace HB := Lib.hid (HB.out.trans ((below_new V2 (.cells #[.int .i64 X.tm, .int .i64 X.tr] 2)).mono HB.out.size))
          refine wpAnyN_strong (S' := fun wz => Below (V2.alloc (.cells #[.int .i64 X.tm, .int .i64 X.tr] 2)).heap.size (V2.alloc (.cells #[.int .i64 X.tm, .int .i64 X.tr] 2)) wz) (fun wz h => (below_new V2 (.cells #[.int .i64 X.tm, .int .i64 X.tr] 2)).trans (h.mono (below_new V2 (.cells #[.int .i64 X.tm, .int .i64 X.tr] 2)).size)) _ _ _ _ ?_
          clear hHeld
          have hHeld := Below.refl (V2.alloc (.cells #[.int .i64 X.tm, .int .i64 X.tr] 2)).heap.size (V2.alloc (.cells #[.int .i64 X.tm, .int .i64 X.tr] 2))
          generalize V2.alloc (.cells #[.int .i64 X.tm, .int .i64 X.tr] 2) = V3 at *
          generalize V2.heap.size = gb1 at *
          refine wpAnyN_takeC_13 (v := .string N1) (by kernel_rfl) (by kernel_rfl) (by kernel_rfl) (by kernel_rfl) (fun _ _ _ h => h) ⟨by rfl, 52, #[.string ⟨#[116, 114, 117, 99, 107, 115]⟩, .slice (some ⟨gb1, 0, none⟩) 2 2], fun wz => by kernel_rfl, fun wz hz => hT1.out wz _ (hE1.out.below hz)⟩ hHeld hShut (fun hS2 => ?_)
          clear hShut
          have hShut := hS2
          clear hS2
          try simp only [Act.put, List.setIfInBounds_toArray, List.set_cons_zero, List.set_cons_succ]
          refine wpAnyN_take_14 (v := ?v92n) ?_ ?_ ?_ ?_ ?_ ?hy92n ?_ ?_ ?_
          case hy92n =>
            refine Or.inl ⟨by rfl, ?_⟩
            intro w hSw
            try dsimp only at hSw
            go_simp
            try with_reducible rfl
          · kernel_rfl
          · kernel_rfl
          · kernel_rfl
          · kernel_rfl
          · exact fun _ _ _ h => h
          · exact hHeld
          · exact hShut
          clear hShut
          intro hShut
          try simp only [Act.put, List.setIfInBounds_toArray, List.set_cons_zero, List.set_cons_succ]
          refine wpAnyN_one_22 (by kernel_rfl) (by exact hShut) (fun K hK => ?_)
          go_simp
          refine hK.out _ _ (fun _ => (by exact below_new V3 _)) (fun hH hS2 => ?_)
          clear hK K hHeld hShut
          have hShut := hS2
          clear hS2
          have hHeld := hH rfl
          clear hH
          try simp only [Act.put, List.setIfInBounds_toArray, List.set_cons_zero, List.set_cons_succ]
          have hE2 : Elems .i64 (V3.alloc (.cells #[.int .i64 X.bm, .int .i64 X.br] 2)) (some ⟨V3.heap.size, 0, none⟩) [X.bm, X.br] := elems_new V3 _ [X.bm, X.br] (by simp only [List.mem_cons, List.not_mem_nil, or_false, forall_eq_or_imp, forall_eq]; exact ⟨i4.out, i5.out⟩)
          replace hE2 := Lib.hid hE2
          replace hE0 := Lib.hid (hE0.out.below (below_new V3 (.cells #[.int .i64 X.bm, .int .i64 X.br] 2)))
          replace hE1 := Lib.hid (hE1.out.below (below_new V3 (.cells #[.int .i64 X.bm, .int .i64 X.br] 2)))
          replace hE3 := Lib.hid (hE3.out.below (below_new V3 (.cells #[.int .i64 X.bm, .int .i64 X.br] 2)))
          replace HB := Lib.hid (HB.out.trans ((below_new V3 (.cells #[.int .i64 X.bm, .int .i64 X.br] 2)).mono HB.out.size))
          refine wpAnyN_strong (S' := fun wz => Below (V3.alloc (.cells #[.int .i64 X.bm, .int .i64 X.br] 2)).heap.size (V3.alloc (.cells #[.int .i64 X.bm, .int .i64 X.br] 2)) wz) (fun wz h => (below_new V3 (.cells #[.int .i64 X.bm, .int .i64 X.br] 2)).trans (h.mono (below_new V3 (.cells #[.int .i64 X.bm, .int .i64 X.br] 2)).size)) _ _ _ _ ?_
          clear hHeld
          have hHeld := Below.refl (V3.alloc (.cells #[.int .i64 X.bm, .int .i64 X.br] 2)).heap.size (V3.alloc (.cells #[.int .i64 X.bm, .int .i64 X.br] 2))
          generalize V3.alloc (.cells #[.int .i64 X.bm, .int .i64 X.br] 2) = V4 at *
          generalize V3.heap.size = gb2 at *
          refine wpAnyN_takeC_23 (v := .string N2) (by kernel_rfl) (by kernel_rfl) (by kernel_rfl) (by kernel_rfl) (fun _ _ _ h => h) ⟨by rfl, 52, #[.string ⟨#[98, 105, 107, 101, 115]⟩, .slice (some ⟨gb2, 0, none⟩) 2 2], fun wz => by kernel_rfl, fun wz hz => hT2.out wz _ (hE2.out.below hz)⟩ hHeld hShut (fun hS2 => ?_)
          clear hShut
          have hShut := hS2
          clear hS2
          try simp only [Act.put, List.setIfInBounds_toArray, List.set_cons_zero, List.set_cons_succ]
          refine wpAnyN_take_24 (v := ?v93n) ?_ ?_ ?_ ?_ ?_ ?hy93n ?_ ?_ ?_
          case hy93n =>
            refine Or.inl ⟨by rfl, ?_⟩
            intro w hSw
            try dsimp only at hSw
            go_simp
            try with_reducible rfl
          · kernel_rfl
          · kernel_rfl
          · kernel_rfl
          · kernel_rfl
          · exact fun _ _ _ h => h
          · exact hHeld
          · exact hShut
          clear hShut
          intro hShut
          try simp only [Act.put, List.setIfInBounds_toArray, List.set_cons_zero, List.set_cons_succ]
          refine wpAnyN_takeC_30 (v := .string N3) (by kernel_rfl) (by kernel_rfl) (by kernel_rfl) (by kernel_rfl) (fun _ _ _ h => h) ⟨by rfl, 52, #[.string ⟨#[115, 97, 116, 101, 108, 108, 105, 116, 101, 115]⟩, .slice (some ⟨gb3, 0, none⟩) 1 1], fun wz => by kernel_rfl, fun wz hz => hT3.out wz _ (hE3.out.below hz)⟩ hHeld hShut (fun hS2 => ?_)
          clear hShut
          have hShut := hS2
          clear hS2
          try simp only [Act.put, List.setIfInBounds_toArray, List.set_cons_zero, List.set_cons_succ]
          refine wpAnyN_take_31 (v := ?v94n) ?_ ?_ ?_ ?_ ?_ ?hy94n ?_ ?_ ?_
          case hy94n =>
            refine Or.inl ⟨by rfl, ?_⟩
            intro w hSw
            try dsimp only at hSw
            go_simp
            try with_reducible rfl
          · kernel_rfl
          · kernel_rfl
          · kernel_rfl
          · kernel_rfl
          · exact fun _ _ _ h => h
          · exact hHeld
          · exact hShut
          clear hShut
          intro hShut
          try simp only [Act.put, List.setIfInBounds_toArray, List.set_cons_zero, List.set_cons_succ]
          refine wpAnyN_take_32 (v := ?v95n) ?_ ?_ ?_ ?_ ?_ ?hy95n ?_ ?_ ?_
          case hy95n =>
            refine Or.inl ⟨by rfl, ?_⟩
            intro w hSw
            try dsimp only at hSw
            go_simp
            try with_reducible rfl
          · kernel_rfl
          · kernel_rfl
          · kernel_rfl
          · kernel_rfl
          · exact fun _ _ _ h => h
          · exact hHeld
          · exact hShut
          clear hShut
          intro hShut
          try simp only [Act.put, List.setIfInBounds_toArray, List.set_cons_zero, List.set_cons_succ]
          refine wpAnyN_done (by kernel_rfl) ?_ _
          go_wp2_with fail
          go_meet
          exact ⟨_, rfl, by rw [L_cat, L_cat, L_cat, hL0.out, hL1.out, hL2.out, hL3.out, e4.out], HB.out⟩
        · go_simp
          refine hK.out _ _ (fun _ => (by exact below_new V2 _)) (fun hH hS2 => ?_)
          clear hK K hHeld hShut
          have hShut := hS2
          clear hS2
          have hHeld := hH rfl
          clear hH
          try simp only [Act.put, List.setIfInBounds_toArray, List.set_cons_zero, List.set_cons_succ]
          have hE2 : Elems .i64 (V2.alloc (.cells #[.int .i64 X.bm, .int .i64 X.br] 2)) (some ⟨V2.heap.size, 0, none⟩) [X.bm, X.br] := elems_new V2 _ [X.bm, X.br] (by simp only [List.mem_cons, List.not_mem_nil, or_false, forall_eq_or_imp, forall_eq]; exact ⟨i4.out, i5.out⟩)
          replace hE2 := Lib.hid hE2
          replace hE0 := Lib.hid (hE0.out.below (below_new V2 (.cells #[.int .i64 X.bm, .int .i64 X.br] 2)))
          replace hE3 := Lib.hid (hE3.out.below (below_new V2 (.cells #[.int .i64 X.bm, .int .i64 X.br] 2)))
          replace HB := Lib.hid (HB.out.trans ((below_new V2 (.cells #[.int .i64 X.bm, .int .i64 X.br] 2)).mono HB.out.size))
          refine wpAnyN_strong (S' := fun wz => Below (V2.alloc (.cells #[.int .i64 X.bm, .int .i64 X.br] 2)).heap.size (V2.alloc (.cells #[.int .i64 X.bm, .int .i64 X.br] 2)) wz) (fun wz h => (below_new V2 (.cells #[.int .i64 X.bm, .int .i64 X.br] 2)).trans (h.mono (below_new V2 (.cells #[.int .i64 X.bm, .int .i64 X.br] 2)).size)) _ _ _ _ ?_
          clear hHeld
          have hHeld := Below.refl (V2.alloc (.cells #[.int .i64 X.bm, .int .i64 X.br] 2)).heap.size (V2.alloc (.cells #[.int .i64 X.bm, .int .i64 X.br] 2))
          generalize V2.alloc (.cells #[.int .i64 X.bm, .int .i64 X.br] 2) = V3 at *
          generalize V2.heap.size = gb2 at *
          refine wpAnyN_one_12 (by kernel_rfl) (by exact hShut) (fun K hK => ?_)
          go_simp
          refine hK.out _ _ (fun _ => (by exact below_new V3 _)) (fun hH hS2 => ?_)
          clear hK K hHeld hShut
          have hShut := hS2
          clear hS2
          have hHeld := hH rfl
          clear hH
          try simp only [Act.put, List.setIfInBounds_toArray, List.set_cons_zero, List.set_cons_succ]
          have hE1 : Elems .i64 (V3.alloc (.cells #[.int .i64 X.tm, .int .i64 X.tr] 2)) (some ⟨V3.heap.size, 0, none⟩) [X.tm, X.tr] := elems_new V3 _ [X.tm, X.tr] (by simp only [List.mem_cons, List.not_mem_nil, or_false, forall_eq_or_imp, forall_eq]; exact ⟨i2.out, i3.out⟩)
          replace hE1 := Lib.hid hE1
          replace hE0 := Lib.hid (hE0.out.below (below_new V3 (.cells #[.int .i64 X.tm, .int .i64 X.tr] 2)))
          replace hE2 := Lib.hid (hE2.out.below (below_new V3 (.cells #[.int .i64 X.tm, .int .i64 X.tr] 2)))
          replace hE3 := Lib.hid (hE3.out.below (below_new V3 (.cells #[.int .i64 X.tm, .int .i64 X.tr] 2)))
          replace HB := Lib.hid (HB.out.trans ((below_new V3 (.cells #[.int .i64 X.tm, .int .i64 X.tr] 2)).mono HB.out.size))
          refine wpAnyN_strong (S' := fun wz => Below (V3.alloc (.cells #[.int .i64 X.tm, .int .i64 X.tr] 2)).heap.size (V3.alloc (.cells #[.int .i64 X.tm, .int .i64 X.tr] 2)) wz) (fun wz h => (below_new V3 (.cells #[.int .i64 X.tm, .int .i64 X.tr] 2)).trans (h.mono (below_new V3 (.cells #[.int .i64 X.tm, .int .i64 X.tr] 2)).size)) _ _ _ _ ?_
          clear hHeld
          have hHeld := Below.refl (V3.alloc (.cells #[.int .i64 X.tm, .int .i64 X.tr] 2)).heap.size (V3.alloc (.cells #[.int .i64 X.tm, .int .i64 X.tr] 2))
          generalize V3.alloc (.cells #[.int .i64 X.tm, .int .i64 X.tr] 2) = V4 at *
          generalize V3.heap.size = gb1 at *
          refine wpAnyN_takeC_13 (v := .string N1) (by kernel_rfl) (by kernel_rfl) (by kernel_rfl) (by kernel_rfl) (fun _ _ _ h => h) ⟨by rfl, 52, #[.string ⟨#[116, 114, 117, 99, 107, 115]⟩, .slice (some ⟨gb1, 0, none⟩) 2 2], fun wz => by kernel_rfl, fun wz hz => hT1.out wz _ (hE1.out.below hz)⟩ hHeld hShut (fun hS2 => ?_)
          clear hShut
          have hShut := hS2
          clear hS2
          try simp only [Act.put, List.setIfInBounds_toArray, List.set_cons_zero, List.set_cons_succ]
          refine wpAnyN_take_14 (v := ?v96n) ?_ ?_ ?_ ?_ ?_ ?hy96n ?_ ?_ ?_
          case hy96n =>
            refine Or.inl ⟨by rfl, ?_⟩
            intro w hSw
            try dsimp only at hSw
            go_simp
            try with_reducible rfl
          · kernel_rfl
          · kernel_rfl
          · kernel_rfl
          · kernel_rfl
          · exact fun _ _ _ h => h
          · exact hHeld
          · exact hShut
          clear hShut
          intro hShut
          try simp only [Act.put, List.setIfInBounds_toArray, List.set_cons_zero, List.set_cons_succ]
          refine wpAnyN_takeC_23 (v := .string N2) (by kernel_rfl) (by kernel_rfl) (by kernel_rfl) (by kernel_rfl) (fun _ _ _ h => h) ⟨by rfl, 52, #[.string ⟨#[98, 105, 107, 101, 115]⟩, .slice (some ⟨gb2, 0, none⟩) 2 2], fun wz => by kernel_rfl, fun wz hz => hT2.out wz _ (hE2.out.below hz)⟩ hHeld hShut (fun hS2 => ?_)
          clear hShut
          have hShut := hS2
          clear hS2
          try simp only [Act.put, List.setIfInBounds_toArray, List.set_cons_zero, List.set_cons_succ]
          refine wpAnyN_take_24 (v := ?v97n) ?_ ?_ ?_ ?_ ?_ ?hy97n ?_ ?_ ?_
          case hy97n =>
            refine Or.inl ⟨by rfl, ?_⟩
            intro w hSw
            try dsimp only at hSw
            go_simp
            try with_reducible rfl
          · kernel_rfl
          · kernel_rfl
          · kernel_rfl
          · kernel_rfl
          · exact fun _ _ _ h => h
          · exact hHeld
          · exact hShut
          clear hShut
          intro hShut
          try simp only [Act.put, List.setIfInBounds_toArray, List.set_cons_zero, List.set_cons_succ]
          refine wpAnyN_takeC_30 (v := .string N3) (by kernel_rfl) (by kernel_rfl) (by kernel_rfl) (by kernel_rfl) (fun _ _ _ h => h) ⟨by rfl, 52, #[.string ⟨#[115, 97, 116, 101, 108, 108, 105, 116, 101, 115]⟩, .slice (some ⟨gb3, 0, none⟩) 1 1], fun wz => by kernel_rfl, fun wz hz => hT3.out wz _ (hE3.out.below hz)⟩ hHeld hShut (fun hS2 => ?_)
          clear hShut
          have hShut := hS2
          clear hS2
          try simp only [Act.put, List.setIfInBounds_toArray, List.set_cons_zero, List.set_cons_succ]
          refine wpAnyN_take_31 (v := ?v98n) ?_ ?_ ?_ ?_ ?_ ?hy98n ?_ ?_ ?_
          case hy98n =>
            refine Or.inl ⟨by rfl, ?_⟩
            intro w hSw
            try dsimp only at hSw
            go_simp
            try with_reducible rfl
          · kernel_rfl
          · kernel_rfl
          · kernel_rfl
          · kernel_rfl
          · exact fun _ _ _ h => h
          · exact hHeld
          · exact hShut
          clear hShut
          intro hShut
          try simp only [Act.put, List.setIfInBounds_toArray, List.set_cons_zero, List.set_cons_succ]
          refine wpAnyN_take_32 (v := ?v99n) ?_ ?_ ?_ ?_ ?_ ?hy99n ?_ ?_ ?_
          case hy99n =>
            refine Or.inl ⟨by rfl, ?_⟩
            intro w hSw
            try dsimp only at hSw
            go_simp
            try with_reducible rfl
          · kernel_rfl
          · kernel_rfl
          · kernel_rfl
          · kernel_rfl
          · exact fun _ _ _ h => h
          · exact hHeld
          · exact hShut
          clear hShut
          intro hShut
          try simp only [Act.put, List.setIfInBounds_toArray, List.set_cons_zero, List.set_cons_succ]
          refine wpAnyN_done (by kernel_rfl) ?_ _
          go_wp2_with fail
          go_meet
          exact ⟨_, rfl, by rw [L_cat, L_cat, L_cat, hL0.out, hL1.out, hL2.out, hL3.out, e4.out], HB.out⟩
      · go_simp
        refine hK.out _ _ (fun _ => (by exact below_new V1 _)) (fun hH hS2 => ?_)
        clear hK K hHeld hShut
        have hShut := hS2
        clear hS2
        have hHeld := hH rfl
        clear hH
        try simp only [Act.put, List.setIfInBounds_toArray, List.set_cons_zero, List.set_cons_succ]
        have hE1 : Elems .i64 (V1.alloc (.cells #[.int .i64 X.tm, .int .i64 X.tr] 2)) (some ⟨V1.heap.size, 0, none⟩) [X.tm, X.tr] := elems_new V1 _ [X.tm, X.tr] (by simp only [List.mem_cons, List.not_mem_nil, or_false, forall_eq_or_imp, forall_eq]; exact ⟨i2.out, i3.out⟩)
        replace hE1 := Lib.hid hE1
        replace hE3 := Lib.hid (hE3.out.below (below_new V1 (.cells #[.int .i64 X.tm, .int .i64 X.tr] 2)))
        replace HB := Lib.hid (HB.out.trans ((below_new V1 (.cells #[.int .i64 X.tm, .int .i64 X.tr] 2)).mono HB.out.size))
        refine wpAnyN_strong (S' := fun wz => Below (V1.alloc (.cells #[.int .i64 X.tm, .int .i64 X.tr] 2)).heap.size (V1.alloc (.cells #[.int .i64 X.tm, .int .i64 X.tr] 2)) wz) (fun wz h => (below_new V1 (.cells #[.int .i64 X.tm, .int .i64 X.tr] 2)).trans (h.mono (below_new V1 (.cells #[.int .i64 X.tm, .int .i64 X.tr] 2)).size)) _ _ _ _ ?_
        clear hHeld
        have hHeld := Below.refl (V1.alloc (.cells #[.int .i64 X.tm, .int .i64 X.tr] 2)).heap.size (V1.alloc (.cells #[.int .i64 X.tm, .int .i64 X.tr] 2))
        generalize V1.alloc (.cells #[.int .i64 X.tm, .int .i64 X.tr] 2) = V2 at *
        generalize V1.heap.size = gb1 at *
        refine wpAnyN_of_3_22 (by kernel_rfl) (by exact hShut) (fun K hK => ?_) (fun K hK => ?_)
        · go_simp
          refine hK.out _ _ (fun _ => (by exact below_new V2 _)) (fun hH hS2 => ?_)
          clear hK K hHeld hShut
          have hShut := hS2
          clear hS2
          have hHeld := hH rfl
          clear hH
          try simp only [Act.put, List.setIfInBounds_toArray, List.set_cons_zero, List.set_cons_succ]
          have hE0 : Elems .i64 (V2.alloc (.cells #[.int .i64 X.fin] 2)) (some ⟨V2.heap.size, 0, none⟩) [X.fin] := elems_new V2 _ [X.fin] (by simp only [List.mem_cons, List.not_mem_nil, or_false, forall_eq_or_imp, forall_eq]; exact i1.out)
          replace hE0 := Lib.hid hE0
          replace hE1 := Lib.hid (hE1.out.below (below_new V2 (.cells #[.int .i64 X.fin] 2)))
          replace hE3 := Lib.hid (hE3.out.below (below_new V2 (.cells #[.int .i64 X.fin] 2)))
          replace HB := Lib.hid (HB.out.trans ((below_new V2 (.cells #[.int .i64 X.fin] 2)).mono HB.out.size))
          refine wpAnyN_strong (S' := fun wz => Below (V2.alloc (.cells #[.int .i64 X.fin] 2)).heap.size (V2.alloc (.cells #[.int .i64 X.fin] 2)) wz) (fun wz h => (below_new V2 (.cells #[.int .i64 X.fin] 2)).trans (h.mono (below_new V2 (.cells #[.int .i64 X.fin] 2)).size)) _ _ _ _ ?_
          clear hHeld
          have hHeld := Below.refl (V2.alloc (.cells #[.int .i64 X.fin] 2)).heap.size (V2.alloc (.cells #[.int .i64 X.fin] 2))
          generalize V2.alloc (.cells #[.int .i64 X.fin] 2) = V3 at *
          generalize V2.heap.size = gb0 at *
          refine wpAnyN_takeC_4 (v := .string N0) (by kernel_rfl) (by kernel_rfl) (by kernel_rfl) (by kernel_rfl) (fun _ _ _ h => h) ⟨by rfl, 52, #[.string ⟨#[119, 104, 97, 114, 102, 97, 103, 101]⟩, .slice (some ⟨gb0, 0, none⟩) 1 1], fun wz => by kernel_rfl, fun wz hz => hT0.out wz _ (hE0.out.below hz)⟩ hHeld hShut (fun hS2 => ?_)
          clear hShut
          have hShut := hS2
          clear hS2
          try simp only [Act.put, List.setIfInBounds_toArray, List.set_cons_zero, List.set_cons_succ]
          refine wpAnyN_takeC_13 (v := .string N1) (by kernel_rfl) (by kernel_rfl) (by kernel_rfl) (by kernel_rfl) (fun _ _ _ h => h) ⟨by rfl, 52, #[.string ⟨#[116, 114, 117, 99, 107, 115]⟩, .slice (some ⟨gb1, 0, none⟩) 2 2], fun wz => by kernel_rfl, fun wz hz => hT1.out wz _ (hE1.out.below hz)⟩ hHeld hShut (fun hS2 => ?_)
          clear hShut
          have hShut := hS2
          clear hS2
          try simp only [Act.put, List.setIfInBounds_toArray, List.set_cons_zero, List.set_cons_succ]
          refine wpAnyN_take_14 (v := ?v100n) ?_ ?_ ?_ ?_ ?_ ?hy100n ?_ ?_ ?_
          case hy100n =>
            refine Or.inl ⟨by rfl, ?_⟩
            intro w hSw
            try dsimp only at hSw
            go_simp
            try with_reducible rfl
          · kernel_rfl
          · kernel_rfl
          · kernel_rfl
          · kernel_rfl
          · exact fun _ _ _ h => h
          · exact hHeld
          · exact hShut
          clear hShut
          intro hShut
          try simp only [Act.put, List.setIfInBounds_toArray, List.set_cons_zero, List.set_cons_succ]
          refine wpAnyN_one_22 (by kernel_rfl) (by exact hShut) (fun K hK => ?_)
          go_simp
          refine hK.out _ _ (fun _ => (by exact below_new V3 _)) (fun hH hS2 => ?_)
          clear hK K hHeld hShut
          have hShut := hS2
          clear hS2
          have hHeld := hH rfl
          clear hH
          try simp only [Act.put, List.setIfInBounds_toArray, List.set_cons_zero, List.set_cons_succ]
          have hE2 : Elems .i64 (V3.alloc (.cells #[.int .i64 X.bm, .int .i64 X.br] 2)) (some ⟨V3.heap.size, 0, none⟩) [X.bm, X.br] := elems_new V3 _ [X.bm, X.br] (by simp only [List.mem_cons, List.not_mem_nil, or_false, forall_eq_or_imp, forall_eq]; exact ⟨i4.out, i5.out⟩)
          replace hE2 := Lib.hid hE2
          replace hE0 := Lib.hid (hE0.out.below (below_new V3 (.cells #[.int .i64 X.bm, .int .i64 X.br] 2)))
          replace hE1 := Lib.hid (hE1.out.below (below_new V3 (.cells #[.int .i64 X.bm, .int .i64 X.br] 2)))
          replace hE3 := Lib.hid (hE3.out.below (below_new V3 (.cells #[.int .i64 X.bm, .int .i64 X.br] 2)))
          replace HB := Lib.hid (HB.out.trans ((below_new V3 (.cells #[.int .i64 X.bm, .int .i64 X.br] 2)).mono HB.out.size))
          refine wpAnyN_strong (S' := fun wz => Below (V3.alloc (.cells #[.int .i64 X.bm, .int .i64 X.br] 2)).heap.size (V3.alloc (.cells #[.int .i64 X.bm, .int .i64 X.br] 2)) wz) (fun wz h => (below_new V3 (.cells #[.int .i64 X.bm, .int .i64 X.br] 2)).trans (h.mono (below_new V3 (.cells #[.int .i64 X.bm, .int .i64 X.br] 2)).size)) _ _ _ _ ?_
          clear hHeld
          have hHeld := Below.refl (V3.alloc (.cells #[.int .i64 X.bm, .int .i64 X.br] 2)).heap.size (V3.alloc (.cells #[.int .i64 X.bm, .int .i64 X.br] 2))
          generalize V3.alloc (.cells #[.int .i64 X.bm, .int .i64 X.br] 2) = V4 at *
          generalize V3.heap.size = gb2 at *
          refine wpAnyN_takeC_23 (v := .string N2) (by kernel_rfl) (by kernel_rfl) (by kernel_rfl) (by kernel_rfl) (fun _ _ _ h => h) ⟨by rfl, 52, #[.string ⟨#[98, 105, 107, 101, 115]⟩, .slice (some ⟨gb2, 0, none⟩) 2 2], fun wz => by kernel_rfl, fun wz hz => hT2.out wz _ (hE2.out.below hz)⟩ hHeld hShut (fun hS2 => ?_)
          clear hShut
          have hShut := hS2
          clear hS2
          try simp only [Act.put, List.setIfInBounds_toArray, List.set_cons_zero, List.set_cons_succ]
          refine wpAnyN_take_24 (v := ?v101n) ?_ ?_ ?_ ?_ ?_ ?hy101n ?_ ?_ ?_
          case hy101n =>
            refine Or.inl ⟨by rfl, ?_⟩
            intro w hSw
            try dsimp only at hSw
            go_simp
            try with_reducible rfl
          · kernel_rfl
          · kernel_rfl
          · kernel_rfl
          · kernel_rfl
          · exact fun _ _ _ h => h
          · exact hHeld
          · exact hShut
          clear hShut
          intro hShut
          try simp only [Act.put, List.setIfInBounds_toArray, List.set_cons_zero, List.set_cons_succ]
          refine wpAnyN_takeC_30 (v := .string N3) (by kernel_rfl) (by kernel_rfl) (by kernel_rfl) (by kernel_rfl) (fun _ _ _ h => h) ⟨by rfl, 52, #[.string ⟨#[115, 97, 116, 101, 108, 108, 105, 116, 101, 115]⟩, .slice (some ⟨gb3, 0, none⟩) 1 1], fun wz => by kernel_rfl, fun wz hz => hT3.out wz _ (hE3.out.below hz)⟩ hHeld hShut (fun hS2 => ?_)
          clear hShut
          have hShut := hS2
          clear hS2
          try simp only [Act.put, List.setIfInBounds_toArray, List.set_cons_zero, List.set_cons_succ]
          refine wpAnyN_take_31 (v := ?v102n) ?_ ?_ ?_ ?_ ?_ ?hy102n ?_ ?_ ?_
          case hy102n =>
            refine Or.inl ⟨by rfl, ?_⟩
            intro w hSw
            try dsimp only at hSw
            go_simp
            try with_reducible rfl
          · kernel_rfl
          · kernel_rfl
          · kernel_rfl
          · kernel_rfl
          · exact fun _ _ _ h => h
          · exact hHeld
          · exact hShut
          clear hShut
          intro hShut
          try simp only [Act.put, List.setIfInBounds_toArray, List.set_cons_zero, List.set_cons_succ]
          refine wpAnyN_take_32 (v := ?v103n) ?_ ?_ ?_ ?_ ?_ ?hy103n ?_ ?_ ?_
          case hy103n =>
            refine Or.inl ⟨by rfl, ?_⟩
            intro w hSw
            try dsimp only at hSw
            go_simp
            try with_reducible rfl
          · kernel_rfl
          · kernel_rfl
          · kernel_rfl
          · kernel_rfl
          · exact fun _ _ _ h => h
          · exact hHeld
          · exact hShut
          clear hShut
          intro hShut
          try simp only [Act.put, List.setIfInBounds_toArray, List.set_cons_zero, List.set_cons_succ]
          refine wpAnyN_done (by kernel_rfl) ?_ _
          go_wp2_with fail
          go_meet
          exact ⟨_, rfl, by rw [L_cat, L_cat, L_cat, hL0.out, hL1.out, hL2.out, hL3.out, e4.out], HB.out⟩
        · go_simp
          refine hK.out _ _ (fun _ => (by exact below_new V2 _)) (fun hH hS2 => ?_)
          clear hK K hHeld hShut
          have hShut := hS2
          clear hS2
          have hHeld := hH rfl
          clear hH
          try simp only [Act.put, List.setIfInBounds_toArray, List.set_cons_zero, List.set_cons_succ]
          have hE2 : Elems .i64 (V2.alloc (.cells #[.int .i64 X.bm, .int .i64 X.br] 2)) (some ⟨V2.heap.size, 0, none⟩) [X.bm, X.br] := elems_new V2 _ [X.bm, X.br] (by simp only [List.mem_cons, List.not_mem_nil, or_false, forall_eq_or_imp, forall_eq]; exact ⟨i4.out, i5.out⟩)
          replace hE2 := Lib.hid hE2
          replace hE1 := Lib.hid (hE1.out.below (below_new V2 (.cells #[.int .i64 X.bm, .int .i64 X.br] 2)))
          replace hE3 := Lib.hid (hE3.out.below (below_new V2 (.cells #[.int .i64 X.bm, .int .i64 X.br] 2)))
          replace HB := Lib.hid (HB.out.trans ((below_new V2 (.cells #[.int .i64 X.bm, .int .i64 X.br] 2)).mono HB.out.size))
          refine wpAnyN_strong (S' := fun wz => Below (V2.alloc (.cells #[.int .i64 X.bm, .int .i64 X.br] 2)).heap.size (V2.alloc (.cells #[.int .i64 X.bm, .int .i64 X.br] 2)) wz) (fun wz h => (below_new V2 (.cells #[.int .i64 X.bm, .int .i64 X.br] 2)).trans (h.mono (below_new V2 (.cells #[.int .i64 X.bm, .int .i64 X.br] 2)).size)) _ _ _ _ ?_
          clear hHeld
          have hHeld := Below.refl (V2.alloc (.cells #[.int .i64 X.bm, .int .i64 X.br] 2)).heap.size (V2.alloc (.cells #[.int .i64 X.bm, .int .i64 X.br] 2))
          generalize V2.alloc (.cells #[.int .i64 X.bm, .int .i64 X.br] 2) = V3 at *
          generalize V2.heap.size = gb2 at *
          refine wpAnyN_one_3 (by kernel_rfl) (by exact hShut) (fun K hK => ?_)
          go_simp
          refine hK.out _ _ (fun _ => (by exact below_new V3 _)) (fun hH hS2 => ?_)
          clear hK K hHeld hShut
          have hShut := hS2
          clear hS2
          have hHeld := hH rfl
          clear hH
          try simp only [Act.put, List.setIfInBounds_toArray, List.set_cons_zero, List.set_cons_succ]
          have hE0 : Elems .i64 (V3.alloc (.cells #[.int .i64 X.fin] 2)) (some ⟨V3.heap.size, 0, none⟩) [X.fin] := elems_new V3 _ [X.fin] (by simp only [List.mem_cons, List.not_mem_nil, or_false, forall_eq_or_imp, forall_eq]; exact i1.out)
          replace hE0 := Lib.hid hE0
          replace hE1 := Lib.hid (hE1.out.below (below_new V3 (.cells #[.int .i64 X.fin] 2)))
          replace hE2 := Lib.hid (hE2.out.below (below_new V3 (.cells #[.int .i64 X.fin] 2)))
          replace hE3 := Lib.hid (hE3.out.below (below_new V3 (.cells #[.int .i64 X.fin] 2)))
          replace HB := Lib.hid (HB.out.trans ((below_new V3 (.cells #[.int .i64 X.fin] 2)).mono HB.out.size))
          refine wpAnyN_strong (S' := fun wz => Below (V3.alloc (.cells #[.int .i64 X.fin] 2)).heap.size (V3.alloc (.cells #[.int .i64 X.fin] 2)) wz) (fun wz h => (below_new V3 (.cells #[.int .i64 X.fin] 2)).trans (h.mono (below_new V3 (.cells #[.int .i64 X.fin] 2)).size)) _ _ _ _ ?_
          clear hHeld
          have hHeld := Below.refl (V3.alloc (.cells #[.int .i64 X.fin] 2)).heap.size (V3.alloc (.cells #[.int .i64 X.fin] 2))
          generalize V3.alloc (.cells #[.int .i64 X.fin] 2) = V4 at *
          generalize V3.heap.size = gb0 at *
          refine wpAnyN_takeC_4 (v := .string N0) (by kernel_rfl) (by kernel_rfl) (by kernel_rfl) (by kernel_rfl) (fun _ _ _ h => h) ⟨by rfl, 52, #[.string ⟨#[119, 104, 97, 114, 102, 97, 103, 101]⟩, .slice (some ⟨gb0, 0, none⟩) 1 1], fun wz => by kernel_rfl, fun wz hz => hT0.out wz _ (hE0.out.below hz)⟩ hHeld hShut (fun hS2 => ?_)
          clear hShut
          have hShut := hS2
          clear hS2
          try simp only [Act.put, List.setIfInBounds_toArray, List.set_cons_zero, List.set_cons_succ]
          refine wpAnyN_takeC_13 (v := .string N1) (by kernel_rfl) (by kernel_rfl) (by kernel_rfl) (by kernel_rfl) (fun _ _ _ h => h) ⟨by rfl, 52, #[.string ⟨#[116, 114, 117, 99, 107, 115]⟩, .slice (some ⟨gb1, 0, none⟩) 2 2], fun wz => by kernel_rfl, fun wz hz => hT1.out wz _ (hE1.out.below hz)⟩ hHeld hShut (fun hS2 => ?_)
          clear hShut
          have hShut := hS2
          clear hS2
          try simp only [Act.put, List.setIfInBounds_toArray, List.set_cons_zero, List.set_cons_succ]
          refine wpAnyN_take_14 (v := ?v104n) ?_ ?_ ?_ ?_ ?_ ?hy104n ?_ ?_ ?_
          case hy104n =>
            refine Or.inl ⟨by rfl, ?_⟩
            intro w hSw
            try dsimp only at hSw
            go_simp
            try with_reducible rfl
          · kernel_rfl
          · kernel_rfl
          · kernel_rfl
          · kernel_rfl
          · exact fun _ _ _ h => h
          · exact hHeld
          · exact hShut
          clear hShut
          intro hShut
          try simp only [Act.put, List.setIfInBounds_toArray, List.set_cons_zero, List.set_cons_succ]
          refine wpAnyN_takeC_23 (v := .string N2) (by kernel_rfl) (by kernel_rfl) (by kernel_rfl) (by kernel_rfl) (fun _ _ _ h => h) ⟨by rfl, 52, #[.string ⟨#[98, 105, 107, 101, 115]⟩, .slice (some ⟨gb2, 0, none⟩) 2 2], fun wz => by kernel_rfl, fun wz hz => hT2.out wz _ (hE2.out.below hz)⟩ hHeld hShut (fun hS2 => ?_)
          clear hShut
          have hShut := hS2
          clear hS2
          try simp only [Act.put, List.setIfInBounds_toArray, List.set_cons_zero, List.set_cons_succ]
          refine wpAnyN_take_24 (v := ?v105n) ?_ ?_ ?_ ?_ ?_ ?hy105n ?_ ?_ ?_
          case hy105n =>
            refine Or.inl ⟨by rfl, ?_⟩
            intro w hSw
            try dsimp only at hSw
            go_simp
            try with_reducible rfl
          · kernel_rfl
          · kernel_rfl
          · kernel_rfl
          · kernel_rfl
          · exact fun _ _ _ h => h
          · exact hHeld
          · exact hShut
          clear hShut
          intro hShut
          try simp only [Act.put, List.setIfInBounds_toArray, List.set_cons_zero, List.set_cons_succ]
          refine wpAnyN_takeC_30 (v := .string N3) (by kernel_rfl) (by kernel_rfl) (by kernel_rfl) (by kernel_rfl) (fun _ _ _ h => h) ⟨by rfl, 52, #[.string ⟨#[115, 97, 116, 101, 108, 108, 105, 116, 101, 115]⟩, .slice (some ⟨gb3, 0, none⟩) 1 1], fun wz => by kernel_rfl, fun wz hz => hT3.out wz _ (hE3.out.below hz)⟩ hHeld hShut (fun hS2 => ?_)
          clear hShut
          have hShut := hS2
          clear hS2
          try simp only [Act.put, List.setIfInBounds_toArray, List.set_cons_zero, List.set_cons_succ]
          refine wpAnyN_take_31 (v := ?v106n) ?_ ?_ ?_ ?_ ?_ ?hy106n ?_ ?_ ?_
          case hy106n =>
            refine Or.inl ⟨by rfl, ?_⟩
            intro w hSw
            try dsimp only at hSw
            go_simp
            try with_reducible rfl
          · kernel_rfl
          · kernel_rfl
          · kernel_rfl
          · kernel_rfl
          · exact fun _ _ _ h => h
          · exact hHeld
          · exact hShut
          clear hShut
          intro hShut
          try simp only [Act.put, List.setIfInBounds_toArray, List.set_cons_zero, List.set_cons_succ]
          refine wpAnyN_take_32 (v := ?v107n) ?_ ?_ ?_ ?_ ?_ ?hy107n ?_ ?_ ?_
          case hy107n =>
            refine Or.inl ⟨by rfl, ?_⟩
            intro w hSw
            try dsimp only at hSw
            go_simp
            try with_reducible rfl
          · kernel_rfl
          · kernel_rfl
          · kernel_rfl
          · kernel_rfl
          · exact fun _ _ _ h => h
          · exact hHeld
          · exact hShut
          clear hShut
          intro hShut
          try simp only [Act.put, List.setIfInBounds_toArray, List.set_cons_zero, List.set_cons_succ]
          refine wpAnyN_done (by kernel_rfl) ?_ _
          go_wp2_with fail
          go_meet
          exact ⟨_, rfl, by rw [L_cat, L_cat, L_cat, hL0.out, hL1.out, hL2.out, hL3.out, e4.out], HB.out⟩
      · go_simp
        refine hK.out _ _ (fun _ => (by exact below_new V1 _)) (fun hH hS2 => ?_)
        clear hK K hHeld hShut
        have hShut := hS2
        clear hS2
        have hHeld := hH rfl
        clear hH
        try simp only [Act.put, List.setIfInBounds_toArray, List.set_cons_zero, List.set_cons_succ]
        have hE2 : Elems .i64 (V1.alloc (.cells #[.int .i64 X.bm, .int .i64 X.br] 2)) (some ⟨V1.heap.size, 0, none⟩) [X.bm, X.br] := elems_new V1 _ [X.bm, X.br] (by simp only [List.mem_cons, List.not_mem_nil, or_false, forall_eq_or_imp, forall_eq]; exact ⟨i4.out, i5.out⟩)
        replace hE2 := Lib.hid hE2
        replace hE3 := Lib.hid (hE3.out.below (below_new V1 (.cells #[.int .i64 X.bm, .int .i64 X.br] 2)))
        replace HB := Lib.hid (HB.out.trans ((below_new V1 (.cells #[.int .i64 X.bm, .int .i64 X.br] 2)).mono HB.out.size))
        refine wpAnyN_strong (S' := fun wz => Below (V1.alloc (.cells #[.int .i64 X.bm, .int .i64 X.br] 2)).heap.size (V1.alloc (.cells #[.int .i64 X.bm, .int .i64 X.br] 2)) wz) (fun wz h => (below_new V1 (.cells #[.int .i64 X.bm, .int .i64 X.br] 2)).trans (h.mono (below_new V1 (.cells #[.int .i64 X.bm, .int .i64 X.br] 2)).size)) _ _ _ _ ?_
        clear hHeld
        have hHeld := Below.refl (V1.alloc (.cells #[.int .i64 X.bm, .int .i64 X.br] 2)).heap.size (V1.alloc (.cells #[.int .i64 X.bm, .int .i64 X.br] 2))
        generalize V1.alloc (.cells #[.int .i64 X.bm, .int .i64 X.br] 2) = V2 at *
        generalize V1.heap.size = gb2 at *
        refine wpAnyN_of_3_12 (by kernel_rfl) (by exact hShut) (fun K hK => ?_) (fun K hK => ?_)
        · go_simp
          refine hK.out _ _ (fun _ => (by exact below_new V2 _)) (fun hH hS2 => ?_)
          clear hK K hHeld hShut
          have hShut := hS2
          clear hS2
          have hHeld := hH rfl
          clear hH
          try simp only [Act.put, List.setIfInBounds_toArray, List.set_cons_zero, List.set_cons_succ]
          have hE0 : Elems .i64 (V2.alloc (.cells #[.int .i64 X.fin] 2)) (some ⟨V2.heap.size, 0, none⟩) [X.fin] := elems_new V2 _ [X.fin] (by simp only [List.mem_cons, List.not_mem_nil, or_false, forall_eq_or_imp, forall_eq]; exact i1.out)
          replace hE0 := Lib.hid hE0
          replace hE2 := Lib.hid (hE2.out.below (below_new V2 (.cells #[.int .i64 X.fin] 2)))
          replace hE3 := Lib.hid (hE3.out.below (below_new V2 (.cells #[.int .i64 X.fin] 2)))
          replace HB := Lib.hid (HB.out.trans ((below_new V2 (.cells #[.int .i64 X.fin] 2)).mono HB.out.size))
          refine wpAnyN_strong (S' := fun wz => Below (V2.alloc (.cells #[.int .i64 X.fin] 2)).heap.size (V2.alloc (.cells #[.int .i64 X.fin] 2)) wz) (fun wz h => (below_new V2 (.cells #[.int .i64 X.fin] 2)).trans (h.mono (below_new V2 (.cells #[.int .i64 X.fin] 2)).size)) _ _ _ _ ?_
          clear hHeld
          have hHeld := Below.refl (V2.alloc (.cells #[.int .i64 X.fin] 2)).heap.size (V2.alloc (.cells #[.int .i64 X.fin] 2))
          generalize V2.alloc (.cells #[.int .i64 X.fin] 2) = V3 at *
          generalize V2.heap.size = gb0 at *
          refine wpAnyN_takeC_4 (v := .string N0) (by kernel_rfl) (by kernel_rfl) (by kernel_rfl) (by kernel_rfl) (fun _ _ _ h => h) ⟨by rfl, 52, #[.string ⟨#[119, 104, 97, 114, 102, 97, 103, 101]⟩, .slice (some ⟨gb0, 0, none⟩) 1 1], fun wz => by kernel_rfl, fun wz hz => hT0.out wz _ (hE0.out.below hz)⟩ hHeld hShut (fun hS2 => ?_)
          clear hShut
          have hShut := hS2
          clear hS2
          try simp only [Act.put, List.setIfInBounds_toArray, List.set_cons_zero, List.set_cons_succ]
          refine wpAnyN_one_12 (by kernel_rfl) (by exact hShut) (fun K hK => ?_)
          go_simp
          refine hK.out _ _ (fun _ => (by exact below_new V3 _)) (fun hH hS2 => ?_)
          clear hK K hHeld hShut
          have hShut := hS2
          clear hS2
          have hHeld := hH rfl
          clear hH
          try simp only [Act.put, List.setIfInBounds_toArray, List.set_cons_zero, List.set_cons_succ]
          have hE1 : Elems .i64 (V3.alloc (.cells #[.int .i64 X.tm, .int .i64 X.tr] 2)) (some ⟨V3.heap.size, 0, none⟩) [X.tm, X.tr] := elems_new V3 _ [X.tm, X.tr] (by simp only [List.mem_cons, List.not_mem_nil, or_false, forall_eq_or_imp, forall_eq]; exact ⟨i2.out, i3.out⟩)
          replace hE1 := Lib.hid hE1
          replace hE0 := Lib.hid (hE0.out.below (below_new V3 (.cells #[.int .i64 X.tm, .int .i64 X.tr] 2)))
          replace hE2 := Lib.hid (hE2.out.below (below_new V3 (.cells #[.int .i64 X.tm, .int .i64 X.tr] 2)))
          replace hE3 := Lib.hid (hE3.out.below (below_new V3 (.cells #[.int .i64 X.tm, .int .i64 X.tr] 2)))
          replace HB := Lib.hid (HB.out.trans ((below_new V3 (.cells #[.int .i64 X.tm, .int .i64 X.tr] 2)).mono HB.out.size))
          refine wpAnyN_strong (S' := fun wz => Below (V3.alloc (.cells #[.int .i64 X.tm, .int .i64 X.tr] 2)).heap.size (V3.alloc (.cells #[.int .i64 X.tm, .int .i64 X.tr] 2)) wz) (fun wz h => (below_new V3 (.cells #[.int .i64 X.tm, .int .i64 X.tr] 2)).trans (h.mono (below_new V3 (.cells #[.int .i64 X.tm, .int .i64 X.tr] 2)).size)) _ _ _ _ ?_
          clear hHeld
          have hHeld := Below.refl (V3.alloc (.cells #[.int .i64 X.tm, .int .i64 X.tr] 2)).heap.size (V3.alloc (.cells #[.int .i64 X.tm, .int .i64 X.tr] 2))
          generalize V3.alloc (.cells #[.int .i64 X.tm, .int .i64 X.tr] 2) = V4 at *
          generalize V3.heap.size = gb1 at *
          refine wpAnyN_takeC_13 (v := .string N1) (by kernel_rfl) (by kernel_rfl) (by kernel_rfl) (by kernel_rfl) (fun _ _ _ h => h) ⟨by rfl, 52, #[.string ⟨#[116, 114, 117, 99, 107, 115]⟩, .slice (some ⟨gb1, 0, none⟩) 2 2], fun wz => by kernel_rfl, fun wz hz => hT1.out wz _ (hE1.out.below hz)⟩ hHeld hShut (fun hS2 => ?_)
          clear hShut
          have hShut := hS2
          clear hS2
          try simp only [Act.put, List.setIfInBounds_toArray, List.set_cons_zero, List.set_cons_succ]
          refine wpAnyN_take_14 (v := ?v108n) ?_ ?_ ?_ ?_ ?_ ?hy108n ?_ ?_ ?_
          case hy108n =>
            refine Or.inl ⟨by rfl, ?_⟩
            intro w hSw
            try dsimp only at hSw
            go_simp
            try with_reducible rfl
          · kernel_rfl
          · kernel_rfl
          · kernel_rfl
          · kernel_rfl
          · exact fun _ _ _ h => h
          · exact hHeld
          · exact hShut
          clear hShut
          intro hShut
          try simp only [Act.put, List.setIfInBounds_toArray, List.set_cons_zero, List.set_cons_succ]
          refine wpAnyN_takeC_23 (v := .string N2) (by kernel_rfl) (by kernel_rfl) (by kernel_rfl) (by kernel_rfl) (fun _ _ _ h => h) ⟨by rfl, 52, #[.string ⟨#[98, 105, 107, 101, 115]⟩, .slice (some ⟨gb2, 0, none⟩) 2 2], fun wz => by kernel_rfl, fun wz hz => hT2.out wz _ (hE2.out.below hz)⟩ hHeld hShut (fun hS2 => ?_)
          clear hShut
          have hShut := hS2
          clear hS2
          try simp only [Act.put, List.setIfInBounds_toArray, List.set_cons_zero, List.set_cons_succ]
          refine wpAnyN_take_24 (v := ?v109n) ?_ ?_ ?_ ?_ ?_ ?hy109n ?_ ?_ ?_
          case hy109n =>
            refine Or.inl ⟨by rfl, ?_⟩
            intro w hSw
            try dsimp only at hSw
            go_simp
            try with_reducible rfl
          · kernel_rfl
          · kernel_rfl
          · kernel_rfl
          · kernel_rfl
          · exact fun _ _ _ h => h
          · exact hHeld
          · exact hShut
          clear hShut
          intro hShut
          try simp only [Act.put, List.setIfInBounds_toArray, List.set_cons_zero, List.set_cons_succ]
          refine wpAnyN_takeC_30 (v := .string N3) (by kernel_rfl) (by kernel_rfl) (by kernel_rfl) (by kernel_rfl) (fun _ _ _ h => h) ⟨by rfl, 52, #[.string ⟨#[115, 97, 116, 101, 108, 108, 105, 116, 101, 115]⟩, .slice (some ⟨gb3, 0, none⟩) 1 1], fun wz => by kernel_rfl, fun wz hz => hT3.out wz _ (hE3.out.below hz)⟩ hHeld hShut (fun hS2 => ?_)
          clear hShut
          have hShut := hS2
          clear hS2
          try simp only [Act.put, List.setIfInBounds_toArray, List.set_cons_zero, List.set_cons_succ]
          refine wpAnyN_take_31 (v := ?v110n) ?_ ?_ ?_ ?_ ?_ ?hy110n ?_ ?_ ?_
          case hy110n =>
            refine Or.inl ⟨by rfl, ?_⟩
            intro w hSw
            try dsimp only at hSw
            go_simp
            try with_reducible rfl
          · kernel_rfl
          · kernel_rfl
          · kernel_rfl
          · kernel_rfl
          · exact fun _ _ _ h => h
          · exact hHeld
          · exact hShut
          clear hShut
          intro hShut
          try simp only [Act.put, List.setIfInBounds_toArray, List.set_cons_zero, List.set_cons_succ]
          refine wpAnyN_take_32 (v := ?v111n) ?_ ?_ ?_ ?_ ?_ ?hy111n ?_ ?_ ?_
          case hy111n =>
            refine Or.inl ⟨by rfl, ?_⟩
            intro w hSw
            try dsimp only at hSw
            go_simp
            try with_reducible rfl
          · kernel_rfl
          · kernel_rfl
          · kernel_rfl
          · kernel_rfl
          · exact fun _ _ _ h => h
          · exact hHeld
          · exact hShut
          clear hShut
          intro hShut
          try simp only [Act.put, List.setIfInBounds_toArray, List.set_cons_zero, List.set_cons_succ]
          refine wpAnyN_done (by kernel_rfl) ?_ _
          go_wp2_with fail
          go_meet
          exact ⟨_, rfl, by rw [L_cat, L_cat, L_cat, hL0.out, hL1.out, hL2.out, hL3.out, e4.out], HB.out⟩
        · go_simp
          refine hK.out _ _ (fun _ => (by exact below_new V2 _)) (fun hH hS2 => ?_)
          clear hK K hHeld hShut
          have hShut := hS2
          clear hS2
          have hHeld := hH rfl
          clear hH
          try simp only [Act.put, List.setIfInBounds_toArray, List.set_cons_zero, List.set_cons_succ]
          have hE1 : Elems .i64 (V2.alloc (.cells #[.int .i64 X.tm, .int .i64 X.tr] 2)) (some ⟨V2.heap.size, 0, none⟩) [X.tm, X.tr] := elems_new V2 _ [X.tm, X.tr] (by simp only [List.mem_cons, List.not_mem_nil, or_false, forall_eq_or_imp, forall_eq]; exact ⟨i2.out, i3.out⟩)
          replace hE1 := Lib.hid hE1
          replace hE2 := Lib.hid (hE2.out.below (below_new V2 (.cells #[.int .i64 X.tm, .int .i64 X.tr] 2)))
          replace hE3 := Lib.hid (hE3.out.below (below_new V2 (.cells #[.int .i64 X.tm, .int .i64 X.tr] 2)))
          replace HB := Lib.hid (HB.out.trans ((below_new V2 (.cells #[.int .i64 X.tm, .int .i64 X.tr] 2)).mono HB.out.size))
          refine wpAnyN_strong (S' := fun wz => Below (V2.alloc (.cells #[.int .i64 X.tm, .int .i64 X.tr] 2)).heap.size (V2.alloc (.cells #[.int .i64 X.tm, .int .i64 X.tr] 2)) wz) (fun wz h => (below_new V2 (.cells #[.int .i64 X.tm, .int .i64 X.tr] 2)).trans (h.mono (below_new V2 (.cells #[.int .i64 X.tm, .int .i64 X.tr] 2)).size)) _ _ _ _ ?_
          clear hHeld
          have hHeld := Below.refl (V2.alloc (.cells #[.int .i64 X.tm, .int .i64 X.tr] 2)).heap.size (V2.alloc (.cells #[.int .i64 X.tm, .int .i64 X.tr] 2))
          generalize V2.alloc (.cells #[.int .i64 X.tm, .int .i64 X.tr] 2) = V3 at *
          generalize V2.heap.size = gb1 at *
          refine wpAnyN_one_3 (by kernel_rfl) (by exact hShut) (fun K hK => ?_)
          go_simp
          refine hK.out _ _ (fun _ => (by exact below_new V3 _)) (fun hH hS2 => ?_)
          clear hK K hHeld hShut
          have hShut := hS2
          clear hS2
          have hHeld := hH rfl
          clear hH
          try simp only [Act.put, List.setIfInBounds_toArray, List.set_cons_zero, List.set_cons_succ]
          have hE0 : Elems .i64 (V3.alloc (.cells #[.int .i64 X.fin] 2)) (some ⟨V3.heap.size, 0, none⟩) [X.fin] := elems_new V3 _ [X.fin] (by simp only [List.mem_cons, List.not_mem_nil, or_false, forall_eq_or_imp, forall_eq]; exact i1.out)
          replace hE0 := Lib.hid hE0
          replace hE1 := Lib.hid (hE1.out.below (below_new V3 (.cells #[.int .i64 X.fin] 2)))
          replace hE2 := Lib.hid (hE2.out.below (below_new V3 (.cells #[.int .i64 X.fin] 2)))
          replace hE3 := Lib.hid (hE3.out.below (below_new V3 (.cells #[.int .i64 X.fin] 2)))
          replace HB := Lib.hid (HB.out.trans ((below_new V3 (.cells #[.int .i64 X.fin] 2)).mono HB.out.size))
          refine wpAnyN_strong (S' := fun wz => Below (V3.alloc (.cells #[.int .i64 X.fin] 2)).heap.size (V3.alloc (.cells #[.int .i64 X.fin] 2)) wz) (fun wz h => (below_new V3 (.cells #[.int .i64 X.fin] 2)).trans (h.mono (below_new V3 (.cells #[.int .i64 X.fin] 2)).size)) _ _ _ _ ?_
          clear hHeld
          have hHeld := Below.refl (V3.alloc (.cells #[.int .i64 X.fin] 2)).heap.size (V3.alloc (.cells #[.int .i64 X.fin] 2))
          generalize V3.alloc (.cells #[.int .i64 X.fin] 2) = V4 at *
          generalize V3.heap.size = gb0 at *
          refine wpAnyN_takeC_4 (v := .string N0) (by kernel_rfl) (by kernel_rfl) (by kernel_rfl) (by kernel_rfl) (fun _ _ _ h => h) ⟨by rfl, 52, #[.string ⟨#[119, 104, 97, 114, 102, 97, 103, 101]⟩, .slice (some ⟨gb0, 0, none⟩) 1 1], fun wz => by kernel_rfl, fun wz hz => hT0.out wz _ (hE0.out.below hz)⟩ hHeld hShut (fun hS2 => ?_)
          clear hShut
          have hShut := hS2
          clear hS2
          try simp only [Act.put, List.setIfInBounds_toArray, List.set_cons_zero, List.set_cons_succ]
          refine wpAnyN_takeC_13 (v := .string N1) (by kernel_rfl) (by kernel_rfl) (by kernel_rfl) (by kernel_rfl) (fun _ _ _ h => h) ⟨by rfl, 52, #[.string ⟨#[116, 114, 117, 99, 107, 115]⟩, .slice (some ⟨gb1, 0, none⟩) 2 2], fun wz => by kernel_rfl, fun wz hz => hT1.out wz _ (hE1.out.below hz)⟩ hHeld hShut (fun hS2 => ?_)
          clear hShut
          have hShut := hS2
          clear hS2
          try simp only [Act.put, List.setIfInBounds_toArray, List.set_cons_zero, List.set_cons_succ]
          refine wpAnyN_take_14 (v := ?v112n) ?_ ?_ ?_ ?_ ?_ ?hy112n ?_ ?_ ?_
          case hy112n =>
            refine Or.inl ⟨by rfl, ?_⟩
            intro w hSw
            try dsimp only at hSw
            go_simp
            try with_reducible rfl
          · kernel_rfl
          · kernel_rfl
          · kernel_rfl
          · kernel_rfl
          · exact fun _ _ _ h => h
          · exact hHeld
          · exact hShut
          clear hShut
          intro hShut
          try simp only [Act.put, List.setIfInBounds_toArray, List.set_cons_zero, List.set_cons_succ]
          refine wpAnyN_takeC_23 (v := .string N2) (by kernel_rfl) (by kernel_rfl) (by kernel_rfl) (by kernel_rfl) (fun _ _ _ h => h) ⟨by rfl, 52, #[.string ⟨#[98, 105, 107, 101, 115]⟩, .slice (some ⟨gb2, 0, none⟩) 2 2], fun wz => by kernel_rfl, fun wz hz => hT2.out wz _ (hE2.out.below hz)⟩ hHeld hShut (fun hS2 => ?_)
          clear hShut
          have hShut := hS2
          clear hS2
          try simp only [Act.put, List.setIfInBounds_toArray, List.set_cons_zero, List.set_cons_succ]
          refine wpAnyN_take_24 (v := ?v113n) ?_ ?_ ?_ ?_ ?_ ?hy113n ?_ ?_ ?_
          case hy113n =>
            refine Or.inl ⟨by rfl, ?_⟩
            intro w hSw
            try dsimp only at hSw
            go_simp
            try with_reducible rfl
          · kernel_rfl
          · kernel_rfl
          · kernel_rfl
          · kernel_rfl
          · exact fun _ _ _ h => h
          · exact hHeld
          · exact hShut
          clear hShut
          intro hShut
          try simp only [Act.put, List.setIfInBounds_toArray, List.set_cons_zero, List.set_cons_succ]
          refine wpAnyN_takeC_30 (v := .string N3) (by kernel_rfl) (by kernel_rfl) (by kernel_rfl) (by kernel_rfl) (fun _ _ _ h => h) ⟨by rfl, 52, #[.string ⟨#[115, 97, 116, 101, 108, 108, 105, 116, 101, 115]⟩, .slice (some ⟨gb3, 0, none⟩) 1 1], fun wz => by kernel_rfl, fun wz hz => hT3.out wz _ (hE3.out.below hz)⟩ hHeld hShut (fun hS2 => ?_)
          clear hShut
          have hShut := hS2
          clear hS2
          try simp only [Act.put, List.setIfInBounds_toArray, List.set_cons_zero, List.set_cons_succ]
          refine wpAnyN_take_31 (v := ?v114n) ?_ ?_ ?_ ?_ ?_ ?hy114n ?_ ?_ ?_
          case hy114n =>
            refine Or.inl ⟨by rfl, ?_⟩
            intro w hSw
            try dsimp only at hSw
            go_simp
            try with_reducible rfl
          · kernel_rfl
          · kernel_rfl
          · kernel_rfl
          · kernel_rfl
          · exact fun _ _ _ h => h
          · exact hHeld
          · exact hShut
          clear hShut
          intro hShut
          try simp only [Act.put, List.setIfInBounds_toArray, List.set_cons_zero, List.set_cons_succ]
          refine wpAnyN_take_32 (v := ?v115n) ?_ ?_ ?_ ?_ ?_ ?hy115n ?_ ?_ ?_
          case hy115n =>
            refine Or.inl ⟨by rfl, ?_⟩
            intro w hSw
            try dsimp only at hSw
            go_simp
            try with_reducible rfl
          · kernel_rfl
          · kernel_rfl
          · kernel_rfl
          · kernel_rfl
          · exact fun _ _ _ h => h
          · exact hHeld
          · exact hShut
          clear hShut
          intro hShut
          try simp only [Act.put, List.setIfInBounds_toArray, List.set_cons_zero, List.set_cons_succ]
          refine wpAnyN_done (by kernel_rfl) ?_ _
          go_wp2_with fail
          go_meet
          exact ⟨_, rfl, by rw [L_cat, L_cat, L_cat, hL0.out, hL1.out, hL2.out, hL3.out, e4.out], HB.out⟩
  case rest =>
  obtain ⟨T0, rfl, hT0, hb0⟩ := hcut
  clear KD y1 y2 y3 z0 z1 z2 z3 hL0 hL1 hL2 hL3 hT1 hT2 hT3
  have hT0s : T0.size ≤ 400 := (by have hq : T0.size = (p4 X).length := (by rw [← hT0]; rfl); omega)
  have cb := (hbx.out _ hb0).2
  have c5 := cb 5 _ rfl
  clear cb
  have hTe := Lib.hid (fun (ns : List Int) (w : World) (g : Nat) (hg : g = w.heap.size) (hl : ns.length ≤ 1000000) (hn : ∀ n ∈ ns, I64 n) => tells_layG ⟨#[]⟩ ns w g hg (by decide) hl hn)
  go_wp2_with fail
  clear c5
  go_loopw [4, 48] (fun v i wr => ∃ (k : Nat) (T : ByteArray), k ≤ X.sats.length ∧ i = .int .i64 k ∧ v = .string T ∧ L T = p4 X ++ (X.sats.take k).flatMap satL ∧ Below W.heap.size W wr) (fun _ i _ => X.sats.length - (intOf i).toNat)
  case atStart => exact ⟨0, T0, Nat.zero_le _, rfl, rfl, by rw [hT0, show (X.sats.take 0).flatMap satL = [] from rfl, List.append_nil], hb0⟩
  case round =>
    clear hT0 hT0s hb0
    obtain ⟨k, T, hk, rfl, rfl, hT, hb⟩ := hrel
    by_cases hlt : k < X.sats.length
    · obtain ⟨b, off, rfl, hc1, hc2⟩ := (hH1.out _ hb).sat hlt
      have HS := flat_snoc satL X.sats hlt
      have hf := hfs.out k
      have htk : (X.sats.take k).length ≤ 12 := by rw [List.length_take]; omega
      obtain ⟨⟨v1, v2⟩, v3, v4⟩ := hsat.out X.sats[k] (List.getElem_mem hlt)
      have j1 := Lib.hid (i64_of v1 v2)
      have j2 := Lib.hid (i64_of v3 v4)
      rw [show satL X.sats[k] = lineL [] [X.sats[k].room, X.sats[k].hold] from rfl] at HS
      clear v1 v2 v3 v4
      generalize X.sats[k] = x at *
      generalize (X.sats.take k).flatMap satL = F at *
      have hTs : T.size ≤ 1000 := (by have hq : T.size = (p4 X ++ F).length := (by rw [← hT]; rfl); rw [List.length_append] at hq; omega)
      have hz := lineTx_size ⟨#[]⟩ [x.room, x.hold]
      have hz0 : (⟨#[]⟩ : ByteArray).size = 0 := rfl
      have hLx := L_lineTx ⟨#[]⟩ [x.room, x.hold]
      have hCall := Lib.hid (hTe.out [x.room, x.hold] (wr.alloc (.cells #[.int .i64 x.room, .int .i64 x.hold] 62)) (wr.heap.size + 1) (by simp) (by simp) (by simp only [List.mem_cons, List.not_mem_nil, or_false, forall_eq_or_imp, forall_eq]; exact ⟨j1.out, j2.out⟩))
      generalize lineTx ⟨#[]⟩ [x.room, x.hold] = N at *
      simp only [List.length_cons, List.length_nil] at hz
      have y1 : ¬ 9223372036854775807 < T.size + N.size := by omega
      have hT2 : Hid (L (T ++ N) = p4 X ++ (F ++ lineL [] [x.room, x.hold])) := Lib.hid (by rw [L_cat, hT, hLx, List.append_assoc])
      have hOn := Lib.hid (((On.mk hb hb.size).alloc (.cells #[.int .i64 x.room, .int .i64 x.hold] 62)).alloc (.cells (i64s [x.room, x.hold]).toArray 2))
      replace HS := Lib.hid HS
      clear hb hf htk hz hz0 hLx hT hTs
      go_wp2_with fail
      refine hCall.out.mono ?_
      rintro e wA ⟨rfl, rfl⟩
      go_wp2_with fail
      go_roundw
      case rel => exact ⟨k + 1, _, by omega, by go_num, rfl, by rw [HS.out]; exact hT2.out, hOn.out.b⟩
      case measure => simp [intOf]; omega
    · obtain rfl : k = X.sats.length := by omega
      rw [List.take_length, ← e5.out] at hT
      have hf := hfs.out X.sats.length
      rw [List.take_length] at hf
      have l5 : (p5 X).length ≤ 1000 := by rw [e5.out, List.length_append]; omega
      have hTs : T.size ≤ 1000 := (by have hq : T.size = (p5 X).length := (by rw [← hT]; rfl); omega)
      have cb := (hbx.out _ hb).2
      have c6 := cb 6 _ rfl
      clear cb
      have hz := lineTx_size sCusts [(X.custs.length : Int)]
      have hz0 : sCusts.size = 9 := rfl
      have hLx := L_lineTx sCusts [(X.custs.length : Int)]
      have hCall : Hid (Calls Try.prog 52 #[.string ⟨#[99, 117, 115, 116, 111, 109, 101, 114, 115]⟩, .slice (some ⟨wr.heap.size, 0, none⟩) 1 1] (wr.alloc (.cells #[.int .i64 (X.custs.length : Int)] 2)) fun e w' => e = .returned (.string (lineTx sCusts [(X.custs.length : Int)])) ∧ w' = wr.alloc (.cells #[.int .i64 (X.custs.length : Int)] 2)) := Lib.hid (tells_layG sCusts [(X.custs.length : Int)] wr _ rfl (by decide) (by simp) (by simp only [List.mem_cons, List.not_mem_nil, or_false, forall_eq]; exact i7.out))
      generalize lineTx sCusts [(X.custs.length : Int)] = N at *
      simp only [List.length_cons, List.length_nil] at hz
      have y1 : ¬ 9223372036854775807 < T.size + N.size := by omega
      have hT2 : L (T ++ N) = p6 X := by rw [L_cat, hT, hLx, ← e6.out]
      have l6 : (p6 X).length ≤ 1100 := by rw [e6.out, List.length_append]; omega
      have hb6 : Below W.heap.size W (wr.alloc (.cells #[.int .i64 (X.custs.length : Int)] 2)) := ((On.mk hb hb.size).alloc _).b
      replace hT2 := Lib.hid hT2
      clear hb hf hz hz0 hLx hT hTs hlt hk hfs hsat hH1 l4
      go_wp2_with fail
      refine hCall.out.mono ?_
      rintro e wA ⟨rfl, rfl⟩
      have cb := (hbx.out _ hb6).2
      have c6' := cb 6 _ rfl
      clear cb c6
      go_wp2_with fail
      clear c6' y1
      generalize wr.alloc (.cells #[.int .i64 (X.custs.length : Int)] 2) = w6 at *
      go_loopw [4, 73] (fun v i wr => ∃ (k : Nat) (T : ByteArray), k ≤ X.custs.length ∧ i = .int .i64 k ∧ v = .string T ∧ L T = p6 X ++ (X.custs.take k).flatMap custL ∧ Below W.heap.size W wr) (fun _ i _ => X.custs.length - (intOf i).toNat)
      case atStart => exact ⟨0, _, Nat.zero_le _, rfl, rfl, by rw [hT2.out, show (X.custs.take 0).flatMap custL = [] from rfl, List.append_nil], hb6⟩
      case round =>
        clear hT2 hb6
        obtain ⟨k, T, hk, rfl, rfl, hT, hb⟩ := hrel
        by_cases hlt : k < X.custs.length
        · obtain ⟨b, off, rfl, hc1, hc2, hc3, hc4⟩ := (hH2.out _ hb).cust hlt
          have HS := flat_snoc custL X.custs hlt
          have hf := hfc.out k
          have htk : (X.custs.take k).length ≤ 48 := by rw [List.length_take]; omega
          obtain ⟨⟨v1, v2⟩, ⟨v3, v4⟩, ⟨v5, v6⟩, v7, v8⟩ := hcust.out X.custs[k] (List.getElem_mem hlt)
          have j1 := Lib.hid (i64_of (n := X.custs[k].load) (by omega) v2)
          have j2 := Lib.hid (i64_of v3 v4)
          have j3 := Lib.hid (i64_of (n := X.custs[k].close) (by omega) v6)
          have j4 := Lib.hid (i64_of v7 v8)
          rw [show custL X.custs[k] = lineL [] [X.custs[k].load, X.custs[k].opn, X.custs[k].close, X.custs[k].stay] from rfl] at HS
          clear v1 v2 v3 v4 v5 v6 v7 v8
          generalize X.custs[k] = x at *
          generalize (X.custs.take k).flatMap custL = F at *
          have hTs : T.size ≤ 6000 := (by have hq : T.size = (p6 X ++ F).length := (by rw [← hT]; rfl); rw [List.length_append] at hq; omega)
          have hz := lineTx_size ⟨#[]⟩ [x.load, x.opn, x.close, x.stay]
          have hz0 : (⟨#[]⟩ : ByteArray).size = 0 := rfl
          have hLx := L_lineTx ⟨#[]⟩ [x.load, x.opn, x.close, x.stay]
          have hCall := Lib.hid (hTe.out [x.load, x.opn, x.close, x.stay] (wr.alloc (.cells #[.int .i64 x.load, .int .i64 x.opn, .int .i64 x.close, .int .i64 x.stay] 66)) (wr.heap.size + 1) (by simp) (by simp) (by simp only [List.mem_cons, List.not_mem_nil, or_false, forall_eq_or_imp, forall_eq]; exact ⟨j1.out, j2.out, j3.out, j4.out⟩))
          generalize lineTx ⟨#[]⟩ [x.load, x.opn, x.close, x.stay] = N at *
          simp only [List.length_cons, List.length_nil] at hz
          have y1 : ¬ 9223372036854775807 < T.size + N.size := by omega
          have hT2 : Hid (L (T ++ N) = p6 X ++ (F ++ lineL [] [x.load, x.opn, x.close, x.stay])) := Lib.hid (by rw [L_cat, hT, hLx, List.append_assoc])
          have hOn := Lib.hid (((On.mk hb hb.size).alloc (.cells #[.int .i64 x.load, .int .i64 x.opn, .int .i64 x.close, .int .i64 x.stay] 66)).alloc (.cells (i64s [x.load, x.opn, x.close, x.stay]).toArray 2))
          replace HS := Lib.hid HS
          clear hb hf htk hz hz0 hLx hT hTs
          go_wp2_with fail
          refine hCall.out.mono ?_
          rintro e wA ⟨rfl, rfl⟩
          go_wp2_with fail
          go_roundw
          case rel => exact ⟨k + 1, _, by omega, by go_num, rfl, by rw [HS.out]; exact hT2.out, hOn.out.b⟩
          case measure => simp [intOf]; omega
        · obtain rfl : k = X.custs.length := by omega
          rw [List.take_length, ← e7.out] at hT
          have hf := hfc.out X.custs.length
          rw [List.take_length] at hf
          have l7 : (p7 X).length ≤ 6000 := by rw [e7.out, List.length_append]; omega
          have hTs : T.size ≤ 6000 := (by have hq : T.size = (p7 X).length := (by rw [← hT]; rfl); omega)
          clear hlt hk hf hfc hcust hH2 l5 l6
          have cb := (hbx.out _ hb).2
          have c7 := cb 7 _ rfl
          clear cb
          have y1 : ¬ 9223372036854775807 < T.size + 5 := by omega
          have hT3 : Hid (L (T ++ ⟨#[99, 111, 115, 116, 10]⟩) = p7 X ++ lineL (L sCost) []) := Lib.hid (by rw [L_cat, hT]; rfl)
          clear hT
          go_wp2_with fail
          clear c7 y1
          go_loop [4, 96] (fun v i => ∃ (k : Nat) (T : ByteArray), k ≤ X.cost.length ∧ i = .int .i64 k ∧ v = .string T ∧ L T = (p7 X ++ lineL (L sCost) []) ++ (X.cost.take k).flatMap (lineL [])) (fun _ i => X.cost.length - (intOf i).toNat)
          case atStart => exact ⟨0, _, Nat.zero_le _, rfl, rfl, by rw [hT3.out, show (X.cost.take 0).flatMap (lineL []) = [] from rfl, List.append_nil]⟩
          case round =>
            clear hT3
            obtain ⟨k, T, hk, rfl, rfl, hT⟩ := hrel
            by_cases hlt : k < X.cost.length
            · obtain ⟨b, off, a, c, rfl, hc, hr, HA⟩ := (hH3.out _ hb).row hlt
              have HS := flat_snoc (lineL []) X.cost hlt
              have hf := flatL_len (lineL []) 1283 (X.cost.take k) (fun r hr => by have := lineL_len [] r; have := ro61.out r (List.mem_of_mem_take hr); simp at *; omega)
              have htk : (X.cost.take k).length ≤ 61 := by rw [List.length_take]; omega
              have hr9 := ro61.out _ (List.getElem_mem hlt)
              have hn9 := Lib.hid (ron.out _ (List.getElem_mem hlt))
              have hq5 : (lineL (L sCost) []).length = 5 := rfl
              generalize X.cost[k] = r at *
              generalize (X.cost.take k).flatMap (lineL []) = F at *
              have hTs : T.size ≤ 300000 := by
                have : T.size = ((p7 X ++ lineL (L sCost) []) ++ F).length := by rw [← hT]; rfl
                rw [List.length_append, List.length_append] at this
                have : 1283 * (X.cost.take k).length ≤ 1283 * 61 := Nat.mul_le_mul_left _ htk
                omega
              have hz := lineTx_size ⟨#[]⟩ r
              have hz0 : (⟨#[]⟩ : ByteArray).size = 0 := rfl
              have hLx := L_lineTx ⟨#[]⟩ r
              have hCall := Lib.hid (tells1_any ⟨#[]⟩ a c r _ (by decide) (by omega) (elems_rd HA hn9.out))
              generalize lineTx ⟨#[]⟩ r = N at *
              have y1 : ¬ 9223372036854775807 < T.size + N.size := by omega
              have hT4 : Hid (L (T ++ N) = (p7 X ++ lineL (L sCost) []) ++ (F ++ lineL [] r)) := Lib.hid (by rw [L_cat, hT, hLx, List.append_assoc])
              replace HS := Lib.hid HS
              clear hf htk hz hz0 hLx hT hTs HA
              go_wp2_with fail
              refine hCall.out.mono ?_
              rintro e wA ⟨rfl, rfl⟩
              go_wp2_with fail
              go_round
              case rel => exact ⟨k + 1, _, by omega, by go_num, rfl, by rw [HS.out]; exact hT4.out⟩
              case measure => simp [intOf]; omega
            · obtain rfl : k = X.cost.length := by omega
              rw [List.take_length, List.append_assoc, show lineL (L sCost) [] ++ X.cost.flatMap (lineL []) = rowsL (L sCost) X.cost from rfl, ← e8.out] at hT
              have ln : (p8 X).length ≤ 96000 := by rw [e8.out, List.length_append]; omega
              have hTs : T.size ≤ 96000 := (by have hq : T.size = (p8 X).length := (by rw [← hT]; rfl); omega)
              clear hlt hk
              have cb := (hbx.out _ hb).2
              have c8 := cb 8 _ rfl
              clear cb
              have y1 : ¬ 9223372036854775807 < T.size + 5 := by omega
              have hT5 : Hid (L (T ++ ⟨#[116, 105, 109, 101, 10]⟩) = p8 X ++ lineL (L sTime) []) := Lib.hid (by rw [L_cat, hT]; rfl)
              clear hT
              go_wp2_with fail
              clear c8 y1
              go_loop [4, 111] (fun v i => ∃ (k : Nat) (T : ByteArray), k ≤ X.time.length ∧ i = .int .i64 k ∧ v = .string T ∧ L T = (p8 X ++ lineL (L sTime) []) ++ (X.time.take k).flatMap (lineL [])) (fun _ i => X.time.length - (intOf i).toNat)
              case atStart => exact ⟨0, _, Nat.zero_le _, rfl, rfl, by rw [hT5.out, show (X.time.take 0).flatMap (lineL []) = [] from rfl, List.append_nil]⟩
              case round =>
                clear hT5
                obtain ⟨k, T, hk, rfl, rfl, hT⟩ := hrel
                by_cases hlt : k < X.time.length
                · obtain ⟨b, off, a, c, rfl, hc, hr, HA⟩ := (hH4.out _ hb).row hlt
                  have HS := flat_snoc (lineL []) X.time hlt
                  have hf := flatL_len (lineL []) 1283 (X.time.take k) (fun r hr => by have := lineL_len [] r; have := rt61.out r (List.mem_of_mem_take hr); simp at *; omega)
                  have htk : (X.time.take k).length ≤ 61 := by rw [List.length_take]; omega
                  have hr9 := rt61.out _ (List.getElem_mem hlt)
                  have hn9 := Lib.hid (rtn.out _ (List.getElem_mem hlt))
                  have hq5 : (lineL (L sTime) []).length = 5 := rfl
                  generalize X.time[k] = r at *
                  generalize (X.time.take k).flatMap (lineL []) = F at *
                  have hTs : T.size ≤ 300000 := by
                    have : T.size = ((p8 X ++ lineL (L sTime) []) ++ F).length := by rw [← hT]; rfl
                    rw [List.length_append, List.length_append] at this
                    have : 1283 * (X.time.take k).length ≤ 1283 * 61 := Nat.mul_le_mul_left _ htk
                    omega
                  have hz := lineTx_size ⟨#[]⟩ r
                  have hz0 : (⟨#[]⟩ : ByteArray).size = 0 := rfl
                  have hLx := L_lineTx ⟨#[]⟩ r
                  have hCall := Lib.hid (tells1_any ⟨#[]⟩ a c r _ (by decide) (by omega) (elems_rd HA hn9.out))
                  generalize lineTx ⟨#[]⟩ r = N at *
                  have y1 : ¬ 9223372036854775807 < T.size + N.size := by omega
                  have hT4 : Hid (L (T ++ N) = (p8 X ++ lineL (L sTime) []) ++ (F ++ lineL [] r)) := Lib.hid (by rw [L_cat, hT, hLx, List.append_assoc])
                  replace HS := Lib.hid HS
                  clear hf htk hz hz0 hLx hT hTs HA
                  go_wp2_with fail
                  refine hCall.out.mono ?_
                  rintro e wA ⟨rfl, rfl⟩
                  go_wp2_with fail
                  go_round
                  case rel => exact ⟨k + 1, _, by omega, by go_num, rfl, by rw [HS.out]; exact hT4.out⟩
                  case measure => simp [intOf]; omega
                · obtain rfl : k = X.time.length := by omega
                  rw [List.take_length, List.append_assoc, show lineL (L sTime) [] ++ X.time.flatMap (lineL []) = rowsL (L sTime) X.time from rfl, ← e9.out] at hT
                  have ln2 : (p9 X).length ≤ 186000 := by rw [e9.out, List.length_append]; omega
                  have hTs : T.size ≤ 186000 := (by have hq : T.size = (p9 X).length := (by rw [← hT]; rfl); omega)
                  clear hlt hk
                  have hEnd : Hid (showTx X = T ++ ⟨#[101, 110, 100, 10]⟩) := Lib.hid (L_eq (by rw [L_cat, hT, show L (showTx X) = showI X from rfl, eE.out]; rfl))
                  have y1 : ¬ 9223372036854775807 < T.size + 4 := by omega
                  have hfin := Lib.hid (BW.out.go hb)
                  clear hT
                  go_wp2_with fail
                  go_ret
                  exact ⟨by rw [hEnd.out]; rfl, by first | exact hfin.out.b | (rw [hg0.out]; exact hfin.out.b)⟩
end Go.Proofs.Ytljcpgeggbbmfaa
