/-
  The walk of inst.Instance.Clone (layer 11).
-/
import Derived.Test.YthiinlkpakinlaaClone
import Derived.Test.YthiinlkpakinlaaRegN
namespace Go.Proofs.Ythiinlkpakinlaa
set_option linter.unusedVariables false
set_option linter.unusedSimpArgs false
open Go.RowKit
/-- what Clone has made: in blocks from B on. -/
structure ClonedOwn (B : Nat) (w : World) (X : InstD) (h : HdD) (h7 h8 : List Value) : Prop where
  sats : w.ownsRow B 42 2 (.slice h.sa X.sats.length h.sc) X.sats.length (X.sats.flatMap satV)
  custs : w.ownsRow B 44 4 (.slice h.ca X.custs.length h.cc) X.custs.length (X.custs.flatMap custV)
  cost : RowsOwn B w (.slice h.oa X.cost.length h.oc) X.cost h7
  time : RowsOwn B w (.slice h.ta X.time.length h.tc) X.time h8
  mid : ∃ M, B ≤ M ∧ (∀ (i : Nat) (a : Addr) (n C : Nat), h7[i]? = some (.slice (some a) n C) → a.block < M) ∧ RowsOwn M w (.slice h.ta X.time.length h.tc) X.time h8
theorem RowsOwn.blocks {B : Nat} {w : World} {v : Value} {ls : List (List Int)} {hs : List Value} (h : RowsOwn B w v ls hs) : ∀ (i : Nat) (a : Addr) (n C : Nat), hs[i]? = some (.slice (some a) n C) → a.block < w.heap.size := by
  intro i a n C hi
  have hl : i < ls.length := by rw [← h.len]; exact (List.getElem?_eq_some_iff.1 hi).1
  obtain ⟨A, C', h1, h2⟩ := h.rows i ls[i] (List.getElem?_eq_getElem hl)
  rw [hi] at h1
  injection h1 with h1
  injection h1 with e1 e2 e3
  subst e1
  exact (own_lt h2 (g := a.block) rfl).2
def CloneXEnd (X : InstD) (w : World) (e : Ending) (w' : World) : Prop :=
  ∃ (h : HdD) (h7 h8 : List Value), e = .returned (.agg (instC X h)) ∧ ClonedOwn w.heap.size w' X h h7 h8 ∧ Below w.heap.size w w'
/-- what is kept while the clone is made: the instance's copy in block g, the result's block behind it. -/
structure CloS (W : World) (g : Nat) (X : InstD) (c5 c6 c7 c8 : Value) (w : World) : Prop where
  y : YW W g #[.int .i64 X.fin, .int .i64 X.tm, .int .i64 X.tr, .int .i64 X.bm, .int .i64 X.br, c5, c6, c7, c8] w
  r : w.heap[g + 1]? = some (.cells #[.int .i64 0, .int .i64 0, .int .i64 0, .int .i64 0, .int .i64 0, .slice none 0 0, .slice none 0 0, .slice none 0 0, .slice none 0 0] 28 (0, 0))
section
variable {W w w' : World} {g : Nat} {X : InstD} {c5 c6 c7 c8 : Value}
theorem CloS.below (h : CloS W g X c5 c6 c7 c8 w) (hb : Below w.heap.size w w') : CloS W g X c5 c6 c7 c8 w' :=
  ⟨h.y.below' hb, (hb.block (g + 1) (heap_lt h.r)).trans h.r⟩
theorem CloS.drew (h : CloS W g X c5 c6 c7 c8 w) : CloS W g X c5 c6 c7 c8 w.drew := ⟨⟨h.y.gs, h.y.below.drew, h.y.blk⟩, h.r⟩
theorem CloS.setr (h : CloS W g X c5 c6 c7 c8 w) (j : Nat) (u : Value) : (w.setCell ⟨g, j, none⟩ u).heap[g + 1]? = some (.cells #[.int .i64 0, .int .i64 0, .int .i64 0, .int .i64 0, .int .i64 0, .slice none 0 0, .slice none 0 0, .slice none 0 0, .slice none 0 0] 28 (0, 0)) :=
  (heap_setCell_other w ⟨g, j, none⟩ (g + 1) u (by show g + 1 ≠ g; omega)).trans h.r
theorem CloS.set5 (h : CloS W g X c5 c6 c7 c8 w) (u : Value) : CloS W g X u c6 c7 c8 (w.setCell ⟨g, 5, none⟩ u) := ⟨h.y.set 5 u, h.setr 5 u⟩
theorem CloS.set6 (h : CloS W g X c5 c6 c7 c8 w) (u : Value) : CloS W g X c5 u c7 c8 (w.setCell ⟨g, 6, none⟩ u) := ⟨h.y.set 6 u, h.setr 6 u⟩
theorem CloS.set7 (h : CloS W g X c5 c6 c7 c8 w) (u : Value) : CloS W g X c5 c6 u c8 (w.setCell ⟨g, 7, none⟩ u) := ⟨h.y.set 7 u, h.setr 7 u⟩
theorem CloS.set8 (h : CloS W g X c5 c6 c7 c8 w) (u : Value) : CloS W g X c5 c6 c7 u (w.setCell ⟨g, 8, none⟩ u) := ⟨h.y.set 8 u, h.setr 8 u⟩
theorem CloS.cells (h : CloS W g X c5 c6 c7 c8 w) :
    w.cell? ⟨g, 0, none⟩ = some (.int .i64 X.fin) ∧ w.cell? ⟨g, 1, none⟩ = some (.int .i64 X.tm) ∧ w.cell? ⟨g, 2, none⟩ = some (.int .i64 X.tr) ∧ w.cell? ⟨g, 3, none⟩ = some (.int .i64 X.bm) ∧ w.cell? ⟨g, 4, none⟩ = some (.int .i64 X.br) ∧ w.cell? ⟨g, 5, none⟩ = some (c5) ∧ w.cell? ⟨g, 6, none⟩ = some (c6) ∧ w.cell? ⟨g, 7, none⟩ = some (c7) ∧ w.cell? ⟨g, 8, none⟩ = some (c8) ∧ w.frozen? ⟨g, 5, none⟩ = false ∧ w.frozen? ⟨g, 6, none⟩ = false ∧ w.frozen? ⟨g, 7, none⟩ = false ∧ w.frozen? ⟨g, 8, none⟩ = false := by
  obtain ⟨hy, _⟩ := h
  exact ⟨hy.cell 0 _ rfl, hy.cell 1 _ rfl, hy.cell 2 _ rfl, hy.cell 3 _ rfl, hy.cell 4 _ rfl, hy.cell 5 _ rfl, hy.cell 6 _ rfl, hy.cell 7 _ rfl, hy.cell 8 _ rfl, hy.frozen 5, hy.frozen 6, hy.frozen 7, hy.frozen 8⟩
end
theorem RowsOwn.set {B : Nat} {w : World} {v : Value} {ls : List (List Int)} {hs : List Value} (h : RowsOwn B w v ls hs) {g : Nat} (hg : g < B) (j : Nat) (u : Value) : RowsOwn B (w.setCell ⟨g, j, none⟩ u) v ls hs :=
  ⟨h.len, own_set h.own hg j u, fun i r hi => by
    obtain ⟨A, C, h1, h2⟩ := h.rows i r hi
    exact ⟨A, C, h1, own_set h2 hg j u⟩⟩
theorem RowsOwn.grownG {B : Nat} {w w' : World} {v : Value} {ls : List (List Int)} {hs : List Value} (h : RowsOwn B w v ls hs) {g : Nat} (hg : w.grownBy w' (some g)) (hB : g < B) : RowsOwn B w' v ls hs :=
  ⟨h.len, h.own.kept hg (.inr (fun e => absurd (own_lt h.own e).1 (Nat.not_le.2 hB))), fun i r hi => by
    obtain ⟨A, C, h1, h2⟩ := h.rows i r hi
    exact ⟨A, C, h1, h2.kept hg (.inr (fun e => absurd (own_lt h2 e).1 (Nat.not_le.2 hB)))⟩⟩
theorem own_grownG {w w' : World} {B e s n g : Nat} {v : Value} {xs : List Value} (h : w.ownsRow B e s v n xs) (hg : w.grownBy w' (some g)) (hB : g < B) : w'.ownsRow B e s v n xs :=
  h.kept hg (.inr (fun e => absurd (own_lt h e).1 (Nat.not_le.2 hB)))
theorem RowsOwn.base {B B' : Nat} {w : World} {v : Value} {ls : List (List Int)} {hs : List Value} (h : RowsOwn B w v ls hs) (hB : B' ≤ B) : RowsOwn B' w v ls hs :=
  ⟨h.len, own_base h.own hB, fun i r hi => by
    obtain ⟨A, C, h1, h2⟩ := h.rows i r hi
    exact ⟨A, C, h1, own_base h2 hB⟩⟩
set_option maxHeartbeats 8000000 in
set_option maxRecDepth 100000 in
theorem clone_any (X : InstD) (h : HdD) (w : World) (H : InstIs w X h) (ls : X.sats.length ≤ 1000000) (lc : X.custs.length ≤ 1000000) (lo : X.cost.length ≤ 100000) (lt : X.time.length ≤ 100000) (ro : ∀ r ∈ X.cost, r.length ≤ 1000000) (rt : ∀ r ∈ X.time, r.length ≤ 1000000) :
    Calls Try.prog 17 #[.agg (instC X h)] w (CloneXEnd X w) := by
  obtain ⟨sa, sc, ca, cc, oa, oc, ta, tc⟩ := h
  obtain ⟨H1, H2, H3, H4, _, _, _, _⟩ := H
  unfold instC
  dsimp only at H1 H2 H3 H4 ⊢
  have hY0 : CloS w w.heap.size X (.slice sa X.sats.length sc) (.slice ca X.custs.length cc) (.slice oa X.cost.length oc) (.slice ta X.time.length tc) ((w.alloc (.cells #[.int .i64 X.fin, .int .i64 X.tm, .int .i64 X.tr, .int .i64 X.bm, .int .i64 X.br, .slice sa X.sats.length sc, .slice ca X.custs.length cc, .slice oa X.cost.length oc, .slice ta X.time.length tc] 28)).alloc (.cells #[.int .i64 0, .int .i64 0, .int .i64 0, .int .i64 0, .int .i64 0, .slice none 0 0, .slice none 0 0, .slice none 0 0, .slice none 0 0] 28)) :=
    ⟨(YW.new w w.heap.size rfl #[.int .i64 X.fin, .int .i64 X.tm, .int .i64 X.tr, .int .i64 X.bm, .int .i64 X.br, .slice sa X.sats.length sc, .slice ca X.custs.length cc, .slice oa X.cost.length oc, .slice ta X.time.length tc]).alloc _, by
      have e := heap_alloc_new (w.alloc (.cells #[.int .i64 X.fin, .int .i64 X.tm, .int .i64 X.tr, .int .i64 X.bm, .int .i64 X.br, .slice sa X.sats.length sc, .slice ca X.custs.length cc, .slice oa X.cost.length oc, .slice ta X.time.length tc] 28)) (.cells #[.int .i64 0, .int .i64 0, .int .i64 0, .int .i64 0, .int .i64 0, .slice none 0 0, .slice none 0 0, .slice none 0 0, .slice none 0 0] 28)
      rw [World.size_alloc] at e
      exact e⟩
  replace ro := Lib.hid ro
  replace rt := Lib.hid rt
  go_enter Try.func17, Try.ntmps17
  go_upto_region 1 with fail
  generalize ((w.alloc (.cells #[.int .i64 X.fin, .int .i64 X.tm, .int .i64 X.tr, .int .i64 X.bm, .int .i64 X.br, .slice sa X.sats.length sc, .slice ca X.custs.length cc, .slice oa X.cost.length oc, .slice ta X.time.length tc] 28)).alloc (.cells #[.int .i64 0, .int .i64 0, .int .i64 0, .int .i64 0, .int .i64 0, .slice none 0 0, .slice none 0 0, .slice none 0 0, .slice none 0 0] 28)) = W at *
  have hb0 := hY0.y.below
  replace H1 := Lib.hid H1
  replace H2 := Lib.hid H2
  replace H3 := Lib.hid H3
  replace H4 := Lib.hid H4
  generalize hg : w.heap.size = g at *
  have gW : g + 1 < W.heap.size := heap_lt hY0.r
  replace gW := Lib.hid gW
  replace hg := Lib.hid hg
  have KS : ∀ (c5 c6 c7 c8 : Value) (w' : World), CloS w g X c5 c6 c7 c8 w' → (w'.cell? ⟨g, 0, none⟩ = some (.int .i64 X.fin) ∧ w'.cell? ⟨g, 1, none⟩ = some (.int .i64 X.tm) ∧ w'.cell? ⟨g, 2, none⟩ = some (.int .i64 X.tr) ∧ w'.cell? ⟨g, 3, none⟩ = some (.int .i64 X.bm) ∧ w'.cell? ⟨g, 4, none⟩ = some (.int .i64 X.br) ∧ w'.cell? ⟨g, 5, none⟩ = some (c5) ∧ w'.cell? ⟨g, 6, none⟩ = some (c6) ∧ w'.cell? ⟨g, 7, none⟩ = some (c7) ∧ w'.cell? ⟨g, 8, none⟩ = some (c8) ∧ w'.frozen? ⟨g, 5, none⟩ = false ∧ w'.frozen? ⟨g, 6, none⟩ = false ∧ w'.frozen? ⟨g, 7, none⟩ = false ∧ w'.frozen? ⟨g, 8, none⟩ = false) := fun c5 c6 c7 c8 w' h => h.cells
  replace KS := Lib.hid KS
  replace hb0 := Lib.hid hb0
  have HMd := Lib.hid hY0.drew
  replace hY0 := Lib.hid hY0
  refine wp_region_N (fun j => decide (j < 7)) (fun w' => (w'.cell? ⟨g, 0, none⟩ = some (.int .i64 X.fin) ∧ w'.cell? ⟨g, 1, none⟩ = some (.int .i64 X.tm) ∧ w'.cell? ⟨g, 2, none⟩ = some (.int .i64 X.tr) ∧ w'.cell? ⟨g, 3, none⟩ = some (.int .i64 X.bm) ∧ w'.cell? ⟨g, 4, none⟩ = some (.int .i64 X.br) ∧ w'.cell? ⟨g, 5, none⟩ = some (.slice sa X.sats.length sc) ∧ w'.cell? ⟨g, 6, none⟩ = some (.slice ca X.custs.length cc) ∧ w'.cell? ⟨g, 7, none⟩ = some (.slice oa X.cost.length oc) ∧ w'.cell? ⟨g, 8, none⟩ = some (.slice ta X.time.length tc) ∧ w'.frozen? ⟨g, 5, none⟩ = false ∧ w'.frozen? ⟨g, 6, none⟩ = false ∧ w'.frozen? ⟨g, 7, none⟩ = false ∧ w'.frozen? ⟨g, 8, none⟩ = false) ∧ CloS w g X (.slice sa X.sats.length sc) (.slice ca X.custs.length cc) (.slice oa X.cost.length oc) (.slice ta X.time.length tc) w') (by kernel_rfl) ⟨KS.out _ _ _ _ _ HMd.out, HMd.out⟩ (fun hShut hHeld => ?_)
  refine wpAnyN_take_0 (v := ?v1n) ?_ ?_ ?_ ?_ ?_ ?hy1n ?_ ?_ ?_
  case hy1n =>
    refine Or.inl ⟨by rfl, ?_⟩
    intro w hSw
    try dsimp only at hSw
    go_simp
    try with_reducible rfl
  · kernel_rfl
  · kernel_rfl
  · kernel_rfl
  · kernel_rfl
  · exact fun _ _ _ h => h
  · exact hHeld
  · exact hShut
  clear hShut
  intro hShut
  try simp only [Act.put, List.setIfInBounds_toArray, List.set_cons_zero, List.set_cons_succ]
  refine wpAnyN_take_1 (v := ?v2n) ?_ ?_ ?_ ?_ ?_ ?hy2n ?_ ?_ ?_
  case hy2n =>
    refine Or.inl ⟨by rfl, ?_⟩
    intro w hSw
    try dsimp only at hSw
    go_simp
    try with_reducible rfl
  · kernel_rfl
  · kernel_rfl
  · kernel_rfl
  · kernel_rfl
  · exact fun _ _ _ h => h
  · exact hHeld
  · exact hShut
  clear hShut
  intro hShut
  try simp only [Act.put, List.setIfInBounds_toArray, List.set_cons_zero, List.set_cons_succ]
  refine wpAnyN_take_3 (v := ?v3n) ?_ ?_ ?_ ?_ ?_ ?hy3n ?_ ?_ ?_
  case hy3n =>
    refine Or.inl ⟨by rfl, ?_⟩
    intro w hSw
    try dsimp only at hSw
    go_simp
    try with_reducible rfl
  · kernel_rfl
  · kernel_rfl
  · kernel_rfl
  · kernel_rfl
  · exact fun _ _ _ h => h
  · exact hHeld
  · exact hShut
  clear hShut
  intro hShut
  try simp only [Act.put, List.setIfInBounds_toArray, List.set_cons_zero, List.set_cons_succ]
  refine wpAnyN_take_4 (v := ?v4n) ?_ ?_ ?_ ?_ ?_ ?hy4n ?_ ?_ ?_
  case hy4n =>
    refine Or.inl ⟨by rfl, ?_⟩
    intro w hSw
    try dsimp only at hSw
    go_simp
    try with_reducible rfl
  · kernel_rfl
  · kernel_rfl
  · kernel_rfl
  · kernel_rfl
  · exact fun _ _ _ h => h
  · exact hHeld
  · exact hShut
  clear hShut
  intro hShut
  try simp only [Act.put, List.setIfInBounds_toArray, List.set_cons_zero, List.set_cons_succ]
  refine wpAnyN_one_2 (by kernel_rfl) (by exact hShut) (fun K hK => ?_)
  go_simp
  refine (cloneSats_any _ _ X.sats _ ls (H1.out.below HMd.out.y.below)).mono ?_
  rintro e w5 ⟨A5, K5, rfl, ho5, hb5⟩
  go_wp2_with fail
  have HM5 := Lib.hid (HMd.out.below hb5)
  refine hK.out _ _ (fun _ => ⟨KS.out _ _ _ _ _ HM5.out, HM5.out⟩) (fun hH hS2 => ?_)
  clear hK K hHeld hShut
  have hShut := hS2
  clear hS2
  have hHeld := hH rfl
  clear hH
  try simp only [Act.put, List.setIfInBounds_toArray, List.set_cons_zero, List.set_cons_succ]
  refine wpAnyN_take_6 (v := ?v5n) ?_ ?_ ?_ ?_ ?_ ?hy5n ?_ ?_ ?_
  case hy5n =>
    refine Or.inl ⟨by rfl, ?_⟩
    intro w hSw
    try dsimp only at hSw
    go_simp
    try with_reducible rfl
  · kernel_rfl
  · kernel_rfl
  · kernel_rfl
  · kernel_rfl
  · exact fun _ _ _ h => h
  · exact hHeld
  · exact hShut
  clear hShut
  intro hShut
  try simp only [Act.put, List.setIfInBounds_toArray, List.set_cons_zero, List.set_cons_succ]
  refine wpAnyN_one_5 (by kernel_rfl) (by exact hShut) (fun K hK => ?_)
  go_simp
  refine (cloneCusts_any _ _ X.custs _ lc (H2.out.below HM5.out.y.below)).mono ?_
  rintro e w6 ⟨A6, K6, rfl, ho6, hb6⟩
  go_wp2_with fail
  have HM6 := Lib.hid (HM5.out.below hb6)
  refine hK.out _ _ (fun _ => ⟨KS.out _ _ _ _ _ HM6.out, HM6.out⟩) (fun hH hS2 => ?_)
  clear hK K hHeld hShut
  have hShut := hS2
  clear hS2
  have hHeld := hH rfl
  clear hH
  try simp only [Act.put, List.setIfInBounds_toArray, List.set_cons_zero, List.set_cons_succ]
  have hq := KS.out _ _ _ _ _ HM6.out
  have fa := HM6.out.y.frozen 5
  have fc := HM6.out.y.cell 5 _ rfl
  clear hHeld hq
  refine wpAnyN_one_7 (by kernel_rfl) (by exact hShut) (fun K hK => ?_)
  go_simp
  refine hK.out _ _ (fun h => absurd h (by decide)) (fun _ hS2 => ?_)
  clear hK K hShut
  have hShut := hS2
  clear hS2
  try simp only [Act.put, List.setIfInBounds_toArray, List.set_cons_zero, List.set_cons_succ]
  have HS5 := Lib.hid (HM6.out.set5 (.slice A5 X.sats.length K5))
  clear fa fc
  refine wpAnyN_one_8 (by kernel_rfl) (by exact hShut) (fun K hK => ?_)
  go_simp
  refine hK.out _ _ (fun h => absurd h (by decide)) (fun _ hS2 => ?_)
  clear hK K hShut
  have hShut := hS2
  clear hS2
  try simp only [Act.put, List.setIfInBounds_toArray, List.set_cons_zero, List.set_cons_succ]
  have fb := HS5.out.y.frozen 6
  have fd := HS5.out.y.cell 6 _ rfl
  refine wpAnyN_one_9 (by kernel_rfl) (by exact hShut) (fun K hK => ?_)
  go_simp
  refine hK.out _ _ (fun h => absurd h (by decide)) (fun _ hS2 => ?_)
  clear hK K hShut
  have hShut := hS2
  clear hS2
  try simp only [Act.put, List.setIfInBounds_toArray, List.set_cons_zero, List.set_cons_succ]
  have HS6 := Lib.hid (HS5.out.set6 (.slice A6 X.custs.length K6))
  clear fb fd
  refine wpAnyN_done (by kernel_rfl) ?_ _
  clear hShut
  have g5' : g + 1 < w5.heap.size := heap_lt HM5.out.r
  have gd' : g + 1 < W.drew.heap.size := heap_lt HMd.out.r
  have g5 : g < w5.heap.size := by omega
  have gd : g < W.drew.heap.size := by omega
  have hP5 := Lib.hid (own_set (own_set (own_below ho5 hb6) gd 5 (.slice A5 X.sats.length K5)) gd 6 (.slice A6 X.custs.length K6))
  have hP6 := Lib.hid (own_set (own_set ho6 g5 5 (.slice A5 X.sats.length K5)) g5 6 (.slice A6 X.custs.length K6))
  generalize ((w6.setCell ⟨g, 5, none⟩ (.slice A5 X.sats.length K5)).setCell ⟨g, 6, none⟩ (.slice A6 X.custs.length K6)) = W2 at *
  have gw5 := Lib.hid g5'
  have gwd := Lib.hid gd'
  clear ho5 ho6 hb5 hb6 g5 gd g5' gd' HM5 HM6 HS5 HMd hY0
  have HMe := Lib.hid HS6.out.drew
  go_upto_region 2 with fail
  refine wp_region_N (fun j => decide (j < 7)) (fun w' => (w'.cell? ⟨g, 0, none⟩ = some (.int .i64 X.fin) ∧ w'.cell? ⟨g, 1, none⟩ = some (.int .i64 X.tm) ∧ w'.cell? ⟨g, 2, none⟩ = some (.int .i64 X.tr) ∧ w'.cell? ⟨g, 3, none⟩ = some (.int .i64 X.bm) ∧ w'.cell? ⟨g, 4, none⟩ = some (.int .i64 X.br) ∧ w'.cell? ⟨g, 5, none⟩ = some (.slice A5 X.sats.length K5) ∧ w'.cell? ⟨g, 6, none⟩ = some (.slice A6 X.custs.length K6) ∧ w'.cell? ⟨g, 7, none⟩ = some (.slice oa X.cost.length oc) ∧ w'.cell? ⟨g, 8, none⟩ = some (.slice ta X.time.length tc) ∧ w'.frozen? ⟨g, 5, none⟩ = false ∧ w'.frozen? ⟨g, 6, none⟩ = false ∧ w'.frozen? ⟨g, 7, none⟩ = false ∧ w'.frozen? ⟨g, 8, none⟩ = false) ∧ CloS w g X (.slice A5 X.sats.length K5) (.slice A6 X.custs.length K6) (.slice oa X.cost.length oc) (.slice ta X.time.length tc) w') (by kernel_rfl) ⟨KS.out _ _ _ _ _ HMe.out, HMe.out⟩ (fun hShut hHeld => ?_)
  refine wpAnyN_take_0 (v := ?v6n) ?_ ?_ ?_ ?_ ?_ ?hy6n ?_ ?_ ?_
  case hy6n =>
    refine Or.inl ⟨by rfl, ?_⟩
    intro w hSw
    try dsimp only at hSw
    go_simp
    try with_reducible rfl
  · kernel_rfl
  · kernel_rfl
  · kernel_rfl
  · kernel_rfl
  · exact fun _ _ _ h => h
  · exact hHeld
  · exact hShut
  clear hShut
  intro hShut
  try simp only [Act.put, List.setIfInBounds_toArray, List.set_cons_zero, List.set_cons_succ]
  refine wpAnyN_take_1 (v := ?v7n) ?_ ?_ ?_ ?_ ?_ ?hy7n ?_ ?_ ?_
  case hy7n =>
    refine Or.inl ⟨by rfl, ?_⟩
    intro w hSw
    try dsimp only at hSw
    go_simp
    try with_reducible rfl
  · kernel_rfl
  · kernel_rfl
  · kernel_rfl
  · kernel_rfl
  · exact fun _ _ _ h => h
  · exact hHeld
  · exact hShut
  clear hShut
  intro hShut
  try simp only [Act.put, List.setIfInBounds_toArray, List.set_cons_zero, List.set_cons_succ]
  refine wpAnyN_take_3 (v := ?v8n) ?_ ?_ ?_ ?_ ?_ ?hy8n ?_ ?_ ?_
  case hy8n =>
    refine Or.inl ⟨by rfl, ?_⟩
    intro w hSw
    try dsimp only at hSw
    go_simp
    try with_reducible rfl
  · kernel_rfl
  · kernel_rfl
  · kernel_rfl
  · kernel_rfl
  · exact fun _ _ _ h => h
  · exact hHeld
  · exact hShut
  clear hShut
  intro hShut
  try simp only [Act.put, List.setIfInBounds_toArray, List.set_cons_zero, List.set_cons_succ]
  refine wpAnyN_take_4 (v := ?v9n) ?_ ?_ ?_ ?_ ?_ ?hy9n ?_ ?_ ?_
  case hy9n =>
    refine Or.inl ⟨by rfl, ?_⟩
    intro w hSw
    try dsimp only at hSw
    go_simp
    try with_reducible rfl
  · kernel_rfl
  · kernel_rfl
  · kernel_rfl
  · kernel_rfl
  · exact fun _ _ _ h => h
  · exact hHeld
  · exact hShut
  clear hShut
  intro hShut
  try simp only [Act.put, List.setIfInBounds_toArray, List.set_cons_zero, List.set_cons_succ]
  refine wpAnyN_one_2 (by kernel_rfl) (by exact hShut) (fun K hK => ?_)
  go_simp
  refine (rows_any _ _ X.cost _ lo ro.out (H3.out.below HMe.out.y.below)).mono ?_
  rintro e w7 ⟨A7, K7, h7, rfl, ho7, hb7⟩
  go_wp2_with fail
  have HM7 := Lib.hid (HMe.out.below hb7)
  refine hK.out _ _ (fun _ => ⟨KS.out _ _ _ _ _ HM7.out, HM7.out⟩) (fun hH hS2 => ?_)
  clear hK K hHeld hShut
  have hShut := hS2
  clear hS2
  have hHeld := hH rfl
  clear hH
  try simp only [Act.put, List.setIfInBounds_toArray, List.set_cons_zero, List.set_cons_succ]
  refine wpAnyN_take_6 (v := ?v10n) ?_ ?_ ?_ ?_ ?_ ?hy10n ?_ ?_ ?_
  case hy10n =>
    refine Or.inl ⟨by rfl, ?_⟩
    intro w hSw
    try dsimp only at hSw
    go_simp
    try with_reducible rfl
  · kernel_rfl
  · kernel_rfl
  · kernel_rfl
  · kernel_rfl
  · exact fun _ _ _ h => h
  · exact hHeld
  · exact hShut
  clear hShut
  intro hShut
  try simp only [Act.put, List.setIfInBounds_toArray, List.set_cons_zero, List.set_cons_succ]
  refine wpAnyN_one_5 (by kernel_rfl) (by exact hShut) (fun K hK => ?_)
  go_simp
  refine (rows_any _ _ X.time _ lt rt.out (H4.out.below HM7.out.y.below)).mono ?_
  rintro e w8 ⟨A8, K8, h8, rfl, ho8, hb8⟩
  go_wp2_with fail
  have HM8 := Lib.hid (HM7.out.below hb8)
  refine hK.out _ _ (fun _ => ⟨KS.out _ _ _ _ _ HM8.out, HM8.out⟩) (fun hH hS2 => ?_)
  clear hK K hHeld hShut
  have hShut := hS2
  clear hS2
  have hHeld := hH rfl
  clear hH
  try simp only [Act.put, List.setIfInBounds_toArray, List.set_cons_zero, List.set_cons_succ]
  have hq := KS.out _ _ _ _ _ HM8.out
  have fa := HM8.out.y.frozen 7
  have fc := HM8.out.y.cell 7 _ rfl
  clear hHeld hq
  refine wpAnyN_one_7 (by kernel_rfl) (by exact hShut) (fun K hK => ?_)
  go_simp
  refine hK.out _ _ (fun h => absurd h (by decide)) (fun _ hS2 => ?_)
  clear hK K hShut
  have hShut := hS2
  clear hS2
  try simp only [Act.put, List.setIfInBounds_toArray, List.set_cons_zero, List.set_cons_succ]
  have HS7 := Lib.hid (HM8.out.set7 (.slice A7 X.cost.length K7))
  clear fa fc
  refine wpAnyN_one_8 (by kernel_rfl) (by exact hShut) (fun K hK => ?_)
  go_simp
  refine hK.out _ _ (fun h => absurd h (by decide)) (fun _ hS2 => ?_)
  clear hK K hShut
  have hShut := hS2
  clear hS2
  try simp only [Act.put, List.setIfInBounds_toArray, List.set_cons_zero, List.set_cons_succ]
  have fb := HS7.out.y.frozen 8
  have fd := HS7.out.y.cell 8 _ rfl
  refine wpAnyN_one_9 (by kernel_rfl) (by exact hShut) (fun K hK => ?_)
  go_simp
  refine hK.out _ _ (fun h => absurd h (by decide)) (fun _ hS2 => ?_)
  clear hK K hShut
  have hShut := hS2
  clear hS2
  try simp only [Act.put, List.setIfInBounds_toArray, List.set_cons_zero, List.set_cons_succ]
  have HS8 := Lib.hid (HS7.out.set8 (.slice A8 X.time.length K8))
  clear fb fd
  refine wpAnyN_done (by kernel_rfl) ?_ _
  clear hShut
  have g7' : g + 1 < w7.heap.size := heap_lt HM7.out.r
  have ge' : g + 1 < W2.drew.heap.size := heap_lt HMe.out.r
  have g7 : g < w7.heap.size := by omega
  have ge : g < W2.drew.heap.size := by omega
  have g5 : g < w5.heap.size := by have := gw5.out; omega
  have gd : g < W.drew.heap.size := by have := gwd.out; omega
  have hM7 := Lib.hid ho7.blocks
  have hP7 := Lib.hid (((ho7.below hb8).set ge 7 (.slice A7 X.cost.length K7)).set ge 8 (.slice A8 X.time.length K8))
  have hP8 := Lib.hid ((ho8.set g7 7 (.slice A7 X.cost.length K7)).set g7 8 (.slice A8 X.time.length K8))
  have hQ5 := Lib.hid (own_set (own_set (own_below (own_below (w := W2.drew) hP5.out hb7) hb8) gd 7 (.slice A7 X.cost.length K7)) gd 8 (.slice A8 X.time.length K8))
  have hQ6 := Lib.hid (own_set (own_set (own_below (own_below (w := W2.drew) hP6.out hb7) hb8) g5 7 (.slice A7 X.cost.length K7)) g5 8 (.slice A8 X.time.length K8))
  have hz5 := Lib.hid (show w.heap.size ≤ w5.heap.size by have := hg.out; omega)
  have hzd := Lib.hid (show w.heap.size ≤ W.drew.heap.size by have := hg.out; omega)
  have hz7 := Lib.hid (show w.heap.size ≤ w7.heap.size by have := hg.out; omega)
  have hze := Lib.hid (show w.heap.size ≤ W2.drew.heap.size by have := hg.out; omega)
  generalize ((w8.setCell ⟨g, 7, none⟩ (.slice A7 X.cost.length K7)).setCell ⟨g, 8, none⟩ (.slice A8 X.time.length K8)) = W3 at *
  replace gwd := Lib.hid gd
  have ge2 := Lib.hid ge'
  have g72 := Lib.hid g7'
  clear ho7 ho8 hb7 hb8 g5 gd g7 ge g7' ge' HM7 HM8 HS7 HMe HS6
  have HR := HS8.out.r
  obtain ⟨a0, a1, a2, a3, a4, a5, a6, a7, a8, _, _, _, _⟩ := HS8.out.cells
  have r0 : W3.cell? ⟨g + 1, 0, none⟩ = some (.int .i64 0) := cell_of_row W3 (g + 1) 0 _ _ _ HR
  have r1 : W3.cell? ⟨g + 1, 1, none⟩ = some (.int .i64 0) := cell_of_row W3 (g + 1) 1 _ _ _ HR
  have r2 : W3.cell? ⟨g + 1, 2, none⟩ = some (.int .i64 0) := cell_of_row W3 (g + 1) 2 _ _ _ HR
  have r3 : W3.cell? ⟨g + 1, 3, none⟩ = some (.int .i64 0) := cell_of_row W3 (g + 1) 3 _ _ _ HR
  have r4 : W3.cell? ⟨g + 1, 4, none⟩ = some (.int .i64 0) := cell_of_row W3 (g + 1) 4 _ _ _ HR
  have r5 : W3.cell? ⟨g + 1, 5, none⟩ = some (.slice none 0 0) := cell_of_row W3 (g + 1) 5 _ _ _ HR
  have r6 : W3.cell? ⟨g + 1, 6, none⟩ = some (.slice none 0 0) := cell_of_row W3 (g + 1) 6 _ _ _ HR
  have r7 : W3.cell? ⟨g + 1, 7, none⟩ = some (.slice none 0 0) := cell_of_row W3 (g + 1) 7 _ _ _ HR
  have r8 : W3.cell? ⟨g + 1, 8, none⟩ = some (.slice none 0 0) := cell_of_row W3 (g + 1) 8 _ _ _ HR
  have q : ∀ j, W3.frozen? ⟨g + 1, j, none⟩ = false := fun j => by
    unfold World.frozen?; rw [show ({ block := g + 1, off := j, spot := none } : Addr).block = g + 1 from rfl, HR]; simp
  have HR2 := Lib.hid HR
  clear HR
  go_wp2_with fail
  obtain ⟨HB7, hgr⟩ := nine_set W3 (g + 1) _ _ _ _ _ _ _ _ _ _ (.int .i64 X.fin) (.int .i64 X.tm) (.int .i64 X.tr) (.int .i64 X.bm) (.int .i64 X.br) (.slice A5 X.sats.length K5) (.slice A6 X.custs.length K6) (.slice A7 X.cost.length K7) (.slice A8 X.time.length K8) HR2.out
  generalize (((((((((W3.setCell ⟨g + 1, 0, none⟩ (.int .i64 X.fin)).setCell ⟨g + 1, 1, none⟩ (.int .i64 X.tm)).setCell ⟨g + 1, 2, none⟩ (.int .i64 X.tr)).setCell ⟨g + 1, 3, none⟩ (.int .i64 X.bm)).setCell ⟨g + 1, 4, none⟩ (.int .i64 X.br)).setCell ⟨g + 1, 5, none⟩ (.slice A5 X.sats.length K5)).setCell ⟨g + 1, 6, none⟩ (.slice A6 X.custs.length K6)).setCell ⟨g + 1, 7, none⟩ (.slice A7 X.cost.length K7)).setCell ⟨g + 1, 8, none⟩ (.slice A8 X.time.length K8)) = W7 at *
  have z : ∀ j u, #[Value.int .i64 X.fin, .int .i64 X.tm, .int .i64 X.tr, .int .i64 X.bm, .int .i64 X.br, .slice A5 X.sats.length K5, .slice A6 X.custs.length K6, .slice A7 X.cost.length K7, .slice A8 X.time.length K8][j]? = some u → W7.cell? ⟨g + 1, j, none⟩ = some u := fun j u hu => (cell_of_row W7 (g + 1) j _ _ _ HB7).trans hu
  have z0 := z 0 _ rfl
  have z1 := z 1 _ rfl
  have z2 := z 2 _ rfl
  have z3 := z 3 _ rfl
  have z4 := z 4 _ rfl
  have z5 := z 5 _ rfl
  have z6 := z 6 _ rfl
  have z7 := z 7 _ rfl
  have z8 := z 8 _ rfl
  clear z
  have hend : CloneXEnd X w (.returned (.agg #[Value.int .i64 X.fin, .int .i64 X.tm, .int .i64 X.tr, .int .i64 X.bm, .int .i64 X.br, .slice A5 X.sats.length K5, .slice A6 X.custs.length K6, .slice A7 X.cost.length K7, .slice A8 X.time.length K8])) W7 := by
    refine ⟨⟨A5, K5, A6, K6, A7, K7, A8, K8⟩, h7, h8, rfl, ⟨?_, ?_, ?_, ?_, ⟨w7.heap.size, hz7.out, hM7.out, hP8.out.grownG hgr g72.out⟩⟩, ?_⟩
    · exact own_base (own_grownG hQ5.out hgr gW.out) hzd.out
    · exact own_base (own_grownG hQ6.out hgr gw5.out) hz5.out
    · exact (hP7.out.grownG hgr ge2.out).base hze.out
    · exact (hP8.out.grownG hgr g72.out).base hz7.out
    · exact HS8.out.y.below.grown hgr (by have := HS8.out.y.below.size; exact this) (fun k hk => by have hk2 : g + 1 = k := Option.some.inj hk; have := hg.out; omega)
  exact bodyPost_ret (by simp [results, Try.results17, go_sem, z0, z1, z2, z3, z4, z5, z6, z7, z8]) rfl hend
end Go.Proofs.Ythiinlkpakinlaa
