/-
  The walks of One and Awake (layer 11): Awake returns true.
-/
import Derived.Test.YtljcpgeggbbmfaaMake
import Derived.Test.YtljcpgeggbbmfaaMakeOk

namespace Go.Proofs.Ytljcpgeggbbmfaa
set_option linter.unusedVariables false
set_option linter.unusedSimpArgs false
open Go.RowKit
theorem own_rd {w : World} {B e s n C : Nat} {A : Option Addr} {xs : List Value} (h : w.ownsRow B e s (.slice A n C) n xs) (hn : xs.length ≤ n * s) : Rd w A xs := by
  intro hne
  rcases h.2 with ⟨_, h0⟩ | ⟨g, cap, cur, hv, _, _, _⟩
  · subst h0
    simp at hn
    exact absurd hn hne
  · injection hv with hA hn' hc'
    subst hA
    refine ⟨g, 0, rfl, fun j u hu => ?_⟩
    have hc := h.cells (g := g) rfl j u hu
    rw [show (⟨g, 0, none⟩ : Addr).add j = ⟨g, 0 + j, none⟩ from by unfold Addr.add; by_cases hz : j = 0 <;> simp [hz]] at hc
    exact hc
theorem satV_len (l : List SatD) : (l.flatMap satV).length = l.length * 2 := by
  induction l with
  | nil => rfl
  | cons s l ih => rw [List.flatMap_cons, List.length_append, ih, List.length_cons]; show 2 + l.length * 2 = _; omega
theorem custV_len (l : List CustD) : (l.flatMap custV).length = l.length * 4 := by
  induction l with
  | nil => rfl
  | cons s l ih => rw [List.flatMap_cons, List.length_append, ih, List.length_cons]; show 4 + l.length * 4 = _; omega
theorem MadeOwn.is {B : Nat} {w : World} {X : InstD} {h : HdD} {g7 g8 : List Nat} (H : MadeOwn B w X h g7 g8) (h1 : X.sats.length ≤ 1000) (h2 : X.custs.length ≤ 1000) (h3 : X.cost.length ≤ 3000) (h4 : X.time.length ≤ 3000) : InstIs w X h :=
  ⟨own_rd H.sats (by rw [satV_len]; exact Nat.le_refl _), own_rd H.custs (by rw [custV_len]; exact Nat.le_refl _), H.cost.rows2 (by unfold nodesN; omega), H.time.rows2 (by unfold nodesN; omega), by omega, by omega, by omega, by omega⟩
theorem make_len (S : SmallD) : (makeI S).sats.length ≤ 3 ∧ (makeI S).custs.length ≤ 6 ∧ (makeI S).cost.length ≤ 10 ∧ (makeI S).time.length ≤ 10 := by
  have h1 := satsI_len S
  have h2 := custsI_len S
  have h3 := makeI_cost S
  have h4 := makeI_time S
  have h5 : nodesI S = 1 + (satsI S).length + (custsI S).length := rfl
  exact ⟨h1.2, h2.2, by omega, by omega⟩
theorem MadeOwn.make {B : Nat} {w : World} {S : SmallD} {h : HdD} {g7 g8 : List Nat} (H : MadeOwn B w (makeI S) h g7 g8) : InstIs w (makeI S) h := by
  obtain ⟨a, b, c, d⟩ := make_len S
  exact H.is (by omega) (by omega) (by omega) (by omega)
/-- the small instance that is all noughts. -/
def S0 : SmallD := ⟨0, 0, 0, 0, 0, [], [], [], [], false, false⟩
theorem S0_is (w : World) : SmallIs w S0 ⟨none, 0, none, 0, none, 0, none, 0⟩ :=
  ⟨Rd.nil, Rd.nil, Rd.nil, Rd.nil, Nat.zero_le _, Nat.zero_le _, Nat.zero_le _, Nat.zero_le _, by decide, by decide, by decide, by decide, by decide, (fun s hs => by cases hs), (fun s hs => by cases hs), (fun q => by simp [S0]), (fun q => by simp [S0])⟩
theorem make_zero (w : World) :
    Calls Try.prog 20 #[.agg #[.int .u8 0, .int .u8 0, .int .u8 0, .int .u8 0, .int .u8 0, .slice none 0 0, .slice none 0 0, .slice none 0 0, .slice none 0 0, .bool false, .bool false]] w (MakeEnd S0 w) :=
  make_any S0 ⟨none, 0, none, 0, none, 0, none, 0⟩ w (S0_is w)
theorem code_zero : codeI (makeI S0) = 0 := code_make S0 (by decide) (fun s hs => by cases hs) (fun s hs => by cases hs)
/-- what One leaves. -/
def OneEnd (w : World) (e : Ending) (w' : World) : Prop := ∃ h : HdD, e = .returned (.agg (instC (makeI S0) h)) ∧ InstIs w' (makeI S0) h ∧ Below w.heap.size w w'
set_option maxHeartbeats 1600000 in
theorem one_any (w : World) : Calls Try.prog 57 #[] w (OneEnd w) := by
  have hb0 := (Below.refl w.heap.size w).alloc (Nat.le_refl _) (.cells #[.int .i64 0, .int .i64 0, .int .i64 0, .int .i64 0, .int .i64 0, .slice none 0 0, .slice none 0 0, .slice none 0 0, .slice none 0 0] 29)
  have HR := heap_alloc_new w (.cells #[.int .i64 0, .int .i64 0, .int .i64 0, .int .i64 0, .int .i64 0, .slice none 0 0, .slice none 0 0, .slice none 0 0, .slice none 0 0] 29)
  have hz : Hid ((w.alloc (.cells #[.int .i64 0, .int .i64 0, .int .i64 0, .int .i64 0, .int .i64 0, .slice none 0 0, .slice none 0 0, .slice none 0 0, .slice none 0 0] 29)).heap.size = w.heap.size + 1) := Lib.hid (by simp)
  replace HR := Lib.hid HR
  replace hb0 := Lib.hid hb0
  go_enter Try.func57, Try.ntmps57
  go_wp2_with fail
  refine (make_zero _).mono ?_
  rintro e w1 ⟨h, g7, g8, rfl, hM, hb⟩
  obtain ⟨sa, sc, ca, cc, oa, oc, ta, tc⟩ := h
  generalize (w.alloc (.cells #[.int .i64 0, .int .i64 0, .int .i64 0, .int .i64 0, .int .i64 0, .slice none 0 0, .slice none 0 0, .slice none 0 0, .slice none 0 0] 29)) = W at *
  have HR6 : w1.heap[w.heap.size]? = some (.cells #[.int .i64 0, .int .i64 0, .int .i64 0, .int .i64 0, .int .i64 0, .slice none 0 0, .slice none 0 0, .slice none 0 0, .slice none 0 0] 29 (0, 0)) := (hb.block w.heap.size (by rw [hz.out]; omega)).trans HR.out
  have r0 : w1.cell? ⟨w.heap.size, 0, none⟩ = some (.int .i64 0) := cell_of_row w1 w.heap.size 0 _ _ _ HR6
  have r1 : w1.cell? ⟨w.heap.size, 1, none⟩ = some (.int .i64 0) := cell_of_row w1 w.heap.size 1 _ _ _ HR6
  have r2 : w1.cell? ⟨w.heap.size, 2, none⟩ = some (.int .i64 0) := cell_of_row w1 w.heap.size 2 _ _ _ HR6
  have r3 : w1.cell? ⟨w.heap.size, 3, none⟩ = some (.int .i64 0) := cell_of_row w1 w.heap.size 3 _ _ _ HR6
  have r4 : w1.cell? ⟨w.heap.size, 4, none⟩ = some (.int .i64 0) := cell_of_row w1 w.heap.size 4 _ _ _ HR6
  have r5 : w1.cell? ⟨w.heap.size, 5, none⟩ = some (.slice none 0 0) := cell_of_row w1 w.heap.size 5 _ _ _ HR6
  have r6 : w1.cell? ⟨w.heap.size, 6, none⟩ = some (.slice none 0 0) := cell_of_row w1 w.heap.size 6 _ _ _ HR6
  have r7 : w1.cell? ⟨w.heap.size, 7, none⟩ = some (.slice none 0 0) := cell_of_row w1 w.heap.size 7 _ _ _ HR6
  have r8 : w1.cell? ⟨w.heap.size, 8, none⟩ = some (.slice none 0 0) := cell_of_row w1 w.heap.size 8 _ _ _ HR6
  have q : ∀ j, w1.frozen? ⟨w.heap.size, j, none⟩ = false := fun j => by
    unfold World.frozen?; rw [show ({ block := w.heap.size, off := j, spot := none } : Addr).block = w.heap.size from rfl, HR6]; simp
  replace HR6 := Lib.hid HR6
  replace hM := Lib.hid hM
  have hb2 := Lib.hid hb
  clear hb
  go_wp2
  obtain ⟨HB7, hgr⟩ := nine_set w1 w.heap.size _ _ _ _ _ _ _ _ _ _ (.int .i64 (makeI S0).fin) (.int .i64 (makeI S0).tm) (.int .i64 (makeI S0).tr) (.int .i64 (makeI S0).bm) (.int .i64 (makeI S0).br) (.slice sa (makeI S0).sats.length sc) (.slice ca (makeI S0).custs.length cc) (.slice oa (makeI S0).cost.length oc) (.slice ta (makeI S0).time.length tc) HR6.out
  generalize (((((((((w1.setCell ⟨w.heap.size, 0, none⟩ (.int .i64 (makeI S0).fin)).setCell ⟨w.heap.size, 1, none⟩ (.int .i64 (makeI S0).tm)).setCell ⟨w.heap.size, 2, none⟩ (.int .i64 (makeI S0).tr)).setCell ⟨w.heap.size, 3, none⟩ (.int .i64 (makeI S0).bm)).setCell ⟨w.heap.size, 4, none⟩ (.int .i64 (makeI S0).br)).setCell ⟨w.heap.size, 5, none⟩ (.slice sa (makeI S0).sats.length sc)).setCell ⟨w.heap.size, 6, none⟩ (.slice ca (makeI S0).custs.length cc)).setCell ⟨w.heap.size, 7, none⟩ (.slice oa (makeI S0).cost.length oc)).setCell ⟨w.heap.size, 8, none⟩ (.slice ta (makeI S0).time.length tc)) = W7 at *
  have z : ∀ j u, #[Value.int .i64 (makeI S0).fin, .int .i64 (makeI S0).tm, .int .i64 (makeI S0).tr, .int .i64 (makeI S0).bm, .int .i64 (makeI S0).br, .slice sa (makeI S0).sats.length sc, .slice ca (makeI S0).custs.length cc, .slice oa (makeI S0).cost.length oc, .slice ta (makeI S0).time.length tc][j]? = some u → W7.cell? ⟨w.heap.size, j, none⟩ = some u := fun j u hu => (cell_of_row W7 w.heap.size j _ _ _ HB7).trans hu
  have z0 := z 0 _ rfl
  have z1 := z 1 _ rfl
  have z2 := z 2 _ rfl
  have z3 := z 3 _ rfl
  have z4 := z 4 _ rfl
  have z5 := z 5 _ rfl
  have z6 := z 6 _ rfl
  have z7 := z 7 _ rfl
  have z8 := z 8 _ rfl
  clear z
  have hsz := hz.out
  have hend : OneEnd w (.returned (.agg (instC (makeI S0) ⟨sa, sc, ca, cc, oa, oc, ta, tc⟩))) W7 := by
    have hb := hb2.out
    refine ⟨_, rfl, ?_, (hb0.out.trans (hb.mono (by omega))).grown hgr (Nat.le_trans (by omega) hb.size) (fun k hk => by injection hk with hk; omega)⟩
    have hM2 : MadeOwn W.heap.size W7 (makeI S0) ⟨sa, sc, ca, cc, oa, oc, ta, tc⟩ g7 g8 :=
      ⟨hM.out.sats.kept hgr (.inr (fun e => by have := (own_lt hM.out.sats e).1; omega)), hM.out.custs.kept hgr (.inr (fun e => by have := (own_lt hM.out.custs e).1; omega)),
       hM.out.cost.grown hgr (fun g hg e => by injection e with e; have := hM.out.cost.le g hg; omega) (.inr (fun e => by have := (own_lt hM.out.cost.own e).1; omega)),
       hM.out.time.grown hgr (fun g hg e => by injection e with e; have := hM.out.time.le g hg; omega) (.inr (fun e => by have := (own_lt hM.out.time.own e).1; omega)), hM.out.apart, hM.out.tabs⟩
    exact hM2.make
  exact bodyPost_ret (by simp [results, Try.results57, go_sem, z0, z1, z2, z3, z4, z5, z6, z7, z8]) rfl hend
end Go.Proofs.Ytljcpgeggbbmfaa
