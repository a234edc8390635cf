/-
  The walk of parse.Parse (layer 12).
-/
import Derived.Test.YtljcpgeggbbmfaaPars6
namespace Go.Proofs.Ytljcpgeggbbmfaa
set_option linter.unusedVariables false
set_option linter.unusedSimpArgs false
open Go.RowKit
theorem row9 {w : World} {g : Nat} {c0 c1 c2 c3 c4 c5 c6 c7 c8 : Value} {T : TypeId} (h : w.heap[g]? = some (.cells #[c0, c1, c2, c3, c4, c5, c6, c7, c8] T (0, 0))) :
    (w.cell? ⟨g, 0, none⟩ = some c0 ∧ w.cell? ⟨g, 1, none⟩ = some c1 ∧ w.cell? ⟨g, 2, none⟩ = some c2 ∧ w.cell? ⟨g, 3, none⟩ = some c3 ∧ w.cell? ⟨g, 4, none⟩ = some c4 ∧ w.cell? ⟨g, 5, none⟩ = some c5 ∧ w.cell? ⟨g, 6, none⟩ = some c6 ∧ w.cell? ⟨g, 7, none⟩ = some c7 ∧ w.cell? ⟨g, 8, none⟩ = some c8) ∧ ∀ j, w.frozen? ⟨g, j, none⟩ = false :=
  ⟨⟨cell_of_row w g 0 _ _ _ h, cell_of_row w g 1 _ _ _ h, cell_of_row w g 2 _ _ _ h, cell_of_row w g 3 _ _ _ h, cell_of_row w g 4 _ _ _ h, cell_of_row w g 5 _ _ _ h, cell_of_row w g 6 _ _ _ h, cell_of_row w g 7 _ _ _ h, cell_of_row w g 8 _ _ _ h⟩, fun j => frozen_of_row w g j _ _ h⟩
theorem ninep_set (w : World) (g : Nat) (T : TypeId) {c0 c1 c2 c3 c4 c5 c6 c7 c8 : Value} (d0 d1 d2 d3 d4 d5 d6 d7 d8 : Value) (h : w.heap[g]? = some (.cells #[c0, c1, c2, c3, c4, c5, c6, c7, c8] T (0, 0))) {B : Nat} {w0 : World} (hb : Below B w0 w) (hB : B ≤ g) :
    ((((((((((w.setCell ⟨g, 0, none⟩ d0).setCell ⟨g, 1, none⟩ d1).setCell ⟨g, 2, none⟩ d2).setCell ⟨g, 3, none⟩ d3).setCell ⟨g, 4, none⟩ d4).setCell ⟨g, 5, none⟩ d5).setCell ⟨g, 6, none⟩ d6).setCell ⟨g, 7, none⟩ d7).setCell ⟨g, 8, none⟩ d8)).heap[g]? = some (.cells #[d0, d1, d2, d3, d4, d5, d6, d7, d8] T (0, 0)) ∧ Below B w0 ((((((((((w.setCell ⟨g, 0, none⟩ d0).setCell ⟨g, 1, none⟩ d1).setCell ⟨g, 2, none⟩ d2).setCell ⟨g, 3, none⟩ d3).setCell ⟨g, 4, none⟩ d4).setCell ⟨g, 5, none⟩ d5).setCell ⟨g, 6, none⟩ d6).setCell ⟨g, 7, none⟩ d7).setCell ⟨g, 8, none⟩ d8)) ∧ (∀ k, k ≠ g → ((((((((((w.setCell ⟨g, 0, none⟩ d0).setCell ⟨g, 1, none⟩ d1).setCell ⟨g, 2, none⟩ d2).setCell ⟨g, 3, none⟩ d3).setCell ⟨g, 4, none⟩ d4).setCell ⟨g, 5, none⟩ d5).setCell ⟨g, 6, none⟩ d6).setCell ⟨g, 7, none⟩ d7).setCell ⟨g, 8, none⟩ d8)).heap[k]? = w.heap[k]?) := by
  obtain ⟨h1, h2⟩ := set9 w g T c0 c1 c2 c3 c4 c5 c6 c7 c8 d0 d1 d2 d3 d4 d5 d6 d7 d8 h
  refine ⟨h1, ?_, fun k hk => ?_⟩
  · exact ((((((((hb.setCell hB d0).setCell hB d1).setCell hB d2).setCell hB d3).setCell hB d4).setCell hB d5).setCell hB d6).setCell hB d7).setCell hB d8
  · repeat rw [heap_setCell_other _ _ k _ (by exact hk)]
theorem inst_row {w : World} {g : Nat} {X : InstD} {h : HdD} {T : TypeId} (hB : w.heap[g]? = some (.cells (instC X h) T (0, 0))) : w.heap[g]? = some (.cells #[.int .i64 X.fin, .int .i64 X.tm, .int .i64 X.tr, .int .i64 X.bm, .int .i64 X.br, .slice h.sa X.sats.length h.sc, .slice h.ca X.custs.length h.cc, .slice h.oa X.cost.length h.oc, .slice h.ta X.time.length h.tc] T (0, 0)) := hB
theorem own_heap {B e s n : Nat} {w w' : World} {v : Value} {xs : List Value} (h : w.ownsRow B e s v n xs) (hc : ∀ k, B ≤ k → w'.heap[k]? = w.heap[k]?) : w'.ownsRow B e s v n xs := by
  refine ⟨h.1, ?_⟩
  rcases h.2 with h0 | ⟨g, cap, cur, a, c, d, e⟩
  · exact .inl h0
  · exact .inr ⟨g, cap, cur, a, c, (hc g c).trans d, e⟩
theorem RowsOwn.heap {B : Nat} {w w' : World} {v : Value} {ls : List (List Int)} {hs : List Value} (h : RowsOwn B w v ls hs) (hc : ∀ k, B ≤ k → w'.heap[k]? = w.heap[k]?) : RowsOwn B w' v ls hs :=
  ⟨h.len, own_heap h.own hc, fun i r hi => by
    obtain ⟨A, C, h1, h2⟩ := h.rows i r hi
    exact ⟨A, C, h1, own_heap h2 hc⟩⟩
/-- what Parse leaves: an instance in memory of its own; or none, where it went wrong, and why. -/
def POut (r : InstD ⊕ (Int × Int)) (w : World) (e : Ending) (w' : World) : Prop :=
  Below w.heap.size w w' ∧ ((∃ X h, r = .inl X ∧ ReadOk X ∧ e = .returned (.tuple #[.agg (instC X h), .int .i64 0, .int .i64 0]) ∧ InstIs w' X h) ∨
    (∃ a c, r = .inr (a, c) ∧ c ≠ 0 ∧ e = .returned (.tuple #[.agg (instC ⟨0, 0, 0, 0, 0, [], [], [], []⟩ ⟨none, 0, none, 0, none, 0, none, 0⟩), .int .i64 a, .int .i64 c])))
theorem numP_err {ws : List WordD} {n : Nat} {lo hi : Int} {i : Nat} {a c : Int} (h : numP ws n lo hi i = .inr (a, c)) : c ≠ 0 := by
  unfold numP at h
  repeat' split at h
  all_goals first | (injection h with h; injection h with _ h; omega) | cases h
theorem mustP_err {ws : List WordD} {n : Nat} {t : ByteArray} {i : Nat} {a c : Int} (h : mustP ws n t i = .inr (a, c)) : c ≠ 0 := by
  unfold mustP at h
  repeat' split at h
  all_goals first | (injection h with h; injection h with _ h; omega) | cases h
theorem bindP_err {α β : Type} {x : PR α} {f : α → Nat → PR β} {a c : Int} (h : bindP x f = .inr (a, c)) (hx : ∀ a c, x = .inr (a, c) → c ≠ 0) (hf : ∀ y j a c, f y j = .inr (a, c) → c ≠ 0) : c ≠ 0 := by
  match x, h, hx with
  | .inl (y, j), h, _ => exact hf y j a c h
  | .inr e, h, hx => exact hx a c (by have h2 : (Sum.inr e : PR β) = .inr (a, c) := h; injection h2 with h2; rw [h2])
theorem upP_err {α : Type} {f : Nat → Nat → PR α} (hf : ∀ k i a c, f k i = .inr (a, c) → c ≠ 0) : ∀ (m k i : Nat) {a c : Int}, upP f m k i = .inr (a, c) → c ≠ 0
  | 0, k, i, a, c, h => by cases h
  | m + 1, k, i, a, c, h => bindP_err h (fun a c h => hf k i a c h) (fun y j a c h => bindP_err h (fun a c h => upP_err hf m (k + 1) j h) (fun _ _ a c h => by cases h))
theorem fleetP_err {ws : List WordD} {n : Nat} {t : ByteArray} {i : Nat} {a c : Int} (h : fleetP ws n t i = .inr (a, c)) : c ≠ 0 :=
  bindP_err h (fun _ _ h => mustP_err h) (fun _ _ _ _ h => bindP_err h (fun _ _ h => numP_err h) (fun _ _ _ _ h => bindP_err h (fun _ _ h => numP_err h) (fun _ _ _ _ h => by cases h)))
theorem satP_err {ws : List WordD} {n : Nat} {i : Nat} {a c : Int} (h : satP ws n i = .inr (a, c)) : c ≠ 0 :=
  bindP_err h (fun _ _ h => numP_err h) (fun _ _ _ _ h => bindP_err h (fun _ _ h => numP_err h) (fun _ _ _ _ h => by cases h))
theorem custP_err {ws : List WordD} {n : Nat} {i : Nat} {a c : Int} (h : custP ws n i = .inr (a, c)) : c ≠ 0 :=
  bindP_err h (fun _ _ h => numP_err h) (fun _ _ _ _ h => bindP_err h (fun _ _ h => numP_err h) (fun _ _ _ _ h => bindP_err h (fun _ _ h => numP_err h) (fun _ _ _ _ h => bindP_err h (fun _ _ h => numP_err h) (fun _ _ _ _ h => by cases h))))
theorem matP_err {ws : List WordD} {n : Nat} {t : ByteArray} {m i : Nat} {a c : Int} (h : matP ws n t m i = .inr (a, c)) : c ≠ 0 :=
  bindP_err h (fun _ _ h => mustP_err h) (fun _ _ _ _ h => upP_err (fun _ _ _ _ h => upP_err (fun _ _ _ _ h => numP_err h) _ _ _ h) _ _ _ h)
theorem instP_err {ws : List WordD} {n : Nat} {a c : Int} (h : instP ws n = .inr (a, c)) : c ≠ 0 :=
  bindP_err h (fun _ _ h => mustP_err h) (fun _ _ _ _ h => bindP_err h (fun _ _ h => numP_err h) (fun _ _ _ _ h => bindP_err h (fun _ _ h => fleetP_err h) (fun _ _ _ _ h => bindP_err h (fun _ _ h => fleetP_err h) (fun _ _ _ _ h =>
    bindP_err h (fun _ _ h => mustP_err h) (fun _ _ _ _ h => bindP_err h (fun _ _ h => numP_err h) (fun _ _ _ _ h => bindP_err h (fun _ _ h => upP_err (fun _ _ _ _ h => satP_err h) _ _ _ h) (fun _ _ _ _ h =>
    bindP_err h (fun _ _ h => mustP_err h) (fun _ _ _ _ h => bindP_err h (fun _ _ h => numP_err h) (fun _ _ _ _ h => bindP_err h (fun _ _ h => upP_err (fun _ _ _ _ h => custP_err h) _ _ _ h) (fun _ _ _ _ h =>
    bindP_err h (fun _ _ h => matP_err h) (fun _ _ _ _ h => bindP_err h (fun _ _ h => matP_err h) (fun _ _ _ _ h => bindP_err h (fun _ _ h => mustP_err h) (fun _ _ _ _ h => by cases h)))))))))))))
theorem ReadOk.is {w : World} {X : InstD} {h : HdD} {B : Nat} {h7 h8 : List Value} (K : ReadOk X) (o5 : w.ownsRow B 62 2 (.slice h.sa X.sats.length h.sc) X.sats.length (X.sats.flatMap satV)) (o6 : w.ownsRow B 66 4 (.slice h.ca X.custs.length h.cc) X.custs.length (X.custs.flatMap custV))
    (o7 : RowsOwn B w (.slice h.oa X.cost.length h.oc) X.cost h7) (o8 : RowsOwn B w (.slice h.ta X.time.length h.tc) X.time h8) : InstIs w X h := by
  have hN : nodesN X ≤ 61 := by have := K.s2; have := K.c2; unfold nodesN; omega
  exact ⟨own_rd' o5, own_rd' o6, o7.rows2 rfl (fun r hr => by rw [K.ro r hr]; omega), o8.rows2 rfl (fun r hr => by rw [K.rt r hr]; omega), by have := K.s2; omega, by have := K.c2; omega, by rw [K.o]; omega, by rw [K.t]; omega⟩
set_option maxHeartbeats 16000000 in
set_option maxRecDepth 100000 in
theorem parse_bad (s : ByteArray) (h2 : s.size ≤ 131072) {k : Nat} (hk : IsBad s k) (w : World) :
    Calls Try.prog 14 #[.string s] w (POut (.inr ((k : Int), 3)) w) := by
  have hmf : ∀ (fn : Fn) (first cap : Array Value) (w : World), (Instr.makeFunc fn first cap).run Try.prog w = .ok (.func fn first cap) w := fun _ _ _ _ => rfl
  have hb0 : Below w.heap.size w ((w.alloc (.cells #[.int .i64 0, .int .i64 0, .int .i64 0, .int .i64 0, .int .i64 0, .slice none 0 0, .slice none 0 0, .slice none 0 0, .slice none 0 0] 29)).alloc (.cells #[.int .i64 0, .int .i64 0, .int .i64 0, .int .i64 0, .int .i64 0, .slice none 0 0, .slice none 0 0, .slice none 0 0, .slice none 0 0] 29)) := ((Below.refl _ _).alloc (Nat.le_refl _) _).alloc (by simp) _
  have b1 : ((w.alloc (.cells #[.int .i64 0, .int .i64 0, .int .i64 0, .int .i64 0, .int .i64 0, .slice none 0 0, .slice none 0 0, .slice none 0 0, .slice none 0 0] 29)).alloc (.cells #[.int .i64 0, .int .i64 0, .int .i64 0, .int .i64 0, .int .i64 0, .slice none 0 0, .slice none 0 0, .slice none 0 0, .slice none 0 0] 29)).heap[w.heap.size]? = some (.cells #[.int .i64 0, .int .i64 0, .int .i64 0, .int .i64 0, .int .i64 0, .slice none 0 0, .slice none 0 0, .slice none 0 0, .slice none 0 0] 29 (0, 0)) := (Below.heap_alloc (w.alloc (.cells #[.int .i64 0, .int .i64 0, .int .i64 0, .int .i64 0, .int .i64 0, .slice none 0 0, .slice none 0 0, .slice none 0 0, .slice none 0 0] 29)) _ w.heap.size (by simp)).trans (heap_alloc_new w _)
  have b2 : ((w.alloc (.cells #[.int .i64 0, .int .i64 0, .int .i64 0, .int .i64 0, .int .i64 0, .slice none 0 0, .slice none 0 0, .slice none 0 0, .slice none 0 0] 29)).alloc (.cells #[.int .i64 0, .int .i64 0, .int .i64 0, .int .i64 0, .int .i64 0, .slice none 0 0, .slice none 0 0, .slice none 0 0, .slice none 0 0] 29)).heap[w.heap.size + 1]? = some (.cells #[.int .i64 0, .int .i64 0, .int .i64 0, .int .i64 0, .int .i64 0, .slice none 0 0, .slice none 0 0, .slice none 0 0, .slice none 0 0] 29 (0, 0)) := by have := heap_alloc_new (w.alloc (.cells #[.int .i64 0, .int .i64 0, .int .i64 0, .int .i64 0, .int .i64 0, .slice none 0 0, .slice none 0 0, .slice none 0 0, .slice none 0 0] 29)) (.cells #[.int .i64 0, .int .i64 0, .int .i64 0, .int .i64 0, .int .i64 0, .slice none 0 0, .slice none 0 0, .slice none 0 0, .slice none 0 0] 29); rwa [show (w.alloc (.cells #[.int .i64 0, .int .i64 0, .int .i64 0, .int .i64 0, .int .i64 0, .slice none 0 0, .slice none 0 0, .slice none 0 0, .slice none 0 0] 29)).heap.size = w.heap.size + 1 by simp] at this
  have hsz2 : ((w.alloc (.cells #[.int .i64 0, .int .i64 0, .int .i64 0, .int .i64 0, .int .i64 0, .slice none 0 0, .slice none 0 0, .slice none 0 0, .slice none 0 0] 29)).alloc (.cells #[.int .i64 0, .int .i64 0, .int .i64 0, .int .i64 0, .int .i64 0, .slice none 0 0, .slice none 0 0, .slice none 0 0, .slice none 0 0] 29)).heap.size = w.heap.size + 2 := by simp
  replace hb0 := Lib.hid hb0
  replace b1 := Lib.hid b1
  replace b2 := Lib.hid b2
  replace hsz2 := Lib.hid hsz2
  have hS : Hid (∀ w' : World, Calls Try.prog 58 #[.string s] w' fun e w2 => e = .returned (.tuple #[.slice none 0 0, .int .i64 (k : Int), .int .i64 3]) ∧ Below w'.heap.size w' w2) := Lib.hid (fun w' => split_bad s w' h2 hk)
  obtain ⟨a, ha⟩ : ∃ a : Int, (k : Int) = a := ⟨_, rfl⟩
  rw [ha] at hS
  rw [ha]
  clear ha hk
  go_enter Try.func14, Try.ntmps14
  go_wp2_with fail
  refine (read_err s _ _ a 3 (Lib.hid (by decide)) hS).mono ?_
  rintro e w3 ⟨rfl, hb⟩
  have BR := Lib.hid ((hb.block _ (by have := hsz2.out; omega)).trans b1.out)
  have HBel := Lib.hid (hb0.out.trans (hb.mono (by have := hsz2.out; omega)))
  clear hb b1 b2 hb0 hsz2
  generalize hg : w.heap.size = g at *
  replace hg := Lib.hid hg
  obtain ⟨c, hcc⟩ : ∃ c : Int, c = 3 := ⟨_, rfl⟩
  subst hcc
  have hc : Hid ((3 : Int) ≠ 0) := Lib.hid (by decide)
  obtain ⟨⟨c0, c1, c2, c3, c4, c5, c6, c7, c8⟩, hfz⟩ := row9 BR.out
  have f0 := hfz 0
  have f1 := hfz 1
  have f2 := hfz 2
  have f3 := hfz 3
  have f4 := hfz 4
  have f5 := hfz 5
  have f6 := hfz 6
  have f7 := hfz 7
  have f8 := hfz 8
  clear hfz
  obtain ⟨e1, e2, _⟩ := ninep_set w3 g 29 (.int .i64 0) (.int .i64 0) (.int .i64 0) (.int .i64 0) (.int .i64 0) (.slice none 0 0) (.slice none 0 0) (.slice none 0 0) (.slice none 0 0) BR.out HBel.out (Nat.le_refl g)
  have e1' := Lib.hid e1
  have e2' := Lib.hid e2
  clear e1 e2
  go_wp2_with fail
  clear c0 c1 c2 c3 c4 c5 c6 c7 c8 f0 f1 f2 f3 f4 f5 f6 f7 f8
  generalize (((((((((w3.setCell ⟨g, 0, none⟩ (.int .i64 0)).setCell ⟨g, 1, none⟩ (.int .i64 0)).setCell ⟨g, 2, none⟩ (.int .i64 0)).setCell ⟨g, 3, none⟩ (.int .i64 0)).setCell ⟨g, 4, none⟩ (.int .i64 0)).setCell ⟨g, 5, none⟩ (.slice none 0 0)).setCell ⟨g, 6, none⟩ (.slice none 0 0)).setCell ⟨g, 7, none⟩ (.slice none 0 0)).setCell ⟨g, 8, none⟩ (.slice none 0 0)) = W9 at *
  obtain ⟨⟨c0, c1, c2, c3, c4, c5, c6, c7, c8⟩, _⟩ := row9 e1'.out
  exact bodyPost_ret (v := .tuple #[.agg #[.int .i64 0, .int .i64 0, .int .i64 0, .int .i64 0, .int .i64 0, .slice none 0 0, .slice none 0 0, .slice none 0 0, .slice none 0 0], .int .i64 a, .int .i64 3]) (by simp [results, Try.results14, go_sem, c0, c1, c2, c3, c4, c5, c6, c7, c8]) rfl ⟨by rw [hg.out]; exact e2'.out, .inr ⟨a, 3, rfl, hc.out, rfl⟩⟩
set_option maxHeartbeats 16000000 in
set_option maxRecDepth 100000 in
theorem parse_fine (s : ByteArray) (h2 : s.size ≤ 131072) (hok : okAll s = true) (w : World) :
    Calls Try.prog 14 #[.string s] w (POut (parseW (wordsL s) s.size) w) := by
  have hmf : ∀ (fn : Fn) (first cap : Array Value) (w : World), (Instr.makeFunc fn first cap).run Try.prog w = .ok (.func fn first cap) w := fun _ _ _ _ => rfl
  have hb0 : Below w.heap.size w ((w.alloc (.cells #[.int .i64 0, .int .i64 0, .int .i64 0, .int .i64 0, .int .i64 0, .slice none 0 0, .slice none 0 0, .slice none 0 0, .slice none 0 0] 29)).alloc (.cells #[.int .i64 0, .int .i64 0, .int .i64 0, .int .i64 0, .int .i64 0, .slice none 0 0, .slice none 0 0, .slice none 0 0, .slice none 0 0] 29)) := ((Below.refl _ _).alloc (Nat.le_refl _) _).alloc (by simp) _
  have b1 : ((w.alloc (.cells #[.int .i64 0, .int .i64 0, .int .i64 0, .int .i64 0, .int .i64 0, .slice none 0 0, .slice none 0 0, .slice none 0 0, .slice none 0 0] 29)).alloc (.cells #[.int .i64 0, .int .i64 0, .int .i64 0, .int .i64 0, .int .i64 0, .slice none 0 0, .slice none 0 0, .slice none 0 0, .slice none 0 0] 29)).heap[w.heap.size]? = some (.cells #[.int .i64 0, .int .i64 0, .int .i64 0, .int .i64 0, .int .i64 0, .slice none 0 0, .slice none 0 0, .slice none 0 0, .slice none 0 0] 29 (0, 0)) := (Below.heap_alloc (w.alloc (.cells #[.int .i64 0, .int .i64 0, .int .i64 0, .int .i64 0, .int .i64 0, .slice none 0 0, .slice none 0 0, .slice none 0 0, .slice none 0 0] 29)) _ w.heap.size (by simp)).trans (heap_alloc_new w _)
  have b2 : ((w.alloc (.cells #[.int .i64 0, .int .i64 0, .int .i64 0, .int .i64 0, .int .i64 0, .slice none 0 0, .slice none 0 0, .slice none 0 0, .slice none 0 0] 29)).alloc (.cells #[.int .i64 0, .int .i64 0, .int .i64 0, .int .i64 0, .int .i64 0, .slice none 0 0, .slice none 0 0, .slice none 0 0, .slice none 0 0] 29)).heap[w.heap.size + 1]? = some (.cells #[.int .i64 0, .int .i64 0, .int .i64 0, .int .i64 0, .int .i64 0, .slice none 0 0, .slice none 0 0, .slice none 0 0, .slice none 0 0] 29 (0, 0)) := by have := heap_alloc_new (w.alloc (.cells #[.int .i64 0, .int .i64 0, .int .i64 0, .int .i64 0, .int .i64 0, .slice none 0 0, .slice none 0 0, .slice none 0 0, .slice none 0 0] 29)) (.cells #[.int .i64 0, .int .i64 0, .int .i64 0, .int .i64 0, .int .i64 0, .slice none 0 0, .slice none 0 0, .slice none 0 0, .slice none 0 0] 29); rwa [show (w.alloc (.cells #[.int .i64 0, .int .i64 0, .int .i64 0, .int .i64 0, .int .i64 0, .slice none 0 0, .slice none 0 0, .slice none 0 0, .slice none 0 0] 29)).heap.size = w.heap.size + 1 by simp] at this
  have hsz2 : ((w.alloc (.cells #[.int .i64 0, .int .i64 0, .int .i64 0, .int .i64 0, .int .i64 0, .slice none 0 0, .slice none 0 0, .slice none 0 0, .slice none 0 0] 29)).alloc (.cells #[.int .i64 0, .int .i64 0, .int .i64 0, .int .i64 0, .int .i64 0, .slice none 0 0, .slice none 0 0, .slice none 0 0, .slice none 0 0] 29)).heap.size = w.heap.size + 2 := by simp
  replace hb0 := Lib.hid hb0
  replace b1 := Lib.hid b1
  replace b2 := Lib.hid b2
  replace hsz2 := Lib.hid hsz2
  have HRd := Lib.hid (fun (bx : Nat) (w : World) (hb : w.heap[bx]? = some (.cells (instC ⟨0, 0, 0, 0, 0, [], [], [], []⟩ ⟨none, 0, none, 0, none, 0, none, 0⟩) 29 (0, 0))) => read_is bx s w h2 hok hb)
  go_enter Try.func14, Try.ntmps14
  go_wp2_with fail
  refine (HRd.out (w.heap.size + 1) _ b2.out).mono ?_
  rintro e w3 ⟨hch, hE⟩
  have BR := Lib.hid ((hch.block w.heap.size (by have := hsz2.out; omega) (by have := hsz2.out; omega)).trans b1.out)
  have HBel := Lib.hid (hb0.out.trans (hch.to_below (B := w.heap.size) (fun k hk => by have := hsz2.out; omega) (by have := hsz2.out; omega)))
  have hsz3 := Lib.hid hch.size
  clear hch HRd b1 b2 hb0
  rcases hE with ⟨i, HO, he⟩ | ⟨a, c, hi, rfl⟩
  rotate_left
  · have HR : Hid (parseW (wordsL s) s.size = .inr (a, c)) := Lib.hid (by unfold parseW; rw [show instP (wordsL s) s.size = .inr (a, c) from hi])
    have hc := Lib.hid (instP_err hi)
    have hne : (c != 0) = true := by rw [bne_iff_ne]; exact hc.out
    have hne2 : ¬ c = 0 := hc.out
    clear hi hsz3 hsz2
    generalize hg : w.heap.size = g at *
    replace hg := Lib.hid hg
    obtain ⟨⟨c0, c1, c2, c3, c4, c5, c6, c7, c8⟩, hfz⟩ := row9 BR.out
    have f0 := hfz 0
    have f1 := hfz 1
    have f2 := hfz 2
    have f3 := hfz 3
    have f4 := hfz 4
    have f5 := hfz 5
    have f6 := hfz 6
    have f7 := hfz 7
    have f8 := hfz 8
    clear hfz
    obtain ⟨e1, e2, _⟩ := ninep_set w3 g 29 (.int .i64 0) (.int .i64 0) (.int .i64 0) (.int .i64 0) (.int .i64 0) (.slice none 0 0) (.slice none 0 0) (.slice none 0 0) (.slice none 0 0) BR.out HBel.out (Nat.le_refl g)
    have e1' := Lib.hid e1
    have e2' := Lib.hid e2
    clear e1 e2
    go_wp2_with fail
    clear c0 c1 c2 c3 c4 c5 c6 c7 c8 f0 f1 f2 f3 f4 f5 f6 f7 f8
    generalize (((((((((w3.setCell ⟨g, 0, none⟩ (.int .i64 0)).setCell ⟨g, 1, none⟩ (.int .i64 0)).setCell ⟨g, 2, none⟩ (.int .i64 0)).setCell ⟨g, 3, none⟩ (.int .i64 0)).setCell ⟨g, 4, none⟩ (.int .i64 0)).setCell ⟨g, 5, none⟩ (.slice none 0 0)).setCell ⟨g, 6, none⟩ (.slice none 0 0)).setCell ⟨g, 7, none⟩ (.slice none 0 0)).setCell ⟨g, 8, none⟩ (.slice none 0 0)) = W9 at *
    obtain ⟨⟨c0, c1, c2, c3, c4, c5, c6, c7, c8⟩, _⟩ := row9 e1'.out
    exact bodyPost_ret (v := .tuple #[.agg #[.int .i64 0, .int .i64 0, .int .i64 0, .int .i64 0, .int .i64 0, .slice none 0 0, .slice none 0 0, .slice none 0 0, .slice none 0 0], .int .i64 a, .int .i64 c]) (by simp [results, Try.results14, go_sem, c0, c1, c2, c3, c4, c5, c6, c7, c8]) rfl ⟨by rw [hg.out]; exact e2'.out, .inr ⟨a, c, HR.out, hc.out, rfl⟩⟩

  · obtain ⟨B, X, h, h7, h8, hB, hi, hbox, o5, o6, o7, o8⟩ := HO
    by_cases hlt : i < (wordsL s).length
    · rw [if_pos hlt, if_pos hlt] at he
      have HR : Hid (parseW (wordsL s) s.size = .inr ((placeN (wordsL s) i s.size : Int), 6)) := Lib.hid (by unfold parseW; rw [hi]; dsimp only; rw [if_pos hlt])
      generalize (placeN (wordsL s) i s.size : Int) = a at *
      subst he
      have hc : Hid ((6 : Int) ≠ 0) := Lib.hid (by decide)
      clear hi hsz3 hsz2 hbox o5 o6 o7 o8 hlt
      generalize hg : w.heap.size = g at *
      replace hg := Lib.hid hg
      obtain ⟨⟨c0, c1, c2, c3, c4, c5, c6, c7, c8⟩, hfz⟩ := row9 BR.out
      have f0 := hfz 0
      have f1 := hfz 1
      have f2 := hfz 2
      have f3 := hfz 3
      have f4 := hfz 4
      have f5 := hfz 5
      have f6 := hfz 6
      have f7 := hfz 7
      have f8 := hfz 8
      clear hfz
      obtain ⟨e1, e2, _⟩ := ninep_set w3 g 29 (.int .i64 0) (.int .i64 0) (.int .i64 0) (.int .i64 0) (.int .i64 0) (.slice none 0 0) (.slice none 0 0) (.slice none 0 0) (.slice none 0 0) BR.out HBel.out (Nat.le_refl g)
      have e1' := Lib.hid e1
      have e2' := Lib.hid e2
      clear e1 e2
      go_wp2_with fail
      clear c0 c1 c2 c3 c4 c5 c6 c7 c8 f0 f1 f2 f3 f4 f5 f6 f7 f8
      generalize (((((((((w3.setCell ⟨g, 0, none⟩ (.int .i64 0)).setCell ⟨g, 1, none⟩ (.int .i64 0)).setCell ⟨g, 2, none⟩ (.int .i64 0)).setCell ⟨g, 3, none⟩ (.int .i64 0)).setCell ⟨g, 4, none⟩ (.int .i64 0)).setCell ⟨g, 5, none⟩ (.slice none 0 0)).setCell ⟨g, 6, none⟩ (.slice none 0 0)).setCell ⟨g, 7, none⟩ (.slice none 0 0)).setCell ⟨g, 8, none⟩ (.slice none 0 0)) = W9 at *
      obtain ⟨⟨c0, c1, c2, c3, c4, c5, c6, c7, c8⟩, _⟩ := row9 e1'.out
      exact bodyPost_ret (v := .tuple #[.agg #[.int .i64 0, .int .i64 0, .int .i64 0, .int .i64 0, .int .i64 0, .slice none 0 0, .slice none 0 0, .slice none 0 0, .slice none 0 0], .int .i64 a, .int .i64 6]) (by simp [results, Try.results14, go_sem, c0, c1, c2, c3, c4, c5, c6, c7, c8]) rfl ⟨by rw [hg.out]; exact e2'.out, .inr ⟨a, 6, HR.out, hc.out, rfl⟩⟩

    · rw [if_neg hlt, if_neg hlt] at he
      have HR : Hid (parseW (wordsL s) s.size = .inl X) := Lib.hid (by unfold parseW; rw [hi]; dsimp only; rw [if_neg hlt])
      subst he
      have HK := instP_ok hi
      have hbx := Lib.hid (inst_row hbox)
      have HI := Lib.hid (fun (w' : World) (hw : ∀ k, k ≠ w.heap.size → w'.heap[k]? = w3.heap[k]?) => HK.is (h := h) (B := B)
        (own_heap o5 (fun k hk => hw k (by have := hsz2.out; omega))) (own_heap o6 (fun k hk => hw k (by have := hsz2.out; omega))) (o7.heap (fun k hk => hw k (by have := hsz2.out; omega))) (o8.heap (fun k hk => hw k (by have := hsz2.out; omega))))
      replace HK := Lib.hid HK
      obtain ⟨k1, c1, k2, c2, k3, c3, k4, c4⟩ := h
      clear hi hsz3 hsz2 hbox o5 o6 o7 o8 hlt
      generalize hg : w.heap.size = g at *
      replace hg := Lib.hid hg
      obtain ⟨⟨q0, q1, q2, q3, q4, q5, q6, q7, q8⟩, _⟩ := row9 hbx.out
      obtain ⟨⟨p0, p1, p2, p3, p4, p5, p6, p7, p8⟩, hfz⟩ := row9 BR.out
      have f0 := hfz 0
      have f1 := hfz 1
      have f2 := hfz 2
      have f3 := hfz 3
      have f4 := hfz 4
      have f5 := hfz 5
      have f6 := hfz 6
      have f7 := hfz 7
      have f8 := hfz 8
      clear hfz
      obtain ⟨e1, e2, e3⟩ := ninep_set w3 g 29 (.int .i64 X.fin) (.int .i64 X.tm) (.int .i64 X.tr) (.int .i64 X.bm) (.int .i64 X.br) (.slice k1 X.sats.length c1) (.slice k2 X.custs.length c2) (.slice k3 X.cost.length c3) (.slice k4 X.time.length c4) BR.out HBel.out (Nat.le_refl g)
      have e1' := Lib.hid e1
      have e2' := Lib.hid e2
      have e3' := Lib.hid (HI.out _ e3)
      clear e1 e2 e3 HI
      go_wp2_with fail
      clear p0 p1 p2 p3 p4 p5 p6 p7 p8 f0 f1 f2 f3 f4 f5 f6 f7 f8 q0 q1 q2 q3 q4 q5 q6 q7 q8
      generalize (((((((((w3.setCell ⟨g, 0, none⟩ (.int .i64 X.fin)).setCell ⟨g, 1, none⟩ (.int .i64 X.tm)).setCell ⟨g, 2, none⟩ (.int .i64 X.tr)).setCell ⟨g, 3, none⟩ (.int .i64 X.bm)).setCell ⟨g, 4, none⟩ (.int .i64 X.br)).setCell ⟨g, 5, none⟩ (.slice k1 X.sats.length c1)).setCell ⟨g, 6, none⟩ (.slice k2 X.custs.length c2)).setCell ⟨g, 7, none⟩ (.slice k3 X.cost.length c3)).setCell ⟨g, 8, none⟩ (.slice k4 X.time.length c4)) = W9 at *
      obtain ⟨⟨p0, p1, p2, p3, p4, p5, p6, p7, p8⟩, _⟩ := row9 e1'.out
      exact bodyPost_ret (v := .tuple #[.agg #[.int .i64 X.fin, .int .i64 X.tm, .int .i64 X.tr, .int .i64 X.bm, .int .i64 X.br, .slice k1 X.sats.length c1, .slice k2 X.custs.length c2, .slice k3 X.cost.length c3, .slice k4 X.time.length c4], .int .i64 0, .int .i64 0]) (by simp [results, Try.results14, go_sem, p0, p1, p2, p3, p4, p5, p6, p7, p8]) rfl ⟨by rw [hg.out]; exact e2'.out, .inl ⟨X, ⟨k1, c1, k2, c2, k3, c3, k4, c4⟩, HR.out, HK.out, rfl, e3'.out⟩⟩
end Go.Proofs.Ytljcpgeggbbmfaa
