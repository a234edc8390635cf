/-
  An argument of type inst.Instance, and one of type Small, opened: what lies behind its slices.
-/
import Derived.Test.YtljcpgeggbbmfaaSmall
import Derived.Deep.Slices
namespace Go.Proofs.Ytljcpgeggbbmfaa
set_option linter.unusedVariables false
set_option linter.unusedSimpArgs false
open Go.RowKit Go.ChangeShapes Go.WideShapes Go.Deep
theorem flat_get {α β : Type} (f : α → List β) (m : Nat) (hm : ∀ x, (f x).length = m) : ∀ (l : List α) (j : Nat) (u : β), (l.flatMap f)[j]? = some u → ∃ i x r, l[i]? = some x ∧ (f x)[r]? = some u ∧ j = i * m + r ∧ r < m
  | [], j, u, h => by simp at h
  | x :: l, j, u, h => by
    rw [List.flatMap_cons] at h
    by_cases hj : j < m
    · rw [List.getElem?_append_left (by rw [hm]; exact hj)] at h
      exact ⟨0, x, j, rfl, h, by omega, hj⟩
    · rw [List.getElem?_append_right (by rw [hm]; omega), hm] at h
      obtain ⟨i, y, r, h1, h2, h3, h4⟩ := flat_get f m hm l _ u h
      exact ⟨i + 1, y, r, h1, h2, by rw [Nat.succ_mul]; omega, h4⟩
section
variable {H : Type} {enc : TypeId × Value → H} {P : Program} {W : World} {base : Nat} {held : Bool}
theorem rd_slice {α : Type} [Inhabited α] {t e : TypeId} (f : α → List Value) (p : α → Prop) (m : Nat) (hc : P.cellsOf e = m) (hpos : 0 < m) (ht : P.underlying t = some (.slice e)) (hm : ∀ x, (f x).length = m)
    (read : ∀ n cs y, DataW.trod enc P W base (fun _ => true) held n e cs = some y → ∃ x, cs = f x ∧ p x) {fuel : Nat} {cs : List Value} {x : DataW H × List MemPlace} (h : DataW.trod enc P W base (fun _ => true) held fuel t cs = some x) :
    ∃ (a : Option Addr) (cap : Nat) (xs : List α), cs = [.slice a xs.length cap] ∧ xs.length ≤ 9223372036854775807 ∧ Rd W a (xs.flatMap f) ∧ ∀ x ∈ xs, p x := by
  rcases open_slice ht h with ⟨h0, _⟩ | ⟨a, len, cap, k, n, D, Pl, h0, hb, hl, hcap, hk, hx, hel⟩
  · exact ⟨none, 0, [], h0, by simp, Rd.nil, by simp⟩
  · simp only [if_true] at hk
    have each : ∀ i, i < len → ∃ y : α, p y ∧ W.cells? base (a.add (i * m)) m = some (f y) := by
      intro i hi
      obtain ⟨cs', h1, h2⟩ := hel i (by omega)
      obtain ⟨y, hy, hp⟩ := read _ _ _ h2
      subst hy
      rw [hc] at h1
      exact ⟨y, hp, h1⟩
    obtain ⟨F, hF⟩ := choose_lt each
    refine ⟨some a, cap, (List.range len).map F, by simpa using h0, by have := hcap; unfold maxLen at this; simp; omega, ?_, ?_⟩
    · have cells : ∀ i r u, i < len → r < m → (f (F i))[r]? = some u → W.cell? (a.add (i * m + r)) = some u := by
        intro i r u hi hr hu
        obtain ⟨_, _, hcell⟩ := World.cells?_some (hF i hi).2
        rw [← add_add, hcell r hr, hu]
      intro hne
      have hlen : 0 < len := by
        rcases Nat.eq_zero_or_pos len with h | h
        · subst h; exact absurd rfl hne
        · exact h
      obtain ⟨b, off, spot⟩ := a
      have g0 := cells 0 0 ((f (F 0))[0]'(by rw [hm]; exact hpos)) hlen hpos (List.getElem?_eq_getElem _)
      have hspot : spot = none := by simpa [Addr.add] using World.cell?_spot g0
      subst hspot
      refine ⟨b, off, rfl, fun j u hu => ?_⟩
      obtain ⟨i, y, r, h1, h2, h3, h4⟩ := flat_get f m hm _ j u hu
      rw [List.getElem?_map] at h1
      have hi : i < len := by
        rcases Nat.lt_or_ge i len with h | h
        · exact h
        · rw [List.getElem?_eq_none (by simpa using h)] at h1; cases h1
      rw [List.getElem?_range hi] at h1
      injection h1 with h1
      subst h1; subst h3
      have g := cells i r u hi h4 h2
      rwa [add_plain] at g
    · intro y hy
      obtain ⟨i, hi, rfl⟩ := List.mem_map.1 hy
      exact (hF i (List.mem_range.1 hi)).1
theorem fld {t : TypeId} {fs : Array Field} {fuel : Nat} {cs : List Value} {x : DataW H × List MemPlace} (ht : P.underlying t = some (.struct fs)) (h : DataW.trod enc P W base (fun _ => true) held fuel t cs = some x) (i : Nat) (f : Field) (hf : fs[i]? = some f) :
    ∃ n y, DataW.trod enc P W base (fun _ => true) held n f.type ((cs.drop f.offset).take (P.cellsOf f.type)) = some y := by
  obtain ⟨xs, n, _, _, _, hl, hel⟩ := DataW.trod_struct ht h
  have hi : i < fs.size := (Array.getElem?_eq_some_iff.1 hf).1
  have := hel i f hf
  rw [List.getElem?_eq_getElem (by omega)] at this
  exact ⟨n, _, this⟩
theorem fld_at {t e : TypeId} {fs : Array Field} {fuel : Nat} {cs : List Value} {x : DataW H × List MemPlace} (ht : P.underlying t = some (.struct fs)) (h : DataW.trod enc P W base (fun _ => true) held fuel t cs = some x) (i m o : Nat) (f : Field) (hf : fs[i]? = some f)
    (hfe : f.type = e) (hm : P.cellsOf e = m) (ho : f.offset = o) (l : List Value) (hl : (cs.drop o).take m = l) : ∃ n y, DataW.trod enc P W base (fun _ => true) held n e l = some y := by
  obtain ⟨n, y, hy⟩ := fld ht h i f hf
  subst hfe; subst hm; subst ho; subst hl
  exact ⟨n, y, hy⟩
end
/-- a row of numbers, with where it lies. -/
structure RowH where
  a : Option Addr
  cap : Nat
  zs : List Int
instance : Inhabited RowH := ⟨⟨none, 0, []⟩⟩
instance : Inhabited SatD := ⟨⟨0, 0⟩⟩
instance : Inhabited CustD := ⟨⟨0, 0, 0, 0⟩⟩
instance : Inhabited SatU := ⟨⟨0, 0⟩⟩
instance : Inhabited WhoU := ⟨⟨0, 0, 0, 0⟩⟩
def RowH.v (r : RowH) : List Value := [.slice r.a r.zs.length r.cap]
theorem flat_one {α β : Type} (f : α → β) (l : List α) : (l.flatMap fun x => [f x]) = l.map f := by
  induction l with
  | nil => rfl
  | cons x l ih => rw [List.flatMap_cons, ih]; rfl
theorem four {α : Type} (l : List α) (h : l.length = 4) : ∃ a b c d, l = [a, b, c, d] := by
  match l, h with
  | [a, b, c, d], _ => exact ⟨a, b, c, d, rfl⟩
theorem two {α : Type} (l : List α) (h : l.length = 2) : ∃ a b, l = [a, b] := by
  match l, h with
  | [a, b], _ => exact ⟨a, b, rfl⟩
theorem nine {α : Type} (l : List α) (h : l.length = 9) : ∃ a b c d e f g i j, l = [a, b, c, d, e, f, g, i, j] := by
  match l, h with
  | [a, b, c, d, e, f, g, i, j], _ => exact ⟨a, b, c, d, e, f, g, i, j, rfl⟩
theorem eleven {α : Type} (l : List α) (h : l.length = 11) : ∃ a b c d e f g i j k m, l = [a, b, c, d, e, f, g, i, j, k, m] := by
  match l, h with
  | [a, b, c, d, e, f, g, i, j, k, m], _ => exact ⟨a, b, c, d, e, f, g, i, j, k, m, rfl⟩
section
variable {H : Type} {enc : TypeId × Value → H} {W : World} {base : Nat} {held : Bool}
theorem co_i64 : Try.prog.cellsOf 2 = 1 := by kernel_rfl
theorem co_int : Try.prog.cellsOf 3 = 1 := by kernel_rfl
theorem co_u8 : Try.prog.cellsOf 5 = 1 := by kernel_rfl
theorem co_bool : Try.prog.cellsOf 4 = 1 := by kernel_rfl
theorem co_fleet : Try.prog.cellsOf 24 = 2 := by kernel_rfl
theorem co_sat : Try.prog.cellsOf 62 = 2 := by kernel_rfl
theorem co_cust : Try.prog.cellsOf 66 = 4 := by kernel_rfl
theorem co_row : Try.prog.cellsOf 53 = 1 := by kernel_rfl
theorem co_sats : Try.prog.cellsOf 25 = 1 := by kernel_rfl
theorem co_custs : Try.prog.cellsOf 26 = 1 := by kernel_rfl
theorem co_rows : Try.prog.cellsOf 27 = 1 := by kernel_rfl
theorem co_inst : Try.prog.cellsOf 29 = 9 := by kernel_rfl
theorem read_i64 (n : Nat) (cs : List Value) (y : DataW H × List MemPlace) (h : DataW.trod enc Try.prog W base (fun _ => true) held n 2 cs = some y) : ∃ x : Int, cs = [Value.int .i64 x] ∧ (Lit.int .i64 x).wf = true := by
  obtain ⟨m, h1, h2, hw⟩ := DataW.trod_int Try.underlying2 h
  exact ⟨m, h1, hw⟩
theorem read_int (n : Nat) (cs : List Value) (y : DataW H × List MemPlace) (h : DataW.trod enc Try.prog W base (fun _ => true) held n 3 cs = some y) : ∃ x : Int, cs = [Value.int .i64 x] ∧ (Lit.int .i64 x).wf = true := by
  obtain ⟨m, h1, h2, hw⟩ := DataW.trod_int Try.underlying3 h
  exact ⟨m, h1, hw⟩
theorem read_row (n : Nat) (cs : List Value) (y : DataW H × List MemPlace) (h : DataW.trod enc Try.prog W base (fun _ => true) held n 53 cs = some y) :
    ∃ x : RowH, cs = x.v ∧ (x.zs.length ≤ 9223372036854775807 ∧ Rd W x.a (i64s x.zs) ∧ ∀ z ∈ x.zs, (Lit.int .i64 z).wf = true) := by
  obtain ⟨a, cap, xs, h1, h2, h3, h4⟩ := rd_slice (fun x : Int => [Value.int .i64 x]) (fun x => (Lit.int .i64 x).wf = true) 1 co_i64 (by omega) Try.underlying53 (fun _ => rfl) read_i64 h
  rw [flat_one] at h3
  exact ⟨⟨a, cap, xs⟩, h1, h2, h3, h4⟩
theorem read_rows (n : Nat) (cs : List Value) (y : DataW H × List MemPlace) (h : DataW.trod enc Try.prog W base (fun _ => true) held n 27 cs = some y) :
    ∃ (a : Option Addr) (cap : Nat) (ls : List (List Int)), cs = [.slice a ls.length cap] ∧ ls.length ≤ 9223372036854775807 ∧ Rows2 W a ls := by
  obtain ⟨a, cap, xs, h1, h2, h3, h4⟩ := rd_slice RowH.v _ 1 co_row (by omega) Try.underlying27 (fun _ => rfl) read_row h
  refine ⟨a, cap, xs.map (·.zs), by rw [h1, List.length_map], by rw [List.length_map]; exact h2, xs.map (fun r => .slice r.a r.zs.length r.cap), by simp, ?_, fun i r hr => ?_⟩
  · rwa [show xs.flatMap RowH.v = xs.map (fun r => .slice r.a r.zs.length r.cap) from flat_one _ xs] at h3
  · rw [List.getElem?_map] at hr
    obtain ⟨x, hx, rfl⟩ := Option.map_eq_some_iff.1 hr
    obtain ⟨g1, g2, _⟩ := h4 x (List.mem_of_getElem? hx)
    exact ⟨x.a, x.cap, by rw [List.getElem?_map, hx]; rfl, g1, g2⟩
theorem read_sat (n : Nat) (cs : List Value) (y : DataW H × List MemPlace) (h : DataW.trod enc Try.prog W base (fun _ => true) held n 62 cs = some y) : ∃ x : SatD, cs = satV x ∧ True := by
  obtain ⟨xs, m, _, _, hl, _⟩ := DataW.trod_struct Try.underlying62 h
  rw [co_sat] at hl
  obtain ⟨a, b, rfl⟩ := two cs hl
  obtain ⟨n0, y0, h0⟩ := fld_at Try.underlying62 h 0 1 0 _ rfl rfl co_i64 rfl _ rfl
  obtain ⟨n1, y1, h1⟩ := fld_at Try.underlying62 h 1 1 1 _ rfl rfl co_i64 rfl _ rfl
  obtain ⟨z0, e0, _⟩ := read_i64 _ _ _ h0
  obtain ⟨z1, e1, _⟩ := read_i64 _ _ _ h1
  injection e0 with e0; injection e1 with e1
  exact ⟨⟨z0, z1⟩, by rw [e0, e1]; rfl, trivial⟩
theorem read_cust (n : Nat) (cs : List Value) (y : DataW H × List MemPlace) (h : DataW.trod enc Try.prog W base (fun _ => true) held n 66 cs = some y) : ∃ x : CustD, cs = custV x ∧ True := by
  obtain ⟨xs, m, _, _, hl, _⟩ := DataW.trod_struct Try.underlying66 h
  rw [co_cust] at hl
  obtain ⟨a, b, c, d, rfl⟩ := four cs hl
  obtain ⟨n0, y0, h0⟩ := fld_at Try.underlying66 h 0 1 0 _ rfl rfl co_i64 rfl _ rfl
  obtain ⟨n1, y1, h1⟩ := fld_at Try.underlying66 h 1 1 1 _ rfl rfl co_i64 rfl _ rfl
  obtain ⟨n2, y2, h2⟩ := fld_at Try.underlying66 h 2 1 2 _ rfl rfl co_i64 rfl _ rfl
  obtain ⟨n3, y3, h3⟩ := fld_at Try.underlying66 h 3 1 3 _ rfl rfl co_i64 rfl _ rfl
  obtain ⟨z0, e0, _⟩ := read_i64 _ _ _ h0
  obtain ⟨z1, e1, _⟩ := read_i64 _ _ _ h1
  obtain ⟨z2, e2, _⟩ := read_i64 _ _ _ h2
  obtain ⟨z3, e3, _⟩ := read_i64 _ _ _ h3
  injection e0 with e0; injection e1 with e1; injection e2 with e2; injection e3 with e3
  exact ⟨⟨z0, z1, z2, z3⟩, by rw [e0, e1, e2, e3]; rfl, trivial⟩
theorem read_fleet (n : Nat) (a b : Value) (y : DataW H × List MemPlace) (h : DataW.trod enc Try.prog W base (fun _ => true) held n 24 [a, b] = some y) : ∃ m r : Int, a = .int .i64 m ∧ b = .int .i64 r := by
  obtain ⟨n0, y0, h0⟩ := fld_at Try.underlying24 h 0 1 0 _ rfl rfl co_int rfl _ rfl
  obtain ⟨n1, y1, h1⟩ := fld_at Try.underlying24 h 1 1 1 _ rfl rfl co_i64 rfl _ rfl
  obtain ⟨z0, e0, _⟩ := read_int _ _ _ h0
  obtain ⟨z1, e1, _⟩ := read_i64 _ _ _ h1
  injection e0 with e0; injection e1 with e1
  exact ⟨z0, z1, e0, e1⟩
set_option maxRecDepth 100000 in
theorem inst_of {b0 : Nat} {v : Value} {d : DataW H} {ps : List MemPlace} (hval : Value.okWide Try.prog W .any b0 29 v) (hd : DataW.Trod enc Try.prog W base (fun _ => true) held 29 v d ps) :
    ∃ (X : InstD) (h : HdD), v = .agg (instC X h) ∧ InstIs W X h := by
  unfold Value.okWide at hval
  rw [Try.underlying29] at hval
  obtain ⟨⟨l⟩, rfl, _, _⟩ := hval
  obtain ⟨fuel, h⟩ := hd
  have h : DataW.trod enc Try.prog W base (fun _ => true) held fuel 29 l = some (d, ps) := h
  obtain ⟨xs, m, _, _, hl, _⟩ := DataW.trod_struct Try.underlying29 h
  rw [co_inst] at hl
  obtain ⟨c0, c1, c2, c3, c4, c5, c6, c7, c8, rfl⟩ := nine l hl
  obtain ⟨n0, y0, h0⟩ := fld_at Try.underlying29 h 0 1 0 _ rfl rfl co_i64 rfl _ rfl
  obtain ⟨n1, y1, h1⟩ := fld_at Try.underlying29 h 1 2 1 _ rfl rfl co_fleet rfl _ rfl
  obtain ⟨n2, y2, h2⟩ := fld_at Try.underlying29 h 2 2 3 _ rfl rfl co_fleet rfl _ rfl
  obtain ⟨n3, y3, h3⟩ := fld_at Try.underlying29 h 3 1 5 _ rfl rfl co_sats rfl _ rfl
  obtain ⟨n4, y4, h4⟩ := fld_at Try.underlying29 h 4 1 6 _ rfl rfl co_custs rfl _ rfl
  obtain ⟨n5, y5, h5⟩ := fld_at Try.underlying29 h 5 1 7 _ rfl rfl co_rows rfl _ rfl
  obtain ⟨n6, y6, h6⟩ := fld_at Try.underlying29 h 6 1 8 _ rfl rfl co_rows rfl _ rfl
  obtain ⟨z0, e0, _⟩ := read_i64 _ _ _ h0
  injection e0 with e0
  obtain ⟨z1, z2, e1, e2⟩ := read_fleet _ _ _ _ h1
  obtain ⟨z3, z4, e3, e4⟩ := read_fleet _ _ _ _ h2
  obtain ⟨sa, sc, xs, e5, l5, r5, _⟩ := rd_slice satV _ 2 co_sat (by omega) Try.underlying25 (fun _ => rfl) read_sat h3
  obtain ⟨ca, cc, ys, e6, l6, r6, _⟩ := rd_slice custV _ 4 co_cust (by omega) Try.underlying26 (fun _ => rfl) read_cust h4
  obtain ⟨oa, oc, ls, e7, l7, r7⟩ := read_rows _ _ _ h5
  obtain ⟨ta, tc, ms, e8, l8, r8⟩ := read_rows _ _ _ h6
  injection e5 with e5; injection e6 with e6; injection e7 with e7; injection e8 with e8
  refine ⟨⟨z0, z1, z2, z3, z4, xs, ys, ls, ms⟩, ⟨sa, sc, ca, cc, oa, oc, ta, tc⟩, ?_, ⟨r5, r6, r7, r8, l5, l6, l7, l8⟩⟩
  rw [e0, e1, e2, e3, e4, e5, e6, e7, e8]
/-! ### Small -/
theorem co_su : Try.prog.cellsOf 90 = 2 := by kernel_rfl
theorem co_wu : Try.prog.cellsOf 92 = 4 := by kernel_rfl
theorem co_sus : Try.prog.cellsOf 36 = 1 := by kernel_rfl
theorem co_wus : Try.prog.cellsOf 37 = 1 := by kernel_rfl
theorem co_bytes : Try.prog.cellsOf 38 = 1 := by kernel_rfl
theorem co_small : Try.prog.cellsOf 40 = 11 := by kernel_rfl
theorem u8_nat {x : Int} (h : (Lit.int .u8 x).wf = true) : ∃ n : Nat, x = (n : Int) ∧ n < 256 := by
  have h2 : (0 : Int) ≤ x ∧ x ≤ 255 := by simpa [Lit.wf, IntKind.min, IntKind.max, IntKind.signed, IntKind.bits] using h
  exact ⟨x.toNat, by omega, by omega⟩
theorem read_u8 (n : Nat) (cs : List Value) (y : DataW H × List MemPlace) (h : DataW.trod enc Try.prog W base (fun _ => true) held n 5 cs = some y) : ∃ x : Nat, cs = [Value.int .u8 (x : Int)] ∧ x < 256 := by
  obtain ⟨m, h1, h2, hw⟩ := DataW.trod_int Try.underlying5 h
  obtain ⟨k, rfl, hk⟩ := u8_nat hw
  exact ⟨k, h1, hk⟩
theorem read_su (n : Nat) (cs : List Value) (y : DataW H × List MemPlace) (h : DataW.trod enc Try.prog W base (fun _ => true) held n 90 cs = some y) : ∃ x : SatU, cs = satUV x ∧ (x.room < 256 ∧ x.hold < 256) := by
  obtain ⟨xs, m, _, _, hl, _⟩ := DataW.trod_struct Try.underlying90 h
  rw [co_su] at hl
  obtain ⟨a, b, rfl⟩ := two cs hl
  obtain ⟨n0, y0, h0⟩ := fld_at Try.underlying90 h 0 1 0 _ rfl rfl co_u8 rfl _ rfl
  obtain ⟨n1, y1, h1⟩ := fld_at Try.underlying90 h 1 1 1 _ rfl rfl co_u8 rfl _ rfl
  obtain ⟨z0, e0, w0⟩ := read_u8 _ _ _ h0
  obtain ⟨z1, e1, w1⟩ := read_u8 _ _ _ h1
  injection e0 with e0; injection e1 with e1
  exact ⟨⟨z0, z1⟩, by rw [e0, e1]; rfl, w0, w1⟩
theorem read_wu (n : Nat) (cs : List Value) (y : DataW H × List MemPlace) (h : DataW.trod enc Try.prog W base (fun _ => true) held n 92 cs = some y) : ∃ x : WhoU, cs = whoUV x ∧ (x.load < 256 ∧ x.opn < 256 ∧ x.wide < 256 ∧ x.stay < 256) := by
  obtain ⟨xs, m, _, _, hl, _⟩ := DataW.trod_struct Try.underlying92 h
  rw [co_wu] at hl
  obtain ⟨a, b, c, d, rfl⟩ := four cs hl
  obtain ⟨n0, y0, h0⟩ := fld_at Try.underlying92 h 0 1 0 _ rfl rfl co_u8 rfl _ rfl
  obtain ⟨n1, y1, h1⟩ := fld_at Try.underlying92 h 1 1 1 _ rfl rfl co_u8 rfl _ rfl
  obtain ⟨n2, y2, h2⟩ := fld_at Try.underlying92 h 2 1 2 _ rfl rfl co_u8 rfl _ rfl
  obtain ⟨n3, y3, h3⟩ := fld_at Try.underlying92 h 3 1 3 _ rfl rfl co_u8 rfl _ rfl
  obtain ⟨z0, e0, w0⟩ := read_u8 _ _ _ h0
  obtain ⟨z1, e1, w1⟩ := read_u8 _ _ _ h1
  obtain ⟨z2, e2, w2⟩ := read_u8 _ _ _ h2
  obtain ⟨z3, e3, w3⟩ := read_u8 _ _ _ h3
  injection e0 with e0; injection e1 with e1; injection e2 with e2; injection e3 with e3
  exact ⟨⟨z0, z1, z2, z3⟩, by rw [e0, e1, e2, e3]; rfl, w0, w1, w2, w3⟩
theorem read_bytes (n : Nat) (cs : List Value) (y : DataW H × List MemPlace) (h : DataW.trod enc Try.prog W base (fun _ => true) held n 38 cs = some y) :
    ∃ (a : Option Addr) (cap : Nat) (l : List Nat), cs = [.slice a l.length cap] ∧ l.length ≤ 9223372036854775807 ∧ Rd W a (u8s l) ∧ ∀ q, l.getD q 0 < 256 := by
  obtain ⟨a, cap, xs, h1, h2, h3, h4⟩ := rd_slice (fun x : Nat => [Value.int .u8 (x : Int)]) (fun x => x < 256) 1 co_u8 (by omega) Try.underlying38 (fun _ => rfl) read_u8 h
  rw [flat_one] at h3
  refine ⟨a, cap, xs, h1, h2, h3, fun q => ?_⟩
  by_cases hq : q < xs.length
  · rw [List.getD_eq_getElem?_getD, List.getElem?_eq_getElem hq]
    exact h4 _ (List.getElem_mem hq)
  · rw [List.getD_eq_getElem?_getD, List.getElem?_eq_none (by omega)]
    decide
set_option maxRecDepth 100000 in
theorem small_of {b0 : Nat} {v : Value} {d : DataW H} {ps : List MemPlace} (hval : Value.okWide Try.prog W .any b0 40 v) (hd : DataW.Trod enc Try.prog W base (fun _ => true) held 40 v d ps) :
    ∃ (S : SmallD) (h : SmallH), v = .agg (smallC S h) ∧ SmallIs W S h := by
  unfold Value.okWide at hval
  rw [Try.underlying40] at hval
  obtain ⟨⟨l⟩, rfl, _, _⟩ := hval
  obtain ⟨fuel, h⟩ := hd
  have h : DataW.trod enc Try.prog W base (fun _ => true) held fuel 40 l = some (d, ps) := h
  obtain ⟨xs, m, _, _, hl, _⟩ := DataW.trod_struct Try.underlying40 h
  rw [co_small] at hl
  obtain ⟨c0, c1, c2, c3, c4, c5, c6, c7, c8, c9, c10, rfl⟩ := eleven l hl
  obtain ⟨n0, y0, h0⟩ := fld_at Try.underlying40 h 0 1 0 _ rfl rfl co_u8 rfl _ rfl
  obtain ⟨n1, y1, h1⟩ := fld_at Try.underlying40 h 1 1 1 _ rfl rfl co_u8 rfl _ rfl
  obtain ⟨n2, y2, h2⟩ := fld_at Try.underlying40 h 2 1 2 _ rfl rfl co_u8 rfl _ rfl
  obtain ⟨n3, y3, h3⟩ := fld_at Try.underlying40 h 3 1 3 _ rfl rfl co_u8 rfl _ rfl
  obtain ⟨n4, y4, h4⟩ := fld_at Try.underlying40 h 4 1 4 _ rfl rfl co_u8 rfl _ rfl
  obtain ⟨n5, y5, h5⟩ := fld_at Try.underlying40 h 5 1 5 _ rfl rfl co_sus rfl _ rfl
  obtain ⟨n6, y6, h6⟩ := fld_at Try.underlying40 h 6 1 6 _ rfl rfl co_wus rfl _ rfl
  obtain ⟨n7, y7, h7⟩ := fld_at Try.underlying40 h 7 1 7 _ rfl rfl co_bytes rfl _ rfl
  obtain ⟨n8, y8, h8⟩ := fld_at Try.underlying40 h 8 1 8 _ rfl rfl co_bytes rfl _ rfl
  obtain ⟨n9, y9, h9⟩ := fld_at Try.underlying40 h 9 1 9 _ rfl rfl co_bool rfl _ rfl
  obtain ⟨n10, y10, h10⟩ := fld_at Try.underlying40 h 10 1 10 _ rfl rfl co_bool rfl _ rfl
  obtain ⟨z0, e0, w0⟩ := read_u8 _ _ _ h0
  obtain ⟨z1, e1, w1⟩ := read_u8 _ _ _ h1
  obtain ⟨z2, e2, w2⟩ := read_u8 _ _ _ h2
  obtain ⟨z3, e3, w3⟩ := read_u8 _ _ _ h3
  obtain ⟨z4, e4, w4⟩ := read_u8 _ _ _ h4
  obtain ⟨sa, sc, xs, e5, l5, r5, w5⟩ := rd_slice satUV _ 2 co_su (by omega) Try.underlying36 (fun _ => rfl) read_su h5
  obtain ⟨ca, cc, ys, e6, l6, r6, w6⟩ := rd_slice whoUV _ 4 co_wu (by omega) Try.underlying37 (fun _ => rfl) read_wu h6
  obtain ⟨oa, oc, ls, e7, l7, r7, w7⟩ := read_bytes _ _ _ h7
  obtain ⟨ta, tc, ms, e8, l8, r8, w8⟩ := read_bytes _ _ _ h8
  obtain ⟨b9, e9, _⟩ := DataW.trod_bool Try.underlying4 h9
  obtain ⟨b10, e10, _⟩ := DataW.trod_bool Try.underlying4 h10
  injection e0 with e0; injection e1 with e1; injection e2 with e2; injection e3 with e3; injection e4 with e4
  injection e5 with e5; injection e6 with e6; injection e7 with e7; injection e8 with e8; injection e9 with e9; injection e10 with e10
  refine ⟨⟨z0, z1, z2, z3, z4, xs, ys, ls, ms, b9, b10⟩, ⟨sa, sc, ca, cc, oa, oc, ta, tc⟩, ?_, ⟨r5, r6, r7, r8, l5, l6, l7, l8, w0, w1, w2, w3, w4, w5, w6, w7, w8⟩⟩
  rw [e0, e1, e2, e3, e4, e5, e6, e7, e8, e9, e10]
end
end Go.Proofs.Ytljcpgeggbbmfaa
