/-
  An argument of type []Step, opened; the walk of WordReads at the statement's arguments (layer 5).
-/
import Derived.Test.YtnilgmcoojdgoaaReads6
namespace Go.Proofs.Ytnilgmcoojdgoaa
set_option linter.unusedVariables false
set_option linter.unusedSimpArgs false
open Go.RowKit Go.ChangeShapes Go.WideShapes Go.Deep
section
variable {H : Type} {enc : TypeId × Value → H} {W : World} {base : Nat} {held : Bool}
theorem co_str : Try.prog.cellsOf 9 = 1 := by kernel_rfl
theorem co_step : Try.prog.cellsOf 49 = 4 := by kernel_rfl
theorem read_str (n : Nat) (cs : List Value) (y : DataW H × List MemPlace) (h : DataW.trod enc Try.prog W base (fun _ => true) held n 9 cs = some y) : ∃ s : ByteArray, cs = [Value.string s] := by
  obtain ⟨s, h1, _⟩ := DataW.trod_string Try.underlying9 h
  exact ⟨s, h1⟩
theorem read_step (n : Nat) (cs : List Value) (y : DataW H × List MemPlace) (h : DataW.trod enc Try.prog W base (fun _ => true) held n 49 cs = some y) : ∃ x : StepD, cs = stepV x ∧ x.dv < 256 := by
  obtain ⟨xs, m, _, _, hl, _⟩ := DataW.trod_struct Try.underlying49 h
  rw [co_step] at hl
  obtain ⟨a, b, c, d, rfl⟩ := four cs hl
  obtain ⟨n0, y0, h0⟩ := fld_at Try.underlying49 h 0 1 0 _ rfl rfl co_u8 rfl _ rfl
  obtain ⟨n1, y1, h1⟩ := fld_at Try.underlying49 h 1 1 1 _ rfl rfl co_str rfl _ rfl
  obtain ⟨n2, y2, h2⟩ := fld_at Try.underlying49 h 2 1 2 _ rfl rfl co_i64 rfl _ rfl
  obtain ⟨n3, y3, h3⟩ := fld_at Try.underlying49 h 3 1 3 _ rfl rfl co_i64 rfl _ rfl
  obtain ⟨z0, e0, w0⟩ := read_u8 _ _ _ h0
  obtain ⟨z1, e1⟩ := read_str _ _ _ h1
  obtain ⟨z2, e2, _⟩ := read_i64 _ _ _ h2
  obtain ⟨z3, e3, _⟩ := read_i64 _ _ _ h3
  injection e0 with e0; injection e1 with e1; injection e2 with e2; injection e3 with e3
  exact ⟨⟨z0, z1, z2, z3⟩, by rw [e0, e1, e2, e3]; rfl, w0⟩
set_option maxRecDepth 100000 in
theorem steps_of {b0 : Nat} {v : Value} {d : DataW H} {ps : List MemPlace} (hval : Value.okWide Try.prog W .any b0 45 v) (hd : DataW.Trod enc Try.prog W base (fun _ => true) held 45 v d ps) :
    ∃ (a : Option Addr) (cap : Nat) (l : List StepD), v = .slice a l.length cap ∧ l.length ≤ 9223372036854775807 ∧ Rd W a (l.flatMap stepV) ∧ ∀ x ∈ l, x.dv < 256 := by
  obtain ⟨a0, len, cap0, rfl⟩ := okWide_slice Try.underlying45 hval
  obtain ⟨fuel, h⟩ := hd
  have h : DataW.trod enc Try.prog W base (fun _ => true) held fuel 45 [.slice a0 len cap0] = some (d, ps) := h
  obtain ⟨a, cap, l, e, h1, h2, h3⟩ := rd_slice stepV _ 4 co_step (by omega) Try.underlying45 (fun _ => rfl) read_step h
  injection e with e
  exact ⟨a, cap, l, e, h1, h2, h3⟩
end
theorem law_WordReads (w : World) (s : ByteArray) (hs : s.size ≤ maxLen) (v : Value) (hv : ∃ (a : Option Addr) (cap : Nat) (l : List StepD), v = .slice a l.length cap ∧ l.length ≤ 9223372036854775807 ∧ Rd w a (l.flatMap stepV) ∧ ∀ x ∈ l, x.dv < 256) :
    Calls Try.prog 8 #[.string s, v] w fun e w' => e = .returned (.bool true) ∧ Below w.heap.size w w' := by
  obtain ⟨a, cap, l, rfl, h1, h2, h3⟩ := hv
  exact walk_WordReads w s (by unfold maxLen at hs; omega) a cap l h1 h3 h2
end Go.Proofs.Ytnilgmcoojdgoaa
