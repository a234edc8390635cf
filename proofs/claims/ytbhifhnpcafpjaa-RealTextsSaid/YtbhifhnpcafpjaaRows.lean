/-
  No cell of these rows narrows 'for every input' (looked for: loops, veiled, ifaces, maps, wideKeys, modest, calm, conditions, laid).
  DERIVED. THE GIVEN ROWS OF THIS SEAT. 8 by the template 'for every input the law returns true; each argument reads behind the call as it read before'; 0 by the template 'total and deterministic' (their statements: YtbhifhnpcafpjaaTotals.lean).
  GIVEN WITH THE SEED: the statements are not yours to turn. If you find one false, say at which input.
  Laid BY PROGRAM, IN A SANDBOX (cutbox-rows.mjs): the forced cells as the released guide's own fill.sh prints them over the translation 7141f8a67a0532dd… (all of the seat's roots in one cut). By AI agents, Wed Nov 11 2026. No macro, syntax, notation, axiom, sorry.
-/
import Derived.Test.YtbhifhnpcafpjaaChecked
import GoSem.Claim
import GoSem.ClaimJoined
import GoSem.ClaimMapViews
import Derived.JoinedTies
import Derived.KernelRfl
namespace Go.Proofs.Ytbhifhnpcafpjaa
/- THE CELL 'sum', in the pinned program and in every row, IS THE sha256 OF THE DUMP (.gsa) THAT YtbhifhnpcafpjaaProg.lean LOADS. Nothing in Lean hashes anything: it is a label: what it is worth is what the hold of that sum in a sandbox is worth. -/
noncomputable def Try.pinned : Pinned := { name := "ytbhifhnpcafpjaa", sum := "7141f8a67a0532dd7eb6a60b86413fb61fd2f01bb89e305eabb65f0c36b56058", checked := Try.checked }
namespace Rows
def none {H : Type} : Left H := { results := [], args := [] }

/-- 'wharfagelaw02.RealKinds': WHATEVER THE INPUT: true; the input reads as it did. -/
def realKindsSpec : ChangeSpec := { name := "realKinds", fn := fun _ => fun
  | [d] => { results := [.lit (.bool true)], args := [d] }
  | _ => none }
def realKindsRow : OpenClaim := { program := "ytbhifhnpcafpjaa", sum := "7141f8a67a0532dd7eb6a60b86413fb61fd2f01bb89e305eabb65f0c36b56058", func := "wharfage/wharfagelaw02.RealKinds", spec := "realKinds", inPlace := ["math.Float64bits", "math.Float64frombits"], apart := false }
def RealKindsSaid : Prop := realKindsRow.holds Try.pinned (OpenSpec.ofChange realKindsSpec)

/-- ITS FALSE NEIGHBOUR: 'it returns false'. Refute it at one input. -/
def realKindsWrong : ChangeSpec := { name := "realKinds", fn := fun _ => fun
  | [d] => { results := [.lit (.bool false)], args := [d] }
  | _ => none }
def RealKindsWrongFalsely : Prop := realKindsRow.holds Try.pinned (OpenSpec.ofChange realKindsWrong)

/-- 'wharfagelaw02.RealAccepts': WHATEVER THE INPUT: true; the input reads as it did. -/
def realAcceptsSpec : ChangeSpec := { name := "realAccepts", fn := fun _ => fun
  | [d1, d2, d3] => { results := [.lit (.bool true)], args := [d1, d2, d3] }
  | _ => none }
def realAcceptsRow : OpenClaim := { program := "ytbhifhnpcafpjaa", sum := "7141f8a67a0532dd7eb6a60b86413fb61fd2f01bb89e305eabb65f0c36b56058", func := "wharfage/wharfagelaw02.RealAccepts", spec := "realAccepts", inPlace := ["math.Float64bits", "math.Float64frombits"], apart := false }
def RealAcceptsSaid : Prop := realAcceptsRow.holds Try.pinned (OpenSpec.ofChange realAcceptsSpec)

/-- ITS FALSE NEIGHBOUR: 'it returns false'. Refute it at one input. -/
def realAcceptsWrong : ChangeSpec := { name := "realAccepts", fn := fun _ => fun
  | [d1, d2, d3] => { results := [.lit (.bool false)], args := [d1, d2, d3] }
  | _ => none }
def RealAcceptsWrongFalsely : Prop := realAcceptsRow.holds Try.pinned (OpenSpec.ofChange realAcceptsWrong)

/-- 'wharfagelaw02.RealFairer': WHATEVER THE INPUT: true; the input reads as it did. -/
def realFairerSpec : ChangeSpec := { name := "realFairer", fn := fun _ => fun
  | [d1, d2, d3, d4, d5] => { results := [.lit (.bool true)], args := [d1, d2, d3, d4, d5] }
  | _ => none }
def realFairerRow : OpenClaim := { program := "ytbhifhnpcafpjaa", sum := "7141f8a67a0532dd7eb6a60b86413fb61fd2f01bb89e305eabb65f0c36b56058", func := "wharfage/wharfagelaw02.RealFairer", spec := "realFairer", inPlace := ["math.Float64bits", "math.Float64frombits"], apart := false }
def RealFairerSaid : Prop := realFairerRow.holds Try.pinned (OpenSpec.ofChange realFairerSpec)

/-- ITS FALSE NEIGHBOUR: 'it returns false'. Refute it at one input. -/
def realFairerWrong : ChangeSpec := { name := "realFairer", fn := fun _ => fun
  | [d1, d2, d3, d4, d5] => { results := [.lit (.bool false)], args := [d1, d2, d3, d4, d5] }
  | _ => none }
def RealFairerWrongFalsely : Prop := realFairerRow.holds Try.pinned (OpenSpec.ofChange realFairerWrong)

/-- 'wharfagelaw02.RealTexts': WHATEVER THE INPUT: true; the input reads as it did. -/
def realTextsSpec : ChangeSpec := { name := "realTexts", fn := fun _ => fun
  | [d] => { results := [.lit (.bool true)], args := [d] }
  | _ => none }
def realTextsRow : OpenClaim := { program := "ytbhifhnpcafpjaa", sum := "7141f8a67a0532dd7eb6a60b86413fb61fd2f01bb89e305eabb65f0c36b56058", func := "wharfage/wharfagelaw02.RealTexts", spec := "realTexts", inPlace := ["math.Float64bits", "math.Float64frombits"], apart := false }
def RealTextsSaid : Prop := realTextsRow.holds Try.pinned (OpenSpec.ofChange realTextsSpec)

/-- ITS FALSE NEIGHBOUR: 'it returns false'. Refute it at one input. -/
def realTextsWrong : ChangeSpec := { name := "realTexts", fn := fun _ => fun
  | [d] => { results := [.lit (.bool false)], args := [d] }
  | _ => none }
def RealTextsWrongFalsely : Prop := realTextsRow.holds Try.pinned (OpenSpec.ofChange realTextsWrong)

/-- 'wharfagelaw02.RealCools': WHATEVER THE INPUT: true; the input reads as it did. -/
def realCoolsSpec : ChangeSpec := { name := "realCools", fn := fun _ => fun
  | [d1, d2] => { results := [.lit (.bool true)], args := [d1, d2] }
  | _ => none }
def realCoolsRow : OpenClaim := { program := "ytbhifhnpcafpjaa", sum := "7141f8a67a0532dd7eb6a60b86413fb61fd2f01bb89e305eabb65f0c36b56058", func := "wharfage/wharfagelaw02.RealCools", spec := "realCools", inPlace := ["math.Float64bits", "math.Float64frombits"], apart := false }
def RealCoolsSaid : Prop := realCoolsRow.holds Try.pinned (OpenSpec.ofChange realCoolsSpec)

/-- ITS FALSE NEIGHBOUR: 'it returns false'. Refute it at one input. -/
def realCoolsWrong : ChangeSpec := { name := "realCools", fn := fun _ => fun
  | [d1, d2] => { results := [.lit (.bool false)], args := [d1, d2] }
  | _ => none }
def RealCoolsWrongFalsely : Prop := realCoolsRow.holds Try.pinned (OpenSpec.ofChange realCoolsWrong)

/-- 'wharfagelaw02.RealRatios': WHATEVER THE INPUT: true; the input reads as it did. -/
def realRatiosSpec : ChangeSpec := { name := "realRatios", fn := fun _ => fun
  | [d1, d2] => { results := [.lit (.bool true)], args := [d1, d2] }
  | _ => none }
def realRatiosRow : OpenClaim := { program := "ytbhifhnpcafpjaa", sum := "7141f8a67a0532dd7eb6a60b86413fb61fd2f01bb89e305eabb65f0c36b56058", func := "wharfage/wharfagelaw02.RealRatios", spec := "realRatios", inPlace := ["math.Float64bits", "math.Float64frombits"], apart := false }
def RealRatiosSaid : Prop := realRatiosRow.holds Try.pinned (OpenSpec.ofChange realRatiosSpec)

/-- ITS FALSE NEIGHBOUR: 'it returns false'. Refute it at one input. -/
def realRatiosWrong : ChangeSpec := { name := "realRatios", fn := fun _ => fun
  | [d1, d2] => { results := [.lit (.bool false)], args := [d1, d2] }
  | _ => none }
def RealRatiosWrongFalsely : Prop := realRatiosRow.holds Try.pinned (OpenSpec.ofChange realRatiosWrong)

/-- 'wharfagelaw02.RealLess': WHATEVER THE INPUT: true; the input reads as it did. -/
def realLessSpec : ChangeSpec := { name := "realLess", fn := fun _ => fun
  | [d1, d2] => { results := [.lit (.bool true)], args := [d1, d2] }
  | _ => none }
def realLessRow : OpenClaim := { program := "ytbhifhnpcafpjaa", sum := "7141f8a67a0532dd7eb6a60b86413fb61fd2f01bb89e305eabb65f0c36b56058", func := "wharfage/wharfagelaw02.RealLess", spec := "realLess", inPlace := ["math.Float64bits", "math.Float64frombits"], apart := false }
def RealLessSaid : Prop := realLessRow.holds Try.pinned (OpenSpec.ofChange realLessSpec)

/-- ITS FALSE NEIGHBOUR: 'it returns false'. Refute it at one input. -/
def realLessWrong : ChangeSpec := { name := "realLess", fn := fun _ => fun
  | [d1, d2] => { results := [.lit (.bool false)], args := [d1, d2] }
  | _ => none }
def RealLessWrongFalsely : Prop := realLessRow.holds Try.pinned (OpenSpec.ofChange realLessWrong)

/-- 'wharfagelaw02.RealFirsts': WHATEVER THE INPUT: true; the input reads as it did. -/
def realFirstsSpec : ChangeSpec := { name := "realFirsts", fn := fun _ => fun
  | [d] => { results := [.lit (.bool true)], args := [d] }
  | _ => none }
def realFirstsRow : OpenClaim := { program := "ytbhifhnpcafpjaa", sum := "7141f8a67a0532dd7eb6a60b86413fb61fd2f01bb89e305eabb65f0c36b56058", func := "wharfage/wharfagelaw02.RealFirsts", spec := "realFirsts", inPlace := ["math.Float64bits", "math.Float64frombits"], apart := false }
def RealFirstsSaid : Prop := realFirstsRow.holds Try.pinned (OpenSpec.ofChange realFirstsSpec)

/-- ITS FALSE NEIGHBOUR: 'it returns false'. Refute it at one input. -/
def realFirstsWrong : ChangeSpec := { name := "realFirsts", fn := fun _ => fun
  | [d] => { results := [.lit (.bool false)], args := [d] }
  | _ => none }
def RealFirstsWrongFalsely : Prop := realFirstsRow.holds Try.pinned (OpenSpec.ofChange realFirstsWrong)

/- THE SECOND FORM. 'bulk': how many values and letters a reading holds, each counted each time it is reached (what is shared counts as often as it is met; a slice's spare places count too). A statement '..UptoSaid' is the law's where the arguments, and the package variables that the reading takes, are together of bulk at most 1048576: NARROWER than '..Said'. Prove '..Said' where nothing that the law and all that it calls make is longer than what came in: it says more and counts as full. Else prove '..UptoSaid'. A law counts once. -/
mutual
def uptoBulk {H : Type} : DataW H → Nat
  | .lit (.string bytes) => bytes.length + 1
  | .lit _ => 1
  | .nil => 1
  | .ptr d => uptoBulk d + 1
  | .slice elems spare => uptoBulkAll elems + uptoBulkAll spare + 1
  | .agg parts => uptoBulkAll parts + 1
  | .iface _ d => uptoBulk d + 1
  | .map entries => uptoBulkEntries entries + 1
  | .held _ => 1
def uptoBulkAll {H : Type} : List (DataW H) → Nat
  | [] => 0
  | d :: r => uptoBulk d + uptoBulkAll r
def uptoBulkEntries {H : Type} : List (Lit × DataW H) → Nat
  | [] => 0
  | x :: r => uptoBulkEntry x + uptoBulkEntries r
def uptoBulkEntry {H : Type} : Lit × DataW H → Nat
  | (.string bytes, d) => bytes.length + uptoBulk d + 1
  | (_, d) => uptoBulk d + 1
 end
def uptoSmall : (H : Type) → List (DataW H) → Bool := fun _ ds => decide (uptoBulkAll ds ≤ 1048576)
def OpenSpec.upto (s : _root_.Go.ChangeSpec) : _root_.Go.OpenSpec := { _root_.Go.OpenSpec.ofChange s with cond := some uptoSmall }

/-- 'wharfagelaw02.RealKinds', WHERE WHAT IT READS IS OF BULK AT MOST 1048576: true; the input reads as it did. -/
def realKindsUptoRow : OpenClaim := { program := "ytbhifhnpcafpjaa", sum := "7141f8a67a0532dd7eb6a60b86413fb61fd2f01bb89e305eabb65f0c36b56058", func := "wharfage/wharfagelaw02.RealKinds", spec := "realKinds", inPlace := ["math.Float64bits", "math.Float64frombits"], apart := false, narrowed := true }
def RealKindsUptoSaid : Prop := realKindsUptoRow.holds Try.pinned (OpenSpec.upto realKindsSpec)

/-- 'wharfagelaw02.RealAccepts', WHERE WHAT IT READS IS OF BULK AT MOST 1048576: true; the input reads as it did. -/
def realAcceptsUptoRow : OpenClaim := { program := "ytbhifhnpcafpjaa", sum := "7141f8a67a0532dd7eb6a60b86413fb61fd2f01bb89e305eabb65f0c36b56058", func := "wharfage/wharfagelaw02.RealAccepts", spec := "realAccepts", inPlace := ["math.Float64bits", "math.Float64frombits"], apart := false, narrowed := true }
def RealAcceptsUptoSaid : Prop := realAcceptsUptoRow.holds Try.pinned (OpenSpec.upto realAcceptsSpec)

/-- 'wharfagelaw02.RealFairer', WHERE WHAT IT READS IS OF BULK AT MOST 1048576: true; the input reads as it did. -/
def realFairerUptoRow : OpenClaim := { program := "ytbhifhnpcafpjaa", sum := "7141f8a67a0532dd7eb6a60b86413fb61fd2f01bb89e305eabb65f0c36b56058", func := "wharfage/wharfagelaw02.RealFairer", spec := "realFairer", inPlace := ["math.Float64bits", "math.Float64frombits"], apart := false, narrowed := true }
def RealFairerUptoSaid : Prop := realFairerUptoRow.holds Try.pinned (OpenSpec.upto realFairerSpec)

/-- 'wharfagelaw02.RealTexts', WHERE WHAT IT READS IS OF BULK AT MOST 1048576: true; the input reads as it did. -/
def realTextsUptoRow : OpenClaim := { program := "ytbhifhnpcafpjaa", sum := "7141f8a67a0532dd7eb6a60b86413fb61fd2f01bb89e305eabb65f0c36b56058", func := "wharfage/wharfagelaw02.RealTexts", spec := "realTexts", inPlace := ["math.Float64bits", "math.Float64frombits"], apart := false, narrowed := true }
def RealTextsUptoSaid : Prop := realTextsUptoRow.holds Try.pinned (OpenSpec.upto realTextsSpec)

/-- 'wharfagelaw02.RealCools', WHERE WHAT IT READS IS OF BULK AT MOST 1048576: true; the input reads as it did. -/
def realCoolsUptoRow : OpenClaim := { program := "ytbhifhnpcafpjaa", sum := "7141f8a67a0532dd7eb6a60b86413fb61fd2f01bb89e305eabb65f0c36b56058", func := "wharfage/wharfagelaw02.RealCools", spec := "realCools", inPlace := ["math.Float64bits", "math.Float64frombits"], apart := false, narrowed := true }
def RealCoolsUptoSaid : Prop := realCoolsUptoRow.holds Try.pinned (OpenSpec.upto realCoolsSpec)

/-- 'wharfagelaw02.RealRatios', WHERE WHAT IT READS IS OF BULK AT MOST 1048576: true; the input reads as it did. -/
def realRatiosUptoRow : OpenClaim := { program := "ytbhifhnpcafpjaa", sum := "7141f8a67a0532dd7eb6a60b86413fb61fd2f01bb89e305eabb65f0c36b56058", func := "wharfage/wharfagelaw02.RealRatios", spec := "realRatios", inPlace := ["math.Float64bits", "math.Float64frombits"], apart := false, narrowed := true }
def RealRatiosUptoSaid : Prop := realRatiosUptoRow.holds Try.pinned (OpenSpec.upto realRatiosSpec)

/-- 'wharfagelaw02.RealLess', WHERE WHAT IT READS IS OF BULK AT MOST 1048576: true; the input reads as it did. -/
def realLessUptoRow : OpenClaim := { program := "ytbhifhnpcafpjaa", sum := "7141f8a67a0532dd7eb6a60b86413fb61fd2f01bb89e305eabb65f0c36b56058", func := "wharfage/wharfagelaw02.RealLess", spec := "realLess", inPlace := ["math.Float64bits", "math.Float64frombits"], apart := false, narrowed := true }
def RealLessUptoSaid : Prop := realLessUptoRow.holds Try.pinned (OpenSpec.upto realLessSpec)

/-- 'wharfagelaw02.RealFirsts', WHERE WHAT IT READS IS OF BULK AT MOST 1048576: true; the input reads as it did. -/
def realFirstsUptoRow : OpenClaim := { program := "ytbhifhnpcafpjaa", sum := "7141f8a67a0532dd7eb6a60b86413fb61fd2f01bb89e305eabb65f0c36b56058", func := "wharfage/wharfagelaw02.RealFirsts", spec := "realFirsts", inPlace := ["math.Float64bits", "math.Float64frombits"], apart := false, narrowed := true }
def RealFirstsUptoSaid : Prop := realFirstsUptoRow.holds Try.pinned (OpenSpec.upto realFirstsSpec)

end Rows
end Go.Proofs.Ytbhifhnpcafpjaa
