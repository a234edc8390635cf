/-
  No cell of these rows narrows 'for every input' (looked for: loops, veiled, ifaces, maps, wideKeys, modest, calm, conditions, laid).
  DERIVED. THE GIVEN ROWS OF THIS SEAT. 5 by the template 'for every input the law returns true; each argument reads behind the call as it read before'; 0 by the template 'total and deterministic' (their statements: YthiinlkpakinlaaTotals.lean).
  GIVEN WITH THE SEED: the statements are not yours to turn. If you find one false, say at which input.
  Laid BY PROGRAM, IN A SANDBOX (cutbox-rows.mjs): the forced cells as the released guide's own fill.sh prints them over the translation ee9835998167eda0… (all of the seat's roots in one cut). By AI agents, Wed Nov 11 2026. No macro, syntax, notation, axiom, sorry.
-/
import Derived.Test.YthiinlkpakinlaaChecked
import GoSem.Claim
import GoSem.ClaimJoined
import GoSem.ClaimMapViews
import Derived.JoinedTies
import Derived.KernelRfl
namespace Go.Proofs.Ythiinlkpakinlaa
/- THE CELL 'sum', in the pinned program and in every row, IS THE sha256 OF THE DUMP (.gsa) THAT YthiinlkpakinlaaProg.lean LOADS. Nothing in Lean hashes anything: it is a label: what it is worth is what the hold of that sum in a sandbox is worth. -/
noncomputable def Try.pinned : Pinned := { name := "ythiinlkpakinlaa", sum := "ee9835998167eda0d7a5698b7415d9a6d84aa6fc6c7d52130622ba73cac2d016", checked := Try.checked }
namespace Rows
def none {H : Type} : Left H := { results := [], args := [] }

/-- 'wharfagelaw11.InstChecks': WHATEVER THE INPUT: true; the input reads as it did. -/
def instChecksSpec : ChangeSpec := { name := "instChecks", fn := fun _ => fun
  | [d] => { results := [.lit (.bool true)], args := [d] }
  | _ => none }
def instChecksRow : OpenClaim := { program := "ythiinlkpakinlaa", sum := "ee9835998167eda0d7a5698b7415d9a6d84aa6fc6c7d52130622ba73cac2d016", func := "wharfage/wharfagelaw11.InstChecks", spec := "instChecks", unfollowed := true, recurses := true, apart := false }
def InstChecksSaid : Prop := instChecksRow.holds Try.pinned (OpenSpec.ofChange instChecksSpec)

/-- ITS FALSE NEIGHBOUR: 'it returns false'. Refute it at one input. -/
def instChecksWrong : ChangeSpec := { name := "instChecks", fn := fun _ => fun
  | [d] => { results := [.lit (.bool false)], args := [d] }
  | _ => none }
def InstChecksWrongFalsely : Prop := instChecksRow.holds Try.pinned (OpenSpec.ofChange instChecksWrong)

/-- 'wharfagelaw11.InstSpoilt': WHATEVER THE INPUT: true; the input reads as it did. -/
def instSpoiltSpec : ChangeSpec := { name := "instSpoilt", fn := fun _ => fun
  | [d1, d2, d3, d4, d5] => { results := [.lit (.bool true)], args := [d1, d2, d3, d4, d5] }
  | _ => none }
def instSpoiltRow : OpenClaim := { program := "ythiinlkpakinlaa", sum := "ee9835998167eda0d7a5698b7415d9a6d84aa6fc6c7d52130622ba73cac2d016", func := "wharfage/wharfagelaw11.InstSpoilt", spec := "instSpoilt", unfollowed := true, recurses := true, apart := false }
def InstSpoiltSaid : Prop := instSpoiltRow.holds Try.pinned (OpenSpec.ofChange instSpoiltSpec)

/-- ITS FALSE NEIGHBOUR: 'it returns false'. Refute it at one input. -/
def instSpoiltWrong : ChangeSpec := { name := "instSpoilt", fn := fun _ => fun
  | [d1, d2, d3, d4, d5] => { results := [.lit (.bool false)], args := [d1, d2, d3, d4, d5] }
  | _ => none }
def InstSpoiltWrongFalsely : Prop := instSpoiltRow.holds Try.pinned (OpenSpec.ofChange instSpoiltWrong)

/-- 'wharfagelaw11.InstNodes': WHATEVER THE INPUT: true; the input reads as it did. -/
def instNodesSpec : ChangeSpec := { name := "instNodes", fn := fun _ => fun
  | [d1, d2, d3] => { results := [.lit (.bool true)], args := [d1, d2, d3] }
  | _ => none }
def instNodesRow : OpenClaim := { program := "ythiinlkpakinlaa", sum := "ee9835998167eda0d7a5698b7415d9a6d84aa6fc6c7d52130622ba73cac2d016", func := "wharfage/wharfagelaw11.InstNodes", spec := "instNodes", unfollowed := true, recurses := true, apart := false }
def InstNodesSaid : Prop := instNodesRow.holds Try.pinned (OpenSpec.ofChange instNodesSpec)

/-- ITS FALSE NEIGHBOUR: 'it returns false'. Refute it at one input. -/
def instNodesWrong : ChangeSpec := { name := "instNodes", fn := fun _ => fun
  | [d1, d2, d3] => { results := [.lit (.bool false)], args := [d1, d2, d3] }
  | _ => none }
def InstNodesWrongFalsely : Prop := instNodesRow.holds Try.pinned (OpenSpec.ofChange instNodesWrong)

/-- 'wharfagelaw11.InstClones': WHATEVER THE INPUT: true; the input reads as it did. -/
def instClonesSpec : ChangeSpec := { name := "instClones", fn := fun _ => fun
  | [d1, d2] => { results := [.lit (.bool true)], args := [d1, d2] }
  | _ => none }
def instClonesRow : OpenClaim := { program := "ythiinlkpakinlaa", sum := "ee9835998167eda0d7a5698b7415d9a6d84aa6fc6c7d52130622ba73cac2d016", func := "wharfage/wharfagelaw11.InstClones", spec := "instClones", unfollowed := true, recurses := true, apart := false }
def InstClonesSaid : Prop := instClonesRow.holds Try.pinned (OpenSpec.ofChange instClonesSpec)

/-- ITS FALSE NEIGHBOUR: 'it returns false'. Refute it at one input. -/
def instClonesWrong : ChangeSpec := { name := "instClones", fn := fun _ => fun
  | [d1, d2] => { results := [.lit (.bool false)], args := [d1, d2] }
  | _ => none }
def InstClonesWrongFalsely : Prop := instClonesRow.holds Try.pinned (OpenSpec.ofChange instClonesWrong)

/-- 'wharfagelaw11.InstSames': WHATEVER THE INPUT: true; the input reads as it did. -/
def instSamesSpec : ChangeSpec := { name := "instSames", fn := fun _ => fun
  | [d1, d2, d3, d4, d5, d6] => { results := [.lit (.bool true)], args := [d1, d2, d3, d4, d5, d6] }
  | _ => none }
def instSamesRow : OpenClaim := { program := "ythiinlkpakinlaa", sum := "ee9835998167eda0d7a5698b7415d9a6d84aa6fc6c7d52130622ba73cac2d016", func := "wharfage/wharfagelaw11.InstSames", spec := "instSames", unfollowed := true, recurses := true, apart := false }
def InstSamesSaid : Prop := instSamesRow.holds Try.pinned (OpenSpec.ofChange instSamesSpec)

/-- ITS FALSE NEIGHBOUR: 'it returns false'. Refute it at one input. -/
def instSamesWrong : ChangeSpec := { name := "instSames", fn := fun _ => fun
  | [d1, d2, d3, d4, d5, d6] => { results := [.lit (.bool false)], args := [d1, d2, d3, d4, d5, d6] }
  | _ => none }
def InstSamesWrongFalsely : Prop := instSamesRow.holds Try.pinned (OpenSpec.ofChange instSamesWrong)

/- THE SECOND FORM. 'bulk': how many values and letters a reading holds, each counted each time it is reached (what is shared counts as often as it is met; a slice's spare places count too). A statement '..UptoSaid' is the law's where the arguments, and the package variables that the reading takes, are together of bulk at most 1048576: NARROWER than '..Said'. Prove '..Said' where nothing that the law and all that it calls make is longer than what came in: it says more and counts as full. Else prove '..UptoSaid'. A law counts once. -/
mutual
def uptoBulk {H : Type} : DataW H → Nat
  | .lit (.string bytes) => bytes.length + 1
  | .lit _ => 1
  | .nil => 1
  | .ptr d => uptoBulk d + 1
  | .slice elems spare => uptoBulkAll elems + uptoBulkAll spare + 1
  | .agg parts => uptoBulkAll parts + 1
  | .iface _ d => uptoBulk d + 1
  | .map entries => uptoBulkEntries entries + 1
  | .held _ => 1
def uptoBulkAll {H : Type} : List (DataW H) → Nat
  | [] => 0
  | d :: r => uptoBulk d + uptoBulkAll r
def uptoBulkEntries {H : Type} : List (Lit × DataW H) → Nat
  | [] => 0
  | x :: r => uptoBulkEntry x + uptoBulkEntries r
def uptoBulkEntry {H : Type} : Lit × DataW H → Nat
  | (.string bytes, d) => bytes.length + uptoBulk d + 1
  | (_, d) => uptoBulk d + 1
 end
def uptoSmall : (H : Type) → List (DataW H) → Bool := fun _ ds => decide (uptoBulkAll ds ≤ 1048576)
def OpenSpec.upto (s : _root_.Go.ChangeSpec) : _root_.Go.OpenSpec := { _root_.Go.OpenSpec.ofChange s with cond := some uptoSmall }

/-- 'wharfagelaw11.InstChecks', WHERE WHAT IT READS IS OF BULK AT MOST 1048576: true; the input reads as it did. -/
def instChecksUptoRow : OpenClaim := { program := "ythiinlkpakinlaa", sum := "ee9835998167eda0d7a5698b7415d9a6d84aa6fc6c7d52130622ba73cac2d016", func := "wharfage/wharfagelaw11.InstChecks", spec := "instChecks", unfollowed := true, recurses := true, apart := false, narrowed := true }
def InstChecksUptoSaid : Prop := instChecksUptoRow.holds Try.pinned (OpenSpec.upto instChecksSpec)

/-- 'wharfagelaw11.InstSpoilt', WHERE WHAT IT READS IS OF BULK AT MOST 1048576: true; the input reads as it did. -/
def instSpoiltUptoRow : OpenClaim := { program := "ythiinlkpakinlaa", sum := "ee9835998167eda0d7a5698b7415d9a6d84aa6fc6c7d52130622ba73cac2d016", func := "wharfage/wharfagelaw11.InstSpoilt", spec := "instSpoilt", unfollowed := true, recurses := true, apart := false, narrowed := true }
def InstSpoiltUptoSaid : Prop := instSpoiltUptoRow.holds Try.pinned (OpenSpec.upto instSpoiltSpec)

/-- 'wharfagelaw11.InstNodes', WHERE WHAT IT READS IS OF BULK AT MOST 1048576: true; the input reads as it did. -/
def instNodesUptoRow : OpenClaim := { program := "ythiinlkpakinlaa", sum := "ee9835998167eda0d7a5698b7415d9a6d84aa6fc6c7d52130622ba73cac2d016", func := "wharfage/wharfagelaw11.InstNodes", spec := "instNodes", unfollowed := true, recurses := true, apart := false, narrowed := true }
def InstNodesUptoSaid : Prop := instNodesUptoRow.holds Try.pinned (OpenSpec.upto instNodesSpec)

/-- 'wharfagelaw11.InstClones', WHERE WHAT IT READS IS OF BULK AT MOST 1048576: true; the input reads as it did. -/
def instClonesUptoRow : OpenClaim := { program := "ythiinlkpakinlaa", sum := "ee9835998167eda0d7a5698b7415d9a6d84aa6fc6c7d52130622ba73cac2d016", func := "wharfage/wharfagelaw11.InstClones", spec := "instClones", unfollowed := true, recurses := true, apart := false, narrowed := true }
def InstClonesUptoSaid : Prop := instClonesUptoRow.holds Try.pinned (OpenSpec.upto instClonesSpec)

/-- 'wharfagelaw11.InstSames', WHERE WHAT IT READS IS OF BULK AT MOST 1048576: true; the input reads as it did. -/
def instSamesUptoRow : OpenClaim := { program := "ythiinlkpakinlaa", sum := "ee9835998167eda0d7a5698b7415d9a6d84aa6fc6c7d52130622ba73cac2d016", func := "wharfage/wharfagelaw11.InstSames", spec := "instSames", unfollowed := true, recurses := true, apart := false, narrowed := true }
def InstSamesUptoSaid : Prop := instSamesUptoRow.holds Try.pinned (OpenSpec.upto instSamesSpec)

end Rows
end Go.Proofs.Ythiinlkpakinlaa
