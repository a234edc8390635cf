/-
  No cell of these rows narrows 'for every input' (looked for: loops, veiled, ifaces, maps, wideKeys, modest, calm, conditions, laid).
  DERIVED. THE GIVEN ROWS OF THIS SEAT. 11 by the template 'for every input the law returns true; each argument reads behind the call as it read before'; 0 by the template 'total and deterministic' (their statements: YtcjkicpjcendeaaTotals.lean).
  GIVEN WITH THE SEED: the statements are not yours to turn. If you find one false, say at which input.
  Laid BY PROGRAM, IN A SANDBOX (cutbox-rows.mjs): the forced cells as the released guide's own fill.sh prints them over the translation ea1058693cdde365… (all of the seat's roots in one cut). By AI agents, Wed Nov 11 2026. No macro, syntax, notation, axiom, sorry.
-/
import Derived.Test.YtcjkicpjcendeaaChecked
import GoSem.Claim
import GoSem.ClaimJoined
import GoSem.ClaimMapViews
import Derived.JoinedTies
import Derived.KernelRfl
namespace Go.Proofs.Ytcjkicpjcendeaa
/- THE CELL 'sum', in the pinned program and in every row, IS THE sha256 OF THE DUMP (.gsa) THAT YtcjkicpjcendeaaProg.lean LOADS. Nothing in Lean hashes anything: it is a label: what it is worth is what the hold of that sum in a sandbox is worth. -/
noncomputable def Try.pinned : Pinned := { name := "ytcjkicpjcendeaa", sum := "ea1058693cdde365e5abf16fc5b9b47754ec3596ac2595fc6bcaf4b0110fb19d", checked := Try.checked }
namespace Rows
def none {H : Type} : Left H := { results := [], args := [] }

/-- 'wharfagelaw11.InstChecks': WHATEVER THE INPUT: true; the input reads as it did. -/
def instChecksSpec : ChangeSpec := { name := "instChecks", fn := fun _ => fun
  | [d] => { results := [.lit (.bool true)], args := [d] }
  | _ => none }
def instChecksRow : OpenClaim := { program := "ytcjkicpjcendeaa", sum := "ea1058693cdde365e5abf16fc5b9b47754ec3596ac2595fc6bcaf4b0110fb19d", func := "wharfage/wharfagelaw11.InstChecks", spec := "instChecks", unfollowed := true, recurses := true, apart := false }
def InstChecksSaid : Prop := instChecksRow.holds Try.pinned (OpenSpec.ofChange instChecksSpec)

/-- ITS FALSE NEIGHBOUR: 'it returns false'. Refute it at one input. -/
def instChecksWrong : ChangeSpec := { name := "instChecks", fn := fun _ => fun
  | [d] => { results := [.lit (.bool false)], args := [d] }
  | _ => none }
def InstChecksWrongFalsely : Prop := instChecksRow.holds Try.pinned (OpenSpec.ofChange instChecksWrong)

/-- 'wharfagelaw11.InstSpoilt': WHATEVER THE INPUT: true; the input reads as it did. -/
def instSpoiltSpec : ChangeSpec := { name := "instSpoilt", fn := fun _ => fun
  | [d1, d2, d3, d4, d5] => { results := [.lit (.bool true)], args := [d1, d2, d3, d4, d5] }
  | _ => none }
def instSpoiltRow : OpenClaim := { program := "ytcjkicpjcendeaa", sum := "ea1058693cdde365e5abf16fc5b9b47754ec3596ac2595fc6bcaf4b0110fb19d", func := "wharfage/wharfagelaw11.InstSpoilt", spec := "instSpoilt", unfollowed := true, recurses := true, apart := false }
def InstSpoiltSaid : Prop := instSpoiltRow.holds Try.pinned (OpenSpec.ofChange instSpoiltSpec)

/-- ITS FALSE NEIGHBOUR: 'it returns false'. Refute it at one input. -/
def instSpoiltWrong : ChangeSpec := { name := "instSpoilt", fn := fun _ => fun
  | [d1, d2, d3, d4, d5] => { results := [.lit (.bool false)], args := [d1, d2, d3, d4, d5] }
  | _ => none }
def InstSpoiltWrongFalsely : Prop := instSpoiltRow.holds Try.pinned (OpenSpec.ofChange instSpoiltWrong)

/-- 'wharfagelaw11.InstNodes': WHATEVER THE INPUT: true; the input reads as it did. -/
def instNodesSpec : ChangeSpec := { name := "instNodes", fn := fun _ => fun
  | [d1, d2, d3] => { results := [.lit (.bool true)], args := [d1, d2, d3] }
  | _ => none }
def instNodesRow : OpenClaim := { program := "ytcjkicpjcendeaa", sum := "ea1058693cdde365e5abf16fc5b9b47754ec3596ac2595fc6bcaf4b0110fb19d", func := "wharfage/wharfagelaw11.InstNodes", spec := "instNodes", unfollowed := true, recurses := true, apart := false }
def InstNodesSaid : Prop := instNodesRow.holds Try.pinned (OpenSpec.ofChange instNodesSpec)

/-- ITS FALSE NEIGHBOUR: 'it returns false'. Refute it at one input. -/
def instNodesWrong : ChangeSpec := { name := "instNodes", fn := fun _ => fun
  | [d1, d2, d3] => { results := [.lit (.bool false)], args := [d1, d2, d3] }
  | _ => none }
def InstNodesWrongFalsely : Prop := instNodesRow.holds Try.pinned (OpenSpec.ofChange instNodesWrong)

/-- 'wharfagelaw01.WholeAdds': WHATEVER THE INPUT: true; the input reads as it did. -/
def wholeAddsSpec : ChangeSpec := { name := "wholeAdds", fn := fun _ => fun
  | [d1, d2] => { results := [.lit (.bool true)], args := [d1, d2] }
  | _ => none }
def wholeAddsRow : OpenClaim := { program := "ytcjkicpjcendeaa", sum := "ea1058693cdde365e5abf16fc5b9b47754ec3596ac2595fc6bcaf4b0110fb19d", func := "wharfage/wharfagelaw01.WholeAdds", spec := "wholeAdds", apart := false }
def WholeAddsSaid : Prop := wholeAddsRow.holds Try.pinned (OpenSpec.ofChange wholeAddsSpec)

/-- ITS FALSE NEIGHBOUR: 'it returns false'. Refute it at one input. -/
def wholeAddsWrong : ChangeSpec := { name := "wholeAdds", fn := fun _ => fun
  | [d1, d2] => { results := [.lit (.bool false)], args := [d1, d2] }
  | _ => none }
def WholeAddsWrongFalsely : Prop := wholeAddsRow.holds Try.pinned (OpenSpec.ofChange wholeAddsWrong)

/-- 'wharfagelaw01.WholeMuls': WHATEVER THE INPUT: true; the input reads as it did. -/
def wholeMulsSpec : ChangeSpec := { name := "wholeMuls", fn := fun _ => fun
  | [d1, d2] => { results := [.lit (.bool true)], args := [d1, d2] }
  | _ => none }
def wholeMulsRow : OpenClaim := { program := "ytcjkicpjcendeaa", sum := "ea1058693cdde365e5abf16fc5b9b47754ec3596ac2595fc6bcaf4b0110fb19d", func := "wharfage/wharfagelaw01.WholeMuls", spec := "wholeMuls", apart := false }
def WholeMulsSaid : Prop := wholeMulsRow.holds Try.pinned (OpenSpec.ofChange wholeMulsSpec)

/-- ITS FALSE NEIGHBOUR: 'it returns false'. Refute it at one input. -/
def wholeMulsWrong : ChangeSpec := { name := "wholeMuls", fn := fun _ => fun
  | [d1, d2] => { results := [.lit (.bool false)], args := [d1, d2] }
  | _ => none }
def WholeMulsWrongFalsely : Prop := wholeMulsRow.holds Try.pinned (OpenSpec.ofChange wholeMulsWrong)

/-- 'wharfagelaw01.WholeCeils': WHATEVER THE INPUT: true; the input reads as it did. -/
def wholeCeilsSpec : ChangeSpec := { name := "wholeCeils", fn := fun _ => fun
  | [d1, d2] => { results := [.lit (.bool true)], args := [d1, d2] }
  | _ => none }
def wholeCeilsRow : OpenClaim := { program := "ytcjkicpjcendeaa", sum := "ea1058693cdde365e5abf16fc5b9b47754ec3596ac2595fc6bcaf4b0110fb19d", func := "wharfage/wharfagelaw01.WholeCeils", spec := "wholeCeils", apart := false }
def WholeCeilsSaid : Prop := wholeCeilsRow.holds Try.pinned (OpenSpec.ofChange wholeCeilsSpec)

/-- ITS FALSE NEIGHBOUR: 'it returns false'. Refute it at one input. -/
def wholeCeilsWrong : ChangeSpec := { name := "wholeCeils", fn := fun _ => fun
  | [d1, d2] => { results := [.lit (.bool false)], args := [d1, d2] }
  | _ => none }
def WholeCeilsWrongFalsely : Prop := wholeCeilsRow.holds Try.pinned (OpenSpec.ofChange wholeCeilsWrong)

/-- 'wharfagelaw01.WholeParses': WHATEVER THE INPUT: true; the input reads as it did. -/
def wholeParsesSpec : ChangeSpec := { name := "wholeParses", fn := fun _ => fun
  | [d] => { results := [.lit (.bool true)], args := [d] }
  | _ => none }
def wholeParsesRow : OpenClaim := { program := "ytcjkicpjcendeaa", sum := "ea1058693cdde365e5abf16fc5b9b47754ec3596ac2595fc6bcaf4b0110fb19d", func := "wharfage/wharfagelaw01.WholeParses", spec := "wholeParses", apart := false }
def WholeParsesSaid : Prop := wholeParsesRow.holds Try.pinned (OpenSpec.ofChange wholeParsesSpec)

/-- ITS FALSE NEIGHBOUR: 'it returns false'. Refute it at one input. -/
def wholeParsesWrong : ChangeSpec := { name := "wholeParses", fn := fun _ => fun
  | [d] => { results := [.lit (.bool false)], args := [d] }
  | _ => none }
def WholeParsesWrongFalsely : Prop := wholeParsesRow.holds Try.pinned (OpenSpec.ofChange wholeParsesWrong)

/-- 'wharfagelaw01.WholeSums': WHATEVER THE INPUT: true; the input reads as it did. -/
def wholeSumsSpec : ChangeSpec := { name := "wholeSums", fn := fun _ => fun
  | [d] => { results := [.lit (.bool true)], args := [d] }
  | _ => none }
def wholeSumsRow : OpenClaim := { program := "ytcjkicpjcendeaa", sum := "ea1058693cdde365e5abf16fc5b9b47754ec3596ac2595fc6bcaf4b0110fb19d", func := "wharfage/wharfagelaw01.WholeSums", spec := "wholeSums", apart := false }
def WholeSumsSaid : Prop := wholeSumsRow.holds Try.pinned (OpenSpec.ofChange wholeSumsSpec)

/-- ITS FALSE NEIGHBOUR: 'it returns false'. Refute it at one input. -/
def wholeSumsWrong : ChangeSpec := { name := "wholeSums", fn := fun _ => fun
  | [d] => { results := [.lit (.bool false)], args := [d] }
  | _ => none }
def WholeSumsWrongFalsely : Prop := wholeSumsRow.holds Try.pinned (OpenSpec.ofChange wholeSumsWrong)

/-- 'wharfagelaw11.InstClones': WHATEVER THE INPUT: true; the input reads as it did. -/
def instClonesSpec : ChangeSpec := { name := "instClones", fn := fun _ => fun
  | [d1, d2] => { results := [.lit (.bool true)], args := [d1, d2] }
  | _ => none }
def instClonesRow : OpenClaim := { program := "ytcjkicpjcendeaa", sum := "ea1058693cdde365e5abf16fc5b9b47754ec3596ac2595fc6bcaf4b0110fb19d", func := "wharfage/wharfagelaw11.InstClones", spec := "instClones", unfollowed := true, recurses := true, apart := false }
def InstClonesSaid : Prop := instClonesRow.holds Try.pinned (OpenSpec.ofChange instClonesSpec)

/-- ITS FALSE NEIGHBOUR: 'it returns false'. Refute it at one input. -/
def instClonesWrong : ChangeSpec := { name := "instClones", fn := fun _ => fun
  | [d1, d2] => { results := [.lit (.bool false)], args := [d1, d2] }
  | _ => none }
def InstClonesWrongFalsely : Prop := instClonesRow.holds Try.pinned (OpenSpec.ofChange instClonesWrong)

/-- 'wharfagelaw01.WholeTexts': WHATEVER THE INPUT: true; the input reads as it did. -/
def wholeTextsSpec : ChangeSpec := { name := "wholeTexts", fn := fun _ => fun
  | [d] => { results := [.lit (.bool true)], args := [d] }
  | _ => none }
def wholeTextsRow : OpenClaim := { program := "ytcjkicpjcendeaa", sum := "ea1058693cdde365e5abf16fc5b9b47754ec3596ac2595fc6bcaf4b0110fb19d", func := "wharfage/wharfagelaw01.WholeTexts", spec := "wholeTexts", apart := false }
def WholeTextsSaid : Prop := wholeTextsRow.holds Try.pinned (OpenSpec.ofChange wholeTextsSpec)

/-- ITS FALSE NEIGHBOUR: 'it returns false'. Refute it at one input. -/
def wholeTextsWrong : ChangeSpec := { name := "wholeTexts", fn := fun _ => fun
  | [d] => { results := [.lit (.bool false)], args := [d] }
  | _ => none }
def WholeTextsWrongFalsely : Prop := wholeTextsRow.holds Try.pinned (OpenSpec.ofChange wholeTextsWrong)

/-- 'wharfagelaw11.InstSames': WHATEVER THE INPUT: true; the input reads as it did. -/
def instSamesSpec : ChangeSpec := { name := "instSames", fn := fun _ => fun
  | [d1, d2, d3, d4, d5, d6] => { results := [.lit (.bool true)], args := [d1, d2, d3, d4, d5, d6] }
  | _ => none }
def instSamesRow : OpenClaim := { program := "ytcjkicpjcendeaa", sum := "ea1058693cdde365e5abf16fc5b9b47754ec3596ac2595fc6bcaf4b0110fb19d", func := "wharfage/wharfagelaw11.InstSames", spec := "instSames", unfollowed := true, recurses := true, apart := false }
def InstSamesSaid : Prop := instSamesRow.holds Try.pinned (OpenSpec.ofChange instSamesSpec)

/-- ITS FALSE NEIGHBOUR: 'it returns false'. Refute it at one input. -/
def instSamesWrong : ChangeSpec := { name := "instSames", fn := fun _ => fun
  | [d1, d2, d3, d4, d5, d6] => { results := [.lit (.bool false)], args := [d1, d2, d3, d4, d5, d6] }
  | _ => none }
def InstSamesWrongFalsely : Prop := instSamesRow.holds Try.pinned (OpenSpec.ofChange instSamesWrong)

/- THE SECOND FORM. 'bulk': how many values and letters a reading holds, each counted each time it is reached (what is shared counts as often as it is met; a slice's spare places count too). A statement '..UptoSaid' is the law's where the arguments, and the package variables that the reading takes, are together of bulk at most 1048576: NARROWER than '..Said'. Prove '..Said' where nothing that the law and all that it calls make is longer than what came in: it says more and counts as full. Else prove '..UptoSaid'. A law counts once. -/
mutual
def uptoBulk {H : Type} : DataW H → Nat
  | .lit (.string bytes) => bytes.length + 1
  | .lit _ => 1
  | .nil => 1
  | .ptr d => uptoBulk d + 1
  | .slice elems spare => uptoBulkAll elems + uptoBulkAll spare + 1
  | .agg parts => uptoBulkAll parts + 1
  | .iface _ d => uptoBulk d + 1
  | .map entries => uptoBulkEntries entries + 1
  | .held _ => 1
def uptoBulkAll {H : Type} : List (DataW H) → Nat
  | [] => 0
  | d :: r => uptoBulk d + uptoBulkAll r
def uptoBulkEntries {H : Type} : List (Lit × DataW H) → Nat
  | [] => 0
  | x :: r => uptoBulkEntry x + uptoBulkEntries r
def uptoBulkEntry {H : Type} : Lit × DataW H → Nat
  | (.string bytes, d) => bytes.length + uptoBulk d + 1
  | (_, d) => uptoBulk d + 1
 end
def uptoSmall : (H : Type) → List (DataW H) → Bool := fun _ ds => decide (uptoBulkAll ds ≤ 1048576)
def OpenSpec.upto (s : _root_.Go.ChangeSpec) : _root_.Go.OpenSpec := { _root_.Go.OpenSpec.ofChange s with cond := some uptoSmall }

/-- 'wharfagelaw11.InstChecks', WHERE WHAT IT READS IS OF BULK AT MOST 1048576: true; the input reads as it did. -/
def instChecksUptoRow : OpenClaim := { program := "ytcjkicpjcendeaa", sum := "ea1058693cdde365e5abf16fc5b9b47754ec3596ac2595fc6bcaf4b0110fb19d", func := "wharfage/wharfagelaw11.InstChecks", spec := "instChecks", unfollowed := true, recurses := true, apart := false, narrowed := true }
def InstChecksUptoSaid : Prop := instChecksUptoRow.holds Try.pinned (OpenSpec.upto instChecksSpec)

/-- 'wharfagelaw11.InstSpoilt', WHERE WHAT IT READS IS OF BULK AT MOST 1048576: true; the input reads as it did. -/
def instSpoiltUptoRow : OpenClaim := { program := "ytcjkicpjcendeaa", sum := "ea1058693cdde365e5abf16fc5b9b47754ec3596ac2595fc6bcaf4b0110fb19d", func := "wharfage/wharfagelaw11.InstSpoilt", spec := "instSpoilt", unfollowed := true, recurses := true, apart := false, narrowed := true }
def InstSpoiltUptoSaid : Prop := instSpoiltUptoRow.holds Try.pinned (OpenSpec.upto instSpoiltSpec)

/-- 'wharfagelaw11.InstNodes', WHERE WHAT IT READS IS OF BULK AT MOST 1048576: true; the input reads as it did. -/
def instNodesUptoRow : OpenClaim := { program := "ytcjkicpjcendeaa", sum := "ea1058693cdde365e5abf16fc5b9b47754ec3596ac2595fc6bcaf4b0110fb19d", func := "wharfage/wharfagelaw11.InstNodes", spec := "instNodes", unfollowed := true, recurses := true, apart := false, narrowed := true }
def InstNodesUptoSaid : Prop := instNodesUptoRow.holds Try.pinned (OpenSpec.upto instNodesSpec)

/-- 'wharfagelaw01.WholeAdds', WHERE WHAT IT READS IS OF BULK AT MOST 1048576: true; the input reads as it did. -/
def wholeAddsUptoRow : OpenClaim := { program := "ytcjkicpjcendeaa", sum := "ea1058693cdde365e5abf16fc5b9b47754ec3596ac2595fc6bcaf4b0110fb19d", func := "wharfage/wharfagelaw01.WholeAdds", spec := "wholeAdds", apart := false, narrowed := true }
def WholeAddsUptoSaid : Prop := wholeAddsUptoRow.holds Try.pinned (OpenSpec.upto wholeAddsSpec)

/-- 'wharfagelaw01.WholeMuls', WHERE WHAT IT READS IS OF BULK AT MOST 1048576: true; the input reads as it did. -/
def wholeMulsUptoRow : OpenClaim := { program := "ytcjkicpjcendeaa", sum := "ea1058693cdde365e5abf16fc5b9b47754ec3596ac2595fc6bcaf4b0110fb19d", func := "wharfage/wharfagelaw01.WholeMuls", spec := "wholeMuls", apart := false, narrowed := true }
def WholeMulsUptoSaid : Prop := wholeMulsUptoRow.holds Try.pinned (OpenSpec.upto wholeMulsSpec)

/-- 'wharfagelaw01.WholeCeils', WHERE WHAT IT READS IS OF BULK AT MOST 1048576: true; the input reads as it did. -/
def wholeCeilsUptoRow : OpenClaim := { program := "ytcjkicpjcendeaa", sum := "ea1058693cdde365e5abf16fc5b9b47754ec3596ac2595fc6bcaf4b0110fb19d", func := "wharfage/wharfagelaw01.WholeCeils", spec := "wholeCeils", apart := false, narrowed := true }
def WholeCeilsUptoSaid : Prop := wholeCeilsUptoRow.holds Try.pinned (OpenSpec.upto wholeCeilsSpec)

/-- 'wharfagelaw01.WholeParses', WHERE WHAT IT READS IS OF BULK AT MOST 1048576: true; the input reads as it did. -/
def wholeParsesUptoRow : OpenClaim := { program := "ytcjkicpjcendeaa", sum := "ea1058693cdde365e5abf16fc5b9b47754ec3596ac2595fc6bcaf4b0110fb19d", func := "wharfage/wharfagelaw01.WholeParses", spec := "wholeParses", apart := false, narrowed := true }
def WholeParsesUptoSaid : Prop := wholeParsesUptoRow.holds Try.pinned (OpenSpec.upto wholeParsesSpec)

/-- 'wharfagelaw01.WholeSums', WHERE WHAT IT READS IS OF BULK AT MOST 1048576: true; the input reads as it did. -/
def wholeSumsUptoRow : OpenClaim := { program := "ytcjkicpjcendeaa", sum := "ea1058693cdde365e5abf16fc5b9b47754ec3596ac2595fc6bcaf4b0110fb19d", func := "wharfage/wharfagelaw01.WholeSums", spec := "wholeSums", apart := false, narrowed := true }
def WholeSumsUptoSaid : Prop := wholeSumsUptoRow.holds Try.pinned (OpenSpec.upto wholeSumsSpec)

/-- 'wharfagelaw11.InstClones', WHERE WHAT IT READS IS OF BULK AT MOST 1048576: true; the input reads as it did. -/
def instClonesUptoRow : OpenClaim := { program := "ytcjkicpjcendeaa", sum := "ea1058693cdde365e5abf16fc5b9b47754ec3596ac2595fc6bcaf4b0110fb19d", func := "wharfage/wharfagelaw11.InstClones", spec := "instClones", unfollowed := true, recurses := true, apart := false, narrowed := true }
def InstClonesUptoSaid : Prop := instClonesUptoRow.holds Try.pinned (OpenSpec.upto instClonesSpec)

/-- 'wharfagelaw01.WholeTexts', WHERE WHAT IT READS IS OF BULK AT MOST 1048576: true; the input reads as it did. -/
def wholeTextsUptoRow : OpenClaim := { program := "ytcjkicpjcendeaa", sum := "ea1058693cdde365e5abf16fc5b9b47754ec3596ac2595fc6bcaf4b0110fb19d", func := "wharfage/wharfagelaw01.WholeTexts", spec := "wholeTexts", apart := false, narrowed := true }
def WholeTextsUptoSaid : Prop := wholeTextsUptoRow.holds Try.pinned (OpenSpec.upto wholeTextsSpec)

/-- 'wharfagelaw11.InstSames', WHERE WHAT IT READS IS OF BULK AT MOST 1048576: true; the input reads as it did. -/
def instSamesUptoRow : OpenClaim := { program := "ytcjkicpjcendeaa", sum := "ea1058693cdde365e5abf16fc5b9b47754ec3596ac2595fc6bcaf4b0110fb19d", func := "wharfage/wharfagelaw11.InstSames", spec := "instSames", unfollowed := true, recurses := true, apart := false, narrowed := true }
def InstSamesUptoSaid : Prop := instSamesUptoRow.holds Try.pinned (OpenSpec.upto instSamesSpec)

end Rows
end Go.Proofs.Ytcjkicpjcendeaa
