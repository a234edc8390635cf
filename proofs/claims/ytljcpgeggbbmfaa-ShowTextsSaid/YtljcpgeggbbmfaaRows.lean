/-
  No cell of these rows narrows 'for every input' (looked for: loops, veiled, ifaces, maps, wideKeys, modest, calm, conditions, laid).
  DERIVED. THE GIVEN ROWS OF THIS SEAT. 10 by the template 'for every input the law returns true; each argument reads behind the call as it read before'; 0 by the template 'total and deterministic' (their statements: YtljcpgeggbbmfaaTotals.lean).
  GIVEN WITH THE SEED: the statements are not yours to turn. If you find one false, say at which input.
  Laid BY PROGRAM, IN A SANDBOX (cutbox-rows.mjs): the forced cells as the released guide's own fill.sh prints them over the translation 63651c76fa6b2052… (all of the seat's roots in one cut). By AI agents, Wed Nov 11 2026. No macro, syntax, notation, axiom, sorry.
-/
import Derived.Test.YtljcpgeggbbmfaaChecked
import GoSem.Claim
import GoSem.ClaimJoined
import GoSem.ClaimMapViews
import Derived.JoinedTies
import Derived.KernelRfl
namespace Go.Proofs.Ytljcpgeggbbmfaa
/- THE CELL 'sum', in the pinned program and in every row, IS THE sha256 OF THE DUMP (.gsa) THAT YtljcpgeggbbmfaaProg.lean LOADS. Nothing in Lean hashes anything: it is a label: what it is worth is what the hold of that sum in a sandbox is worth. -/
noncomputable def Try.pinned : Pinned := { name := "ytljcpgeggbbmfaa", sum := "63651c76fa6b20525718a13594669e6aa0da9b021e84c422c40b89e89cffaba9", checked := Try.checked }
namespace Rows
def none {H : Type} : Left H := { results := [], args := [] }

/-- 'wharfagelaw12.ParseMay': WHATEVER THE INPUT: true; the input reads as it did. -/
def parseMaySpec : ChangeSpec := { name := "parseMay", fn := fun _ => fun
  | [d] => { results := [.lit (.bool true)], args := [d] }
  | _ => none }
def parseMayRow : OpenClaim := { program := "ytljcpgeggbbmfaa", sum := "63651c76fa6b20525718a13594669e6aa0da9b021e84c422c40b89e89cffaba9", func := "wharfage/wharfagelaw12.ParseMay", spec := "parseMay", unfollowed := true, recurses := true, apart := false }
def ParseMaySaid : Prop := parseMayRow.holds Try.pinned (OpenSpec.ofChange parseMaySpec)

/-- ITS FALSE NEIGHBOUR: 'it returns false'. Refute it at one input. -/
def parseMayWrong : ChangeSpec := { name := "parseMay", fn := fun _ => fun
  | [d] => { results := [.lit (.bool false)], args := [d] }
  | _ => none }
def ParseMayWrongFalsely : Prop := parseMayRow.holds Try.pinned (OpenSpec.ofChange parseMayWrong)

/-- 'wharfagelaw12.ParseReads': WHATEVER THE INPUT: true; the input reads as it did. -/
def parseReadsSpec : ChangeSpec := { name := "parseReads", fn := fun _ => fun
  | [d] => { results := [.lit (.bool true)], args := [d] }
  | _ => none }
def parseReadsRow : OpenClaim := { program := "ytljcpgeggbbmfaa", sum := "63651c76fa6b20525718a13594669e6aa0da9b021e84c422c40b89e89cffaba9", func := "wharfage/wharfagelaw12.ParseReads", spec := "parseReads", unfollowed := true, recurses := true, apart := false }
def ParseReadsSaid : Prop := parseReadsRow.holds Try.pinned (OpenSpec.ofChange parseReadsSpec)

/-- ITS FALSE NEIGHBOUR: 'it returns false'. Refute it at one input. -/
def parseReadsWrong : ChangeSpec := { name := "parseReads", fn := fun _ => fun
  | [d] => { results := [.lit (.bool false)], args := [d] }
  | _ => none }
def ParseReadsWrongFalsely : Prop := parseReadsRow.holds Try.pinned (OpenSpec.ofChange parseReadsWrong)

/-- 'wharfagelaw12.ParseSpoilt': WHATEVER THE INPUT: true; the input reads as it did. -/
def parseSpoiltSpec : ChangeSpec := { name := "parseSpoilt", fn := fun _ => fun
  | [d1, d2, d3, d4] => { results := [.lit (.bool true)], args := [d1, d2, d3, d4] }
  | _ => none }
def parseSpoiltRow : OpenClaim := { program := "ytljcpgeggbbmfaa", sum := "63651c76fa6b20525718a13594669e6aa0da9b021e84c422c40b89e89cffaba9", func := "wharfage/wharfagelaw12.ParseSpoilt", spec := "parseSpoilt", unfollowed := true, recurses := true, apart := false }
def ParseSpoiltSaid : Prop := parseSpoiltRow.holds Try.pinned (OpenSpec.ofChange parseSpoiltSpec)

/-- ITS FALSE NEIGHBOUR: 'it returns false'. Refute it at one input. -/
def parseSpoiltWrong : ChangeSpec := { name := "parseSpoilt", fn := fun _ => fun
  | [d1, d2, d3, d4] => { results := [.lit (.bool false)], args := [d1, d2, d3, d4] }
  | _ => none }
def ParseSpoiltWrongFalsely : Prop := parseSpoiltRow.holds Try.pinned (OpenSpec.ofChange parseSpoiltWrong)

/-- 'wharfagelaw12.ParseBack': WHATEVER THE INPUT: true; the input reads as it did. -/
def parseBackSpec : ChangeSpec := { name := "parseBack", fn := fun _ => fun
  | [d1, d2] => { results := [.lit (.bool true)], args := [d1, d2] }
  | _ => none }
def parseBackRow : OpenClaim := { program := "ytljcpgeggbbmfaa", sum := "63651c76fa6b20525718a13594669e6aa0da9b021e84c422c40b89e89cffaba9", func := "wharfage/wharfagelaw12.ParseBack", spec := "parseBack", unfollowed := true, recurses := true, apart := false }
def ParseBackSaid : Prop := parseBackRow.holds Try.pinned (OpenSpec.ofChange parseBackSpec)

/-- ITS FALSE NEIGHBOUR: 'it returns false'. Refute it at one input. -/
def parseBackWrong : ChangeSpec := { name := "parseBack", fn := fun _ => fun
  | [d1, d2] => { results := [.lit (.bool false)], args := [d1, d2] }
  | _ => none }
def ParseBackWrongFalsely : Prop := parseBackRow.holds Try.pinned (OpenSpec.ofChange parseBackWrong)

/-- 'wharfagelaw12.ParseCuts': WHATEVER THE INPUT: true; the input reads as it did. -/
def parseCutsSpec : ChangeSpec := { name := "parseCuts", fn := fun _ => fun
  | [d1, d2] => { results := [.lit (.bool true)], args := [d1, d2] }
  | _ => none }
def parseCutsRow : OpenClaim := { program := "ytljcpgeggbbmfaa", sum := "63651c76fa6b20525718a13594669e6aa0da9b021e84c422c40b89e89cffaba9", func := "wharfage/wharfagelaw12.ParseCuts", spec := "parseCuts", unfollowed := true, recurses := true, apart := false }
def ParseCutsSaid : Prop := parseCutsRow.holds Try.pinned (OpenSpec.ofChange parseCutsSpec)

/-- ITS FALSE NEIGHBOUR: 'it returns false'. Refute it at one input. -/
def parseCutsWrong : ChangeSpec := { name := "parseCuts", fn := fun _ => fun
  | [d1, d2] => { results := [.lit (.bool false)], args := [d1, d2] }
  | _ => none }
def ParseCutsWrongFalsely : Prop := parseCutsRow.holds Try.pinned (OpenSpec.ofChange parseCutsWrong)

/-- 'wharfagelaw13.ShowLines': WHATEVER THE INPUT: true; the input reads as it did. -/
def showLinesSpec : ChangeSpec := { name := "showLines", fn := fun _ => fun
  | [d1, d2] => { results := [.lit (.bool true)], args := [d1, d2] }
  | _ => none }
def showLinesRow : OpenClaim := { program := "ytljcpgeggbbmfaa", sum := "63651c76fa6b20525718a13594669e6aa0da9b021e84c422c40b89e89cffaba9", func := "wharfage/wharfagelaw13.ShowLines", spec := "showLines", unfollowed := true, recurses := true, apart := false }
def ShowLinesSaid : Prop := showLinesRow.holds Try.pinned (OpenSpec.ofChange showLinesSpec)

/-- ITS FALSE NEIGHBOUR: 'it returns false'. Refute it at one input. -/
def showLinesWrong : ChangeSpec := { name := "showLines", fn := fun _ => fun
  | [d1, d2] => { results := [.lit (.bool false)], args := [d1, d2] }
  | _ => none }
def ShowLinesWrongFalsely : Prop := showLinesRow.holds Try.pinned (OpenSpec.ofChange showLinesWrong)

/-- 'wharfagelaw13.ShowTexts': WHATEVER THE INPUT: true; the input reads as it did. -/
def showTextsSpec : ChangeSpec := { name := "showTexts", fn := fun _ => fun
  | [d] => { results := [.lit (.bool true)], args := [d] }
  | _ => none }
def showTextsRow : OpenClaim := { program := "ytljcpgeggbbmfaa", sum := "63651c76fa6b20525718a13594669e6aa0da9b021e84c422c40b89e89cffaba9", func := "wharfage/wharfagelaw13.ShowTexts", spec := "showTexts", inPlace := ["internal/abi.NoEscape"], unfollowed := true, recurses := true, apart := false }
def ShowTextsSaid : Prop := showTextsRow.holds Try.pinned (OpenSpec.ofChange showTextsSpec)

/-- ITS FALSE NEIGHBOUR: 'it returns false'. Refute it at one input. -/
def showTextsWrong : ChangeSpec := { name := "showTexts", fn := fun _ => fun
  | [d] => { results := [.lit (.bool false)], args := [d] }
  | _ => none }
def ShowTextsWrongFalsely : Prop := showTextsRow.holds Try.pinned (OpenSpec.ofChange showTextsWrong)

/-- 'wharfagelaw13.ShowBack': WHATEVER THE INPUT: true; the input reads as it did. -/
def showBackSpec : ChangeSpec := { name := "showBack", fn := fun _ => fun
  | [d1, d2] => { results := [.lit (.bool true)], args := [d1, d2] }
  | _ => none }
def showBackRow : OpenClaim := { program := "ytljcpgeggbbmfaa", sum := "63651c76fa6b20525718a13594669e6aa0da9b021e84c422c40b89e89cffaba9", func := "wharfage/wharfagelaw13.ShowBack", spec := "showBack", inPlace := ["internal/abi.NoEscape"], unfollowed := true, recurses := true, apart := false }
def ShowBackSaid : Prop := showBackRow.holds Try.pinned (OpenSpec.ofChange showBackSpec)

/-- ITS FALSE NEIGHBOUR: 'it returns false'. Refute it at one input. -/
def showBackWrong : ChangeSpec := { name := "showBack", fn := fun _ => fun
  | [d1, d2] => { results := [.lit (.bool false)], args := [d1, d2] }
  | _ => none }
def ShowBackWrongFalsely : Prop := showBackRow.holds Try.pinned (OpenSpec.ofChange showBackWrong)

/-- 'wharfagelaw13.ShowRead': WHATEVER THE INPUT: true; the input reads as it did. -/
def showReadSpec : ChangeSpec := { name := "showRead", fn := fun _ => fun
  | [d] => { results := [.lit (.bool true)], args := [d] }
  | _ => none }
def showReadRow : OpenClaim := { program := "ytljcpgeggbbmfaa", sum := "63651c76fa6b20525718a13594669e6aa0da9b021e84c422c40b89e89cffaba9", func := "wharfage/wharfagelaw13.ShowRead", spec := "showRead", inPlace := ["internal/abi.NoEscape"], unfollowed := true, recurses := true, apart := false }
def ShowReadSaid : Prop := showReadRow.holds Try.pinned (OpenSpec.ofChange showReadSpec)

/-- ITS FALSE NEIGHBOUR: 'it returns false'. Refute it at one input. -/
def showReadWrong : ChangeSpec := { name := "showRead", fn := fun _ => fun
  | [d] => { results := [.lit (.bool false)], args := [d] }
  | _ => none }
def ShowReadWrongFalsely : Prop := showReadRow.holds Try.pinned (OpenSpec.ofChange showReadWrong)

/-- 'wharfagelaw13.ShowApart': WHATEVER THE INPUT: true; the input reads as it did. -/
def showApartSpec : ChangeSpec := { name := "showApart", fn := fun _ => fun
  | [d1, d2, d3, d4] => { results := [.lit (.bool true)], args := [d1, d2, d3, d4] }
  | _ => none }
def showApartRow : OpenClaim := { program := "ytljcpgeggbbmfaa", sum := "63651c76fa6b20525718a13594669e6aa0da9b021e84c422c40b89e89cffaba9", func := "wharfage/wharfagelaw13.ShowApart", spec := "showApart", inPlace := ["internal/abi.NoEscape"], unfollowed := true, recurses := true, apart := false }
def ShowApartSaid : Prop := showApartRow.holds Try.pinned (OpenSpec.ofChange showApartSpec)

/-- ITS FALSE NEIGHBOUR: 'it returns false'. Refute it at one input. -/
def showApartWrong : ChangeSpec := { name := "showApart", fn := fun _ => fun
  | [d1, d2, d3, d4] => { results := [.lit (.bool false)], args := [d1, d2, d3, d4] }
  | _ => none }
def ShowApartWrongFalsely : Prop := showApartRow.holds Try.pinned (OpenSpec.ofChange showApartWrong)

/- THE SECOND FORM. 'bulk': how many values and letters a reading holds, each counted each time it is reached (what is shared counts as often as it is met; a slice's spare places count too). A statement '..UptoSaid' is the law's where the arguments, and the package variables that the reading takes, are together of bulk at most 1048576: NARROWER than '..Said'. Prove '..Said' where nothing that the law and all that it calls make is longer than what came in: it says more and counts as full. Else prove '..UptoSaid'. A law counts once. -/
mutual
def uptoBulk {H : Type} : DataW H → Nat
  | .lit (.string bytes) => bytes.length + 1
  | .lit _ => 1
  | .nil => 1
  | .ptr d => uptoBulk d + 1
  | .slice elems spare => uptoBulkAll elems + uptoBulkAll spare + 1
  | .agg parts => uptoBulkAll parts + 1
  | .iface _ d => uptoBulk d + 1
  | .map entries => uptoBulkEntries entries + 1
  | .held _ => 1
def uptoBulkAll {H : Type} : List (DataW H) → Nat
  | [] => 0
  | d :: r => uptoBulk d + uptoBulkAll r
def uptoBulkEntries {H : Type} : List (Lit × DataW H) → Nat
  | [] => 0
  | x :: r => uptoBulkEntry x + uptoBulkEntries r
def uptoBulkEntry {H : Type} : Lit × DataW H → Nat
  | (.string bytes, d) => bytes.length + uptoBulk d + 1
  | (_, d) => uptoBulk d + 1
 end
def uptoSmall : (H : Type) → List (DataW H) → Bool := fun _ ds => decide (uptoBulkAll ds ≤ 1048576)
def OpenSpec.upto (s : _root_.Go.ChangeSpec) : _root_.Go.OpenSpec := { _root_.Go.OpenSpec.ofChange s with cond := some uptoSmall }

/-- 'wharfagelaw12.ParseMay', WHERE WHAT IT READS IS OF BULK AT MOST 1048576: true; the input reads as it did. -/
def parseMayUptoRow : OpenClaim := { program := "ytljcpgeggbbmfaa", sum := "63651c76fa6b20525718a13594669e6aa0da9b021e84c422c40b89e89cffaba9", func := "wharfage/wharfagelaw12.ParseMay", spec := "parseMay", unfollowed := true, recurses := true, apart := false, narrowed := true }
def ParseMayUptoSaid : Prop := parseMayUptoRow.holds Try.pinned (OpenSpec.upto parseMaySpec)

/-- 'wharfagelaw12.ParseReads', WHERE WHAT IT READS IS OF BULK AT MOST 1048576: true; the input reads as it did. -/
def parseReadsUptoRow : OpenClaim := { program := "ytljcpgeggbbmfaa", sum := "63651c76fa6b20525718a13594669e6aa0da9b021e84c422c40b89e89cffaba9", func := "wharfage/wharfagelaw12.ParseReads", spec := "parseReads", unfollowed := true, recurses := true, apart := false, narrowed := true }
def ParseReadsUptoSaid : Prop := parseReadsUptoRow.holds Try.pinned (OpenSpec.upto parseReadsSpec)

/-- 'wharfagelaw12.ParseSpoilt', WHERE WHAT IT READS IS OF BULK AT MOST 1048576: true; the input reads as it did. -/
def parseSpoiltUptoRow : OpenClaim := { program := "ytljcpgeggbbmfaa", sum := "63651c76fa6b20525718a13594669e6aa0da9b021e84c422c40b89e89cffaba9", func := "wharfage/wharfagelaw12.ParseSpoilt", spec := "parseSpoilt", unfollowed := true, recurses := true, apart := false, narrowed := true }
def ParseSpoiltUptoSaid : Prop := parseSpoiltUptoRow.holds Try.pinned (OpenSpec.upto parseSpoiltSpec)

/-- 'wharfagelaw12.ParseBack', WHERE WHAT IT READS IS OF BULK AT MOST 1048576: true; the input reads as it did. -/
def parseBackUptoRow : OpenClaim := { program := "ytljcpgeggbbmfaa", sum := "63651c76fa6b20525718a13594669e6aa0da9b021e84c422c40b89e89cffaba9", func := "wharfage/wharfagelaw12.ParseBack", spec := "parseBack", unfollowed := true, recurses := true, apart := false, narrowed := true }
def ParseBackUptoSaid : Prop := parseBackUptoRow.holds Try.pinned (OpenSpec.upto parseBackSpec)

/-- 'wharfagelaw12.ParseCuts', WHERE WHAT IT READS IS OF BULK AT MOST 1048576: true; the input reads as it did. -/
def parseCutsUptoRow : OpenClaim := { program := "ytljcpgeggbbmfaa", sum := "63651c76fa6b20525718a13594669e6aa0da9b021e84c422c40b89e89cffaba9", func := "wharfage/wharfagelaw12.ParseCuts", spec := "parseCuts", unfollowed := true, recurses := true, apart := false, narrowed := true }
def ParseCutsUptoSaid : Prop := parseCutsUptoRow.holds Try.pinned (OpenSpec.upto parseCutsSpec)

/-- 'wharfagelaw13.ShowLines', WHERE WHAT IT READS IS OF BULK AT MOST 1048576: true; the input reads as it did. -/
def showLinesUptoRow : OpenClaim := { program := "ytljcpgeggbbmfaa", sum := "63651c76fa6b20525718a13594669e6aa0da9b021e84c422c40b89e89cffaba9", func := "wharfage/wharfagelaw13.ShowLines", spec := "showLines", unfollowed := true, recurses := true, apart := false, narrowed := true }
def ShowLinesUptoSaid : Prop := showLinesUptoRow.holds Try.pinned (OpenSpec.upto showLinesSpec)

/-- 'wharfagelaw13.ShowTexts', WHERE WHAT IT READS IS OF BULK AT MOST 1048576: true; the input reads as it did. -/
def showTextsUptoRow : OpenClaim := { program := "ytljcpgeggbbmfaa", sum := "63651c76fa6b20525718a13594669e6aa0da9b021e84c422c40b89e89cffaba9", func := "wharfage/wharfagelaw13.ShowTexts", spec := "showTexts", inPlace := ["internal/abi.NoEscape"], unfollowed := true, recurses := true, apart := false, narrowed := true }
def ShowTextsUptoSaid : Prop := showTextsUptoRow.holds Try.pinned (OpenSpec.upto showTextsSpec)

/-- 'wharfagelaw13.ShowBack', WHERE WHAT IT READS IS OF BULK AT MOST 1048576: true; the input reads as it did. -/
def showBackUptoRow : OpenClaim := { program := "ytljcpgeggbbmfaa", sum := "63651c76fa6b20525718a13594669e6aa0da9b021e84c422c40b89e89cffaba9", func := "wharfage/wharfagelaw13.ShowBack", spec := "showBack", inPlace := ["internal/abi.NoEscape"], unfollowed := true, recurses := true, apart := false, narrowed := true }
def ShowBackUptoSaid : Prop := showBackUptoRow.holds Try.pinned (OpenSpec.upto showBackSpec)

/-- 'wharfagelaw13.ShowRead', WHERE WHAT IT READS IS OF BULK AT MOST 1048576: true; the input reads as it did. -/
def showReadUptoRow : OpenClaim := { program := "ytljcpgeggbbmfaa", sum := "63651c76fa6b20525718a13594669e6aa0da9b021e84c422c40b89e89cffaba9", func := "wharfage/wharfagelaw13.ShowRead", spec := "showRead", inPlace := ["internal/abi.NoEscape"], unfollowed := true, recurses := true, apart := false, narrowed := true }
def ShowReadUptoSaid : Prop := showReadUptoRow.holds Try.pinned (OpenSpec.upto showReadSpec)

/-- 'wharfagelaw13.ShowApart', WHERE WHAT IT READS IS OF BULK AT MOST 1048576: true; the input reads as it did. -/
def showApartUptoRow : OpenClaim := { program := "ytljcpgeggbbmfaa", sum := "63651c76fa6b20525718a13594669e6aa0da9b021e84c422c40b89e89cffaba9", func := "wharfage/wharfagelaw13.ShowApart", spec := "showApart", inPlace := ["internal/abi.NoEscape"], unfollowed := true, recurses := true, apart := false, narrowed := true }
def ShowApartUptoSaid : Prop := showApartUptoRow.holds Try.pinned (OpenSpec.upto showApartSpec)

end Rows
end Go.Proofs.Ytljcpgeggbbmfaa
