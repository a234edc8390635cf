/-
  No cell of these rows narrows 'for every input' (looked for: loops, veiled, ifaces, maps, wideKeys, modest, calm, conditions, laid).
  DERIVED. THE GIVEN ROWS OF THIS SEAT. 11 by the template 'for every input the law returns true; each argument reads behind the call as it read before'; 0 by the template 'total and deterministic' (their statements: YtnilgmcoojdgoaaTotals.lean).
  GIVEN WITH THE SEED: the statements are not yours to turn. If you find one false, say at which input.
  Laid BY PROGRAM, IN A SANDBOX (cutbox-rows.mjs): the forced cells as the released guide's own fill.sh prints them over the translation 2c6bdc7875cd2b6d… (all of the seat's roots in one cut). By AI agents, Wed Nov 11 2026. No macro, syntax, notation, axiom, sorry.
-/
import Derived.Test.YtnilgmcoojdgoaaChecked
import GoSem.Claim
import GoSem.ClaimJoined
import GoSem.ClaimMapViews
import Derived.JoinedTies
import Derived.KernelRfl
namespace Go.Proofs.Ytnilgmcoojdgoaa
/- THE CELL 'sum', in the pinned program and in every row, IS THE sha256 OF THE DUMP (.gsa) THAT YtnilgmcoojdgoaaProg.lean LOADS. Nothing in Lean hashes anything: it is a label: what it is worth is what the hold of that sum in a sandbox is worth. -/
noncomputable def Try.pinned : Pinned := { name := "ytnilgmcoojdgoaa", sum := "2c6bdc7875cd2b6d2f6337ddeacfe77a3ec08ca8150e059b811d943f209fbb70", checked := Try.checked }
namespace Rows
def none {H : Type} : Left H := { results := [], args := [] }

/-- 'wharfagelaw05.WordSplits': WHATEVER THE INPUT: true; the input reads as it did. -/
def wordSplitsSpec : ChangeSpec := { name := "wordSplits", fn := fun _ => fun
  | [d] => { results := [.lit (.bool true)], args := [d] }
  | _ => none }
def wordSplitsRow : OpenClaim := { program := "ytnilgmcoojdgoaa", sum := "2c6bdc7875cd2b6d2f6337ddeacfe77a3ec08ca8150e059b811d943f209fbb70", func := "wharfage/wharfagelaw05.WordSplits", spec := "wordSplits", unfollowed := true, recurses := true, apart := false }
def WordSplitsSaid : Prop := wordSplitsRow.holds Try.pinned (OpenSpec.ofChange wordSplitsSpec)

/-- ITS FALSE NEIGHBOUR: 'it returns false'. Refute it at one input. -/
def wordSplitsWrong : ChangeSpec := { name := "wordSplits", fn := fun _ => fun
  | [d] => { results := [.lit (.bool false)], args := [d] }
  | _ => none }
def WordSplitsWrongFalsely : Prop := wordSplitsRow.holds Try.pinned (OpenSpec.ofChange wordSplitsWrong)

/-- 'wharfagelaw05.WordNone': WHATEVER THE INPUT: true; the input reads as it did. -/
def wordNoneSpec : ChangeSpec := { name := "wordNone", fn := fun _ => fun
  | [d] => { results := [.lit (.bool true)], args := [d] }
  | _ => none }
def wordNoneRow : OpenClaim := { program := "ytnilgmcoojdgoaa", sum := "2c6bdc7875cd2b6d2f6337ddeacfe77a3ec08ca8150e059b811d943f209fbb70", func := "wharfage/wharfagelaw05.WordNone", spec := "wordNone", unfollowed := true, recurses := true, apart := false }
def WordNoneSaid : Prop := wordNoneRow.holds Try.pinned (OpenSpec.ofChange wordNoneSpec)

/-- ITS FALSE NEIGHBOUR: 'it returns false'. Refute it at one input. -/
def wordNoneWrong : ChangeSpec := { name := "wordNone", fn := fun _ => fun
  | [d] => { results := [.lit (.bool false)], args := [d] }
  | _ => none }
def WordNoneWrongFalsely : Prop := wordNoneRow.holds Try.pinned (OpenSpec.ofChange wordNoneWrong)

/-- 'wharfagelaw05.WordThrows': WHATEVER THE INPUT: true; the input reads as it did. -/
def wordThrowsSpec : ChangeSpec := { name := "wordThrows", fn := fun _ => fun
  | [d1, d2] => { results := [.lit (.bool true)], args := [d1, d2] }
  | _ => none }
def wordThrowsRow : OpenClaim := { program := "ytnilgmcoojdgoaa", sum := "2c6bdc7875cd2b6d2f6337ddeacfe77a3ec08ca8150e059b811d943f209fbb70", func := "wharfage/wharfagelaw05.WordThrows", spec := "wordThrows", unfollowed := true, recurses := true, apart := false }
def WordThrowsSaid : Prop := wordThrowsRow.holds Try.pinned (OpenSpec.ofChange wordThrowsSpec)

/-- ITS FALSE NEIGHBOUR: 'it returns false'. Refute it at one input. -/
def wordThrowsWrong : ChangeSpec := { name := "wordThrows", fn := fun _ => fun
  | [d1, d2] => { results := [.lit (.bool false)], args := [d1, d2] }
  | _ => none }
def WordThrowsWrongFalsely : Prop := wordThrowsRow.holds Try.pinned (OpenSpec.ofChange wordThrowsWrong)

/-- 'wharfagelaw05.WordLong': WHATEVER THE INPUT: true; the input reads as it did. -/
def wordLongSpec : ChangeSpec := { name := "wordLong", fn := fun _ => fun
  | [d] => { results := [.lit (.bool true)], args := [d] }
  | _ => none }
def wordLongRow : OpenClaim := { program := "ytnilgmcoojdgoaa", sum := "2c6bdc7875cd2b6d2f6337ddeacfe77a3ec08ca8150e059b811d943f209fbb70", func := "wharfage/wharfagelaw05.WordLong", spec := "wordLong", unfollowed := true, recurses := true, apart := false }
def WordLongSaid : Prop := wordLongRow.holds Try.pinned (OpenSpec.ofChange wordLongSpec)

/-- ITS FALSE NEIGHBOUR: 'it returns false'. Refute it at one input. -/
def wordLongWrong : ChangeSpec := { name := "wordLong", fn := fun _ => fun
  | [d] => { results := [.lit (.bool false)], args := [d] }
  | _ => none }
def WordLongWrongFalsely : Prop := wordLongRow.holds Try.pinned (OpenSpec.ofChange wordLongWrong)

/-- 'wharfagelaw05.WordSpaced': WHATEVER THE INPUT: true; the input reads as it did. -/
def wordSpacedSpec : ChangeSpec := { name := "wordSpaced", fn := fun _ => fun
  | [d1, d2] => { results := [.lit (.bool true)], args := [d1, d2] }
  | _ => none }
def wordSpacedRow : OpenClaim := { program := "ytnilgmcoojdgoaa", sum := "2c6bdc7875cd2b6d2f6337ddeacfe77a3ec08ca8150e059b811d943f209fbb70", func := "wharfage/wharfagelaw05.WordSpaced", spec := "wordSpaced", unfollowed := true, recurses := true, apart := false }
def WordSpacedSaid : Prop := wordSpacedRow.holds Try.pinned (OpenSpec.ofChange wordSpacedSpec)

/-- ITS FALSE NEIGHBOUR: 'it returns false'. Refute it at one input. -/
def wordSpacedWrong : ChangeSpec := { name := "wordSpaced", fn := fun _ => fun
  | [d1, d2] => { results := [.lit (.bool false)], args := [d1, d2] }
  | _ => none }
def WordSpacedWrongFalsely : Prop := wordSpacedRow.holds Try.pinned (OpenSpec.ofChange wordSpacedWrong)

/-- 'wharfagelaw05.WordReads': WHATEVER THE INPUT: true; the input reads as it did. -/
def wordReadsSpec : ChangeSpec := { name := "wordReads", fn := fun _ => fun
  | [d1, d2] => { results := [.lit (.bool true)], args := [d1, d2] }
  | _ => none }
def wordReadsRow : OpenClaim := { program := "ytnilgmcoojdgoaa", sum := "2c6bdc7875cd2b6d2f6337ddeacfe77a3ec08ca8150e059b811d943f209fbb70", func := "wharfage/wharfagelaw05.WordReads", spec := "wordReads", unfollowed := true, recurses := true, apart := false }
def WordReadsSaid : Prop := wordReadsRow.holds Try.pinned (OpenSpec.ofChange wordReadsSpec)

/-- ITS FALSE NEIGHBOUR: 'it returns false'. Refute it at one input. -/
def wordReadsWrong : ChangeSpec := { name := "wordReads", fn := fun _ => fun
  | [d1, d2] => { results := [.lit (.bool false)], args := [d1, d2] }
  | _ => none }
def WordReadsWrongFalsely : Prop := wordReadsRow.holds Try.pinned (OpenSpec.ofChange wordReadsWrong)

/-- 'wharfagelaw12.ParseMay': WHATEVER THE INPUT: true; the input reads as it did. -/
def parseMaySpec : ChangeSpec := { name := "parseMay", fn := fun _ => fun
  | [d] => { results := [.lit (.bool true)], args := [d] }
  | _ => none }
def parseMayRow : OpenClaim := { program := "ytnilgmcoojdgoaa", sum := "2c6bdc7875cd2b6d2f6337ddeacfe77a3ec08ca8150e059b811d943f209fbb70", func := "wharfage/wharfagelaw12.ParseMay", spec := "parseMay", unfollowed := true, recurses := true, apart := false }
def ParseMaySaid : Prop := parseMayRow.holds Try.pinned (OpenSpec.ofChange parseMaySpec)

/-- ITS FALSE NEIGHBOUR: 'it returns false'. Refute it at one input. -/
def parseMayWrong : ChangeSpec := { name := "parseMay", fn := fun _ => fun
  | [d] => { results := [.lit (.bool false)], args := [d] }
  | _ => none }
def ParseMayWrongFalsely : Prop := parseMayRow.holds Try.pinned (OpenSpec.ofChange parseMayWrong)

/-- 'wharfagelaw12.ParseReads': WHATEVER THE INPUT: true; the input reads as it did. -/
def parseReadsSpec : ChangeSpec := { name := "parseReads", fn := fun _ => fun
  | [d] => { results := [.lit (.bool true)], args := [d] }
  | _ => none }
def parseReadsRow : OpenClaim := { program := "ytnilgmcoojdgoaa", sum := "2c6bdc7875cd2b6d2f6337ddeacfe77a3ec08ca8150e059b811d943f209fbb70", func := "wharfage/wharfagelaw12.ParseReads", spec := "parseReads", unfollowed := true, recurses := true, apart := false }
def ParseReadsSaid : Prop := parseReadsRow.holds Try.pinned (OpenSpec.ofChange parseReadsSpec)

/-- ITS FALSE NEIGHBOUR: 'it returns false'. Refute it at one input. -/
def parseReadsWrong : ChangeSpec := { name := "parseReads", fn := fun _ => fun
  | [d] => { results := [.lit (.bool false)], args := [d] }
  | _ => none }
def ParseReadsWrongFalsely : Prop := parseReadsRow.holds Try.pinned (OpenSpec.ofChange parseReadsWrong)

/-- 'wharfagelaw12.ParseSpoilt': WHATEVER THE INPUT: true; the input reads as it did. -/
def parseSpoiltSpec : ChangeSpec := { name := "parseSpoilt", fn := fun _ => fun
  | [d1, d2, d3, d4] => { results := [.lit (.bool true)], args := [d1, d2, d3, d4] }
  | _ => none }
def parseSpoiltRow : OpenClaim := { program := "ytnilgmcoojdgoaa", sum := "2c6bdc7875cd2b6d2f6337ddeacfe77a3ec08ca8150e059b811d943f209fbb70", func := "wharfage/wharfagelaw12.ParseSpoilt", spec := "parseSpoilt", unfollowed := true, recurses := true, apart := false }
def ParseSpoiltSaid : Prop := parseSpoiltRow.holds Try.pinned (OpenSpec.ofChange parseSpoiltSpec)

/-- ITS FALSE NEIGHBOUR: 'it returns false'. Refute it at one input. -/
def parseSpoiltWrong : ChangeSpec := { name := "parseSpoilt", fn := fun _ => fun
  | [d1, d2, d3, d4] => { results := [.lit (.bool false)], args := [d1, d2, d3, d4] }
  | _ => none }
def ParseSpoiltWrongFalsely : Prop := parseSpoiltRow.holds Try.pinned (OpenSpec.ofChange parseSpoiltWrong)

/-- 'wharfagelaw12.ParseBack': WHATEVER THE INPUT: true; the input reads as it did. -/
def parseBackSpec : ChangeSpec := { name := "parseBack", fn := fun _ => fun
  | [d1, d2] => { results := [.lit (.bool true)], args := [d1, d2] }
  | _ => none }
def parseBackRow : OpenClaim := { program := "ytnilgmcoojdgoaa", sum := "2c6bdc7875cd2b6d2f6337ddeacfe77a3ec08ca8150e059b811d943f209fbb70", func := "wharfage/wharfagelaw12.ParseBack", spec := "parseBack", unfollowed := true, recurses := true, apart := false }
def ParseBackSaid : Prop := parseBackRow.holds Try.pinned (OpenSpec.ofChange parseBackSpec)

/-- ITS FALSE NEIGHBOUR: 'it returns false'. Refute it at one input. -/
def parseBackWrong : ChangeSpec := { name := "parseBack", fn := fun _ => fun
  | [d1, d2] => { results := [.lit (.bool false)], args := [d1, d2] }
  | _ => none }
def ParseBackWrongFalsely : Prop := parseBackRow.holds Try.pinned (OpenSpec.ofChange parseBackWrong)

/-- 'wharfagelaw12.ParseCuts': WHATEVER THE INPUT: true; the input reads as it did. -/
def parseCutsSpec : ChangeSpec := { name := "parseCuts", fn := fun _ => fun
  | [d1, d2] => { results := [.lit (.bool true)], args := [d1, d2] }
  | _ => none }
def parseCutsRow : OpenClaim := { program := "ytnilgmcoojdgoaa", sum := "2c6bdc7875cd2b6d2f6337ddeacfe77a3ec08ca8150e059b811d943f209fbb70", func := "wharfage/wharfagelaw12.ParseCuts", spec := "parseCuts", unfollowed := true, recurses := true, apart := false }
def ParseCutsSaid : Prop := parseCutsRow.holds Try.pinned (OpenSpec.ofChange parseCutsSpec)

/-- ITS FALSE NEIGHBOUR: 'it returns false'. Refute it at one input. -/
def parseCutsWrong : ChangeSpec := { name := "parseCuts", fn := fun _ => fun
  | [d1, d2] => { results := [.lit (.bool false)], args := [d1, d2] }
  | _ => none }
def ParseCutsWrongFalsely : Prop := parseCutsRow.holds Try.pinned (OpenSpec.ofChange parseCutsWrong)

/- THE SECOND FORM. 'bulk': how many values and letters a reading holds, each counted each time it is reached (what is shared counts as often as it is met; a slice's spare places count too). A statement '..UptoSaid' is the law's where the arguments, and the package variables that the reading takes, are together of bulk at most 1048576: NARROWER than '..Said'. Prove '..Said' where nothing that the law and all that it calls make is longer than what came in: it says more and counts as full. Else prove '..UptoSaid'. A law counts once. -/
mutual
def uptoBulk {H : Type} : DataW H → Nat
  | .lit (.string bytes) => bytes.length + 1
  | .lit _ => 1
  | .nil => 1
  | .ptr d => uptoBulk d + 1
  | .slice elems spare => uptoBulkAll elems + uptoBulkAll spare + 1
  | .agg parts => uptoBulkAll parts + 1
  | .iface _ d => uptoBulk d + 1
  | .map entries => uptoBulkEntries entries + 1
  | .held _ => 1
def uptoBulkAll {H : Type} : List (DataW H) → Nat
  | [] => 0
  | d :: r => uptoBulk d + uptoBulkAll r
def uptoBulkEntries {H : Type} : List (Lit × DataW H) → Nat
  | [] => 0
  | x :: r => uptoBulkEntry x + uptoBulkEntries r
def uptoBulkEntry {H : Type} : Lit × DataW H → Nat
  | (.string bytes, d) => bytes.length + uptoBulk d + 1
  | (_, d) => uptoBulk d + 1
 end
def uptoSmall : (H : Type) → List (DataW H) → Bool := fun _ ds => decide (uptoBulkAll ds ≤ 1048576)
def OpenSpec.upto (s : _root_.Go.ChangeSpec) : _root_.Go.OpenSpec := { _root_.Go.OpenSpec.ofChange s with cond := some uptoSmall }

/-- 'wharfagelaw05.WordSplits', WHERE WHAT IT READS IS OF BULK AT MOST 1048576: true; the input reads as it did. -/
def wordSplitsUptoRow : OpenClaim := { program := "ytnilgmcoojdgoaa", sum := "2c6bdc7875cd2b6d2f6337ddeacfe77a3ec08ca8150e059b811d943f209fbb70", func := "wharfage/wharfagelaw05.WordSplits", spec := "wordSplits", unfollowed := true, recurses := true, apart := false, narrowed := true }
def WordSplitsUptoSaid : Prop := wordSplitsUptoRow.holds Try.pinned (OpenSpec.upto wordSplitsSpec)

/-- 'wharfagelaw05.WordNone', WHERE WHAT IT READS IS OF BULK AT MOST 1048576: true; the input reads as it did. -/
def wordNoneUptoRow : OpenClaim := { program := "ytnilgmcoojdgoaa", sum := "2c6bdc7875cd2b6d2f6337ddeacfe77a3ec08ca8150e059b811d943f209fbb70", func := "wharfage/wharfagelaw05.WordNone", spec := "wordNone", unfollowed := true, recurses := true, apart := false, narrowed := true }
def WordNoneUptoSaid : Prop := wordNoneUptoRow.holds Try.pinned (OpenSpec.upto wordNoneSpec)

/-- 'wharfagelaw05.WordThrows', WHERE WHAT IT READS IS OF BULK AT MOST 1048576: true; the input reads as it did. -/
def wordThrowsUptoRow : OpenClaim := { program := "ytnilgmcoojdgoaa", sum := "2c6bdc7875cd2b6d2f6337ddeacfe77a3ec08ca8150e059b811d943f209fbb70", func := "wharfage/wharfagelaw05.WordThrows", spec := "wordThrows", unfollowed := true, recurses := true, apart := false, narrowed := true }
def WordThrowsUptoSaid : Prop := wordThrowsUptoRow.holds Try.pinned (OpenSpec.upto wordThrowsSpec)

/-- 'wharfagelaw05.WordLong', WHERE WHAT IT READS IS OF BULK AT MOST 1048576: true; the input reads as it did. -/
def wordLongUptoRow : OpenClaim := { program := "ytnilgmcoojdgoaa", sum := "2c6bdc7875cd2b6d2f6337ddeacfe77a3ec08ca8150e059b811d943f209fbb70", func := "wharfage/wharfagelaw05.WordLong", spec := "wordLong", unfollowed := true, recurses := true, apart := false, narrowed := true }
def WordLongUptoSaid : Prop := wordLongUptoRow.holds Try.pinned (OpenSpec.upto wordLongSpec)

/-- 'wharfagelaw05.WordSpaced', WHERE WHAT IT READS IS OF BULK AT MOST 1048576: true; the input reads as it did. -/
def wordSpacedUptoRow : OpenClaim := { program := "ytnilgmcoojdgoaa", sum := "2c6bdc7875cd2b6d2f6337ddeacfe77a3ec08ca8150e059b811d943f209fbb70", func := "wharfage/wharfagelaw05.WordSpaced", spec := "wordSpaced", unfollowed := true, recurses := true, apart := false, narrowed := true }
def WordSpacedUptoSaid : Prop := wordSpacedUptoRow.holds Try.pinned (OpenSpec.upto wordSpacedSpec)

/-- 'wharfagelaw05.WordReads', WHERE WHAT IT READS IS OF BULK AT MOST 1048576: true; the input reads as it did. -/
def wordReadsUptoRow : OpenClaim := { program := "ytnilgmcoojdgoaa", sum := "2c6bdc7875cd2b6d2f6337ddeacfe77a3ec08ca8150e059b811d943f209fbb70", func := "wharfage/wharfagelaw05.WordReads", spec := "wordReads", unfollowed := true, recurses := true, apart := false, narrowed := true }
def WordReadsUptoSaid : Prop := wordReadsUptoRow.holds Try.pinned (OpenSpec.upto wordReadsSpec)

/-- 'wharfagelaw12.ParseMay', WHERE WHAT IT READS IS OF BULK AT MOST 1048576: true; the input reads as it did. -/
def parseMayUptoRow : OpenClaim := { program := "ytnilgmcoojdgoaa", sum := "2c6bdc7875cd2b6d2f6337ddeacfe77a3ec08ca8150e059b811d943f209fbb70", func := "wharfage/wharfagelaw12.ParseMay", spec := "parseMay", unfollowed := true, recurses := true, apart := false, narrowed := true }
def ParseMayUptoSaid : Prop := parseMayUptoRow.holds Try.pinned (OpenSpec.upto parseMaySpec)

/-- 'wharfagelaw12.ParseReads', WHERE WHAT IT READS IS OF BULK AT MOST 1048576: true; the input reads as it did. -/
def parseReadsUptoRow : OpenClaim := { program := "ytnilgmcoojdgoaa", sum := "2c6bdc7875cd2b6d2f6337ddeacfe77a3ec08ca8150e059b811d943f209fbb70", func := "wharfage/wharfagelaw12.ParseReads", spec := "parseReads", unfollowed := true, recurses := true, apart := false, narrowed := true }
def ParseReadsUptoSaid : Prop := parseReadsUptoRow.holds Try.pinned (OpenSpec.upto parseReadsSpec)

/-- 'wharfagelaw12.ParseSpoilt', WHERE WHAT IT READS IS OF BULK AT MOST 1048576: true; the input reads as it did. -/
def parseSpoiltUptoRow : OpenClaim := { program := "ytnilgmcoojdgoaa", sum := "2c6bdc7875cd2b6d2f6337ddeacfe77a3ec08ca8150e059b811d943f209fbb70", func := "wharfage/wharfagelaw12.ParseSpoilt", spec := "parseSpoilt", unfollowed := true, recurses := true, apart := false, narrowed := true }
def ParseSpoiltUptoSaid : Prop := parseSpoiltUptoRow.holds Try.pinned (OpenSpec.upto parseSpoiltSpec)

/-- 'wharfagelaw12.ParseBack', WHERE WHAT IT READS IS OF BULK AT MOST 1048576: true; the input reads as it did. -/
def parseBackUptoRow : OpenClaim := { program := "ytnilgmcoojdgoaa", sum := "2c6bdc7875cd2b6d2f6337ddeacfe77a3ec08ca8150e059b811d943f209fbb70", func := "wharfage/wharfagelaw12.ParseBack", spec := "parseBack", unfollowed := true, recurses := true, apart := false, narrowed := true }
def ParseBackUptoSaid : Prop := parseBackUptoRow.holds Try.pinned (OpenSpec.upto parseBackSpec)

/-- 'wharfagelaw12.ParseCuts', WHERE WHAT IT READS IS OF BULK AT MOST 1048576: true; the input reads as it did. -/
def parseCutsUptoRow : OpenClaim := { program := "ytnilgmcoojdgoaa", sum := "2c6bdc7875cd2b6d2f6337ddeacfe77a3ec08ca8150e059b811d943f209fbb70", func := "wharfage/wharfagelaw12.ParseCuts", spec := "parseCuts", unfollowed := true, recurses := true, apart := false, narrowed := true }
def ParseCutsUptoSaid : Prop := parseCutsUptoRow.holds Try.pinned (OpenSpec.upto parseCutsSpec)

end Rows
end Go.Proofs.Ytnilgmcoojdgoaa
