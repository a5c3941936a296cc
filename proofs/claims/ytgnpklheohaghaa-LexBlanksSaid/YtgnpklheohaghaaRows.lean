/-
  No cell of these rows narrows 'for every input' (looked for: loops, veiled, ifaces, maps, wideKeys, modest, calm, conditions, laid).
  DERIVED. THE GIVEN ROWS OF THIS SEAT. 7 by the template 'for every input the law returns true; each argument reads behind the call as it read before'; 0 by the template 'total and deterministic' (their statements: YtgnpklheohaghaaTotals.lean).
  GIVEN WITH THE SEED: the statements are not yours to turn. If you find one false, say at which input.
  Laid BY PROGRAM, IN A SANDBOX (cutbox-rows.mjs): the forced cells as the released guide's own fill.sh prints them over the translation 5eb881b5333fe182… (all of the seat's roots in one cut). By AI agents, Wed Nov 11 2026. No macro, syntax, notation, axiom, sorry.
-/
import Derived.Test.YtgnpklheohaghaaChecked
import GoSem.Claim
import GoSem.ClaimJoined
import GoSem.ClaimMapViews
import Derived.JoinedTies
import Derived.KernelRfl
namespace Go.Proofs.Ytgnpklheohaghaa
/- THE CELL 'sum', in the pinned program and in every row, IS THE sha256 OF THE DUMP (.gsa) THAT YtgnpklheohaghaaProg.lean LOADS. Nothing in Lean hashes anything: it is a label: what it is worth is what the hold of that sum in a sandbox is worth. -/
noncomputable def Try.pinned : Pinned := { name := "ytgnpklheohaghaa", sum := "5eb881b5333fe18211dee8a04fb7b01d640cf4052cd3b34fa94c580155b243cc", checked := Try.checked }
namespace Rows
def none {H : Type} : Left H := { results := [], args := [] }

/-- 'usufructlaw6.LexWords': WHATEVER THE INPUT: true; the input reads as it did. -/
def lexWordsSpec : ChangeSpec := { name := "lexWords", fn := fun _ => fun
  | [d1, d2] => { results := [.lit (.bool true)], args := [d1, d2] }
  | _ => none }
def lexWordsRow : OpenClaim := { program := "ytgnpklheohaghaa", sum := "5eb881b5333fe18211dee8a04fb7b01d640cf4052cd3b34fa94c580155b243cc", func := "usufruct/usufructlaw6.LexWords", spec := "lexWords", inPlace := ["internal/bytealg.IndexByteString"], apart := false }
def LexWordsSaid : Prop := lexWordsRow.holds Try.pinned (OpenSpec.ofChange lexWordsSpec)

/-- ITS FALSE NEIGHBOUR: 'it returns false'. Refute it at one input. -/
def lexWordsWrong : ChangeSpec := { name := "lexWords", fn := fun _ => fun
  | [d1, d2] => { results := [.lit (.bool false)], args := [d1, d2] }
  | _ => none }
def LexWordsWrongFalsely : Prop := lexWordsRow.holds Try.pinned (OpenSpec.ofChange lexWordsWrong)

/-- 'usufructlaw6.LexReads': WHATEVER THE INPUT: true; the input reads as it did. -/
def lexReadsSpec : ChangeSpec := { name := "lexReads", fn := fun _ => fun
  | [d] => { results := [.lit (.bool true)], args := [d] }
  | _ => none }
def lexReadsRow : OpenClaim := { program := "ytgnpklheohaghaa", sum := "5eb881b5333fe18211dee8a04fb7b01d640cf4052cd3b34fa94c580155b243cc", func := "usufruct/usufructlaw6.LexReads", spec := "lexReads", inPlace := ["internal/bytealg.IndexByteString"], apart := false }
def LexReadsSaid : Prop := lexReadsRow.holds Try.pinned (OpenSpec.ofChange lexReadsSpec)

/-- ITS FALSE NEIGHBOUR: 'it returns false'. Refute it at one input. -/
def lexReadsWrong : ChangeSpec := { name := "lexReads", fn := fun _ => fun
  | [d] => { results := [.lit (.bool false)], args := [d] }
  | _ => none }
def LexReadsWrongFalsely : Prop := lexReadsRow.holds Try.pinned (OpenSpec.ofChange lexReadsWrong)

/-- 'usufructlaw6.LexNames': WHATEVER THE INPUT: true; the input reads as it did. -/
def lexNamesSpec : ChangeSpec := { name := "lexNames", fn := fun _ => fun
  | [d] => { results := [.lit (.bool true)], args := [d] }
  | _ => none }
def lexNamesRow : OpenClaim := { program := "ytgnpklheohaghaa", sum := "5eb881b5333fe18211dee8a04fb7b01d640cf4052cd3b34fa94c580155b243cc", func := "usufruct/usufructlaw6.LexNames", spec := "lexNames", inPlace := ["internal/bytealg.IndexByteString"], apart := false }
def LexNamesSaid : Prop := lexNamesRow.holds Try.pinned (OpenSpec.ofChange lexNamesSpec)

/-- ITS FALSE NEIGHBOUR: 'it returns false'. Refute it at one input. -/
def lexNamesWrong : ChangeSpec := { name := "lexNames", fn := fun _ => fun
  | [d] => { results := [.lit (.bool false)], args := [d] }
  | _ => none }
def LexNamesWrongFalsely : Prop := lexNamesRow.holds Try.pinned (OpenSpec.ofChange lexNamesWrong)

/-- 'usufructlaw6.LexCovers': WHATEVER THE INPUT: true; the input reads as it did. -/
def lexCoversSpec : ChangeSpec := { name := "lexCovers", fn := fun _ => fun
  | [d] => { results := [.lit (.bool true)], args := [d] }
  | _ => none }
def lexCoversRow : OpenClaim := { program := "ytgnpklheohaghaa", sum := "5eb881b5333fe18211dee8a04fb7b01d640cf4052cd3b34fa94c580155b243cc", func := "usufruct/usufructlaw6.LexCovers", spec := "lexCovers", inPlace := ["internal/bytealg.IndexByteString"], apart := false }
def LexCoversSaid : Prop := lexCoversRow.holds Try.pinned (OpenSpec.ofChange lexCoversSpec)

/-- ITS FALSE NEIGHBOUR: 'it returns false'. Refute it at one input. -/
def lexCoversWrong : ChangeSpec := { name := "lexCovers", fn := fun _ => fun
  | [d] => { results := [.lit (.bool false)], args := [d] }
  | _ => none }
def LexCoversWrongFalsely : Prop := lexCoversRow.holds Try.pinned (OpenSpec.ofChange lexCoversWrong)

/-- 'usufructlaw6.LexBlanks': WHATEVER THE INPUT: true; the input reads as it did. -/
def lexBlanksSpec : ChangeSpec := { name := "lexBlanks", fn := fun _ => fun
  | [d1, d2] => { results := [.lit (.bool true)], args := [d1, d2] }
  | _ => none }
def lexBlanksRow : OpenClaim := { program := "ytgnpklheohaghaa", sum := "5eb881b5333fe18211dee8a04fb7b01d640cf4052cd3b34fa94c580155b243cc", func := "usufruct/usufructlaw6.LexBlanks", spec := "lexBlanks", inPlace := ["internal/bytealg.IndexByteString"], apart := false }
def LexBlanksSaid : Prop := lexBlanksRow.holds Try.pinned (OpenSpec.ofChange lexBlanksSpec)

/-- ITS FALSE NEIGHBOUR: 'it returns false'. Refute it at one input. -/
def lexBlanksWrong : ChangeSpec := { name := "lexBlanks", fn := fun _ => fun
  | [d1, d2] => { results := [.lit (.bool false)], args := [d1, d2] }
  | _ => none }
def LexBlanksWrongFalsely : Prop := lexBlanksRow.holds Try.pinned (OpenSpec.ofChange lexBlanksWrong)

/-- 'usufructlaw6.LexLimits': WHATEVER THE INPUT: true; the input reads as it did. -/
def lexLimitsSpec : ChangeSpec := { name := "lexLimits", fn := fun _ => fun
  | [d] => { results := [.lit (.bool true)], args := [d] }
  | _ => none }
def lexLimitsRow : OpenClaim := { program := "ytgnpklheohaghaa", sum := "5eb881b5333fe18211dee8a04fb7b01d640cf4052cd3b34fa94c580155b243cc", func := "usufruct/usufructlaw6.LexLimits", spec := "lexLimits", inPlace := ["internal/bytealg.IndexByteString"], apart := false }
def LexLimitsSaid : Prop := lexLimitsRow.holds Try.pinned (OpenSpec.ofChange lexLimitsSpec)

/-- ITS FALSE NEIGHBOUR: 'it returns false'. Refute it at one input. -/
def lexLimitsWrong : ChangeSpec := { name := "lexLimits", fn := fun _ => fun
  | [d] => { results := [.lit (.bool false)], args := [d] }
  | _ => none }
def LexLimitsWrongFalsely : Prop := lexLimitsRow.holds Try.pinned (OpenSpec.ofChange lexLimitsWrong)

/-- 'usufructlaw6.LexJoined': WHATEVER THE INPUT: true; the input reads as it did. -/
def lexJoinedSpec : ChangeSpec := { name := "lexJoined", fn := fun _ => fun
  | [d1, d2] => { results := [.lit (.bool true)], args := [d1, d2] }
  | _ => none }
def lexJoinedRow : OpenClaim := { program := "ytgnpklheohaghaa", sum := "5eb881b5333fe18211dee8a04fb7b01d640cf4052cd3b34fa94c580155b243cc", func := "usufruct/usufructlaw6.LexJoined", spec := "lexJoined", inPlace := ["internal/bytealg.IndexByteString"], apart := false }
def LexJoinedSaid : Prop := lexJoinedRow.holds Try.pinned (OpenSpec.ofChange lexJoinedSpec)

/-- ITS FALSE NEIGHBOUR: 'it returns false'. Refute it at one input. -/
def lexJoinedWrong : ChangeSpec := { name := "lexJoined", fn := fun _ => fun
  | [d1, d2] => { results := [.lit (.bool false)], args := [d1, d2] }
  | _ => none }
def LexJoinedWrongFalsely : Prop := lexJoinedRow.holds Try.pinned (OpenSpec.ofChange lexJoinedWrong)

/- THE SECOND FORM. 'bulk': how many values and letters a reading holds, each counted each time it is reached (what is shared counts as often as it is met; a slice's spare places count too). A statement '..UptoSaid' is the law's where the arguments, and the package variables that the reading takes, are together of bulk at most 1048576: NARROWER than '..Said'. Prove '..Said' where nothing that the law and all that it calls make is longer than what came in: it says more and counts as full. Else prove '..UptoSaid'. A law counts once. -/
mutual
def uptoBulk {H : Type} : DataW H → Nat
  | .lit (.string bytes) => bytes.length + 1
  | .lit _ => 1
  | .nil => 1
  | .ptr d => uptoBulk d + 1
  | .slice elems spare => uptoBulkAll elems + uptoBulkAll spare + 1
  | .agg parts => uptoBulkAll parts + 1
  | .iface _ d => uptoBulk d + 1
  | .map entries => uptoBulkEntries entries + 1
  | .held _ => 1
def uptoBulkAll {H : Type} : List (DataW H) → Nat
  | [] => 0
  | d :: r => uptoBulk d + uptoBulkAll r
def uptoBulkEntries {H : Type} : List (Lit × DataW H) → Nat
  | [] => 0
  | x :: r => uptoBulkEntry x + uptoBulkEntries r
def uptoBulkEntry {H : Type} : Lit × DataW H → Nat
  | (.string bytes, d) => bytes.length + uptoBulk d + 1
  | (_, d) => uptoBulk d + 1
 end
def uptoSmall : (H : Type) → List (DataW H) → Bool := fun _ ds => decide (uptoBulkAll ds ≤ 1048576)
def OpenSpec.upto (s : _root_.Go.ChangeSpec) : _root_.Go.OpenSpec := { _root_.Go.OpenSpec.ofChange s with cond := some uptoSmall }

/-- 'usufructlaw6.LexWords', WHERE WHAT IT READS IS OF BULK AT MOST 1048576: true; the input reads as it did. -/
def lexWordsUptoRow : OpenClaim := { program := "ytgnpklheohaghaa", sum := "5eb881b5333fe18211dee8a04fb7b01d640cf4052cd3b34fa94c580155b243cc", func := "usufruct/usufructlaw6.LexWords", spec := "lexWords", inPlace := ["internal/bytealg.IndexByteString"], apart := false, narrowed := true }
def LexWordsUptoSaid : Prop := lexWordsUptoRow.holds Try.pinned (OpenSpec.upto lexWordsSpec)

/-- 'usufructlaw6.LexReads', WHERE WHAT IT READS IS OF BULK AT MOST 1048576: true; the input reads as it did. -/
def lexReadsUptoRow : OpenClaim := { program := "ytgnpklheohaghaa", sum := "5eb881b5333fe18211dee8a04fb7b01d640cf4052cd3b34fa94c580155b243cc", func := "usufruct/usufructlaw6.LexReads", spec := "lexReads", inPlace := ["internal/bytealg.IndexByteString"], apart := false, narrowed := true }
def LexReadsUptoSaid : Prop := lexReadsUptoRow.holds Try.pinned (OpenSpec.upto lexReadsSpec)

/-- 'usufructlaw6.LexNames', WHERE WHAT IT READS IS OF BULK AT MOST 1048576: true; the input reads as it did. -/
def lexNamesUptoRow : OpenClaim := { program := "ytgnpklheohaghaa", sum := "5eb881b5333fe18211dee8a04fb7b01d640cf4052cd3b34fa94c580155b243cc", func := "usufruct/usufructlaw6.LexNames", spec := "lexNames", inPlace := ["internal/bytealg.IndexByteString"], apart := false, narrowed := true }
def LexNamesUptoSaid : Prop := lexNamesUptoRow.holds Try.pinned (OpenSpec.upto lexNamesSpec)

/-- 'usufructlaw6.LexCovers', WHERE WHAT IT READS IS OF BULK AT MOST 1048576: true; the input reads as it did. -/
def lexCoversUptoRow : OpenClaim := { program := "ytgnpklheohaghaa", sum := "5eb881b5333fe18211dee8a04fb7b01d640cf4052cd3b34fa94c580155b243cc", func := "usufruct/usufructlaw6.LexCovers", spec := "lexCovers", inPlace := ["internal/bytealg.IndexByteString"], apart := false, narrowed := true }
def LexCoversUptoSaid : Prop := lexCoversUptoRow.holds Try.pinned (OpenSpec.upto lexCoversSpec)

/-- 'usufructlaw6.LexBlanks', WHERE WHAT IT READS IS OF BULK AT MOST 1048576: true; the input reads as it did. -/
def lexBlanksUptoRow : OpenClaim := { program := "ytgnpklheohaghaa", sum := "5eb881b5333fe18211dee8a04fb7b01d640cf4052cd3b34fa94c580155b243cc", func := "usufruct/usufructlaw6.LexBlanks", spec := "lexBlanks", inPlace := ["internal/bytealg.IndexByteString"], apart := false, narrowed := true }
def LexBlanksUptoSaid : Prop := lexBlanksUptoRow.holds Try.pinned (OpenSpec.upto lexBlanksSpec)

/-- 'usufructlaw6.LexLimits', WHERE WHAT IT READS IS OF BULK AT MOST 1048576: true; the input reads as it did. -/
def lexLimitsUptoRow : OpenClaim := { program := "ytgnpklheohaghaa", sum := "5eb881b5333fe18211dee8a04fb7b01d640cf4052cd3b34fa94c580155b243cc", func := "usufruct/usufructlaw6.LexLimits", spec := "lexLimits", inPlace := ["internal/bytealg.IndexByteString"], apart := false, narrowed := true }
def LexLimitsUptoSaid : Prop := lexLimitsUptoRow.holds Try.pinned (OpenSpec.upto lexLimitsSpec)

/-- 'usufructlaw6.LexJoined', WHERE WHAT IT READS IS OF BULK AT MOST 1048576: true; the input reads as it did. -/
def lexJoinedUptoRow : OpenClaim := { program := "ytgnpklheohaghaa", sum := "5eb881b5333fe18211dee8a04fb7b01d640cf4052cd3b34fa94c580155b243cc", func := "usufruct/usufructlaw6.LexJoined", spec := "lexJoined", inPlace := ["internal/bytealg.IndexByteString"], apart := false, narrowed := true }
def LexJoinedUptoSaid : Prop := lexJoinedUptoRow.holds Try.pinned (OpenSpec.upto lexJoinedSpec)

end Rows
end Go.Proofs.Ytgnpklheohaghaa
