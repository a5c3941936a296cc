/-
  NARROWER THAN 'FOR EVERY INPUT', by the rows' own cells (each row's printed sentence says how): ManifestKnown: laid · ManifestReads: laid · ManifestJoined: laid · ManifestPrints: laid · ManifestBack: laid.
  DERIVED. THE GIVEN ROWS OF THIS SEAT. 5 by the template 'for every input the law returns true; each argument reads behind the call as it read before'; 0 by the template 'total and deterministic' (their statements: YtiliajnijjkcdaaDoorTotals.lean).
  GIVEN WITH THE SEED: the statements are not yours to turn. If you find one false, say at which input.
  Laid BY PROGRAM, IN A SANDBOX (cutbox-rows.mjs): the forced cells as the released guide's own fill.sh prints them over the translation ad4444c1b740bc4a… (all of the seat's roots in one cut). By AI agents, Wed Nov 11 2026. No macro, syntax, notation, axiom, sorry.
-/
import Derived.Test.YtiliajnijjkcdaaDoorChecked
import GoSem.PinnedTables
import GoSem.Claim
import GoSem.ClaimJoined
import GoSem.ClaimMapViews
import Derived.JoinedTies
import Derived.KernelRfl
namespace Go.Proofs.YtiliajnijjkcdaaDoor
/- THE CELL 'sum', in the pinned program and in every row, IS THE sha256 OF THE DUMP (.gsa) THAT YtiliajnijjkcdaaDoorProg.lean LOADS. Nothing in Lean hashes anything: it is a label: what it is worth is what the hold of that sum in a sandbox is worth. -/
noncomputable def Tryd.pinned : Pinned := { name := "ytiliajnijjkcdaadoor", sum := "ad4444c1b740bc4ae1a08b3ec97c69c5f18cad57f74e9915d410a44d5b56dcf2", checked := Tryd.checked }
namespace Rows
def none {H : Type} : Left H := { results := [], args := [] }

/- WHAT THE LISTED PACKAGE-LEVEL VARIABLES READ AS WHEN THE CALL BEGINS. Each datum BY PROGRAM (the guide's laid-datum.mjs) off the statement by which the dump's own 'gosem.cut.vars' lays the variable. In a bare row this is a premise. The card (YtiliajnijjkcdaaDoorCards.lean) ties it to the program's text. -/
def laid_unicode_utf8_acceptRanges {H : Type} : DataW H := .agg [.agg [.lit (.int .u8 128), .lit (.int .u8 191)], .agg [.lit (.int .u8 160), .lit (.int .u8 191)], .agg [.lit (.int .u8 128), .lit (.int .u8 159)], .agg [.lit (.int .u8 144), .lit (.int .u8 191)], .agg [.lit (.int .u8 128), .lit (.int .u8 143)], .agg [.lit (.int .u8 0), .lit (.int .u8 0)], .agg [.lit (.int .u8 0), .lit (.int .u8 0)], .agg [.lit (.int .u8 0), .lit (.int .u8 0)], .agg [.lit (.int .u8 0), .lit (.int .u8 0)], .agg [.lit (.int .u8 0), .lit (.int .u8 0)], .agg [.lit (.int .u8 0), .lit (.int .u8 0)], .agg [.lit (.int .u8 0), .lit (.int .u8 0)], .agg [.lit (.int .u8 0), .lit (.int .u8 0)], .agg [.lit (.int .u8 0), .lit (.int .u8 0)], .agg [.lit (.int .u8 0), .lit (.int .u8 0)], .agg [.lit (.int .u8 0), .lit (.int .u8 0)]]
/-- One of Go's own tables, pinned by name: the form's constant. -/
def laid_unicode_utf8_first : DataW Unit := Go.Pinned.utf8First

/-- 'usufructlaw10.ManifestKnown': WHATEVER THE INPUT: true; the input reads as it did. -/
def manifestKnownSpec : ChangeSpec := { name := "manifestKnown", fn := fun _ => fun
  | [d] => { results := [.lit (.bool true)], args := [d] }
  | _ => none }
def manifestKnownRow : OpenClaim := { program := "ytiliajnijjkcdaadoor", sum := "ad4444c1b740bc4ae1a08b3ec97c69c5f18cad57f74e9915d410a44d5b56dcf2", func := "usufruct/usufructlaw10.ManifestKnown", spec := "manifestKnown", inPlace := ["internal/bytealg.IndexByteString", "internal/bytealg.IndexString", "internal/bytealg.CountString"], unfollowed := true, recurses := true, named := ["internal/bytealg.MaxLen", "unicode/utf8.first", "unicode/utf8.acceptRanges"], apart := false, laid := [("unicode/utf8.acceptRanges", laid_unicode_utf8_acceptRanges), ("unicode/utf8.first", laid_unicode_utf8_first)] }
def ManifestKnownSaid : Prop := manifestKnownRow.holds Tryd.pinned (OpenSpec.ofChange manifestKnownSpec)

/-- ITS FALSE NEIGHBOUR: 'it returns false'. Refute it at one input. -/
def manifestKnownWrong : ChangeSpec := { name := "manifestKnown", fn := fun _ => fun
  | [d] => { results := [.lit (.bool false)], args := [d] }
  | _ => none }
def ManifestKnownWrongFalsely : Prop := manifestKnownRow.holds Tryd.pinned (OpenSpec.ofChange manifestKnownWrong)

/-- 'usufructlaw10.ManifestReads': WHATEVER THE INPUT: true; the input reads as it did. -/
def manifestReadsSpec : ChangeSpec := { name := "manifestReads", fn := fun _ => fun
  | [d] => { results := [.lit (.bool true)], args := [d] }
  | _ => none }
def manifestReadsRow : OpenClaim := { program := "ytiliajnijjkcdaadoor", sum := "ad4444c1b740bc4ae1a08b3ec97c69c5f18cad57f74e9915d410a44d5b56dcf2", func := "usufruct/usufructlaw10.ManifestReads", spec := "manifestReads", inPlace := ["internal/bytealg.IndexByteString", "internal/bytealg.IndexString", "internal/bytealg.CountString"], unfollowed := true, recurses := true, named := ["internal/bytealg.MaxLen", "unicode/utf8.first", "unicode/utf8.acceptRanges"], apart := false, laid := [("unicode/utf8.acceptRanges", laid_unicode_utf8_acceptRanges), ("unicode/utf8.first", laid_unicode_utf8_first)] }
def ManifestReadsSaid : Prop := manifestReadsRow.holds Tryd.pinned (OpenSpec.ofChange manifestReadsSpec)

/-- ITS FALSE NEIGHBOUR: 'it returns false'. Refute it at one input. -/
def manifestReadsWrong : ChangeSpec := { name := "manifestReads", fn := fun _ => fun
  | [d] => { results := [.lit (.bool false)], args := [d] }
  | _ => none }
def ManifestReadsWrongFalsely : Prop := manifestReadsRow.holds Tryd.pinned (OpenSpec.ofChange manifestReadsWrong)

/-- 'usufructlaw10.ManifestJoined': WHATEVER THE INPUT: true; the input reads as it did. -/
def manifestJoinedSpec : ChangeSpec := { name := "manifestJoined", fn := fun _ => fun
  | [d1, d2] => { results := [.lit (.bool true)], args := [d1, d2] }
  | _ => none }
def manifestJoinedRow : OpenClaim := { program := "ytiliajnijjkcdaadoor", sum := "ad4444c1b740bc4ae1a08b3ec97c69c5f18cad57f74e9915d410a44d5b56dcf2", func := "usufruct/usufructlaw10.ManifestJoined", spec := "manifestJoined", inPlace := ["internal/bytealg.IndexByteString", "internal/bytealg.IndexString", "internal/bytealg.CountString"], unfollowed := true, recurses := true, named := ["internal/bytealg.MaxLen", "unicode/utf8.first", "unicode/utf8.acceptRanges"], apart := false, laid := [("unicode/utf8.acceptRanges", laid_unicode_utf8_acceptRanges), ("unicode/utf8.first", laid_unicode_utf8_first)] }
def ManifestJoinedSaid : Prop := manifestJoinedRow.holds Tryd.pinned (OpenSpec.ofChange manifestJoinedSpec)

/-- ITS FALSE NEIGHBOUR: 'it returns false'. Refute it at one input. -/
def manifestJoinedWrong : ChangeSpec := { name := "manifestJoined", fn := fun _ => fun
  | [d1, d2] => { results := [.lit (.bool false)], args := [d1, d2] }
  | _ => none }
def ManifestJoinedWrongFalsely : Prop := manifestJoinedRow.holds Tryd.pinned (OpenSpec.ofChange manifestJoinedWrong)

/-- 'usufructlaw10.ManifestPrints': WHATEVER THE INPUT: true; the input reads as it did. -/
def manifestPrintsSpec : ChangeSpec := { name := "manifestPrints", fn := fun _ => fun
  | [d] => { results := [.lit (.bool true)], args := [d] }
  | _ => none }
def manifestPrintsRow : OpenClaim := { program := "ytiliajnijjkcdaadoor", sum := "ad4444c1b740bc4ae1a08b3ec97c69c5f18cad57f74e9915d410a44d5b56dcf2", func := "usufruct/usufructlaw10.ManifestPrints", spec := "manifestPrints", inPlace := ["internal/bytealg.IndexByteString", "internal/bytealg.IndexString", "internal/bytealg.CountString", "internal/abi.NoEscape", "internal/bytealg.MakeNoZero"], unfollowed := true, recurses := true, named := ["internal/bytealg.MaxLen", "unicode/utf8.first", "unicode/utf8.acceptRanges"], apart := false, laid := [("unicode/utf8.acceptRanges", laid_unicode_utf8_acceptRanges), ("unicode/utf8.first", laid_unicode_utf8_first)] }
def ManifestPrintsSaid : Prop := manifestPrintsRow.holds Tryd.pinned (OpenSpec.ofChange manifestPrintsSpec)

/-- ITS FALSE NEIGHBOUR: 'it returns false'. Refute it at one input. -/
def manifestPrintsWrong : ChangeSpec := { name := "manifestPrints", fn := fun _ => fun
  | [d] => { results := [.lit (.bool false)], args := [d] }
  | _ => none }
def ManifestPrintsWrongFalsely : Prop := manifestPrintsRow.holds Tryd.pinned (OpenSpec.ofChange manifestPrintsWrong)

/-- 'usufructlaw10.ManifestBack': WHATEVER THE INPUT: true; the input reads as it did. -/
def manifestBackSpec : ChangeSpec := { name := "manifestBack", fn := fun _ => fun
  | [d1, d2] => { results := [.lit (.bool true)], args := [d1, d2] }
  | _ => none }
def manifestBackRow : OpenClaim := { program := "ytiliajnijjkcdaadoor", sum := "ad4444c1b740bc4ae1a08b3ec97c69c5f18cad57f74e9915d410a44d5b56dcf2", func := "usufruct/usufructlaw10.ManifestBack", spec := "manifestBack", inPlace := ["internal/bytealg.IndexByteString", "internal/bytealg.IndexString", "internal/bytealg.CountString", "internal/abi.NoEscape", "internal/bytealg.MakeNoZero"], unfollowed := true, recurses := true, named := ["internal/bytealg.MaxLen", "unicode/utf8.first", "unicode/utf8.acceptRanges"], apart := false, laid := [("unicode/utf8.acceptRanges", laid_unicode_utf8_acceptRanges), ("unicode/utf8.first", laid_unicode_utf8_first)] }
def ManifestBackSaid : Prop := manifestBackRow.holds Tryd.pinned (OpenSpec.ofChange manifestBackSpec)

/-- ITS FALSE NEIGHBOUR: 'it returns false'. Refute it at one input. -/
def manifestBackWrong : ChangeSpec := { name := "manifestBack", fn := fun _ => fun
  | [d1, d2] => { results := [.lit (.bool false)], args := [d1, d2] }
  | _ => none }
def ManifestBackWrongFalsely : Prop := manifestBackRow.holds Tryd.pinned (OpenSpec.ofChange manifestBackWrong)

/- THE SECOND FORM. 'bulk': how many values and letters a reading holds, each counted each time it is reached (what is shared counts as often as it is met; a slice's spare places count too). A statement '..UptoSaid' is the law's where the arguments, and the package variables that the reading takes, are together of bulk at most 1048576: NARROWER than '..Said'. Prove '..Said' where nothing that the law and all that it calls make is longer than what came in: it says more and counts as full. Else prove '..UptoSaid'. A law counts once. -/
mutual
def uptoBulk {H : Type} : DataW H → Nat
  | .lit (.string bytes) => bytes.length + 1
  | .lit _ => 1
  | .nil => 1
  | .ptr d => uptoBulk d + 1
  | .slice elems spare => uptoBulkAll elems + uptoBulkAll spare + 1
  | .agg parts => uptoBulkAll parts + 1
  | .iface _ d => uptoBulk d + 1
  | .map entries => uptoBulkEntries entries + 1
  | .held _ => 1
def uptoBulkAll {H : Type} : List (DataW H) → Nat
  | [] => 0
  | d :: r => uptoBulk d + uptoBulkAll r
def uptoBulkEntries {H : Type} : List (Lit × DataW H) → Nat
  | [] => 0
  | x :: r => uptoBulkEntry x + uptoBulkEntries r
def uptoBulkEntry {H : Type} : Lit × DataW H → Nat
  | (.string bytes, d) => bytes.length + uptoBulk d + 1
  | (_, d) => uptoBulk d + 1
 end
def uptoSmall : (H : Type) → List (DataW H) → Bool := fun _ ds => decide (uptoBulkAll ds ≤ 1048576)
def OpenSpec.upto (s : _root_.Go.ChangeSpec) : _root_.Go.OpenSpec := { _root_.Go.OpenSpec.ofChange s with cond := some uptoSmall }

/-- 'usufructlaw10.ManifestKnown', WHERE WHAT IT READS IS OF BULK AT MOST 1048576: true; the input reads as it did. -/
def manifestKnownUptoRow : OpenClaim := { program := "ytiliajnijjkcdaadoor", sum := "ad4444c1b740bc4ae1a08b3ec97c69c5f18cad57f74e9915d410a44d5b56dcf2", func := "usufruct/usufructlaw10.ManifestKnown", spec := "manifestKnown", inPlace := ["internal/bytealg.IndexByteString", "internal/bytealg.IndexString", "internal/bytealg.CountString"], unfollowed := true, recurses := true, named := ["internal/bytealg.MaxLen", "unicode/utf8.first", "unicode/utf8.acceptRanges"], apart := false, laid := [("unicode/utf8.acceptRanges", laid_unicode_utf8_acceptRanges), ("unicode/utf8.first", laid_unicode_utf8_first)], narrowed := true }
def ManifestKnownUptoSaid : Prop := manifestKnownUptoRow.holds Tryd.pinned (OpenSpec.upto manifestKnownSpec)

/-- 'usufructlaw10.ManifestReads', WHERE WHAT IT READS IS OF BULK AT MOST 1048576: true; the input reads as it did. -/
def manifestReadsUptoRow : OpenClaim := { program := "ytiliajnijjkcdaadoor", sum := "ad4444c1b740bc4ae1a08b3ec97c69c5f18cad57f74e9915d410a44d5b56dcf2", func := "usufruct/usufructlaw10.ManifestReads", spec := "manifestReads", inPlace := ["internal/bytealg.IndexByteString", "internal/bytealg.IndexString", "internal/bytealg.CountString"], unfollowed := true, recurses := true, named := ["internal/bytealg.MaxLen", "unicode/utf8.first", "unicode/utf8.acceptRanges"], apart := false, laid := [("unicode/utf8.acceptRanges", laid_unicode_utf8_acceptRanges), ("unicode/utf8.first", laid_unicode_utf8_first)], narrowed := true }
def ManifestReadsUptoSaid : Prop := manifestReadsUptoRow.holds Tryd.pinned (OpenSpec.upto manifestReadsSpec)

/-- 'usufructlaw10.ManifestJoined', WHERE WHAT IT READS IS OF BULK AT MOST 1048576: true; the input reads as it did. -/
def manifestJoinedUptoRow : OpenClaim := { program := "ytiliajnijjkcdaadoor", sum := "ad4444c1b740bc4ae1a08b3ec97c69c5f18cad57f74e9915d410a44d5b56dcf2", func := "usufruct/usufructlaw10.ManifestJoined", spec := "manifestJoined", inPlace := ["internal/bytealg.IndexByteString", "internal/bytealg.IndexString", "internal/bytealg.CountString"], unfollowed := true, recurses := true, named := ["internal/bytealg.MaxLen", "unicode/utf8.first", "unicode/utf8.acceptRanges"], apart := false, laid := [("unicode/utf8.acceptRanges", laid_unicode_utf8_acceptRanges), ("unicode/utf8.first", laid_unicode_utf8_first)], narrowed := true }
def ManifestJoinedUptoSaid : Prop := manifestJoinedUptoRow.holds Tryd.pinned (OpenSpec.upto manifestJoinedSpec)

/-- 'usufructlaw10.ManifestPrints', WHERE WHAT IT READS IS OF BULK AT MOST 1048576: true; the input reads as it did. -/
def manifestPrintsUptoRow : OpenClaim := { program := "ytiliajnijjkcdaadoor", sum := "ad4444c1b740bc4ae1a08b3ec97c69c5f18cad57f74e9915d410a44d5b56dcf2", func := "usufruct/usufructlaw10.ManifestPrints", spec := "manifestPrints", inPlace := ["internal/bytealg.IndexByteString", "internal/bytealg.IndexString", "internal/bytealg.CountString", "internal/abi.NoEscape", "internal/bytealg.MakeNoZero"], unfollowed := true, recurses := true, named := ["internal/bytealg.MaxLen", "unicode/utf8.first", "unicode/utf8.acceptRanges"], apart := false, laid := [("unicode/utf8.acceptRanges", laid_unicode_utf8_acceptRanges), ("unicode/utf8.first", laid_unicode_utf8_first)], narrowed := true }
def ManifestPrintsUptoSaid : Prop := manifestPrintsUptoRow.holds Tryd.pinned (OpenSpec.upto manifestPrintsSpec)

/-- 'usufructlaw10.ManifestBack', WHERE WHAT IT READS IS OF BULK AT MOST 1048576: true; the input reads as it did. -/
def manifestBackUptoRow : OpenClaim := { program := "ytiliajnijjkcdaadoor", sum := "ad4444c1b740bc4ae1a08b3ec97c69c5f18cad57f74e9915d410a44d5b56dcf2", func := "usufruct/usufructlaw10.ManifestBack", spec := "manifestBack", inPlace := ["internal/bytealg.IndexByteString", "internal/bytealg.IndexString", "internal/bytealg.CountString", "internal/abi.NoEscape", "internal/bytealg.MakeNoZero"], unfollowed := true, recurses := true, named := ["internal/bytealg.MaxLen", "unicode/utf8.first", "unicode/utf8.acceptRanges"], apart := false, laid := [("unicode/utf8.acceptRanges", laid_unicode_utf8_acceptRanges), ("unicode/utf8.first", laid_unicode_utf8_first)], narrowed := true }
def ManifestBackUptoSaid : Prop := manifestBackUptoRow.holds Tryd.pinned (OpenSpec.upto manifestBackSpec)

end Rows
end Go.Proofs.YtiliajnijjkcdaaDoor
