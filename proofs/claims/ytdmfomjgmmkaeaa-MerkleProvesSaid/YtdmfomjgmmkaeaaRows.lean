/-
  No cell of these rows narrows 'for every input' (looked for: loops, veiled, ifaces, maps, wideKeys, modest, calm, conditions, laid).
  DERIVED. THE GIVEN ROWS OF THIS SEAT. 10 by the template 'for every input the law returns true; each argument reads behind the call as it read before'; 0 by the template 'total and deterministic' (their statements: YtdmfomjgmmkaeaaTotals.lean).
  GIVEN WITH THE SEED: the statements are not yours to turn. If you find one false, say at which input.
  Laid BY PROGRAM, IN A SANDBOX (cutbox-rows.mjs): the forced cells as the released guide's own fill.sh prints them over the translation f66977076c766fab… (all of the seat's roots in one cut). By AI agents, Wed Nov 11 2026. No macro, syntax, notation, axiom, sorry.
-/
import Derived.Test.YtdmfomjgmmkaeaaChecked
import GoSem.Claim
import GoSem.ClaimJoined
import GoSem.ClaimMapViews
import Derived.JoinedTies
import Derived.KernelRfl
namespace Go.Proofs.Ytdmfomjgmmkaeaa
/- THE CELL 'sum', in the pinned program and in every row, IS THE sha256 OF THE DUMP (.gsa) THAT YtdmfomjgmmkaeaaProg.lean LOADS. Nothing in Lean hashes anything: it is a label: what it is worth is what the hold of that sum in a sandbox is worth. -/
noncomputable def Try.pinned : Pinned := { name := "ytdmfomjgmmkaeaa", sum := "f66977076c766fabbe97dd0eefd66b4a70ae90fa9bf9f7ea6b7f913d3938c0fd", checked := Try.checked }
namespace Rows
def none {H : Type} : Left H := { results := [], args := [] }

/-- 'usufructlaw3.ShaSums': WHATEVER THE INPUT: true; the input reads as it did. -/
def shaSumsSpec : ChangeSpec := { name := "shaSums", fn := fun _ => fun
  | [d1, d2] => { results := [.lit (.bool true)], args := [d1, d2] }
  | _ => none }
def shaSumsRow : OpenClaim := { program := "ytdmfomjgmmkaeaa", sum := "f66977076c766fabbe97dd0eefd66b4a70ae90fa9bf9f7ea6b7f913d3938c0fd", func := "usufruct/usufructlaw3.ShaSums", spec := "shaSums", apart := false }
def ShaSumsSaid : Prop := shaSumsRow.holds Try.pinned (OpenSpec.ofChange shaSumsSpec)

/-- ITS FALSE NEIGHBOUR: 'it returns false'. Refute it at one input. -/
def shaSumsWrong : ChangeSpec := { name := "shaSums", fn := fun _ => fun
  | [d1, d2] => { results := [.lit (.bool false)], args := [d1, d2] }
  | _ => none }
def ShaSumsWrongFalsely : Prop := shaSumsRow.holds Try.pinned (OpenSpec.ofChange shaSumsWrong)

/-- 'usufructlaw3.ShaLengths': WHATEVER THE INPUT: true; the input reads as it did. -/
def shaLengthsSpec : ChangeSpec := { name := "shaLengths", fn := fun _ => fun
  | [d1, d2] => { results := [.lit (.bool true)], args := [d1, d2] }
  | _ => none }
def shaLengthsRow : OpenClaim := { program := "ytdmfomjgmmkaeaa", sum := "f66977076c766fabbe97dd0eefd66b4a70ae90fa9bf9f7ea6b7f913d3938c0fd", func := "usufruct/usufructlaw3.ShaLengths", spec := "shaLengths", apart := false }
def ShaLengthsSaid : Prop := shaLengthsRow.holds Try.pinned (OpenSpec.ofChange shaLengthsSpec)

/-- ITS FALSE NEIGHBOUR: 'it returns false'. Refute it at one input. -/
def shaLengthsWrong : ChangeSpec := { name := "shaLengths", fn := fun _ => fun
  | [d1, d2] => { results := [.lit (.bool false)], args := [d1, d2] }
  | _ => none }
def ShaLengthsWrongFalsely : Prop := shaLengthsRow.holds Try.pinned (OpenSpec.ofChange shaLengthsWrong)

/-- 'usufructlaw3.ShaTexts': WHATEVER THE INPUT: true; the input reads as it did. -/
def shaTextsSpec : ChangeSpec := { name := "shaTexts", fn := fun _ => fun
  | [d1, d2, d3] => { results := [.lit (.bool true)], args := [d1, d2, d3] }
  | _ => none }
def shaTextsRow : OpenClaim := { program := "ytdmfomjgmmkaeaa", sum := "f66977076c766fabbe97dd0eefd66b4a70ae90fa9bf9f7ea6b7f913d3938c0fd", func := "usufruct/usufructlaw3.ShaTexts", spec := "shaTexts", apart := false }
def ShaTextsSaid : Prop := shaTextsRow.holds Try.pinned (OpenSpec.ofChange shaTextsSpec)

/-- ITS FALSE NEIGHBOUR: 'it returns false'. Refute it at one input. -/
def shaTextsWrong : ChangeSpec := { name := "shaTexts", fn := fun _ => fun
  | [d1, d2, d3] => { results := [.lit (.bool false)], args := [d1, d2, d3] }
  | _ => none }
def ShaTextsWrongFalsely : Prop := shaTextsRow.holds Try.pinned (OpenSpec.ofChange shaTextsWrong)

/-- 'usufructlaw3.ShaBack': WHATEVER THE INPUT: true; the input reads as it did. -/
def shaBackSpec : ChangeSpec := { name := "shaBack", fn := fun _ => fun
  | [d1, d2, d3] => { results := [.lit (.bool true)], args := [d1, d2, d3] }
  | _ => none }
def shaBackRow : OpenClaim := { program := "ytdmfomjgmmkaeaa", sum := "f66977076c766fabbe97dd0eefd66b4a70ae90fa9bf9f7ea6b7f913d3938c0fd", func := "usufruct/usufructlaw3.ShaBack", spec := "shaBack", apart := false }
def ShaBackSaid : Prop := shaBackRow.holds Try.pinned (OpenSpec.ofChange shaBackSpec)

/-- ITS FALSE NEIGHBOUR: 'it returns false'. Refute it at one input. -/
def shaBackWrong : ChangeSpec := { name := "shaBack", fn := fun _ => fun
  | [d1, d2, d3] => { results := [.lit (.bool false)], args := [d1, d2, d3] }
  | _ => none }
def ShaBackWrongFalsely : Prop := shaBackRow.holds Try.pinned (OpenSpec.ofChange shaBackWrong)

/-- 'usufructlaw5.MerkleRoots': WHATEVER THE INPUT: true; the input reads as it did. -/
def merkleRootsSpec : ChangeSpec := { name := "merkleRoots", fn := fun _ => fun
  | [d1, d2] => { results := [.lit (.bool true)], args := [d1, d2] }
  | _ => none }
def merkleRootsRow : OpenClaim := { program := "ytdmfomjgmmkaeaa", sum := "f66977076c766fabbe97dd0eefd66b4a70ae90fa9bf9f7ea6b7f913d3938c0fd", func := "usufruct/usufructlaw5.MerkleRoots", spec := "merkleRoots", unfollowed := true, recurses := true, apart := false }
def MerkleRootsSaid : Prop := merkleRootsRow.holds Try.pinned (OpenSpec.ofChange merkleRootsSpec)

/-- ITS FALSE NEIGHBOUR: 'it returns false'. Refute it at one input. -/
def merkleRootsWrong : ChangeSpec := { name := "merkleRoots", fn := fun _ => fun
  | [d1, d2] => { results := [.lit (.bool false)], args := [d1, d2] }
  | _ => none }
def MerkleRootsWrongFalsely : Prop := merkleRootsRow.holds Try.pinned (OpenSpec.ofChange merkleRootsWrong)

/-- 'usufructlaw5.MerkleChecks': WHATEVER THE INPUT: true; the input reads as it did. -/
def merkleChecksSpec : ChangeSpec := { name := "merkleChecks", fn := fun _ => fun
  | [d1, d2, d3, d4, d5, d6] => { results := [.lit (.bool true)], args := [d1, d2, d3, d4, d5, d6] }
  | _ => none }
def merkleChecksRow : OpenClaim := { program := "ytdmfomjgmmkaeaa", sum := "f66977076c766fabbe97dd0eefd66b4a70ae90fa9bf9f7ea6b7f913d3938c0fd", func := "usufruct/usufructlaw5.MerkleChecks", spec := "merkleChecks", unfollowed := true, recurses := true, apart := false }
def MerkleChecksSaid : Prop := merkleChecksRow.holds Try.pinned (OpenSpec.ofChange merkleChecksSpec)

/-- ITS FALSE NEIGHBOUR: 'it returns false'. Refute it at one input. -/
def merkleChecksWrong : ChangeSpec := { name := "merkleChecks", fn := fun _ => fun
  | [d1, d2, d3, d4, d5, d6] => { results := [.lit (.bool false)], args := [d1, d2, d3, d4, d5, d6] }
  | _ => none }
def MerkleChecksWrongFalsely : Prop := merkleChecksRow.holds Try.pinned (OpenSpec.ofChange merkleChecksWrong)

/-- 'usufructlaw5.MerkleWays': WHATEVER THE INPUT: true; the input reads as it did. -/
def merkleWaysSpec : ChangeSpec := { name := "merkleWays", fn := fun _ => fun
  | [d] => { results := [.lit (.bool true)], args := [d] }
  | _ => none }
def merkleWaysRow : OpenClaim := { program := "ytdmfomjgmmkaeaa", sum := "f66977076c766fabbe97dd0eefd66b4a70ae90fa9bf9f7ea6b7f913d3938c0fd", func := "usufruct/usufructlaw5.MerkleWays", spec := "merkleWays", unfollowed := true, recurses := true, apart := false }
def MerkleWaysSaid : Prop := merkleWaysRow.holds Try.pinned (OpenSpec.ofChange merkleWaysSpec)

/-- ITS FALSE NEIGHBOUR: 'it returns false'. Refute it at one input. -/
def merkleWaysWrong : ChangeSpec := { name := "merkleWays", fn := fun _ => fun
  | [d] => { results := [.lit (.bool false)], args := [d] }
  | _ => none }
def MerkleWaysWrongFalsely : Prop := merkleWaysRow.holds Try.pinned (OpenSpec.ofChange merkleWaysWrong)

/-- 'usufructlaw5.MerkleForms': WHATEVER THE INPUT: true; the input reads as it did. -/
def merkleFormsSpec : ChangeSpec := { name := "merkleForms", fn := fun _ => fun
  | [d1, d2, d3] => { results := [.lit (.bool true)], args := [d1, d2, d3] }
  | _ => none }
def merkleFormsRow : OpenClaim := { program := "ytdmfomjgmmkaeaa", sum := "f66977076c766fabbe97dd0eefd66b4a70ae90fa9bf9f7ea6b7f913d3938c0fd", func := "usufruct/usufructlaw5.MerkleForms", spec := "merkleForms", unfollowed := true, recurses := true, apart := false }
def MerkleFormsSaid : Prop := merkleFormsRow.holds Try.pinned (OpenSpec.ofChange merkleFormsSpec)

/-- ITS FALSE NEIGHBOUR: 'it returns false'. Refute it at one input. -/
def merkleFormsWrong : ChangeSpec := { name := "merkleForms", fn := fun _ => fun
  | [d1, d2, d3] => { results := [.lit (.bool false)], args := [d1, d2, d3] }
  | _ => none }
def MerkleFormsWrongFalsely : Prop := merkleFormsRow.holds Try.pinned (OpenSpec.ofChange merkleFormsWrong)

/-- 'usufructlaw5.MerkleProves': WHATEVER THE INPUT: true; the input reads as it did. -/
def merkleProvesSpec : ChangeSpec := { name := "merkleProves", fn := fun _ => fun
  | [d1, d2] => { results := [.lit (.bool true)], args := [d1, d2] }
  | _ => none }
def merkleProvesRow : OpenClaim := { program := "ytdmfomjgmmkaeaa", sum := "f66977076c766fabbe97dd0eefd66b4a70ae90fa9bf9f7ea6b7f913d3938c0fd", func := "usufruct/usufructlaw5.MerkleProves", spec := "merkleProves", unfollowed := true, recurses := true, apart := false }
def MerkleProvesSaid : Prop := merkleProvesRow.holds Try.pinned (OpenSpec.ofChange merkleProvesSpec)

/-- ITS FALSE NEIGHBOUR: 'it returns false'. Refute it at one input. -/
def merkleProvesWrong : ChangeSpec := { name := "merkleProves", fn := fun _ => fun
  | [d1, d2] => { results := [.lit (.bool false)], args := [d1, d2] }
  | _ => none }
def MerkleProvesWrongFalsely : Prop := merkleProvesRow.holds Try.pinned (OpenSpec.ofChange merkleProvesWrong)

/-- 'usufructlaw5.MerkleExtracts': WHATEVER THE INPUT: true; the input reads as it did. -/
def merkleExtractsSpec : ChangeSpec := { name := "merkleExtracts", fn := fun _ => fun
  | [d1, d2, d3, d4] => { results := [.lit (.bool true)], args := [d1, d2, d3, d4] }
  | _ => none }
def merkleExtractsRow : OpenClaim := { program := "ytdmfomjgmmkaeaa", sum := "f66977076c766fabbe97dd0eefd66b4a70ae90fa9bf9f7ea6b7f913d3938c0fd", func := "usufruct/usufructlaw5.MerkleExtracts", spec := "merkleExtracts", unfollowed := true, recurses := true, apart := false }
def MerkleExtractsSaid : Prop := merkleExtractsRow.holds Try.pinned (OpenSpec.ofChange merkleExtractsSpec)

/-- ITS FALSE NEIGHBOUR: 'it returns false'. Refute it at one input. -/
def merkleExtractsWrong : ChangeSpec := { name := "merkleExtracts", fn := fun _ => fun
  | [d1, d2, d3, d4] => { results := [.lit (.bool false)], args := [d1, d2, d3, d4] }
  | _ => none }
def MerkleExtractsWrongFalsely : Prop := merkleExtractsRow.holds Try.pinned (OpenSpec.ofChange merkleExtractsWrong)

/- THE SECOND FORM. 'bulk': how many values and letters a reading holds, each counted each time it is reached (what is shared counts as often as it is met; a slice's spare places count too). A statement '..UptoSaid' is the law's where the arguments, and the package variables that the reading takes, are together of bulk at most 1048576: NARROWER than '..Said'. Prove '..Said' where nothing that the law and all that it calls make is longer than what came in: it says more and counts as full. Else prove '..UptoSaid'. A law counts once. -/
mutual
def uptoBulk {H : Type} : DataW H → Nat
  | .lit (.string bytes) => bytes.length + 1
  | .lit _ => 1
  | .nil => 1
  | .ptr d => uptoBulk d + 1
  | .slice elems spare => uptoBulkAll elems + uptoBulkAll spare + 1
  | .agg parts => uptoBulkAll parts + 1
  | .iface _ d => uptoBulk d + 1
  | .map entries => uptoBulkEntries entries + 1
  | .held _ => 1
def uptoBulkAll {H : Type} : List (DataW H) → Nat
  | [] => 0
  | d :: r => uptoBulk d + uptoBulkAll r
def uptoBulkEntries {H : Type} : List (Lit × DataW H) → Nat
  | [] => 0
  | x :: r => uptoBulkEntry x + uptoBulkEntries r
def uptoBulkEntry {H : Type} : Lit × DataW H → Nat
  | (.string bytes, d) => bytes.length + uptoBulk d + 1
  | (_, d) => uptoBulk d + 1
 end
def uptoSmall : (H : Type) → List (DataW H) → Bool := fun _ ds => decide (uptoBulkAll ds ≤ 1048576)
def OpenSpec.upto (s : _root_.Go.ChangeSpec) : _root_.Go.OpenSpec := { _root_.Go.OpenSpec.ofChange s with cond := some uptoSmall }

/-- 'usufructlaw3.ShaSums', WHERE WHAT IT READS IS OF BULK AT MOST 1048576: true; the input reads as it did. -/
def shaSumsUptoRow : OpenClaim := { program := "ytdmfomjgmmkaeaa", sum := "f66977076c766fabbe97dd0eefd66b4a70ae90fa9bf9f7ea6b7f913d3938c0fd", func := "usufruct/usufructlaw3.ShaSums", spec := "shaSums", apart := false, narrowed := true }
def ShaSumsUptoSaid : Prop := shaSumsUptoRow.holds Try.pinned (OpenSpec.upto shaSumsSpec)

/-- 'usufructlaw3.ShaLengths', WHERE WHAT IT READS IS OF BULK AT MOST 1048576: true; the input reads as it did. -/
def shaLengthsUptoRow : OpenClaim := { program := "ytdmfomjgmmkaeaa", sum := "f66977076c766fabbe97dd0eefd66b4a70ae90fa9bf9f7ea6b7f913d3938c0fd", func := "usufruct/usufructlaw3.ShaLengths", spec := "shaLengths", apart := false, narrowed := true }
def ShaLengthsUptoSaid : Prop := shaLengthsUptoRow.holds Try.pinned (OpenSpec.upto shaLengthsSpec)

/-- 'usufructlaw3.ShaTexts', WHERE WHAT IT READS IS OF BULK AT MOST 1048576: true; the input reads as it did. -/
def shaTextsUptoRow : OpenClaim := { program := "ytdmfomjgmmkaeaa", sum := "f66977076c766fabbe97dd0eefd66b4a70ae90fa9bf9f7ea6b7f913d3938c0fd", func := "usufruct/usufructlaw3.ShaTexts", spec := "shaTexts", apart := false, narrowed := true }
def ShaTextsUptoSaid : Prop := shaTextsUptoRow.holds Try.pinned (OpenSpec.upto shaTextsSpec)

/-- 'usufructlaw3.ShaBack', WHERE WHAT IT READS IS OF BULK AT MOST 1048576: true; the input reads as it did. -/
def shaBackUptoRow : OpenClaim := { program := "ytdmfomjgmmkaeaa", sum := "f66977076c766fabbe97dd0eefd66b4a70ae90fa9bf9f7ea6b7f913d3938c0fd", func := "usufruct/usufructlaw3.ShaBack", spec := "shaBack", apart := false, narrowed := true }
def ShaBackUptoSaid : Prop := shaBackUptoRow.holds Try.pinned (OpenSpec.upto shaBackSpec)

/-- 'usufructlaw5.MerkleRoots', WHERE WHAT IT READS IS OF BULK AT MOST 1048576: true; the input reads as it did. -/
def merkleRootsUptoRow : OpenClaim := { program := "ytdmfomjgmmkaeaa", sum := "f66977076c766fabbe97dd0eefd66b4a70ae90fa9bf9f7ea6b7f913d3938c0fd", func := "usufruct/usufructlaw5.MerkleRoots", spec := "merkleRoots", unfollowed := true, recurses := true, apart := false, narrowed := true }
def MerkleRootsUptoSaid : Prop := merkleRootsUptoRow.holds Try.pinned (OpenSpec.upto merkleRootsSpec)

/-- 'usufructlaw5.MerkleChecks', WHERE WHAT IT READS IS OF BULK AT MOST 1048576: true; the input reads as it did. -/
def merkleChecksUptoRow : OpenClaim := { program := "ytdmfomjgmmkaeaa", sum := "f66977076c766fabbe97dd0eefd66b4a70ae90fa9bf9f7ea6b7f913d3938c0fd", func := "usufruct/usufructlaw5.MerkleChecks", spec := "merkleChecks", unfollowed := true, recurses := true, apart := false, narrowed := true }
def MerkleChecksUptoSaid : Prop := merkleChecksUptoRow.holds Try.pinned (OpenSpec.upto merkleChecksSpec)

/-- 'usufructlaw5.MerkleWays', WHERE WHAT IT READS IS OF BULK AT MOST 1048576: true; the input reads as it did. -/
def merkleWaysUptoRow : OpenClaim := { program := "ytdmfomjgmmkaeaa", sum := "f66977076c766fabbe97dd0eefd66b4a70ae90fa9bf9f7ea6b7f913d3938c0fd", func := "usufruct/usufructlaw5.MerkleWays", spec := "merkleWays", unfollowed := true, recurses := true, apart := false, narrowed := true }
def MerkleWaysUptoSaid : Prop := merkleWaysUptoRow.holds Try.pinned (OpenSpec.upto merkleWaysSpec)

/-- 'usufructlaw5.MerkleForms', WHERE WHAT IT READS IS OF BULK AT MOST 1048576: true; the input reads as it did. -/
def merkleFormsUptoRow : OpenClaim := { program := "ytdmfomjgmmkaeaa", sum := "f66977076c766fabbe97dd0eefd66b4a70ae90fa9bf9f7ea6b7f913d3938c0fd", func := "usufruct/usufructlaw5.MerkleForms", spec := "merkleForms", unfollowed := true, recurses := true, apart := false, narrowed := true }
def MerkleFormsUptoSaid : Prop := merkleFormsUptoRow.holds Try.pinned (OpenSpec.upto merkleFormsSpec)

/-- 'usufructlaw5.MerkleProves', WHERE WHAT IT READS IS OF BULK AT MOST 1048576: true; the input reads as it did. -/
def merkleProvesUptoRow : OpenClaim := { program := "ytdmfomjgmmkaeaa", sum := "f66977076c766fabbe97dd0eefd66b4a70ae90fa9bf9f7ea6b7f913d3938c0fd", func := "usufruct/usufructlaw5.MerkleProves", spec := "merkleProves", unfollowed := true, recurses := true, apart := false, narrowed := true }
def MerkleProvesUptoSaid : Prop := merkleProvesUptoRow.holds Try.pinned (OpenSpec.upto merkleProvesSpec)

/-- 'usufructlaw5.MerkleExtracts', WHERE WHAT IT READS IS OF BULK AT MOST 1048576: true; the input reads as it did. -/
def merkleExtractsUptoRow : OpenClaim := { program := "ytdmfomjgmmkaeaa", sum := "f66977076c766fabbe97dd0eefd66b4a70ae90fa9bf9f7ea6b7f913d3938c0fd", func := "usufruct/usufructlaw5.MerkleExtracts", spec := "merkleExtracts", unfollowed := true, recurses := true, apart := false, narrowed := true }
def MerkleExtractsUptoSaid : Prop := merkleExtractsUptoRow.holds Try.pinned (OpenSpec.upto merkleExtractsSpec)

end Rows
end Go.Proofs.Ytdmfomjgmmkaeaa
