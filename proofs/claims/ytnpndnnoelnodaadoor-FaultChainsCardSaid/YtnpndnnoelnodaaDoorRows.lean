/-
  NARROWER THAN 'FOR EVERY INPUT', by the rows' own cells (each row's printed sentence says how): FaultChains: laid · FaultForeign: laid · FaultIn: laid.
  DERIVED. THE GIVEN ROWS OF THIS SEAT. 3 by the template 'for every input the law returns true; each argument reads behind the call as it read before'; 0 by the template 'total and deterministic' (their statements: YtnpndnnoelnodaaDoorTotals.lean).
  GIVEN WITH THE SEED: the statements are not yours to turn. If you find one false, say at which input.
  Laid BY PROGRAM, IN A SANDBOX (cutbox-rows.mjs): the forced cells as the released guide's own fill.sh prints them over the translation d915219baaf3af1e… (all of the seat's roots in one cut). By AI agents, Wed Nov 11 2026. No macro, syntax, notation, axiom, sorry.
-/
import Derived.Test.YtnpndnnoelnodaaDoorChecked
import GoSem.Claim
import GoSem.ClaimJoined
import GoSem.ClaimMapViews
import Derived.JoinedTies
import Derived.KernelRfl
namespace Go.Proofs.YtnpndnnoelnodaaDoor
/- THE CELL 'sum', in the pinned program and in every row, IS THE sha256 OF THE DUMP (.gsa) THAT YtnpndnnoelnodaaDoorProg.lean LOADS. Nothing in Lean hashes anything: it is a label: what it is worth is what the hold of that sum in a sandbox is worth. -/
noncomputable def Tryd.pinned : Pinned := { name := "ytnpndnnoelnodaadoor", sum := "d915219baaf3af1ef24d11bef50bbcf139e704468b22da1d9f8ae3051f4e1d36", checked := Tryd.checked }
namespace Rows
def none {H : Type} : Left H := { results := [], args := [] }

/- WHAT THE LISTED PACKAGE-LEVEL VARIABLES READ AS WHEN THE CALL BEGINS. Each datum BY PROGRAM (the guide's laid-datum.mjs) off the statement by which the dump's own 'gosem.cut.vars' lays the variable. In a bare row this is a premise. The card (YtnpndnnoelnodaaDoorCards.lean) ties it to the program's text. -/
def laid_errors_errorType {H : Type} : DataW H := .iface "internal/reflectlite.rtype" (.agg [.ptr (.lit (.string [101, 114, 114, 111, 114]))])

/-- 'usufructlaw1.FaultChains': WHATEVER THE INPUT: true; the input reads as it did. -/
def faultChainsSpec : ChangeSpec := { name := "faultChains", fn := fun _ => fun
  | [d1, d2] => { results := [.lit (.bool true)], args := [d1, d2] }
  | _ => none }
def faultChainsRow : OpenClaim := { program := "ytnpndnnoelnodaadoor", sum := "d915219baaf3af1ef24d11bef50bbcf139e704468b22da1d9f8ae3051f4e1d36", func := "usufruct/usufructlaw1.FaultChains", spec := "faultChains", inPlace := ["internal/reflectlite.ValueOf", "(internal/reflectlite.Value).Type", "(internal/reflectlite.Value).IsNil", "internal/reflectlite.TypeOf", "(internal/reflectlite.Value).Elem", "(internal/reflectlite.Value).Set"], unfollowed := true, recurses := true, named := ["errors.errorType"], apart := false, laid := [("errors.errorType", laid_errors_errorType)] }
def FaultChainsSaid : Prop := faultChainsRow.holds Tryd.pinned (OpenSpec.ofChange faultChainsSpec)

/-- ITS FALSE NEIGHBOUR: 'it returns false'. Refute it at one input. -/
def faultChainsWrong : ChangeSpec := { name := "faultChains", fn := fun _ => fun
  | [d1, d2] => { results := [.lit (.bool false)], args := [d1, d2] }
  | _ => none }
def FaultChainsWrongFalsely : Prop := faultChainsRow.holds Tryd.pinned (OpenSpec.ofChange faultChainsWrong)

/-- 'usufructlaw1.FaultForeign': WHATEVER THE INPUT: true; the input reads as it did. -/
def faultForeignSpec : ChangeSpec := { name := "faultForeign", fn := fun _ => fun
  | [d1, d2, d3] => { results := [.lit (.bool true)], args := [d1, d2, d3] }
  | _ => none }
def faultForeignRow : OpenClaim := { program := "ytnpndnnoelnodaadoor", sum := "d915219baaf3af1ef24d11bef50bbcf139e704468b22da1d9f8ae3051f4e1d36", func := "usufruct/usufructlaw1.FaultForeign", spec := "faultForeign", inPlace := ["internal/reflectlite.ValueOf", "(internal/reflectlite.Value).Type", "(internal/reflectlite.Value).IsNil", "internal/reflectlite.TypeOf", "(internal/reflectlite.Value).Elem", "(internal/reflectlite.Value).Set"], unfollowed := true, recurses := true, named := ["errors.errorType"], apart := false, laid := [("errors.errorType", laid_errors_errorType)] }
def FaultForeignSaid : Prop := faultForeignRow.holds Tryd.pinned (OpenSpec.ofChange faultForeignSpec)

/-- ITS FALSE NEIGHBOUR: 'it returns false'. Refute it at one input. -/
def faultForeignWrong : ChangeSpec := { name := "faultForeign", fn := fun _ => fun
  | [d1, d2, d3] => { results := [.lit (.bool false)], args := [d1, d2, d3] }
  | _ => none }
def FaultForeignWrongFalsely : Prop := faultForeignRow.holds Tryd.pinned (OpenSpec.ofChange faultForeignWrong)

/-- 'usufructlaw1.FaultIn': WHATEVER THE INPUT: true; the input reads as it did. -/
def faultInSpec : ChangeSpec := { name := "faultIn", fn := fun _ => fun
  | [d1, d2, d3] => { results := [.lit (.bool true)], args := [d1, d2, d3] }
  | _ => none }
def faultInRow : OpenClaim := { program := "ytnpndnnoelnodaadoor", sum := "d915219baaf3af1ef24d11bef50bbcf139e704468b22da1d9f8ae3051f4e1d36", func := "usufruct/usufructlaw1.FaultIn", spec := "faultIn", inPlace := ["internal/reflectlite.ValueOf", "(internal/reflectlite.Value).Type", "(internal/reflectlite.Value).IsNil", "internal/reflectlite.TypeOf", "(internal/reflectlite.Value).Elem", "(internal/reflectlite.Value).Set"], unfollowed := true, recurses := true, named := ["errors.errorType"], apart := false, laid := [("errors.errorType", laid_errors_errorType)] }
def FaultInSaid : Prop := faultInRow.holds Tryd.pinned (OpenSpec.ofChange faultInSpec)

/-- ITS FALSE NEIGHBOUR: 'it returns false'. Refute it at one input. -/
def faultInWrong : ChangeSpec := { name := "faultIn", fn := fun _ => fun
  | [d1, d2, d3] => { results := [.lit (.bool false)], args := [d1, d2, d3] }
  | _ => none }
def FaultInWrongFalsely : Prop := faultInRow.holds Tryd.pinned (OpenSpec.ofChange faultInWrong)

/- THE SECOND FORM. 'bulk': how many values and letters a reading holds, each counted each time it is reached (what is shared counts as often as it is met; a slice's spare places count too). A statement '..UptoSaid' is the law's where the arguments, and the package variables that the reading takes, are together of bulk at most 1048576: NARROWER than '..Said'. Prove '..Said' where nothing that the law and all that it calls make is longer than what came in: it says more and counts as full. Else prove '..UptoSaid'. A law counts once. -/
mutual
def uptoBulk {H : Type} : DataW H → Nat
  | .lit (.string bytes) => bytes.length + 1
  | .lit _ => 1
  | .nil => 1
  | .ptr d => uptoBulk d + 1
  | .slice elems spare => uptoBulkAll elems + uptoBulkAll spare + 1
  | .agg parts => uptoBulkAll parts + 1
  | .iface _ d => uptoBulk d + 1
  | .map entries => uptoBulkEntries entries + 1
  | .held _ => 1
def uptoBulkAll {H : Type} : List (DataW H) → Nat
  | [] => 0
  | d :: r => uptoBulk d + uptoBulkAll r
def uptoBulkEntries {H : Type} : List (Lit × DataW H) → Nat
  | [] => 0
  | x :: r => uptoBulkEntry x + uptoBulkEntries r
def uptoBulkEntry {H : Type} : Lit × DataW H → Nat
  | (.string bytes, d) => bytes.length + uptoBulk d + 1
  | (_, d) => uptoBulk d + 1
 end
def uptoSmall : (H : Type) → List (DataW H) → Bool := fun _ ds => decide (uptoBulkAll ds ≤ 1048576)
def OpenSpec.upto (s : _root_.Go.ChangeSpec) : _root_.Go.OpenSpec := { _root_.Go.OpenSpec.ofChange s with cond := some uptoSmall }

/-- 'usufructlaw1.FaultChains', WHERE WHAT IT READS IS OF BULK AT MOST 1048576: true; the input reads as it did. -/
def faultChainsUptoRow : OpenClaim := { program := "ytnpndnnoelnodaadoor", sum := "d915219baaf3af1ef24d11bef50bbcf139e704468b22da1d9f8ae3051f4e1d36", func := "usufruct/usufructlaw1.FaultChains", spec := "faultChains", inPlace := ["internal/reflectlite.ValueOf", "(internal/reflectlite.Value).Type", "(internal/reflectlite.Value).IsNil", "internal/reflectlite.TypeOf", "(internal/reflectlite.Value).Elem", "(internal/reflectlite.Value).Set"], unfollowed := true, recurses := true, named := ["errors.errorType"], apart := false, laid := [("errors.errorType", laid_errors_errorType)], narrowed := true }
def FaultChainsUptoSaid : Prop := faultChainsUptoRow.holds Tryd.pinned (OpenSpec.upto faultChainsSpec)

/-- 'usufructlaw1.FaultForeign', WHERE WHAT IT READS IS OF BULK AT MOST 1048576: true; the input reads as it did. -/
def faultForeignUptoRow : OpenClaim := { program := "ytnpndnnoelnodaadoor", sum := "d915219baaf3af1ef24d11bef50bbcf139e704468b22da1d9f8ae3051f4e1d36", func := "usufruct/usufructlaw1.FaultForeign", spec := "faultForeign", inPlace := ["internal/reflectlite.ValueOf", "(internal/reflectlite.Value).Type", "(internal/reflectlite.Value).IsNil", "internal/reflectlite.TypeOf", "(internal/reflectlite.Value).Elem", "(internal/reflectlite.Value).Set"], unfollowed := true, recurses := true, named := ["errors.errorType"], apart := false, laid := [("errors.errorType", laid_errors_errorType)], narrowed := true }
def FaultForeignUptoSaid : Prop := faultForeignUptoRow.holds Tryd.pinned (OpenSpec.upto faultForeignSpec)

/-- 'usufructlaw1.FaultIn', WHERE WHAT IT READS IS OF BULK AT MOST 1048576: true; the input reads as it did. -/
def faultInUptoRow : OpenClaim := { program := "ytnpndnnoelnodaadoor", sum := "d915219baaf3af1ef24d11bef50bbcf139e704468b22da1d9f8ae3051f4e1d36", func := "usufruct/usufructlaw1.FaultIn", spec := "faultIn", inPlace := ["internal/reflectlite.ValueOf", "(internal/reflectlite.Value).Type", "(internal/reflectlite.Value).IsNil", "internal/reflectlite.TypeOf", "(internal/reflectlite.Value).Elem", "(internal/reflectlite.Value).Set"], unfollowed := true, recurses := true, named := ["errors.errorType"], apart := false, laid := [("errors.errorType", laid_errors_errorType)], narrowed := true }
def FaultInUptoSaid : Prop := faultInUptoRow.holds Tryd.pinned (OpenSpec.upto faultInSpec)

end Rows
end Go.Proofs.YtnpndnnoelnodaaDoor
