/-
  NARROWER THAN 'FOR EVERY INPUT', by the rows' own cells (each row's printed sentence says how): SigGets: loops · SigBack: loops · SigHides: loops · SigApart: loops · SigPuts: loops.
  DERIVED. THE GIVEN ROWS OF THIS SEAT. 5 by the template 'for every input the law returns true; each argument reads behind the call as it read before'; 0 by the template 'total and deterministic' (their statements: YtjbcagbnagefcaaGreatTotals.lean).
  GIVEN WITH THE SEED: the statements are not yours to turn. If you find one false, say at which input.
  Laid BY PROGRAM, IN A SANDBOX (cutbox-rows.mjs): the forced cells as the released guide's own fill.sh prints them over the translation ec5c1752469abb87… (all of the seat's roots in one cut). By AI agents, Wed Nov 11 2026. No macro, syntax, notation, axiom, sorry.
-/
import Derived.Test.YtjbcagbnagefcaaGreatChecked
import GoSem.Claim
import GoSem.ClaimJoined
import GoSem.ClaimMapViews
import Derived.JoinedTies
import Derived.KernelRfl
namespace Go.Proofs.YtjbcagbnagefcaaGreat
/- THE CELL 'sum', in the pinned program and in every row, IS THE sha256 OF THE DUMP (.gsa) THAT YtjbcagbnagefcaaGreatProg.lean LOADS. Nothing in Lean hashes anything: it is a label: what it is worth is what the hold of that sum in a sandbox is worth. -/
noncomputable def Tryz.pinned : Pinned := { name := "ytjbcagbnagefcaagreat", sum := "ec5c1752469abb875e23c14309dddec1ceaf96d1600696cca5a1d2caf37568f5", checked := Tryz.checked }
namespace Rows
def none {H : Type} : Left H := { results := [], args := [] }

/-- 'usufructlaw12.SigGets': WHATEVER THE INPUT: true; the input reads as it did. -/
def sigGetsSpec : ChangeSpec := { name := "sigGets", fn := fun _ => fun
  | [d1, d2, d3, d4, d5] => { results := [.lit (.bool true)], args := [d1, d2, d3, d4, d5] }
  | _ => none }
def sigGetsRow : OpenClaim := { program := "ytjbcagbnagefcaagreat", sum := "ec5c1752469abb875e23c14309dddec1ceaf96d1600696cca5a1d2caf37568f5", func := "usufruct/usufructlaw12.SigGets", spec := "sigGets", inPlace := ["internal/bytealg.IndexByteString", "internal/bytealg.IndexString"], unfollowed := true, recurses := true, named := ["internal/bytealg.MaxLen"], loops := true, apart := false }
def SigGetsSaid : Prop := sigGetsRow.holds Tryz.pinned (OpenSpec.ofChange sigGetsSpec)

/-- ITS FALSE NEIGHBOUR: 'it returns false'. Refute it at one input. -/
def sigGetsWrong : ChangeSpec := { name := "sigGets", fn := fun _ => fun
  | [d1, d2, d3, d4, d5] => { results := [.lit (.bool false)], args := [d1, d2, d3, d4, d5] }
  | _ => none }
def SigGetsWrongFalsely : Prop := sigGetsRow.holds Tryz.pinned (OpenSpec.ofChange sigGetsWrong)

/-- 'usufructlaw12.SigBack': WHATEVER THE INPUT: true; the input reads as it did. -/
def sigBackSpec : ChangeSpec := { name := "sigBack", fn := fun _ => fun
  | [d1, d2] => { results := [.lit (.bool true)], args := [d1, d2] }
  | _ => none }
def sigBackRow : OpenClaim := { program := "ytjbcagbnagefcaagreat", sum := "ec5c1752469abb875e23c14309dddec1ceaf96d1600696cca5a1d2caf37568f5", func := "usufruct/usufructlaw12.SigBack", spec := "sigBack", inPlace := ["internal/bytealg.IndexByteString", "internal/bytealg.IndexString"], unfollowed := true, recurses := true, named := ["internal/bytealg.MaxLen"], loops := true, apart := false }
def SigBackSaid : Prop := sigBackRow.holds Tryz.pinned (OpenSpec.ofChange sigBackSpec)

/-- ITS FALSE NEIGHBOUR: 'it returns false'. Refute it at one input. -/
def sigBackWrong : ChangeSpec := { name := "sigBack", fn := fun _ => fun
  | [d1, d2] => { results := [.lit (.bool false)], args := [d1, d2] }
  | _ => none }
def SigBackWrongFalsely : Prop := sigBackRow.holds Tryz.pinned (OpenSpec.ofChange sigBackWrong)

/-- 'usufructlaw12.SigHides': WHATEVER THE INPUT: true; the input reads as it did. -/
def sigHidesSpec : ChangeSpec := { name := "sigHides", fn := fun _ => fun
  | [d1, d2] => { results := [.lit (.bool true)], args := [d1, d2] }
  | _ => none }
def sigHidesRow : OpenClaim := { program := "ytjbcagbnagefcaagreat", sum := "ec5c1752469abb875e23c14309dddec1ceaf96d1600696cca5a1d2caf37568f5", func := "usufruct/usufructlaw12.SigHides", spec := "sigHides", inPlace := ["internal/bytealg.IndexByteString", "internal/bytealg.IndexString"], unfollowed := true, recurses := true, named := ["internal/bytealg.MaxLen"], loops := true, apart := false }
def SigHidesSaid : Prop := sigHidesRow.holds Tryz.pinned (OpenSpec.ofChange sigHidesSpec)

/-- ITS FALSE NEIGHBOUR: 'it returns false'. Refute it at one input. -/
def sigHidesWrong : ChangeSpec := { name := "sigHides", fn := fun _ => fun
  | [d1, d2] => { results := [.lit (.bool false)], args := [d1, d2] }
  | _ => none }
def SigHidesWrongFalsely : Prop := sigHidesRow.holds Tryz.pinned (OpenSpec.ofChange sigHidesWrong)

/-- 'usufructlaw12.SigApart': WHATEVER THE INPUT: true; the input reads as it did. -/
def sigApartSpec : ChangeSpec := { name := "sigApart", fn := fun _ => fun
  | [d1, d2] => { results := [.lit (.bool true)], args := [d1, d2] }
  | _ => none }
def sigApartRow : OpenClaim := { program := "ytjbcagbnagefcaagreat", sum := "ec5c1752469abb875e23c14309dddec1ceaf96d1600696cca5a1d2caf37568f5", func := "usufruct/usufructlaw12.SigApart", spec := "sigApart", inPlace := ["internal/bytealg.IndexByteString", "internal/bytealg.IndexString"], unfollowed := true, recurses := true, named := ["internal/bytealg.MaxLen"], loops := true, apart := false }
def SigApartSaid : Prop := sigApartRow.holds Tryz.pinned (OpenSpec.ofChange sigApartSpec)

/-- ITS FALSE NEIGHBOUR: 'it returns false'. Refute it at one input. -/
def sigApartWrong : ChangeSpec := { name := "sigApart", fn := fun _ => fun
  | [d1, d2] => { results := [.lit (.bool false)], args := [d1, d2] }
  | _ => none }
def SigApartWrongFalsely : Prop := sigApartRow.holds Tryz.pinned (OpenSpec.ofChange sigApartWrong)

/-- 'usufructlaw12.SigPuts': WHATEVER THE INPUT: true; the input reads as it did. -/
def sigPutsSpec : ChangeSpec := { name := "sigPuts", fn := fun _ => fun
  | [d1, d2, d3] => { results := [.lit (.bool true)], args := [d1, d2, d3] }
  | _ => none }
def sigPutsRow : OpenClaim := { program := "ytjbcagbnagefcaagreat", sum := "ec5c1752469abb875e23c14309dddec1ceaf96d1600696cca5a1d2caf37568f5", func := "usufruct/usufructlaw12.SigPuts", spec := "sigPuts", inPlace := ["internal/bytealg.IndexByteString", "internal/bytealg.IndexString"], unfollowed := true, recurses := true, named := ["internal/bytealg.MaxLen"], loops := true, apart := false }
def SigPutsSaid : Prop := sigPutsRow.holds Tryz.pinned (OpenSpec.ofChange sigPutsSpec)

/-- ITS FALSE NEIGHBOUR: 'it returns false'. Refute it at one input. -/
def sigPutsWrong : ChangeSpec := { name := "sigPuts", fn := fun _ => fun
  | [d1, d2, d3] => { results := [.lit (.bool false)], args := [d1, d2, d3] }
  | _ => none }
def SigPutsWrongFalsely : Prop := sigPutsRow.holds Tryz.pinned (OpenSpec.ofChange sigPutsWrong)

/- THE SECOND FORM. 'bulk': how many values and letters a reading holds, each counted each time it is reached (what is shared counts as often as it is met; a slice's spare places count too). A statement '..UptoSaid' is the law's where the arguments, and the package variables that the reading takes, are together of bulk at most 1048576: NARROWER than '..Said'. Prove '..Said' where nothing that the law and all that it calls make is longer than what came in: it says more and counts as full. Else prove '..UptoSaid'. A law counts once. -/
mutual
def uptoBulk {H : Type} : DataW H → Nat
  | .lit (.string bytes) => bytes.length + 1
  | .lit _ => 1
  | .nil => 1
  | .ptr d => uptoBulk d + 1
  | .slice elems spare => uptoBulkAll elems + uptoBulkAll spare + 1
  | .agg parts => uptoBulkAll parts + 1
  | .iface _ d => uptoBulk d + 1
  | .map entries => uptoBulkEntries entries + 1
  | .held _ => 1
def uptoBulkAll {H : Type} : List (DataW H) → Nat
  | [] => 0
  | d :: r => uptoBulk d + uptoBulkAll r
def uptoBulkEntries {H : Type} : List (Lit × DataW H) → Nat
  | [] => 0
  | x :: r => uptoBulkEntry x + uptoBulkEntries r
def uptoBulkEntry {H : Type} : Lit × DataW H → Nat
  | (.string bytes, d) => bytes.length + uptoBulk d + 1
  | (_, d) => uptoBulk d + 1
 end
def uptoSmall : (H : Type) → List (DataW H) → Bool := fun _ ds => decide (uptoBulkAll ds ≤ 1048576)
def OpenSpec.upto (s : _root_.Go.ChangeSpec) : _root_.Go.OpenSpec := { _root_.Go.OpenSpec.ofChange s with cond := some uptoSmall }

/-- 'usufructlaw12.SigGets', WHERE WHAT IT READS IS OF BULK AT MOST 1048576: true; the input reads as it did. -/
def sigGetsUptoRow : OpenClaim := { program := "ytjbcagbnagefcaagreat", sum := "ec5c1752469abb875e23c14309dddec1ceaf96d1600696cca5a1d2caf37568f5", func := "usufruct/usufructlaw12.SigGets", spec := "sigGets", inPlace := ["internal/bytealg.IndexByteString", "internal/bytealg.IndexString"], unfollowed := true, recurses := true, named := ["internal/bytealg.MaxLen"], loops := true, apart := false, narrowed := true }
def SigGetsUptoSaid : Prop := sigGetsUptoRow.holds Tryz.pinned (OpenSpec.upto sigGetsSpec)

/-- 'usufructlaw12.SigBack', WHERE WHAT IT READS IS OF BULK AT MOST 1048576: true; the input reads as it did. -/
def sigBackUptoRow : OpenClaim := { program := "ytjbcagbnagefcaagreat", sum := "ec5c1752469abb875e23c14309dddec1ceaf96d1600696cca5a1d2caf37568f5", func := "usufruct/usufructlaw12.SigBack", spec := "sigBack", inPlace := ["internal/bytealg.IndexByteString", "internal/bytealg.IndexString"], unfollowed := true, recurses := true, named := ["internal/bytealg.MaxLen"], loops := true, apart := false, narrowed := true }
def SigBackUptoSaid : Prop := sigBackUptoRow.holds Tryz.pinned (OpenSpec.upto sigBackSpec)

/-- 'usufructlaw12.SigHides', WHERE WHAT IT READS IS OF BULK AT MOST 1048576: true; the input reads as it did. -/
def sigHidesUptoRow : OpenClaim := { program := "ytjbcagbnagefcaagreat", sum := "ec5c1752469abb875e23c14309dddec1ceaf96d1600696cca5a1d2caf37568f5", func := "usufruct/usufructlaw12.SigHides", spec := "sigHides", inPlace := ["internal/bytealg.IndexByteString", "internal/bytealg.IndexString"], unfollowed := true, recurses := true, named := ["internal/bytealg.MaxLen"], loops := true, apart := false, narrowed := true }
def SigHidesUptoSaid : Prop := sigHidesUptoRow.holds Tryz.pinned (OpenSpec.upto sigHidesSpec)

/-- 'usufructlaw12.SigApart', WHERE WHAT IT READS IS OF BULK AT MOST 1048576: true; the input reads as it did. -/
def sigApartUptoRow : OpenClaim := { program := "ytjbcagbnagefcaagreat", sum := "ec5c1752469abb875e23c14309dddec1ceaf96d1600696cca5a1d2caf37568f5", func := "usufruct/usufructlaw12.SigApart", spec := "sigApart", inPlace := ["internal/bytealg.IndexByteString", "internal/bytealg.IndexString"], unfollowed := true, recurses := true, named := ["internal/bytealg.MaxLen"], loops := true, apart := false, narrowed := true }
def SigApartUptoSaid : Prop := sigApartUptoRow.holds Tryz.pinned (OpenSpec.upto sigApartSpec)

/-- 'usufructlaw12.SigPuts', WHERE WHAT IT READS IS OF BULK AT MOST 1048576: true; the input reads as it did. -/
def sigPutsUptoRow : OpenClaim := { program := "ytjbcagbnagefcaagreat", sum := "ec5c1752469abb875e23c14309dddec1ceaf96d1600696cca5a1d2caf37568f5", func := "usufruct/usufructlaw12.SigPuts", spec := "sigPuts", inPlace := ["internal/bytealg.IndexByteString", "internal/bytealg.IndexString"], unfollowed := true, recurses := true, named := ["internal/bytealg.MaxLen"], loops := true, apart := false, narrowed := true }
def SigPutsUptoSaid : Prop := sigPutsUptoRow.holds Tryz.pinned (OpenSpec.upto sigPutsSpec)

end Rows
end Go.Proofs.YtjbcagbnagefcaaGreat
