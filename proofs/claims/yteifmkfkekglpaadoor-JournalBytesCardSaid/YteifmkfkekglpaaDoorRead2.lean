/- Arguments of usufructlaw2 as data: an Op, a slice of Ops, a slice of bytes. -/
import Derived.Test.YteifmkfkekglpaaDoorOps2
import Derived.Test.YteifmkfkekglpaaDoorArgs
namespace Go.Proofs.YteifmkfkekglpaaDoor
open Go.RowKit Go.ChangeShapes Go.WideShapes

section
variable {H : Type} {enc : TypeId × Value → H} {w : World} {base : Nat} {spare : Nat → Bool} {held : Bool}

theorem cellsIntR2 : Tryd.prog.cellsOf 3 = 1 := by kernel_rfl
theorem cellsU64 : Tryd.prog.cellsOf 67 = 1 := by kernel_rfl
theorem cellsBool : Tryd.prog.cellsOf 4 = 1 := by kernel_rfl
theorem cellsStr : Tryd.prog.cellsOf 9 = 1 := by kernel_rfl

/-- A slice of Ops, as it lies in memory. -/
def OpsAt (w : World) (ao : Option Addr) (ops : List OpD) : Prop :=
  (ao = none → ops = []) ∧ ∀ a, ao = some a → ∀ i o, ops[i]? = some o → o.Fit ∧ a.spot = none ∧ w.rangeAt a.block (a.off + i * 38) (opCells o)

theorem addr_add (a : Addr) (h : a.spot = none) (i : Nat) : a.add i = ⟨a.block, a.off + i, none⟩ := by
  obtain ⟨b, o, s⟩ := a
  simp only at h
  subst h
  exact Addr.add_mid b o i
end
end Go.Proofs.YteifmkfkekglpaaDoor
