/- Unwanted operations of a plan, passed over without a look at the frame. -/
import Derived.Test.YtjbcagbnagefcaaMix
namespace Go.Proofs.Ytjbcagbnagefcaa
open Go Go.RowKit
section
variable {P : Program} {Q : Exit → Act → World → Prop} {S : World → Prop}
theorem unwanted {ops : Array Oper} {a : Act} {o : Oper} {g d : Nat} {b z : Bool} (h1 : o.guard = some (g, b)) (h2 : (ops[g]?).bind (·.dst) = some d) (h3 : a.tmps[d]? = some (.bool z)) (h4 : (z == b) = false) : ¬ Region.wanted o (yielded ops a.tmps) = true := by
  have h5 : yielded ops a.tmps g = some z := by
    cases ho : ops[g]? with
    | none => rw [ho] at h2; cases h2
    | some og =>
      rw [ho] at h2
      have h6 : og.dst = some d := h2
      unfold yielded
      simp [ho, h6, h3]
  unfold Region.wanted
  rw [h1]
  simp only
  rw [h5]
  intro q
  have : z = b := by simpa using q
  rw [this] at h4
  simp at h4
/-- One that is not wanted. -/
theorem wpMix_unw {ops : Array Oper} {a : Act} {w : World} {o : Oper} {r : List (Bool × Oper)} (g d : Nat) (b z : Bool) (h1 : o.guard = some (g, b)) (h2 : (ops[g]?).bind (·.dst) = some d) (h3 : a.tmps[d]? = some (.bool z)) (h4 : (z == b) = false)
    (h : wpMix P ops S Q r (a.put o.dst undef) w) : wpMix P ops S Q ((true, o) :: r) a w := by
  unfold wpMix
  rw [if_neg (unwanted h1 h2 h3 h4)]
  exact h
theorem wpMix_unw1 {ops : Array Oper} {a : Act} {w : World} {o : Oper} {r : List (Bool × Oper)} (g d : Nat) (b z : Bool) (h1 : o.guard = some (g, b)) (h2 : (ops[g]?).bind (·.dst) = some d) (h3 : a.tmps[d]? = some (.bool z)) (h4 : (z == b) = false)
    (hS : S w) (h : wpMix P ops S Q r (a.put o.dst undef) w) : wpMix P ops S Q ((false, o) :: r) a w := by
  unfold wpMix wpList
  rw [if_neg (unwanted h1 h2 h3 h4)]
  exact ⟨hS, h⟩
/-- The same, the guard left to the kernel. -/
theorem wpMix_unwK {ops : Array Oper} {a : Act} {w : World} {o : Oper} {r : List (Bool × Oper)} (h1 : Region.wanted o (yielded ops a.tmps) = false)
    (h : wpMix P ops S Q r (a.put o.dst undef) w) : wpMix P ops S Q ((true, o) :: r) a w := by
  unfold wpMix
  rw [if_neg (by rw [h1]; exact Bool.false_ne_true)]
  exact h
theorem wpMix_unwK1 {ops : Array Oper} {a : Act} {w : World} {o : Oper} {r : List (Bool × Oper)} (h1 : Region.wanted o (yielded ops a.tmps) = false)
    (hS : S w) (h : wpMix P ops S Q r (a.put o.dst undef) w) : wpMix P ops S Q ((false, o) :: r) a w := by
  unfold wpMix wpList
  rw [if_neg (by rw [h1]; exact Bool.false_ne_true)]
  exact ⟨hS, h⟩
end
end Go.Proofs.Ytjbcagbnagefcaa
