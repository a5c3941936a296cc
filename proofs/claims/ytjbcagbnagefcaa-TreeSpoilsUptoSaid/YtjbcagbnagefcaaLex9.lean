/- Tokens in memory; usufructlaw6.told. -/
import Derived.Test.YtjbcagbnagefcaaLex8
import Derived.Laws.StructEq
namespace Go.Proofs.Ytjbcagbnagefcaa
open Go.RowKit

theorem flat3 (ts : List Tok) : ∀ (i j : Nat) (t : Tok), ts[i]? = some t → j < 3 → (ts.flatMap tokC)[i * 3 + j]? = (tokC t)[j]? := by
  induction ts with
  | nil => intro i j t h; simp at h
  | cons x ts ih =>
    intro i j t h hj
    rw [List.flatMap_cons]
    cases i with
    | zero =>
      simp at h
      subst h
      rw [Nat.zero_mul, Nat.zero_add, List.getElem?_append_left (by show j < 3; exact hj)]
    | succ i =>
      rw [List.getElem?_append_right (by show 3 ≤ (i + 1) * 3 + j; omega), show (i + 1) * 3 + j - (tokC x).length = i * 3 + j by show (i + 1) * 3 + j - 3 = _; omega]
      exact ih i j t (by simpa using h) hj
def toldS : List UInt8 := [120, 58, 58, 121, 32, 39, 97, 32, 45, 62, 32, 49]
def toldT : List Tok := [⟨1, [120], 0⟩, ⟨5, [58, 58], 1⟩, ⟨1, [121], 3⟩, ⟨3, [97], 5⟩, ⟨5, [45, 62], 8⟩, ⟨4, [49], 11⟩, ⟨0, [], 12⟩]
theorem told_res : lexRes toldS = (toldT, 0, 0) := by decide +kernel
theorem told_res2 : lexRes [32, 48, 49] = ([], 20, 1) := by decide +kernel

end Go.Proofs.Ytjbcagbnagefcaa
