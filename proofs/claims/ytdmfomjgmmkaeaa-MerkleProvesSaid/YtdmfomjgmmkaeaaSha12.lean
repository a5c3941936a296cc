/- The order of strings in the model is the order of their bytes. -/
import Derived.Test.YtdmfomjgmmkaeaaSha11
namespace Go.Proofs.Ytdmfomjgmmkaeaa
open Go.RowKit

theorem less_ltL : ∀ a b : List UInt8, a.length = b.length → Op.bytesLess a b = ltL a b
  | [], [], _ => rfl
  | [], _ :: _, h => by simp at h
  | _ :: _, [], h => by simp at h
  | x :: l, y :: m, h => by
    have ih := less_ltL l m (by simpa using h)
    rw [ltL, Op.bytesLess]
    by_cases e : x = y
    · subst e; simp [ih]
    · have hne : x.toNat ≠ y.toNat := fun q => e (UInt8.toNat_inj.mp q)
      rw [if_neg e]
      simp [e, UInt8.lt_iff_toNat_lt]

end Go.Proofs.Ytdmfomjgmmkaeaa
