/- usufructref2.Reader: Hash. -/
import Derived.Test.YteifmkfkekglpaaDoorRefRd3
import Derived.StillTailTactics
import Derived.Laws.Rows
namespace Go.Proofs.YteifmkfkekglpaaDoor
open Go.RowKit

/-- The row while it is filled. -/
def rowAt (H : List UInt8) (i : Nat) : Array Value := ((H.take i ++ zeros32.drop i).map byteV).toArray
theorem rowAt_zero (H : List UInt8) : rowAt H 0 = (zeros32.map byteV).toArray := by unfold rowAt; simp
theorem rowAt_full {H : List UInt8} (hH : H.length = 32) : rowAt H 32 = (H.map byteV).toArray := by
  unfold rowAt
  rw [List.take_of_length_le (by omega), show zeros32.drop 32 = [] from rfl, List.append_nil]
theorem rowAt_size {H : List UInt8} (hH : H.length = 32) {i : Nat} (hi : i ≤ 32) : (rowAt H i).size = 32 := by
  unfold rowAt; simp [zeros32, hH]; omega
theorem rowAt_set {H : List UInt8} (hH : H.length = 32) {i : Nat} {c : UInt8} (hc : H[i]? = some c) : (rowAt H i).setIfInBounds i (byteV c) = rowAt H (i + 1) := by
  have hi : i < 32 := by have := (List.getElem?_eq_some_iff.1 hc).1; omega
  unfold rowAt
  rw [List.setIfInBounds_toArray, List.take_add_one, hc]
  congr 1
  have hz : zeros32.drop i = 0 :: zeros32.drop (i + 1) := by
    rw [List.drop_eq_getElem_cons (by show i < 32; omega)]
    congr 1
    show (List.replicate 32 (0 : UInt8))[i] = 0
    exact List.getElem_replicate ..
  rw [hz, List.map_append, List.set_append_right _ _ (by simp; omega)]
  simp [hH, Nat.min_eq_left (Nat.le_of_lt hi)]

theorem text_at (s : List UInt8) {t : Nat} {c : UInt8} (hc : s[t]? = some c) (k : IntKind) (W : World) : (Instr.index 9 (.string ⟨s.toArray⟩) (.int k (t : Int))).run Tryd.prog W = .ok (.int .u8 (c.toNat : Int)) W := by
  obtain ⟨h1, h2⟩ := List.getElem?_eq_some_iff.1 hc
  rw [run_index_string W _ _ _ _ Tryd.underlying9, dif_pos ⟨by omega, by show (t : Int) < s.length; omega⟩]
  subst h2
  rfl

attribute [local go_sem ↓] exec_load_hash exec_store_hash

end Go.Proofs.YteifmkfkekglpaaDoor
