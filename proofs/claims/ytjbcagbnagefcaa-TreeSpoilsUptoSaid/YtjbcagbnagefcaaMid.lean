/- A whole array or struct, by value, out of the middle of a block: a rule for the walk that opens no cell. -/
import Derived.Test.YtjbcagbnagefcaaRowsV
import Derived.Deep.MidRow
import Derived.Deep.DrawnRows
namespace Go.Proofs.Ytjbcagbnagefcaa
open Go.RowKit

def midOf (w : World) (g o n : Nat) : Array Value := ((List.range n).map fun j => (w.cell? ⟨g, o + j, none⟩).getD undef).toArray
def midOk (w : World) (g o n : Nat) : Bool := (List.range n).all fun j => (w.cell? ⟨g, o + j, none⟩).isSome
def midOfV (w : World) (n : Nat) : Value → Array Value | .pointer (some ⟨g, o, none⟩) => midOf w g o n | _ => #[]
def midOkV (w : World) (n : Nat) : Value → Bool | .pointer (some ⟨g, o, none⟩) => midOk w g o n | _ => false
theorem midOfV_ptr (w : World) (g o n : Nat) : midOfV w n (.pointer (some ⟨g, o, none⟩)) = midOf w g o n := rfl
theorem midOkV_ptr (w : World) (g o n : Nat) : midOkV w n (.pointer (some ⟨g, o, none⟩)) = midOk w g o n := rfl
theorem midOf_drew (w : World) (g o n : Nat) : midOf w.drew g o n = midOf w g o n := rfl
theorem midOk_drew (w : World) (g o n : Nat) : midOk w.drew g o n = midOk w g o n := rfl
theorem midOf_drewN (w : World) (g o n k : Nat) : midOf (w.drewN k) g o n = midOf w g o n := rfl
theorem midOk_drewN (w : World) (g o n k : Nat) : midOk (w.drewN k) g o n = midOk w g o n := rfl

theorem midOk_range {w : World} {g o : Nat} {cs : List Value} (h : w.rangeAt g o cs) : midOk w g o cs.length = true := by
  unfold midOk
  rw [List.all_eq_true]
  intro j hj
  rw [List.mem_range] at hj
  exact h.isSome j hj
theorem midOf_range {w : World} {g o : Nat} {cs : List Value} (h : w.rangeAt g o cs) : midOf w g o cs.length = cs.toArray := by
  unfold midOf
  congr 1
  apply List.ext_getElem?
  intro j
  by_cases hj : j < cs.length
  · rw [List.getElem?_map, List.getElem?_range hj, Option.map_some, h j _ (List.getElem?_eq_getElem hj), List.getElem?_eq_getElem hj]; rfl
  · rw [List.getElem?_eq_none (by simp; omega), List.getElem?_eq_none (by omega)]
theorem range_midOk {w : World} {g o n : Nat} (h : midOk w g o n = true) : w.rangeAt g o (midOf w g o n).toList := by
  unfold midOk at h
  rw [List.all_eq_true] at h
  intro j v hj
  unfold midOf at hj
  rw [List.toList_toArray, List.getElem?_map] at hj
  by_cases hlt : j < n
  · rw [List.getElem?_range hlt, Option.map_some] at hj
    have := h j (List.mem_range.2 hlt)
    obtain ⟨u, hu⟩ := Option.isSome_iff_exists.1 this
    rw [hu] at hj ⊢
    exact hj
  · rw [List.getElem?_eq_none (by simp; omega)] at hj
    cases hj

theorem exec_load_mid {P : Program} (ty : TypeId) (n : Nat) (d : TypeDesc) (hu : P.underlying ty = some d) (hd : d.isRow = true) (hi : (P.info? ty).map (·.size) = some n)
    (ρ : Operand → Value) (dst : Option Tmp) (x : Operand) (ty' : TypeId) (pos : String) (af : Array Edge) (gd : Option (Nat × Bool)) (w : World) (h : midOkV w n (ρ x) = true) :
    (execOp ρ ⟨dst, .load ty x, ty', pos, af, gd⟩).run P w = .ok (.value (.agg (midOfV w n (ρ x)))) w := by
  unfold midOkV at h
  split at h
  · rename_i g o hx
    have hr := range_midOk h
    have hl : (midOf w g o n).toList.length = n := by simp [midOf]
    have := run_loadAt_mid (P := P) w g o ty (midOf w g o n).toList d hr hu hd (by rw [hi, hl])
    unfold execOp
    simp only [hx, Sem.run_bind, this, Result.andThen_ok, Sem.run_pure, midOfV, Array.toArray_toList]
  · cases h

attribute [go_sem] midOfV_ptr midOkV_ptr midOf_drew midOk_drew midOf_drewN midOk_drewN

/-- A range of cells stays where its block is kept. -/
theorem rangeAt_keeps {S : Nat → Prop} {w w' : World} {g o : Nat} {cs : List Value} (h : w.rangeAt g o cs) (hk : Keeps S w w') (hg : ¬ S g) : w'.rangeAt g o cs :=
  fun j v hj => hk.cell (h j v hj) hg

theorem rangeAt_blk {w : World} {g : Nat} {cs : List Value} {t : TypeId} (h : Blk w g cs.toArray t) : w.rangeAt g 0 cs := fun j v hj => blk_cell h (0 + j) (by simpa using hj)

theorem rangeAt_sub {w : World} {g o : Nat} {cs as : List Value} {k : Nat} (h : w.rangeAt g o cs) (hs : ∀ j v, as[j]? = some v → cs[k + j]? = some v) : w.rangeAt g (o + k) as := fun j v hj => by
  have := h (k + j) v (hs j v hj)
  rwa [← Nat.add_assoc] at this

end Go.Proofs.Ytjbcagbnagefcaa
