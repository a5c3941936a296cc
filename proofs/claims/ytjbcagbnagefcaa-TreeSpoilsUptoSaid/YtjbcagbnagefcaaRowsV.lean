/- A whole array, by value, out of a block and into one: rules for the walk that open no cell. -/
import Derived.Test.YtjbcagbnagefcaaMem
namespace Go.Proofs.Ytjbcagbnagefcaa
open Go.RowKit

/-- What block g holds, if it is a row of cells. -/
def rowOf (w : World) (g : Nat) : Array Value := match w.heap[g]? with | some (.cells cs _ _) => cs | _ => #[]
/-- Block g is a row of n cells that may all be written. -/
def rowOk (w : World) (g n : Nat) : Bool := match w.heap[g]? with | some (.cells cs _ (0, 0)) => cs.size == n | _ => false
def rowOfV (w : World) : Value → Array Value | .pointer (some ⟨g, 0, none⟩) => rowOf w g | _ => #[]
def rowOkV (w : World) (n : Nat) : Value → Bool | .pointer (some ⟨g, 0, none⟩) => rowOk w g n | _ => false
def rowSetV (w : World) (v : Value) (cs : Array Value) : World := match v with | .pointer (some ⟨g, 0, none⟩) => w.setRow g cs | _ => w
def aggOf : Value → Array Value | .agg cs => cs | _ => #[]
def aggOk (n : Nat) : Value → Bool | .agg cs => cs.size == n && cs.all (·.oneCell') | _ => false

theorem rowOfV_ptr (w : World) (g : Nat) : rowOfV w (.pointer (some ⟨g, 0, none⟩)) = rowOf w g := rfl
theorem rowOkV_ptr (w : World) (g n : Nat) : rowOkV w n (.pointer (some ⟨g, 0, none⟩)) = rowOk w g n := rfl
theorem rowSetV_ptr (w : World) (g : Nat) (cs : Array Value) : rowSetV w (.pointer (some ⟨g, 0, none⟩)) cs = w.setRow g cs := rfl
theorem aggOf_agg (cs : Array Value) : aggOf (.agg cs) = cs := rfl
theorem aggOk_agg (n : Nat) (cs : Array Value) (h1 : cs.size = n) (h2 : cs.all (·.oneCell') = true) : aggOk n (.agg cs) = true := by
  show (cs.size == n && cs.all (·.oneCell')) = true
  rw [h2, h1]
  simp
theorem rowOf_drew (w : World) (g : Nat) : rowOf w.drew g = rowOf w g := rfl
theorem rowOk_drew (w : World) (g n : Nat) : rowOk w.drew g n = rowOk w g n := rfl
theorem rowOf_drewN (w : World) (g k : Nat) : rowOf (w.drewN k) g = rowOf w g := rfl
theorem rowOk_drewN (w : World) (g n k : Nat) : rowOk (w.drewN k) g n = rowOk w g n := rfl
theorem rowOf_blk {w : World} {g : Nat} {cs : Array Value} {t : TypeId} (h : Blk w g cs t) : rowOf w g = cs := by
  have h' : w.heap[g]? = some (.cells cs t (0, 0)) := h
  simp [rowOf, h']
theorem rowOk_blk {w : World} {g n : Nat} {cs : Array Value} {t : TypeId} (h : Blk w g cs t) (hs : cs.size = n) : rowOk w g n = true := by
  have h' : w.heap[g]? = some (.cells cs t (0, 0)) := h
  simp [rowOk, h', hs]
theorem blk_rowOk {w : World} {g n : Nat} (h : rowOk w g n = true) : ∃ t, Blk w g (rowOf w g) t ∧ (rowOf w g).size = n := by
  unfold rowOk at h
  split at h
  · rename_i cs t hg
    exact ⟨t, by simp only [Blk, rowOf, hg], by simp only [rowOf, hg]; simpa using h⟩
  · cases h

section
variable {P : Program}
theorem exec_load (ty e : TypeId) (n : Nat) (hu : P.underlying ty = some (.array n e)) (hi : (P.info? ty).map (·.size) = some n)
    (ρ : Operand → Value) (dst : Option Tmp) (x : Operand) (ty' : TypeId) (pos : String) (af : Array Edge) (gd : Option (Nat × Bool)) (w : World) (h : rowOkV w n (ρ x) = true) :
    (execOp ρ ⟨dst, .load ty x, ty', pos, af, gd⟩).run P w = .ok (.value (.agg (rowOfV w (ρ x)))) w := by
  unfold rowOkV at h
  split at h
  · rename_i g hx
    obtain ⟨t, hb, hs⟩ := blk_rowOk h
    have := run_loadAt_blk (P := P) ty e n hu hi w g _ t hb hs
    unfold execOp
    simp only [hx, Sem.run_bind, this, Result.andThen_ok, Sem.run_pure, rowOfV]
  · cases h

theorem exec_store (ty : TypeId) (n : Nat) (hi : (P.info? ty).map (·.size) = some n)
    (ρ : Operand → Value) (dst : Option Tmp) (x y : Operand) (ty' : TypeId) (pos : String) (af : Array Edge) (gd : Option (Nat × Bool)) (w : World) (h : rowOkV w n (ρ x) = true) (hy : aggOk n (ρ y) = true) :
    (execOp ρ ⟨dst, .store ty x y, ty', pos, af, gd⟩).run P w = .ok .skip (rowSetV w (ρ x) (aggOf (ρ y))) := by
  unfold rowOkV at h
  split at h
  · rename_i g hx
    unfold aggOk at hy
    split at hy
    · rename_i cs hyv
      simp only [Bool.and_eq_true, beq_iff_eq] at hy
      obtain ⟨t, hb, hs⟩ := blk_rowOk h
      have := run_storeAt_blk (P := P) ty n hi w g cs _ t hb hs hy.1 hy.2
      unfold execOp
      simp only [hx, hyv, Sem.run_bind, this, Result.andThen_ok, Sem.run_pure, rowSetV, aggOf]
    · cases hy
  · cases h
end

theorem rowOk_new (w : World) (cs : Array Value) (t : TypeId) (n : Nat) : rowOk (w.alloc (.cells cs t)) w.heap.size n = (cs.size == n) := by
  unfold rowOk
  rw [show (w.alloc (.cells cs t)).heap[w.heap.size]? = some (.cells cs t (0, 0)) from heap_alloc_new w _]
  rfl

attribute [go_sem] rowOfV_ptr rowOkV_ptr rowSetV_ptr aggOf_agg rowOf_drew rowOk_drew rowOf_drewN rowOk_drewN

end Go.Proofs.Ytjbcagbnagefcaa
