/- A whole array or struct, by value, into the middle of a block: a rule for the walk that opens no cell. -/
import Derived.Test.YtjbcagbnagefcaaMid
import Derived.Laws.CopyRow
namespace Go.Proofs.Ytjbcagbnagefcaa
open Go.RowKit

def midSet (w : World) (g o : Nat) (H : Array Value) : World := w.setRow g ((rowOf w g).toList.take o ++ H.toList ++ (rowOf w g).toList.drop (o + H.size)).toArray
def midSetV (w : World) (x : Value) (H : Array Value) : World := match x with | .pointer (some ⟨g, o, none⟩) => midSet w g o H | _ => w
def midFit (w : World) (g o n : Nat) : Bool := match w.heap[g]? with | some (.cells cs _ fz) => decide (fz = (0, 0)) && decide (o + n ≤ cs.size) | _ => false
def midFitV (w : World) (n : Nat) (x : Value) : Bool := match x with | .pointer (some ⟨g, o, none⟩) => midFit w g o n | _ => false
theorem midSetV_ptr (w : World) (g o : Nat) (H : Array Value) : midSetV w (.pointer (some ⟨g, o, none⟩)) H = midSet w g o H := rfl
theorem midFitV_ptr (w : World) (g o n : Nat) : midFitV w n (.pointer (some ⟨g, o, none⟩)) = midFit w g o n := rfl
theorem midFit_drew (w : World) (g o n : Nat) : midFit w.drew g o n = midFit w g o n := rfl
theorem midFit_drewN (w : World) (g o n k : Nat) : midFit (w.drewN k) g o n = midFit w g o n := rfl
attribute [go_sem] midSetV_ptr midFitV_ptr midFit_drew midFit_drewN

theorem midFit_blk {w : World} {g : Nat} {cs : Array Value} {t : TypeId} (h : Blk w g cs t) {o n : Nat} (hs : o + n ≤ cs.size) : midFit w g o n = true := by
  unfold midFit
  rw [show w.heap[g]? = some (.cells cs t (0, 0)) from h]
  simp [hs]
def midCs (cs H : Array Value) (o : Nat) : Array Value := (cs.toList.take o ++ H.toList ++ cs.toList.drop (o + H.size)).toArray
theorem blk_midSet {w : World} {g : Nat} {cs : Array Value} {t : TypeId} (h : Blk w g cs t) (o : Nat) (H : Array Value) : Blk (midSet w g o H) g (midCs cs H o) t := by
  unfold midSet midCs
  rw [rowOf_blk h]
  exact blk_setRow h
theorem midSet_keeps {S : Nat → Prop} {a b : World} (h : Keeps S a b) {g : Nat} (hg : g < a.heap.size → S g) (o : Nat) (H : Array Value) : Keeps S a (midSet b g o H) := h.setRow hg _
theorem midCs_size {cs H : Array Value} {o : Nat} (h : o + H.size ≤ cs.size) : (midCs cs H o).size = cs.size := by
  unfold midCs
  simp
  omega
theorem midCs_low {cs H : Array Value} {o i : Nat} (h : o + H.size ≤ cs.size) (hi : i < o) : (midCs cs H o)[i]? = cs[i]? := by
  unfold midCs
  rw [List.getElem?_toArray, List.append_assoc, List.getElem?_append_left (by simp; omega), List.getElem?_take, if_pos hi, Array.getElem?_toList]
theorem midCs_mid {cs H : Array Value} {o j : Nat} (h : o + H.size ≤ cs.size) (hj : j < H.size) : (midCs cs H o)[o + j]? = H[j]? := by
  unfold midCs
  have hl : (cs.toList.take o).length = o := by simp; omega
  rw [List.getElem?_toArray, List.append_assoc, List.getElem?_append_right (by omega), hl, Nat.add_sub_cancel_left, List.getElem?_append_left (by simpa using hj), Array.getElem?_toList]
theorem midCs_high {cs H : Array Value} {o i : Nat} (h : o + H.size ≤ cs.size) (hi : o + H.size ≤ i) : (midCs cs H o)[i]? = cs[i]? := by
  unfold midCs
  have hl : (cs.toList.take o).length = o := by simp; omega
  rw [List.getElem?_toArray, List.getElem?_append_right (by simp; omega), List.length_append, hl, Array.length_toList, List.getElem?_drop, Array.getElem?_toList, show o + H.size + (i - (o + H.size)) = i by omega]
theorem midCs_one {cs H : Array Value} {o : Nat} (h1 : cs.all (·.oneCell') = true) (h2 : H.all (·.oneCell') = true) : (midCs cs H o).all (·.oneCell') = true := by
  rw [Array.all_eq_true_iff_forall_mem] at *
  intro v hv
  unfold midCs at hv
  rw [List.mem_toArray, List.mem_append, List.mem_append] at hv
  rcases hv with (hv | hv) | hv
  · exact h1 v (by simpa using List.mem_of_mem_take hv)
  · exact h2 v (by simpa using hv)
  · exact h1 v (by simpa using List.mem_of_mem_drop hv)

theorem exec_store_mid {P : Program} (ty : TypeId) (n : Nat) (hi : (P.info? ty).map (·.size) = some n)
    (ρ : Operand → Value) (dst : Option Tmp) (x y : Operand) (ty' : TypeId) (pos : String) (af : Array Edge) (gd : Option (Nat × Bool)) (w : World) (h : midFitV w n (ρ x) = true) (hy : aggOk n (ρ y) = true) :
    (execOp ρ ⟨dst, .store ty x y, ty', pos, af, gd⟩).run P w = .ok .skip (midSetV w (ρ x) (aggOf (ρ y))) := by
  unfold midFitV at h
  split at h
  · rename_i g o hx
    unfold aggOk at hy
    split at hy
    · rename_i cs hyv
      simp only [Bool.and_eq_true, beq_iff_eq] at hy
      unfold midFit at h
      split at h
      · rename_i cur t fz hb
        simp only [Bool.and_eq_true, decide_eq_true_eq] at h
        obtain ⟨rfl, hs⟩ := h
        have hst := run_storeCells_at (P := P) g o t cs.toList 0 cur w hb (by simp; omega) (fun v hv => (Array.all_eq_true_iff_forall_mem.1 hy.2) v (by simpa using hv))
        have hsv : (storeVar ty ⟨g, o, none⟩ (.agg cs)).run P w = .ok () (midSet w g o cs) := by
          obtain ⟨i, hi1, hi2⟩ := Option.map_eq_some_iff.1 hi
          unfold midSet
          rw [rowOf_blk hb]
          simp only [Nat.add_zero, Array.length_toList] at hst
          simp [storeVar, sizeOf, typeInfo, hi1, hi2, hy.1, Value.cells, hst]
        unfold execOp
        simp only [hx, hyv, Instr.storeAt, Instr.sureAddr, Sem.run_bind, Sem.run_pure, Result.andThen_ok, hsv, midSetV, aggOf]
      · cases h
    · cases hy
  · cases h

end Go.Proofs.Ytjbcagbnagefcaa
