/- Plain and memory: all that was written, one thing at a time; a local variable that holds a whole Op. -/
import Derived.Test.YteifmkfkekglpaaDoorShortP2
import Derived.Test.YteifmkfkekglpaaDoorHashEq
import Derived.Deep.WholeRow
namespace Go.Proofs.YteifmkfkekglpaaDoor
open Go.RowKit

/-- All the bytes. -/
def encAll (l : List OpD) : List UInt8 := (l.map encOp).flatten

theorem encAll_nil : encAll [] = [] := rfl
theorem encAll_snoc {l : List OpD} {i : Nat} {o : OpD} (h : l[i]? = some o) : encAll (l.take (i + 1)) = encAll (l.take i) ++ encOp o := by
  unfold encAll
  rw [List.take_add_one, h]
  simp

theorem encAll_drop {l : List OpD} {i m : Nat} {o : OpD} (h : l[i]? = some o) (hm : i < m) : ∃ rest, (encAll (l.take m)).drop (encAll (l.take i)).length = encOp o ++ rest := by
  have hi : i < l.length := (List.getElem?_eq_some_iff.1 h).1
  have ho : l[i] = o := (List.getElem?_eq_some_iff.1 h).2
  have e : l.take m = l.take i ++ (l.take m).drop i := by
    conv => lhs; rw [← List.take_append_drop i (l.take m)]
    rw [List.take_take, Nat.min_eq_left (by omega)]
  have hd : (l.take m).drop i = o :: (l.take m).drop (i + 1) := by
    rw [List.drop_eq_getElem_cons (by rw [List.length_take]; omega), List.getElem_take, ho]
  have e2 : l.take m = l.take i ++ o :: (l.take m).drop (i + 1) := by rw [← hd]; exact e
  generalize (l.take m).drop (i + 1) = R at e2
  refine ⟨encAll R, ?_⟩
  rw [e2]
  unfold encAll
  rw [List.map_append, List.flatten_append, List.map_cons, List.flatten_cons, List.drop_left]

theorem opCells_one (o : OpD) : (opCells o).toArray.all (·.oneCell') = true := by
  rw [← Array.all_toList, List.all_eq_true]
  intro v hv
  unfold opCells at hv
  simp only [List.mem_append, List.mem_cons, List.mem_nil_iff, or_false, List.mem_map] at hv
  rcases hv with (rfl | rfl | rfl | rfl | rfl | rfl) | ⟨x, _, rfl⟩ <;> rfl

/-- What a block of an Op holds: its cells. -/
structure OpBox (w : World) (g off : Nat) (C : Array Value) (o : OpD) : Prop where
  cells : C = (opCells o).toArray
  ok : midOk w g off 38 = true
  of : midOf w g off 38 = C
  okH : midOk w g (off + 6) 32 = true
  ofH : midOf w g (off + 6) 32 = (o.h.map byteV).toArray
  c0 : w.cell? ⟨g, off, none⟩ = some (.int .i64 o.kind)
  c1 : w.cell? ⟨g, off + 1, none⟩ = some (.int .i64 o.n)
  c2 : w.cell? ⟨g, off + 2, none⟩ = some (.int .i64 o.most)
  c3 : w.cell? ⟨g, off + 3, none⟩ = some (.int .u64 o.v)
  c4 : w.cell? ⟨g, off + 4, none⟩ = some (.bool o.b)
  c5 : w.cell? ⟨g, off + 5, none⟩ = some (.string o.s)

theorem opBox {w : World} {g off : Nat} {o : OpD} (ho : o.Fit) (h : w.rangeAt g off (opCells o)) : OpBox w g off (opCells o).toArray o := by
  have h32 := ho.h32
  have hl := opCells_length o h32
  have k := midOk_range h
  have f := midOf_range h
  rw [hl] at k f
  have hs : w.rangeAt g (off + 6) (o.h.map byteV) := rangeAt_sub h (k := 6) fun j v hj => by
    unfold opCells
    rw [List.getElem?_append_right (by simp)]
    simpa using hj
  have hk := midOk_range hs
  have hf := midOf_range hs
  rw [List.length_map, h32] at hk hf
  exact ⟨rfl, k, f, hk, hf, by have := h 0 _ rfl; exact this, h 1 _ rfl, h 2 _ rfl, h 3 _ rfl, h 4 _ rfl, h 5 _ rfl⟩

theorem opBox_blk {w : World} {g : Nat} {o : OpD} {t : TypeId} (ho : o.Fit) (h : Blk w g (opCells o).toArray t) : OpBox w g 0 (opCells o).toArray o := opBox ho (rangeAt_blk h)

theorem OpBox.keeps {S : Nat → Prop} {w w' : World} {g off : Nat} {C : Array Value} {o : OpD} (h : OpBox w g off C o) (hk : Keeps S w w') (hg : ¬ S g) (ho : o.Fit) : OpBox w' g off C o := by
  have hr := range_midOk h.ok
  rw [h.of, h.cells] at hr
  have := rangeAt_keeps (cs := opCells o) hr hk hg
  rw [h.cells]
  exact opBox ho this

theorem OpBox.lits {w : World} {g : Nat} {C : Array Value} {o : OpD} (h : OpBox w g 0 C o) : w.cell? ⟨g, 0, none⟩ = some (.int .i64 o.kind) ∧ w.cell? ⟨g, 1, none⟩ = some (.int .i64 o.n) ∧ w.cell? ⟨g, 2, none⟩ = some (.int .i64 o.most) ∧ w.cell? ⟨g, 3, none⟩ = some (.int .u64 o.v) ∧
    w.cell? ⟨g, 4, none⟩ = some (.bool o.b) ∧ w.cell? ⟨g, 5, none⟩ = some (.string o.s) ∧ midOk w g 6 32 = true ∧ midOf w g 6 32 = (o.h.map byteV).toArray :=
  ⟨h.c0, h.c1, h.c2, h.c3, h.c4, h.c5, h.okH, h.ofH⟩

theorem mid_new (w : World) {H : Array Value} {n : Nat} (h : H.size = n) (t : TypeId) : midOk (w.alloc (.cells H t)) w.heap.size 0 n = true ∧ midOf (w.alloc (.cells H t)) w.heap.size 0 n = H := by
  have hr := rangeAt_blk (cs := H.toList) (blk_new w H t)
  have a := midOk_range hr
  have b := midOf_range hr
  rw [Array.length_toList, h] at a b
  exact ⟨a, b⟩
theorem mid_old {w : World} {g off n : Nat} {H : Array Value} (h1 : midOk w g off n = true) (h2 : midOf w g off n = H) (hs : H.size = n) (o : Obj) : midOk (w.alloc o) g off n = true ∧ midOf (w.alloc o) g off n = H := by
  have hr := range_midOk h1
  rw [h2] at hr
  have hr2 := rangeAt_keeps (S := Nothing) hr ((Keeps.refl _ _).alloc o) (fun h => h)
  have a := midOk_range hr2
  have b := midOf_range hr2
  rw [Array.length_toList, hs] at a b
  exact ⟨a, b⟩

theorem decB_enc (b : Bool) (rest : List UInt8) : decBool (encB b ++ rest) = (0, b, (encB b).length) := decBool_enc b rest

/-- The address, once there is something. -/
theorem ops_head {w : World} {ao : Option Addr} {ops : List OpD} (h : OpsAt w ao ops) {i : Nat} {o : OpD} (hi : ops[i]? = some o) : ∃ b off, ao = some ⟨b, off, none⟩ ∧ o.Fit ∧ w.rangeAt b (off + i * 38) (opCells o) := by
  cases ao with
  | none => have := h.1 rfl; subst this; simp at hi
  | some a =>
    obtain ⟨hf, hs, hr⟩ := h.2 a rfl i o hi
    obtain ⟨b, off, s⟩ := a
    simp only at hs
    subst hs
    exact ⟨b, off, rfl, hf, hr⟩

end Go.Proofs.YteifmkfkekglpaaDoor
