/- Package tree: two boxes, of which the second is stored into. -/
import Derived.Test.YtjbcagbnagefcaaTree12
namespace Go.Proofs.Ytjbcagbnagefcaa
open Go.RowKit

/-- Two boxes: the given one (of cells CA) and one made since w, which holds v. -/
def ValB2 (S : Nat → Prop) (w wN : World) (ga : Nat) (CA : Array Value) (gz : Nat) (v : ValD) : Prop := Keeps Nothing w wN ∧ w.heap.size ≤ gz ∧ ga ≠ gz ∧ Blk wN ga CA 44 ∧ ∃ cs : List Value, Blk wN gz cs.toArray 44 ∧ ValIs S w v cs
theorem ValB2.keeps {S : Nat → Prop} {w wN wM : World} {ga gz : Nat} {CA : Array Value} {v : ValD} (h : ValB2 S w wN ga CA gz v) (k : Keeps Nothing wN wM) : ValB2 S w wM ga CA gz v := by
  obtain ⟨K, hg, hn, BA, cs, BZ, hv⟩ := h
  exact ⟨K.trans k (fun _ h _ => h), hg, hn, k.blk BA (fun h => h), cs, k.blk BZ (fun h => h), hv⟩
theorem ValB2.cell {S : Nat → Prop} {w wN : World} {ga gz : Nat} {CA : Array Value} {v : ValD} (h : ValB2 S w wN ga CA gz v) (i : Nat) (hi : i < 15) : ∃ u, wN.cell? ⟨gz, i, none⟩ = some u := by
  obtain ⟨K, hg, hn, BA, cs, BZ, hv⟩ := h
  have hl : i < cs.length := by rw [hv.len]; exact hi
  exact ⟨cs[i], blk_cell BZ i (by rw [List.getElem?_toArray]; exact List.getElem?_eq_getElem hl)⟩
theorem ValB2.free {S : Nat → Prop} {w wN : World} {ga gz : Nat} {CA : Array Value} {v : ValD} (h : ValB2 S w wN ga CA gz v) (i : Nat) : wN.frozen? ⟨gz, i, none⟩ = false := by
  obtain ⟨K, hg, hn, BA, cs, BZ, hv⟩ := h
  exact blk_free BZ i
theorem ValB2.fit {S : Nat → Prop} {w wN : World} {ga gz : Nat} {CA : Array Value} {v : ValD} (h : ValB2 S w wN ga CA gz v) (i m : Nat) (hi : i + m ≤ 15) : midFit wN gz i m = true := by
  obtain ⟨K, hg, hn, BA, cs, BZ, hv⟩ := h
  exact midFit_blk BZ (by have := hv.len; simp; omega)
theorem ValB2.new {S : Nat → Prop} {w wb : World} {ga : Nat} {CA : Array Value} {v : ValD} {cs : List Value} (K : Keeps Nothing w wb) (BA : Blk wb ga CA 44) (hc : CA = cs.toArray) (hv : ValIs S w v cs) : ValB2 S w (wb.alloc (.cells CA 44)) ga CA wb.heap.size v := by
  have hga : ga < wb.heap.size := by
    obtain ⟨h, _⟩ := Array.getElem?_eq_some_iff.1 (show wb.heap[ga]? = some _ from BA)
    exact h
  exact ⟨K.alloc _, K.size, by omega, blk_alloc BA _, cs, by rw [← hc]; exact blk_new wb CA _, hv⟩
theorem ValB2.set_kind {S : Nat → Prop} {w wN : World} {ga gz : Nat} {CA : Array Value} {a_kind : Int} {a_a : OprD} {a_b : OprD} {a_op : Int} {a_place : PlD} {a_name : List UInt8} {a_names : List (List UInt8)} {a_args : List (OprD)} (h : ValB2 S w wN ga CA gz ⟨a_kind, a_a, a_b, a_op, a_place, a_name, a_names, a_args⟩) (v : Int) : ValB2 S w (wN.setCell ⟨gz, 0, none⟩ (.int .i64 v)) ga CA gz ⟨v, a_a, a_b, a_op, a_place, a_name, a_names, a_args⟩ := by
  obtain ⟨K, hg, hn, BA, cs, BZ, hv⟩ := h
  obtain ⟨c2, e2, v2⟩ := Val_set_kind hv v
  have b := blk_set BZ 0 (.int .i64 v)
  rw [e2] at b
  exact ⟨K.setCell (fun h => absurd h (Nat.not_lt.2 hg)) _, hg, hn, blk_other BA _ hn _, c2, b, v2⟩
theorem ValB2.set_a {S : Nat → Prop} {w wN : World} {ga gz : Nat} {CA : Array Value} {a_kind : Int} {a_a : OprD} {a_b : OprD} {a_op : Int} {a_place : PlD} {a_name : List UInt8} {a_names : List (List UInt8)} {a_args : List (OprD)} (h : ValB2 S w wN ga CA gz ⟨a_kind, a_a, a_b, a_op, a_place, a_name, a_names, a_args⟩) : ValB2 S w (midSet wN gz 1 #[.int .i64 0, .int .i64 0, .string ⟨#[]⟩, .slice none 0 0]) ga CA gz ⟨a_kind, zeroOpr, a_b, a_op, a_place, a_name, a_names, a_args⟩ := by
  obtain ⟨K, hg, hn, BA, cs, BZ, hv⟩ := h
  obtain ⟨c2, e2, v2⟩ := Val_set_a hv zeroOpr oprC (zeroOpr_is S w)
  have b := blk_midSet BZ 1 oprC.toArray
  rw [e2] at b
  exact ⟨midSet_keeps K (fun h => absurd h (Nat.not_lt.2 hg)) _ _, hg, hn, blk_setRow_other BA hn, c2, b, v2⟩
theorem ValB2.set_b {S : Nat → Prop} {w wN : World} {ga gz : Nat} {CA : Array Value} {a_kind : Int} {a_a : OprD} {a_b : OprD} {a_op : Int} {a_place : PlD} {a_name : List UInt8} {a_names : List (List UInt8)} {a_args : List (OprD)} (h : ValB2 S w wN ga CA gz ⟨a_kind, a_a, a_b, a_op, a_place, a_name, a_names, a_args⟩) : ValB2 S w (midSet wN gz 5 #[.int .i64 0, .int .i64 0, .string ⟨#[]⟩, .slice none 0 0]) ga CA gz ⟨a_kind, a_a, zeroOpr, a_op, a_place, a_name, a_names, a_args⟩ := by
  obtain ⟨K, hg, hn, BA, cs, BZ, hv⟩ := h
  obtain ⟨c2, e2, v2⟩ := Val_set_b hv zeroOpr oprC (zeroOpr_is S w)
  have b := blk_midSet BZ 5 oprC.toArray
  rw [e2] at b
  exact ⟨midSet_keeps K (fun h => absurd h (Nat.not_lt.2 hg)) _ _, hg, hn, blk_setRow_other BA hn, c2, b, v2⟩
theorem ValB2.set_op {S : Nat → Prop} {w wN : World} {ga gz : Nat} {CA : Array Value} {a_kind : Int} {a_a : OprD} {a_b : OprD} {a_op : Int} {a_place : PlD} {a_name : List UInt8} {a_names : List (List UInt8)} {a_args : List (OprD)} (h : ValB2 S w wN ga CA gz ⟨a_kind, a_a, a_b, a_op, a_place, a_name, a_names, a_args⟩) (v : Int) : ValB2 S w (wN.setCell ⟨gz, 9, none⟩ (.int .i64 v)) ga CA gz ⟨a_kind, a_a, a_b, v, a_place, a_name, a_names, a_args⟩ := by
  obtain ⟨K, hg, hn, BA, cs, BZ, hv⟩ := h
  obtain ⟨c2, e2, v2⟩ := Val_set_op hv v
  have b := blk_set BZ 9 (.int .i64 v)
  rw [e2] at b
  exact ⟨K.setCell (fun h => absurd h (Nat.not_lt.2 hg)) _, hg, hn, blk_other BA _ hn _, c2, b, v2⟩
theorem ValB2.set_place {S : Nat → Prop} {w wN : World} {ga gz : Nat} {CA : Array Value} {a_kind : Int} {a_a : OprD} {a_b : OprD} {a_op : Int} {a_place : PlD} {a_name : List UInt8} {a_names : List (List UInt8)} {a_args : List (OprD)} (h : ValB2 S w wN ga CA gz ⟨a_kind, a_a, a_b, a_op, a_place, a_name, a_names, a_args⟩) : ValB2 S w (midSet wN gz 10 #[.string ⟨#[]⟩, .slice none 0 0]) ga CA gz ⟨a_kind, a_a, a_b, a_op, zeroPl, a_name, a_names, a_args⟩ := by
  obtain ⟨K, hg, hn, BA, cs, BZ, hv⟩ := h
  obtain ⟨c2, e2, v2⟩ := Val_set_place hv zeroPl plC (zeroPl_is S w)
  have b := blk_midSet BZ 10 plC.toArray
  rw [e2] at b
  exact ⟨midSet_keeps K (fun h => absurd h (Nat.not_lt.2 hg)) _ _, hg, hn, blk_setRow_other BA hn, c2, b, v2⟩
theorem ValB2.set_name {S : Nat → Prop} {w wN : World} {ga gz : Nat} {CA : Array Value} {a_kind : Int} {a_a : OprD} {a_b : OprD} {a_op : Int} {a_place : PlD} {a_name : List UInt8} {a_names : List (List UInt8)} {a_args : List (OprD)} (h : ValB2 S w wN ga CA gz ⟨a_kind, a_a, a_b, a_op, a_place, a_name, a_names, a_args⟩)  : ValB2 S w (wN.setCell ⟨gz, 12, none⟩ (.string ⟨#[]⟩)) ga CA gz ⟨a_kind, a_a, a_b, a_op, a_place, [], a_names, a_args⟩ := by
  obtain ⟨K, hg, hn, BA, cs, BZ, hv⟩ := h
  obtain ⟨c2, e2, v2⟩ := Val_set_name hv 
  have b := blk_set BZ 12 (.string ⟨#[]⟩)
  rw [e2] at b
  exact ⟨K.setCell (fun h => absurd h (Nat.not_lt.2 hg)) _, hg, hn, blk_other BA _ hn _, c2, b, v2⟩
theorem ValB2.set_names {S : Nat → Prop} {w wN : World} {ga gz : Nat} {CA : Array Value} {a_kind : Int} {a_a : OprD} {a_b : OprD} {a_op : Int} {a_place : PlD} {a_name : List UInt8} {a_names : List (List UInt8)} {a_args : List (OprD)} (h : ValB2 S w wN ga CA gz ⟨a_kind, a_a, a_b, a_op, a_place, a_name, a_names, a_args⟩)  : ValB2 S w (wN.setCell ⟨gz, 13, none⟩ (.slice none 0 0)) ga CA gz ⟨a_kind, a_a, a_b, a_op, a_place, a_name, [], a_args⟩ := by
  obtain ⟨K, hg, hn, BA, cs, BZ, hv⟩ := h
  obtain ⟨c2, e2, v2⟩ := Val_set_names hv 
  have b := blk_set BZ 13 (.slice none 0 0)
  rw [e2] at b
  exact ⟨K.setCell (fun h => absurd h (Nat.not_lt.2 hg)) _, hg, hn, blk_other BA _ hn _, c2, b, v2⟩
theorem ValB2.set_args {S : Nat → Prop} {w wN : World} {ga gz : Nat} {CA : Array Value} {a_kind : Int} {a_a : OprD} {a_b : OprD} {a_op : Int} {a_place : PlD} {a_name : List UInt8} {a_names : List (List UInt8)} {a_args : List (OprD)} (h : ValB2 S w wN ga CA gz ⟨a_kind, a_a, a_b, a_op, a_place, a_name, a_names, a_args⟩)  : ValB2 S w (wN.setCell ⟨gz, 14, none⟩ (.slice none 0 0)) ga CA gz ⟨a_kind, a_a, a_b, a_op, a_place, a_name, a_names, []⟩ := by
  obtain ⟨K, hg, hn, BA, cs, BZ, hv⟩ := h
  obtain ⟨c2, e2, v2⟩ := Val_set_args hv 
  have b := blk_set BZ 14 (.slice none 0 0)
  rw [e2] at b
  exact ⟨K.setCell (fun h => absurd h (Nat.not_lt.2 hg)) _, hg, hn, blk_other BA _ hn _, c2, b, v2⟩

/-- Two boxes: the given one (of cells CA) and one made since w, which holds v. -/
def StB2 (S : Nat → Prop) (w wN : World) (ga : Nat) (CA : Array Value) (gz : Nat) (v : StD) : Prop := Keeps Nothing w wN ∧ w.heap.size ≤ gz ∧ ga ≠ gz ∧ Blk wN ga CA 46 ∧ ∃ cs : List Value, Blk wN gz cs.toArray 46 ∧ StIs S w v cs
theorem StB2.keeps {S : Nat → Prop} {w wN wM : World} {ga gz : Nat} {CA : Array Value} {v : StD} (h : StB2 S w wN ga CA gz v) (k : Keeps Nothing wN wM) : StB2 S w wM ga CA gz v := by
  obtain ⟨K, hg, hn, BA, cs, BZ, hv⟩ := h
  exact ⟨K.trans k (fun _ h _ => h), hg, hn, k.blk BA (fun h => h), cs, k.blk BZ (fun h => h), hv⟩
theorem StB2.cell {S : Nat → Prop} {w wN : World} {ga gz : Nat} {CA : Array Value} {v : StD} (h : StB2 S w wN ga CA gz v) (i : Nat) (hi : i < 32) : ∃ u, wN.cell? ⟨gz, i, none⟩ = some u := by
  obtain ⟨K, hg, hn, BA, cs, BZ, hv⟩ := h
  have hl : i < cs.length := by rw [hv.len]; exact hi
  exact ⟨cs[i], blk_cell BZ i (by rw [List.getElem?_toArray]; exact List.getElem?_eq_getElem hl)⟩
theorem StB2.free {S : Nat → Prop} {w wN : World} {ga gz : Nat} {CA : Array Value} {v : StD} (h : StB2 S w wN ga CA gz v) (i : Nat) : wN.frozen? ⟨gz, i, none⟩ = false := by
  obtain ⟨K, hg, hn, BA, cs, BZ, hv⟩ := h
  exact blk_free BZ i
theorem StB2.fit {S : Nat → Prop} {w wN : World} {ga gz : Nat} {CA : Array Value} {v : StD} (h : StB2 S w wN ga CA gz v) (i m : Nat) (hi : i + m ≤ 32) : midFit wN gz i m = true := by
  obtain ⟨K, hg, hn, BA, cs, BZ, hv⟩ := h
  exact midFit_blk BZ (by have := hv.len; simp; omega)
theorem StB2.new {S : Nat → Prop} {w wb : World} {ga : Nat} {CA : Array Value} {v : StD} {cs : List Value} (K : Keeps Nothing w wb) (BA : Blk wb ga CA 46) (hc : CA = cs.toArray) (hv : StIs S w v cs) : StB2 S w (wb.alloc (.cells CA 46)) ga CA wb.heap.size v := by
  have hga : ga < wb.heap.size := by
    obtain ⟨h, _⟩ := Array.getElem?_eq_some_iff.1 (show wb.heap[ga]? = some _ from BA)
    exact h
  exact ⟨K.alloc _, K.size, by omega, blk_alloc BA _, cs, by rw [← hc]; exact blk_new wb CA _, hv⟩
theorem StB2.set_kind {S : Nat → Prop} {w wN : World} {ga gz : Nat} {CA : Array Value} {a_kind : Int} {a_pos : Int} {a_mu : Bool} {a_name : List UInt8} {a_ty : TyD} {a_has : Bool} {a_place : PlD} {a_val : ValD} {a_cond : OprD} {a_thn : List (StD)} {a_els : List (StD)} (h : StB2 S w wN ga CA gz ⟨a_kind, a_pos, a_mu, a_name, a_ty, a_has, a_place, a_val, a_cond, a_thn, a_els⟩) (v : Int) : StB2 S w (wN.setCell ⟨gz, 0, none⟩ (.int .i64 v)) ga CA gz ⟨v, a_pos, a_mu, a_name, a_ty, a_has, a_place, a_val, a_cond, a_thn, a_els⟩ := by
  obtain ⟨K, hg, hn, BA, cs, BZ, hv⟩ := h
  obtain ⟨c2, e2, v2⟩ := St_set_kind hv v
  have b := blk_set BZ 0 (.int .i64 v)
  rw [e2] at b
  exact ⟨K.setCell (fun h => absurd h (Nat.not_lt.2 hg)) _, hg, hn, blk_other BA _ hn _, c2, b, v2⟩
theorem StB2.set_pos {S : Nat → Prop} {w wN : World} {ga gz : Nat} {CA : Array Value} {a_kind : Int} {a_pos : Int} {a_mu : Bool} {a_name : List UInt8} {a_ty : TyD} {a_has : Bool} {a_place : PlD} {a_val : ValD} {a_cond : OprD} {a_thn : List (StD)} {a_els : List (StD)} (h : StB2 S w wN ga CA gz ⟨a_kind, a_pos, a_mu, a_name, a_ty, a_has, a_place, a_val, a_cond, a_thn, a_els⟩) (v : Int) : StB2 S w (wN.setCell ⟨gz, 1, none⟩ (.int .i64 v)) ga CA gz ⟨a_kind, v, a_mu, a_name, a_ty, a_has, a_place, a_val, a_cond, a_thn, a_els⟩ := by
  obtain ⟨K, hg, hn, BA, cs, BZ, hv⟩ := h
  obtain ⟨c2, e2, v2⟩ := St_set_pos hv v
  have b := blk_set BZ 1 (.int .i64 v)
  rw [e2] at b
  exact ⟨K.setCell (fun h => absurd h (Nat.not_lt.2 hg)) _, hg, hn, blk_other BA _ hn _, c2, b, v2⟩
theorem StB2.set_mu {S : Nat → Prop} {w wN : World} {ga gz : Nat} {CA : Array Value} {a_kind : Int} {a_pos : Int} {a_mu : Bool} {a_name : List UInt8} {a_ty : TyD} {a_has : Bool} {a_place : PlD} {a_val : ValD} {a_cond : OprD} {a_thn : List (StD)} {a_els : List (StD)} (h : StB2 S w wN ga CA gz ⟨a_kind, a_pos, a_mu, a_name, a_ty, a_has, a_place, a_val, a_cond, a_thn, a_els⟩) (v : Bool) : StB2 S w (wN.setCell ⟨gz, 2, none⟩ (.bool v)) ga CA gz ⟨a_kind, a_pos, v, a_name, a_ty, a_has, a_place, a_val, a_cond, a_thn, a_els⟩ := by
  obtain ⟨K, hg, hn, BA, cs, BZ, hv⟩ := h
  obtain ⟨c2, e2, v2⟩ := St_set_mu hv v
  have b := blk_set BZ 2 (.bool v)
  rw [e2] at b
  exact ⟨K.setCell (fun h => absurd h (Nat.not_lt.2 hg)) _, hg, hn, blk_other BA _ hn _, c2, b, v2⟩
theorem StB2.set_name {S : Nat → Prop} {w wN : World} {ga gz : Nat} {CA : Array Value} {a_kind : Int} {a_pos : Int} {a_mu : Bool} {a_name : List UInt8} {a_ty : TyD} {a_has : Bool} {a_place : PlD} {a_val : ValD} {a_cond : OprD} {a_thn : List (StD)} {a_els : List (StD)} (h : StB2 S w wN ga CA gz ⟨a_kind, a_pos, a_mu, a_name, a_ty, a_has, a_place, a_val, a_cond, a_thn, a_els⟩)  : StB2 S w (wN.setCell ⟨gz, 3, none⟩ (.string ⟨#[]⟩)) ga CA gz ⟨a_kind, a_pos, a_mu, [], a_ty, a_has, a_place, a_val, a_cond, a_thn, a_els⟩ := by
  obtain ⟨K, hg, hn, BA, cs, BZ, hv⟩ := h
  obtain ⟨c2, e2, v2⟩ := St_set_name hv 
  have b := blk_set BZ 3 (.string ⟨#[]⟩)
  rw [e2] at b
  exact ⟨K.setCell (fun h => absurd h (Nat.not_lt.2 hg)) _, hg, hn, blk_other BA _ hn _, c2, b, v2⟩
theorem StB2.set_ty {S : Nat → Prop} {w wN : World} {ga gz : Nat} {CA : Array Value} {a_kind : Int} {a_pos : Int} {a_mu : Bool} {a_name : List UInt8} {a_ty : TyD} {a_has : Bool} {a_place : PlD} {a_val : ValD} {a_cond : OprD} {a_thn : List (StD)} {a_els : List (StD)} (h : StB2 S w wN ga CA gz ⟨a_kind, a_pos, a_mu, a_name, a_ty, a_has, a_place, a_val, a_cond, a_thn, a_els⟩) : StB2 S w (midSet wN gz 4 #[.int .i64 0, .string ⟨#[]⟩, .slice none 0 0, .slice none 0 0]) ga CA gz ⟨a_kind, a_pos, a_mu, a_name, zeroTy, a_has, a_place, a_val, a_cond, a_thn, a_els⟩ := by
  obtain ⟨K, hg, hn, BA, cs, BZ, hv⟩ := h
  obtain ⟨c2, e2, v2⟩ := St_set_ty hv zeroTy tyC (zeroTy_is S w)
  have b := blk_midSet BZ 4 tyC.toArray
  rw [e2] at b
  exact ⟨midSet_keeps K (fun h => absurd h (Nat.not_lt.2 hg)) _ _, hg, hn, blk_setRow_other BA hn, c2, b, v2⟩
theorem StB2.set_has {S : Nat → Prop} {w wN : World} {ga gz : Nat} {CA : Array Value} {a_kind : Int} {a_pos : Int} {a_mu : Bool} {a_name : List UInt8} {a_ty : TyD} {a_has : Bool} {a_place : PlD} {a_val : ValD} {a_cond : OprD} {a_thn : List (StD)} {a_els : List (StD)} (h : StB2 S w wN ga CA gz ⟨a_kind, a_pos, a_mu, a_name, a_ty, a_has, a_place, a_val, a_cond, a_thn, a_els⟩) (v : Bool) : StB2 S w (wN.setCell ⟨gz, 8, none⟩ (.bool v)) ga CA gz ⟨a_kind, a_pos, a_mu, a_name, a_ty, v, a_place, a_val, a_cond, a_thn, a_els⟩ := by
  obtain ⟨K, hg, hn, BA, cs, BZ, hv⟩ := h
  obtain ⟨c2, e2, v2⟩ := St_set_has hv v
  have b := blk_set BZ 8 (.bool v)
  rw [e2] at b
  exact ⟨K.setCell (fun h => absurd h (Nat.not_lt.2 hg)) _, hg, hn, blk_other BA _ hn _, c2, b, v2⟩
theorem StB2.set_place {S : Nat → Prop} {w wN : World} {ga gz : Nat} {CA : Array Value} {a_kind : Int} {a_pos : Int} {a_mu : Bool} {a_name : List UInt8} {a_ty : TyD} {a_has : Bool} {a_place : PlD} {a_val : ValD} {a_cond : OprD} {a_thn : List (StD)} {a_els : List (StD)} (h : StB2 S w wN ga CA gz ⟨a_kind, a_pos, a_mu, a_name, a_ty, a_has, a_place, a_val, a_cond, a_thn, a_els⟩) : StB2 S w (midSet wN gz 9 #[.string ⟨#[]⟩, .slice none 0 0]) ga CA gz ⟨a_kind, a_pos, a_mu, a_name, a_ty, a_has, zeroPl, a_val, a_cond, a_thn, a_els⟩ := by
  obtain ⟨K, hg, hn, BA, cs, BZ, hv⟩ := h
  obtain ⟨c2, e2, v2⟩ := St_set_place hv zeroPl plC (zeroPl_is S w)
  have b := blk_midSet BZ 9 plC.toArray
  rw [e2] at b
  exact ⟨midSet_keeps K (fun h => absurd h (Nat.not_lt.2 hg)) _ _, hg, hn, blk_setRow_other BA hn, c2, b, v2⟩
theorem StB2.set_val {S : Nat → Prop} {w wN : World} {ga gz : Nat} {CA : Array Value} {a_kind : Int} {a_pos : Int} {a_mu : Bool} {a_name : List UInt8} {a_ty : TyD} {a_has : Bool} {a_place : PlD} {a_val : ValD} {a_cond : OprD} {a_thn : List (StD)} {a_els : List (StD)} (h : StB2 S w wN ga CA gz ⟨a_kind, a_pos, a_mu, a_name, a_ty, a_has, a_place, a_val, a_cond, a_thn, a_els⟩) : StB2 S w (midSet wN gz 11 #[.int .i64 0, .int .i64 0, .int .i64 0, .string ⟨#[]⟩, .slice none 0 0, .int .i64 0, .int .i64 0, .string ⟨#[]⟩, .slice none 0 0, .int .i64 0, .string ⟨#[]⟩, .slice none 0 0, .string ⟨#[]⟩, .slice none 0 0, .slice none 0 0]) ga CA gz ⟨a_kind, a_pos, a_mu, a_name, a_ty, a_has, a_place, zeroVal, a_cond, a_thn, a_els⟩ := by
  obtain ⟨K, hg, hn, BA, cs, BZ, hv⟩ := h
  obtain ⟨c2, e2, v2⟩ := St_set_val hv zeroVal valC (zeroVal_is S w)
  have b := blk_midSet BZ 11 valC.toArray
  rw [e2] at b
  exact ⟨midSet_keeps K (fun h => absurd h (Nat.not_lt.2 hg)) _ _, hg, hn, blk_setRow_other BA hn, c2, b, v2⟩
theorem StB2.set_cond {S : Nat → Prop} {w wN : World} {ga gz : Nat} {CA : Array Value} {a_kind : Int} {a_pos : Int} {a_mu : Bool} {a_name : List UInt8} {a_ty : TyD} {a_has : Bool} {a_place : PlD} {a_val : ValD} {a_cond : OprD} {a_thn : List (StD)} {a_els : List (StD)} (h : StB2 S w wN ga CA gz ⟨a_kind, a_pos, a_mu, a_name, a_ty, a_has, a_place, a_val, a_cond, a_thn, a_els⟩) : StB2 S w (midSet wN gz 26 #[.int .i64 0, .int .i64 0, .string ⟨#[]⟩, .slice none 0 0]) ga CA gz ⟨a_kind, a_pos, a_mu, a_name, a_ty, a_has, a_place, a_val, zeroOpr, a_thn, a_els⟩ := by
  obtain ⟨K, hg, hn, BA, cs, BZ, hv⟩ := h
  obtain ⟨c2, e2, v2⟩ := St_set_cond hv zeroOpr oprC (zeroOpr_is S w)
  have b := blk_midSet BZ 26 oprC.toArray
  rw [e2] at b
  exact ⟨midSet_keeps K (fun h => absurd h (Nat.not_lt.2 hg)) _ _, hg, hn, blk_setRow_other BA hn, c2, b, v2⟩
theorem StB2.set_thn {S : Nat → Prop} {w wN : World} {ga gz : Nat} {CA : Array Value} {a_kind : Int} {a_pos : Int} {a_mu : Bool} {a_name : List UInt8} {a_ty : TyD} {a_has : Bool} {a_place : PlD} {a_val : ValD} {a_cond : OprD} {a_thn : List (StD)} {a_els : List (StD)} (h : StB2 S w wN ga CA gz ⟨a_kind, a_pos, a_mu, a_name, a_ty, a_has, a_place, a_val, a_cond, a_thn, a_els⟩)  : StB2 S w (wN.setCell ⟨gz, 30, none⟩ (.slice none 0 0)) ga CA gz ⟨a_kind, a_pos, a_mu, a_name, a_ty, a_has, a_place, a_val, a_cond, [], a_els⟩ := by
  obtain ⟨K, hg, hn, BA, cs, BZ, hv⟩ := h
  obtain ⟨c2, e2, v2⟩ := St_set_thn hv 
  have b := blk_set BZ 30 (.slice none 0 0)
  rw [e2] at b
  exact ⟨K.setCell (fun h => absurd h (Nat.not_lt.2 hg)) _, hg, hn, blk_other BA _ hn _, c2, b, v2⟩
theorem StB2.set_els {S : Nat → Prop} {w wN : World} {ga gz : Nat} {CA : Array Value} {a_kind : Int} {a_pos : Int} {a_mu : Bool} {a_name : List UInt8} {a_ty : TyD} {a_has : Bool} {a_place : PlD} {a_val : ValD} {a_cond : OprD} {a_thn : List (StD)} {a_els : List (StD)} (h : StB2 S w wN ga CA gz ⟨a_kind, a_pos, a_mu, a_name, a_ty, a_has, a_place, a_val, a_cond, a_thn, a_els⟩)  : StB2 S w (wN.setCell ⟨gz, 31, none⟩ (.slice none 0 0)) ga CA gz ⟨a_kind, a_pos, a_mu, a_name, a_ty, a_has, a_place, a_val, a_cond, a_thn, []⟩ := by
  obtain ⟨K, hg, hn, BA, cs, BZ, hv⟩ := h
  obtain ⟨c2, e2, v2⟩ := St_set_els hv 
  have b := blk_set BZ 31 (.slice none 0 0)
  rw [e2] at b
  exact ⟨K.setCell (fun h => absurd h (Nat.not_lt.2 hg)) _, hg, hn, blk_other BA _ hn _, c2, b, v2⟩

end Go.Proofs.Ytjbcagbnagefcaa
