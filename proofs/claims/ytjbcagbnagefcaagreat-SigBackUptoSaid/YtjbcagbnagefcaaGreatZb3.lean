/- Tree12 Tree13 -/
import Derived.Test.YtjbcagbnagefcaaGreatZb2
namespace Go.Proofs.YtjbcagbnagefcaaGreat
open Go.RowKit
theorem list2 {l : List Value} (h : l.length = 2) : ∃ x0 x1, l = [x0, x1] := by
 match l, h with
 | [x0, x1], _ => exact ⟨x0, x1, rfl⟩
theorem list4 {l : List Value} (h : l.length = 4) : ∃ x0 x1 x2 x3, l = [x0, x1, x2, x3] := by
 match l, h with
 | [x0, x1, x2, x3], _ => exact ⟨x0, x1, x2, x3, rfl⟩
theorem list15 {l : List Value} (h : l.length = 15) : ∃ x0 x1 x2 x3 x4 x5 x6 x7 x8 x9 x10 x11 x12 x13 x14, l = [x0, x1, x2, x3, x4, x5, x6, x7, x8, x9, x10, x11, x12, x13, x14] := by
 match l, h with
 | [x0, x1, x2, x3, x4, x5, x6, x7, x8, x9, x10, x11, x12, x13, x14], _ => exact ⟨x0, x1, x2, x3, x4, x5, x6, x7, x8, x9, x10, x11, x12, x13, x14, rfl⟩
theorem Val_set_kind {S : Nat → Prop} {w : World} {a_kind : Int} {a_a : OprD} {a_b : OprD} {a_op : Int} {a_place : PlD} {a_name : List UInt8} {a_names : List (List UInt8)} {a_args : List (OprD)} {cs : List Value} (h : ValIs S w ⟨a_kind, a_a, a_b, a_op, a_place, a_name, a_names, a_args⟩ cs) (v : Int) : ∃ cs2, cs.toArray.setIfInBounds 0 (.int .i64 v) = List.toArray cs2 ∧ ValIs S w ⟨v, a_a, a_b, a_op, a_place, a_name, a_names, a_args⟩ cs2 := by
 obtain ⟨s1, s5, s10, p13, q13, p14, q14, hcs, ah_a, ah_b, ah_place, ah_name, ah_names, ah_args⟩ := h
 simp only at hcs ah_a ah_b ah_place ah_name ah_names ah_args
 obtain ⟨x1_0, x1_1, x1_2, x1_3, rfl⟩ := list4 ah_a.len
 obtain ⟨x5_0, x5_1, x5_2, x5_3, rfl⟩ := list4 ah_b.len
 obtain ⟨x10_0, x10_1, rfl⟩ := list2 ah_place.len
 subst hcs
 refine ⟨[.int .i64 v] ++ [x1_0, x1_1, x1_2, x1_3] ++ [x5_0, x5_1, x5_2, x5_3] ++ [.int .i64 a_op] ++ [x10_0, x10_1] ++ [txV a_name, .slice p13 a_names.length q13, .slice p14 a_args.length q14], rfl, ?_⟩
 exact ⟨[x1_0, x1_1, x1_2, x1_3], [x5_0, x5_1, x5_2, x5_3], [x10_0, x10_1], p13, q13, p14, q14, rfl, ah_a, ah_b, ah_place, ah_name, ah_names, ah_args⟩
theorem Val_set_a {S : Nat → Prop} {w : World} {a_kind : Int} {a_a : OprD} {a_b : OprD} {a_op : Int} {a_place : PlD} {a_name : List UInt8} {a_names : List (List UInt8)} {a_args : List (OprD)} {cs : List Value} (h : ValIs S w ⟨a_kind, a_a, a_b, a_op, a_place, a_name, a_names, a_args⟩ cs) (v : OprD) (H : List Value) (hv : OprIs S w v H) : ∃ cs2, midCs cs.toArray H.toArray 1 = List.toArray cs2 ∧ ValIs S w ⟨a_kind, v, a_b, a_op, a_place, a_name, a_names, a_args⟩ cs2 := by
 obtain ⟨s1, s5, s10, p13, q13, p14, q14, hcs, ah_a, ah_b, ah_place, ah_name, ah_names, ah_args⟩ := h
 simp only at hcs ah_a ah_b ah_place ah_name ah_names ah_args
 obtain ⟨x1_0, x1_1, x1_2, x1_3, rfl⟩ := list4 ah_a.len
 obtain ⟨x5_0, x5_1, x5_2, x5_3, rfl⟩ := list4 ah_b.len
 obtain ⟨x10_0, x10_1, rfl⟩ := list2 ah_place.len
 obtain ⟨y_0, y_1, y_2, y_3, rfl⟩ := list4 hv.len
 subst hcs
 refine ⟨[.int .i64 a_kind] ++ [y_0, y_1, y_2, y_3] ++ [x5_0, x5_1, x5_2, x5_3] ++ [.int .i64 a_op] ++ [x10_0, x10_1] ++ [txV a_name, .slice p13 a_names.length q13, .slice p14 a_args.length q14], rfl, ?_⟩
 exact ⟨[y_0, y_1, y_2, y_3], [x5_0, x5_1, x5_2, x5_3], [x10_0, x10_1], p13, q13, p14, q14, rfl, hv, ah_b, ah_place, ah_name, ah_names, ah_args⟩
theorem Val_set_b {S : Nat → Prop} {w : World} {a_kind : Int} {a_a : OprD} {a_b : OprD} {a_op : Int} {a_place : PlD} {a_name : List UInt8} {a_names : List (List UInt8)} {a_args : List (OprD)} {cs : List Value} (h : ValIs S w ⟨a_kind, a_a, a_b, a_op, a_place, a_name, a_names, a_args⟩ cs) (v : OprD) (H : List Value) (hv : OprIs S w v H) : ∃ cs2, midCs cs.toArray H.toArray 5 = List.toArray cs2 ∧ ValIs S w ⟨a_kind, a_a, v, a_op, a_place, a_name, a_names, a_args⟩ cs2 := by
 obtain ⟨s1, s5, s10, p13, q13, p14, q14, hcs, ah_a, ah_b, ah_place, ah_name, ah_names, ah_args⟩ := h
 simp only at hcs ah_a ah_b ah_place ah_name ah_names ah_args
 obtain ⟨x1_0, x1_1, x1_2, x1_3, rfl⟩ := list4 ah_a.len
 obtain ⟨x5_0, x5_1, x5_2, x5_3, rfl⟩ := list4 ah_b.len
 obtain ⟨x10_0, x10_1, rfl⟩ := list2 ah_place.len
 obtain ⟨y_0, y_1, y_2, y_3, rfl⟩ := list4 hv.len
 subst hcs
 refine ⟨[.int .i64 a_kind] ++ [x1_0, x1_1, x1_2, x1_3] ++ [y_0, y_1, y_2, y_3] ++ [.int .i64 a_op] ++ [x10_0, x10_1] ++ [txV a_name, .slice p13 a_names.length q13, .slice p14 a_args.length q14], rfl, ?_⟩
 exact ⟨[x1_0, x1_1, x1_2, x1_3], [y_0, y_1, y_2, y_3], [x10_0, x10_1], p13, q13, p14, q14, rfl, ah_a, hv, ah_place, ah_name, ah_names, ah_args⟩
theorem Val_set_op {S : Nat → Prop} {w : World} {a_kind : Int} {a_a : OprD} {a_b : OprD} {a_op : Int} {a_place : PlD} {a_name : List UInt8} {a_names : List (List UInt8)} {a_args : List (OprD)} {cs : List Value} (h : ValIs S w ⟨a_kind, a_a, a_b, a_op, a_place, a_name, a_names, a_args⟩ cs) (v : Int) : ∃ cs2, cs.toArray.setIfInBounds 9 (.int .i64 v) = List.toArray cs2 ∧ ValIs S w ⟨a_kind, a_a, a_b, v, a_place, a_name, a_names, a_args⟩ cs2 := by
 obtain ⟨s1, s5, s10, p13, q13, p14, q14, hcs, ah_a, ah_b, ah_place, ah_name, ah_names, ah_args⟩ := h
 simp only at hcs ah_a ah_b ah_place ah_name ah_names ah_args
 obtain ⟨x1_0, x1_1, x1_2, x1_3, rfl⟩ := list4 ah_a.len
 obtain ⟨x5_0, x5_1, x5_2, x5_3, rfl⟩ := list4 ah_b.len
 obtain ⟨x10_0, x10_1, rfl⟩ := list2 ah_place.len
 subst hcs
 refine ⟨[.int .i64 a_kind] ++ [x1_0, x1_1, x1_2, x1_3] ++ [x5_0, x5_1, x5_2, x5_3] ++ [.int .i64 v] ++ [x10_0, x10_1] ++ [txV a_name, .slice p13 a_names.length q13, .slice p14 a_args.length q14], rfl, ?_⟩
 exact ⟨[x1_0, x1_1, x1_2, x1_3], [x5_0, x5_1, x5_2, x5_3], [x10_0, x10_1], p13, q13, p14, q14, rfl, ah_a, ah_b, ah_place, ah_name, ah_names, ah_args⟩
theorem Val_set_place {S : Nat → Prop} {w : World} {a_kind : Int} {a_a : OprD} {a_b : OprD} {a_op : Int} {a_place : PlD} {a_name : List UInt8} {a_names : List (List UInt8)} {a_args : List (OprD)} {cs : List Value} (h : ValIs S w ⟨a_kind, a_a, a_b, a_op, a_place, a_name, a_names, a_args⟩ cs) (v : PlD) (H : List Value) (hv : PlIs S w v H) : ∃ cs2, midCs cs.toArray H.toArray 10 = List.toArray cs2 ∧ ValIs S w ⟨a_kind, a_a, a_b, a_op, v, a_name, a_names, a_args⟩ cs2 := by
 obtain ⟨s1, s5, s10, p13, q13, p14, q14, hcs, ah_a, ah_b, ah_place, ah_name, ah_names, ah_args⟩ := h
 simp only at hcs ah_a ah_b ah_place ah_name ah_names ah_args
 obtain ⟨x1_0, x1_1, x1_2, x1_3, rfl⟩ := list4 ah_a.len
 obtain ⟨x5_0, x5_1, x5_2, x5_3, rfl⟩ := list4 ah_b.len
 obtain ⟨x10_0, x10_1, rfl⟩ := list2 ah_place.len
 obtain ⟨y_0, y_1, rfl⟩ := list2 hv.len
 subst hcs
 refine ⟨[.int .i64 a_kind] ++ [x1_0, x1_1, x1_2, x1_3] ++ [x5_0, x5_1, x5_2, x5_3] ++ [.int .i64 a_op] ++ [y_0, y_1] ++ [txV a_name, .slice p13 a_names.length q13, .slice p14 a_args.length q14], rfl, ?_⟩
 exact ⟨[x1_0, x1_1, x1_2, x1_3], [x5_0, x5_1, x5_2, x5_3], [y_0, y_1], p13, q13, p14, q14, rfl, ah_a, ah_b, hv, ah_name, ah_names, ah_args⟩
theorem Val_set_name {S : Nat → Prop} {w : World} {a_kind : Int} {a_a : OprD} {a_b : OprD} {a_op : Int} {a_place : PlD} {a_name : List UInt8} {a_names : List (List UInt8)} {a_args : List (OprD)} {cs : List Value} (h : ValIs S w ⟨a_kind, a_a, a_b, a_op, a_place, a_name, a_names, a_args⟩ cs)  : ∃ cs2, cs.toArray.setIfInBounds 12 (.string ⟨#[]⟩) = List.toArray cs2 ∧ ValIs S w ⟨a_kind, a_a, a_b, a_op, a_place, [], a_names, a_args⟩ cs2 := by
 obtain ⟨s1, s5, s10, p13, q13, p14, q14, hcs, ah_a, ah_b, ah_place, ah_name, ah_names, ah_args⟩ := h
 simp only at hcs ah_a ah_b ah_place ah_name ah_names ah_args
 obtain ⟨x1_0, x1_1, x1_2, x1_3, rfl⟩ := list4 ah_a.len
 obtain ⟨x5_0, x5_1, x5_2, x5_3, rfl⟩ := list4 ah_b.len
 obtain ⟨x10_0, x10_1, rfl⟩ := list2 ah_place.len
 subst hcs
 refine ⟨[.int .i64 a_kind] ++ [x1_0, x1_1, x1_2, x1_3] ++ [x5_0, x5_1, x5_2, x5_3] ++ [.int .i64 a_op] ++ [x10_0, x10_1] ++ [txV [], .slice p13 a_names.length q13, .slice p14 a_args.length q14], rfl, ?_⟩
 exact ⟨[x1_0, x1_1, x1_2, x1_3], [x5_0, x5_1, x5_2, x5_3], [x10_0, x10_1], p13, q13, p14, q14, rfl, ah_a, ah_b, ah_place, Nat.zero_le _, ah_names, ah_args⟩
theorem Val_set_names {S : Nat → Prop} {w : World} {a_kind : Int} {a_a : OprD} {a_b : OprD} {a_op : Int} {a_place : PlD} {a_name : List UInt8} {a_names : List (List UInt8)} {a_args : List (OprD)} {cs : List Value} (h : ValIs S w ⟨a_kind, a_a, a_b, a_op, a_place, a_name, a_names, a_args⟩ cs)  : ∃ cs2, cs.toArray.setIfInBounds 13 (.slice none 0 0) = List.toArray cs2 ∧ ValIs S w ⟨a_kind, a_a, a_b, a_op, a_place, a_name, [], a_args⟩ cs2 := by
 obtain ⟨s1, s5, s10, p13, q13, p14, q14, hcs, ah_a, ah_b, ah_place, ah_name, ah_names, ah_args⟩ := h
 simp only at hcs ah_a ah_b ah_place ah_name ah_names ah_args
 obtain ⟨x1_0, x1_1, x1_2, x1_3, rfl⟩ := list4 ah_a.len
 obtain ⟨x5_0, x5_1, x5_2, x5_3, rfl⟩ := list4 ah_b.len
 obtain ⟨x10_0, x10_1, rfl⟩ := list2 ah_place.len
 subst hcs
 refine ⟨[.int .i64 a_kind] ++ [x1_0, x1_1, x1_2, x1_3] ++ [x5_0, x5_1, x5_2, x5_3] ++ [.int .i64 a_op] ++ [x10_0, x10_1] ++ [txV a_name, .slice none 0 0, .slice p14 a_args.length q14], rfl, ?_⟩
 exact ⟨[x1_0, x1_1, x1_2, x1_3], [x5_0, x5_1, x5_2, x5_3], [x10_0, x10_1], none, 0, p14, q14, rfl, ah_a, ah_b, ah_place, ah_name, slIs_nil _ _ _ _ _, ah_args⟩
theorem Val_set_args {S : Nat → Prop} {w : World} {a_kind : Int} {a_a : OprD} {a_b : OprD} {a_op : Int} {a_place : PlD} {a_name : List UInt8} {a_names : List (List UInt8)} {a_args : List (OprD)} {cs : List Value} (h : ValIs S w ⟨a_kind, a_a, a_b, a_op, a_place, a_name, a_names, a_args⟩ cs)  : ∃ cs2, cs.toArray.setIfInBounds 14 (.slice none 0 0) = List.toArray cs2 ∧ ValIs S w ⟨a_kind, a_a, a_b, a_op, a_place, a_name, a_names, []⟩ cs2 := by
 obtain ⟨s1, s5, s10, p13, q13, p14, q14, hcs, ah_a, ah_b, ah_place, ah_name, ah_names, ah_args⟩ := h
 simp only at hcs ah_a ah_b ah_place ah_name ah_names ah_args
 obtain ⟨x1_0, x1_1, x1_2, x1_3, rfl⟩ := list4 ah_a.len
 obtain ⟨x5_0, x5_1, x5_2, x5_3, rfl⟩ := list4 ah_b.len
 obtain ⟨x10_0, x10_1, rfl⟩ := list2 ah_place.len
 subst hcs
 refine ⟨[.int .i64 a_kind] ++ [x1_0, x1_1, x1_2, x1_3] ++ [x5_0, x5_1, x5_2, x5_3] ++ [.int .i64 a_op] ++ [x10_0, x10_1] ++ [txV a_name, .slice p13 a_names.length q13, .slice none 0 0], rfl, ?_⟩
 exact ⟨[x1_0, x1_1, x1_2, x1_3], [x5_0, x5_1, x5_2, x5_3], [x10_0, x10_1], p13, q13, none, 0, rfl, ah_a, ah_b, ah_place, ah_name, ah_names, slIs_nil _ _ _ _ _⟩
theorem St_set_kind {S : Nat → Prop} {w : World} {a_kind : Int} {a_pos : Int} {a_mu : Bool} {a_name : List UInt8} {a_ty : TyD} {a_has : Bool} {a_place : PlD} {a_val : ValD} {a_cond : OprD} {a_thn : List (StD)} {a_els : List (StD)} {cs : List Value} (h : StIs S w ⟨a_kind, a_pos, a_mu, a_name, a_ty, a_has, a_place, a_val, a_cond, a_thn, a_els⟩ cs) (v : Int) : ∃ cs2, cs.toArray.setIfInBounds 0 (.int .i64 v) = List.toArray cs2 ∧ StIs S w ⟨v, a_pos, a_mu, a_name, a_ty, a_has, a_place, a_val, a_cond, a_thn, a_els⟩ cs2 := by
 rw [stIs_iff] at h
 obtain ⟨s4, s9, s11, s26, p30, q30, p31, q31, hcs, ah_name, ah_ty, ah_place, ah_val, ah_cond, ah_thn, ah_els⟩ := h
 simp only [StD.kind, StD.pos, StD.mu, StD.name, StD.ty, StD.has, StD.place, StD.val, StD.cond, StD.thn, StD.els] at hcs ah_name ah_ty ah_place ah_val ah_cond ah_thn ah_els
 obtain ⟨x4_0, x4_1, x4_2, x4_3, rfl⟩ := list4 ah_ty.len
 obtain ⟨x9_0, x9_1, rfl⟩ := list2 ah_place.len
 obtain ⟨x11_0, x11_1, x11_2, x11_3, x11_4, x11_5, x11_6, x11_7, x11_8, x11_9, x11_10, x11_11, x11_12, x11_13, x11_14, rfl⟩ := list15 ah_val.len
 obtain ⟨x26_0, x26_1, x26_2, x26_3, rfl⟩ := list4 ah_cond.len
 subst hcs
 refine ⟨[.int .i64 v, .int .i64 a_pos, .bool a_mu, txV a_name] ++ [x4_0, x4_1, x4_2, x4_3] ++ [.bool a_has] ++ [x9_0, x9_1] ++ [x11_0, x11_1, x11_2, x11_3, x11_4, x11_5, x11_6, x11_7, x11_8, x11_9, x11_10, x11_11, x11_12, x11_13, x11_14] ++ [x26_0, x26_1, x26_2, x26_3] ++ [.slice p30 a_thn.length q30, .slice p31 a_els.length q31], rfl, ?_⟩
 rw [stIs_iff]
 exact ⟨[x4_0, x4_1, x4_2, x4_3], [x9_0, x9_1], [x11_0, x11_1, x11_2, x11_3, x11_4, x11_5, x11_6, x11_7, x11_8, x11_9, x11_10, x11_11, x11_12, x11_13, x11_14], [x26_0, x26_1, x26_2, x26_3], p30, q30, p31, q31, rfl, ah_name, ah_ty, ah_place, ah_val, ah_cond, ah_thn, ah_els⟩
theorem St_set_pos {S : Nat → Prop} {w : World} {a_kind : Int} {a_pos : Int} {a_mu : Bool} {a_name : List UInt8} {a_ty : TyD} {a_has : Bool} {a_place : PlD} {a_val : ValD} {a_cond : OprD} {a_thn : List (StD)} {a_els : List (StD)} {cs : List Value} (h : StIs S w ⟨a_kind, a_pos, a_mu, a_name, a_ty, a_has, a_place, a_val, a_cond, a_thn, a_els⟩ cs) (v : Int) : ∃ cs2, cs.toArray.setIfInBounds 1 (.int .i64 v) = List.toArray cs2 ∧ StIs S w ⟨a_kind, v, a_mu, a_name, a_ty, a_has, a_place, a_val, a_cond, a_thn, a_els⟩ cs2 := by
 rw [stIs_iff] at h
 obtain ⟨s4, s9, s11, s26, p30, q30, p31, q31, hcs, ah_name, ah_ty, ah_place, ah_val, ah_cond, ah_thn, ah_els⟩ := h
 simp only [StD.kind, StD.pos, StD.mu, StD.name, StD.ty, StD.has, StD.place, StD.val, StD.cond, StD.thn, StD.els] at hcs ah_name ah_ty ah_place ah_val ah_cond ah_thn ah_els
 obtain ⟨x4_0, x4_1, x4_2, x4_3, rfl⟩ := list4 ah_ty.len
 obtain ⟨x9_0, x9_1, rfl⟩ := list2 ah_place.len
 obtain ⟨x11_0, x11_1, x11_2, x11_3, x11_4, x11_5, x11_6, x11_7, x11_8, x11_9, x11_10, x11_11, x11_12, x11_13, x11_14, rfl⟩ := list15 ah_val.len
 obtain ⟨x26_0, x26_1, x26_2, x26_3, rfl⟩ := list4 ah_cond.len
 subst hcs
 refine ⟨[.int .i64 a_kind, .int .i64 v, .bool a_mu, txV a_name] ++ [x4_0, x4_1, x4_2, x4_3] ++ [.bool a_has] ++ [x9_0, x9_1] ++ [x11_0, x11_1, x11_2, x11_3, x11_4, x11_5, x11_6, x11_7, x11_8, x11_9, x11_10, x11_11, x11_12, x11_13, x11_14] ++ [x26_0, x26_1, x26_2, x26_3] ++ [.slice p30 a_thn.length q30, .slice p31 a_els.length q31], rfl, ?_⟩
 rw [stIs_iff]
 exact ⟨[x4_0, x4_1, x4_2, x4_3], [x9_0, x9_1], [x11_0, x11_1, x11_2, x11_3, x11_4, x11_5, x11_6, x11_7, x11_8, x11_9, x11_10, x11_11, x11_12, x11_13, x11_14], [x26_0, x26_1, x26_2, x26_3], p30, q30, p31, q31, rfl, ah_name, ah_ty, ah_place, ah_val, ah_cond, ah_thn, ah_els⟩
theorem St_set_mu {S : Nat → Prop} {w : World} {a_kind : Int} {a_pos : Int} {a_mu : Bool} {a_name : List UInt8} {a_ty : TyD} {a_has : Bool} {a_place : PlD} {a_val : ValD} {a_cond : OprD} {a_thn : List (StD)} {a_els : List (StD)} {cs : List Value} (h : StIs S w ⟨a_kind, a_pos, a_mu, a_name, a_ty, a_has, a_place, a_val, a_cond, a_thn, a_els⟩ cs) (v : Bool) : ∃ cs2, cs.toArray.setIfInBounds 2 (.bool v) = List.toArray cs2 ∧ StIs S w ⟨a_kind, a_pos, v, a_name, a_ty, a_has, a_place, a_val, a_cond, a_thn, a_els⟩ cs2 := by
 rw [stIs_iff] at h
 obtain ⟨s4, s9, s11, s26, p30, q30, p31, q31, hcs, ah_name, ah_ty, ah_place, ah_val, ah_cond, ah_thn, ah_els⟩ := h
 simp only [StD.kind, StD.pos, StD.mu, StD.name, StD.ty, StD.has, StD.place, StD.val, StD.cond, StD.thn, StD.els] at hcs ah_name ah_ty ah_place ah_val ah_cond ah_thn ah_els
 obtain ⟨x4_0, x4_1, x4_2, x4_3, rfl⟩ := list4 ah_ty.len
 obtain ⟨x9_0, x9_1, rfl⟩ := list2 ah_place.len
 obtain ⟨x11_0, x11_1, x11_2, x11_3, x11_4, x11_5, x11_6, x11_7, x11_8, x11_9, x11_10, x11_11, x11_12, x11_13, x11_14, rfl⟩ := list15 ah_val.len
 obtain ⟨x26_0, x26_1, x26_2, x26_3, rfl⟩ := list4 ah_cond.len
 subst hcs
 refine ⟨[.int .i64 a_kind, .int .i64 a_pos, .bool v, txV a_name] ++ [x4_0, x4_1, x4_2, x4_3] ++ [.bool a_has] ++ [x9_0, x9_1] ++ [x11_0, x11_1, x11_2, x11_3, x11_4, x11_5, x11_6, x11_7, x11_8, x11_9, x11_10, x11_11, x11_12, x11_13, x11_14] ++ [x26_0, x26_1, x26_2, x26_3] ++ [.slice p30 a_thn.length q30, .slice p31 a_els.length q31], rfl, ?_⟩
 rw [stIs_iff]
 exact ⟨[x4_0, x4_1, x4_2, x4_3], [x9_0, x9_1], [x11_0, x11_1, x11_2, x11_3, x11_4, x11_5, x11_6, x11_7, x11_8, x11_9, x11_10, x11_11, x11_12, x11_13, x11_14], [x26_0, x26_1, x26_2, x26_3], p30, q30, p31, q31, rfl, ah_name, ah_ty, ah_place, ah_val, ah_cond, ah_thn, ah_els⟩
theorem St_set_name {S : Nat → Prop} {w : World} {a_kind : Int} {a_pos : Int} {a_mu : Bool} {a_name : List UInt8} {a_ty : TyD} {a_has : Bool} {a_place : PlD} {a_val : ValD} {a_cond : OprD} {a_thn : List (StD)} {a_els : List (StD)} {cs : List Value} (h : StIs S w ⟨a_kind, a_pos, a_mu, a_name, a_ty, a_has, a_place, a_val, a_cond, a_thn, a_els⟩ cs)  : ∃ cs2, cs.toArray.setIfInBounds 3 (.string ⟨#[]⟩) = List.toArray cs2 ∧ StIs S w ⟨a_kind, a_pos, a_mu, [], a_ty, a_has, a_place, a_val, a_cond, a_thn, a_els⟩ cs2 := by
 rw [stIs_iff] at h
 obtain ⟨s4, s9, s11, s26, p30, q30, p31, q31, hcs, ah_name, ah_ty, ah_place, ah_val, ah_cond, ah_thn, ah_els⟩ := h
 simp only [StD.kind, StD.pos, StD.mu, StD.name, StD.ty, StD.has, StD.place, StD.val, StD.cond, StD.thn, StD.els] at hcs ah_name ah_ty ah_place ah_val ah_cond ah_thn ah_els
 obtain ⟨x4_0, x4_1, x4_2, x4_3, rfl⟩ := list4 ah_ty.len
 obtain ⟨x9_0, x9_1, rfl⟩ := list2 ah_place.len
 obtain ⟨x11_0, x11_1, x11_2, x11_3, x11_4, x11_5, x11_6, x11_7, x11_8, x11_9, x11_10, x11_11, x11_12, x11_13, x11_14, rfl⟩ := list15 ah_val.len
 obtain ⟨x26_0, x26_1, x26_2, x26_3, rfl⟩ := list4 ah_cond.len
 subst hcs
 refine ⟨[.int .i64 a_kind, .int .i64 a_pos, .bool a_mu, txV []] ++ [x4_0, x4_1, x4_2, x4_3] ++ [.bool a_has] ++ [x9_0, x9_1] ++ [x11_0, x11_1, x11_2, x11_3, x11_4, x11_5, x11_6, x11_7, x11_8, x11_9, x11_10, x11_11, x11_12, x11_13, x11_14] ++ [x26_0, x26_1, x26_2, x26_3] ++ [.slice p30 a_thn.length q30, .slice p31 a_els.length q31], rfl, ?_⟩
 rw [stIs_iff]
 exact ⟨[x4_0, x4_1, x4_2, x4_3], [x9_0, x9_1], [x11_0, x11_1, x11_2, x11_3, x11_4, x11_5, x11_6, x11_7, x11_8, x11_9, x11_10, x11_11, x11_12, x11_13, x11_14], [x26_0, x26_1, x26_2, x26_3], p30, q30, p31, q31, rfl, Nat.zero_le _, ah_ty, ah_place, ah_val, ah_cond, ah_thn, ah_els⟩
theorem St_set_ty {S : Nat → Prop} {w : World} {a_kind : Int} {a_pos : Int} {a_mu : Bool} {a_name : List UInt8} {a_ty : TyD} {a_has : Bool} {a_place : PlD} {a_val : ValD} {a_cond : OprD} {a_thn : List (StD)} {a_els : List (StD)} {cs : List Value} (h : StIs S w ⟨a_kind, a_pos, a_mu, a_name, a_ty, a_has, a_place, a_val, a_cond, a_thn, a_els⟩ cs) (v : TyD) (H : List Value) (hv : TyIs S w v H) : ∃ cs2, midCs cs.toArray H.toArray 4 = List.toArray cs2 ∧ StIs S w ⟨a_kind, a_pos, a_mu, a_name, v, a_has, a_place, a_val, a_cond, a_thn, a_els⟩ cs2 := by
 rw [stIs_iff] at h
 obtain ⟨s4, s9, s11, s26, p30, q30, p31, q31, hcs, ah_name, ah_ty, ah_place, ah_val, ah_cond, ah_thn, ah_els⟩ := h
 simp only [StD.kind, StD.pos, StD.mu, StD.name, StD.ty, StD.has, StD.place, StD.val, StD.cond, StD.thn, StD.els] at hcs ah_name ah_ty ah_place ah_val ah_cond ah_thn ah_els
 obtain ⟨x4_0, x4_1, x4_2, x4_3, rfl⟩ := list4 ah_ty.len
 obtain ⟨x9_0, x9_1, rfl⟩ := list2 ah_place.len
 obtain ⟨x11_0, x11_1, x11_2, x11_3, x11_4, x11_5, x11_6, x11_7, x11_8, x11_9, x11_10, x11_11, x11_12, x11_13, x11_14, rfl⟩ := list15 ah_val.len
 obtain ⟨x26_0, x26_1, x26_2, x26_3, rfl⟩ := list4 ah_cond.len
 obtain ⟨y_0, y_1, y_2, y_3, rfl⟩ := list4 hv.len
 subst hcs
 refine ⟨[.int .i64 a_kind, .int .i64 a_pos, .bool a_mu, txV a_name] ++ [y_0, y_1, y_2, y_3] ++ [.bool a_has] ++ [x9_0, x9_1] ++ [x11_0, x11_1, x11_2, x11_3, x11_4, x11_5, x11_6, x11_7, x11_8, x11_9, x11_10, x11_11, x11_12, x11_13, x11_14] ++ [x26_0, x26_1, x26_2, x26_3] ++ [.slice p30 a_thn.length q30, .slice p31 a_els.length q31], rfl, ?_⟩
 rw [stIs_iff]
 exact ⟨[y_0, y_1, y_2, y_3], [x9_0, x9_1], [x11_0, x11_1, x11_2, x11_3, x11_4, x11_5, x11_6, x11_7, x11_8, x11_9, x11_10, x11_11, x11_12, x11_13, x11_14], [x26_0, x26_1, x26_2, x26_3], p30, q30, p31, q31, rfl, ah_name, hv, ah_place, ah_val, ah_cond, ah_thn, ah_els⟩
theorem St_set_has {S : Nat → Prop} {w : World} {a_kind : Int} {a_pos : Int} {a_mu : Bool} {a_name : List UInt8} {a_ty : TyD} {a_has : Bool} {a_place : PlD} {a_val : ValD} {a_cond : OprD} {a_thn : List (StD)} {a_els : List (StD)} {cs : List Value} (h : StIs S w ⟨a_kind, a_pos, a_mu, a_name, a_ty, a_has, a_place, a_val, a_cond, a_thn, a_els⟩ cs) (v : Bool) : ∃ cs2, cs.toArray.setIfInBounds 8 (.bool v) = List.toArray cs2 ∧ StIs S w ⟨a_kind, a_pos, a_mu, a_name, a_ty, v, a_place, a_val, a_cond, a_thn, a_els⟩ cs2 := by
 rw [stIs_iff] at h
 obtain ⟨s4, s9, s11, s26, p30, q30, p31, q31, hcs, ah_name, ah_ty, ah_place, ah_val, ah_cond, ah_thn, ah_els⟩ := h
 simp only [StD.kind, StD.pos, StD.mu, StD.name, StD.ty, StD.has, StD.place, StD.val, StD.cond, StD.thn, StD.els] at hcs ah_name ah_ty ah_place ah_val ah_cond ah_thn ah_els
 obtain ⟨x4_0, x4_1, x4_2, x4_3, rfl⟩ := list4 ah_ty.len
 obtain ⟨x9_0, x9_1, rfl⟩ := list2 ah_place.len
 obtain ⟨x11_0, x11_1, x11_2, x11_3, x11_4, x11_5, x11_6, x11_7, x11_8, x11_9, x11_10, x11_11, x11_12, x11_13, x11_14, rfl⟩ := list15 ah_val.len
 obtain ⟨x26_0, x26_1, x26_2, x26_3, rfl⟩ := list4 ah_cond.len
 subst hcs
 refine ⟨[.int .i64 a_kind, .int .i64 a_pos, .bool a_mu, txV a_name] ++ [x4_0, x4_1, x4_2, x4_3] ++ [.bool v] ++ [x9_0, x9_1] ++ [x11_0, x11_1, x11_2, x11_3, x11_4, x11_5, x11_6, x11_7, x11_8, x11_9, x11_10, x11_11, x11_12, x11_13, x11_14] ++ [x26_0, x26_1, x26_2, x26_3] ++ [.slice p30 a_thn.length q30, .slice p31 a_els.length q31], rfl, ?_⟩
 rw [stIs_iff]
 exact ⟨[x4_0, x4_1, x4_2, x4_3], [x9_0, x9_1], [x11_0, x11_1, x11_2, x11_3, x11_4, x11_5, x11_6, x11_7, x11_8, x11_9, x11_10, x11_11, x11_12, x11_13, x11_14], [x26_0, x26_1, x26_2, x26_3], p30, q30, p31, q31, rfl, ah_name, ah_ty, ah_place, ah_val, ah_cond, ah_thn, ah_els⟩
theorem St_set_place {S : Nat → Prop} {w : World} {a_kind : Int} {a_pos : Int} {a_mu : Bool} {a_name : List UInt8} {a_ty : TyD} {a_has : Bool} {a_place : PlD} {a_val : ValD} {a_cond : OprD} {a_thn : List (StD)} {a_els : List (StD)} {cs : List Value} (h : StIs S w ⟨a_kind, a_pos, a_mu, a_name, a_ty, a_has, a_place, a_val, a_cond, a_thn, a_els⟩ cs) (v : PlD) (H : List Value) (hv : PlIs S w v H) : ∃ cs2, midCs cs.toArray H.toArray 9 = List.toArray cs2 ∧ StIs S w ⟨a_kind, a_pos, a_mu, a_name, a_ty, a_has, v, a_val, a_cond, a_thn, a_els⟩ cs2 := by
 rw [stIs_iff] at h
 obtain ⟨s4, s9, s11, s26, p30, q30, p31, q31, hcs, ah_name, ah_ty, ah_place, ah_val, ah_cond, ah_thn, ah_els⟩ := h
 simp only [StD.kind, StD.pos, StD.mu, StD.name, StD.ty, StD.has, StD.place, StD.val, StD.cond, StD.thn, StD.els] at hcs ah_name ah_ty ah_place ah_val ah_cond ah_thn ah_els
 obtain ⟨x4_0, x4_1, x4_2, x4_3, rfl⟩ := list4 ah_ty.len
 obtain ⟨x9_0, x9_1, rfl⟩ := list2 ah_place.len
 obtain ⟨x11_0, x11_1, x11_2, x11_3, x11_4, x11_5, x11_6, x11_7, x11_8, x11_9, x11_10, x11_11, x11_12, x11_13, x11_14, rfl⟩ := list15 ah_val.len
 obtain ⟨x26_0, x26_1, x26_2, x26_3, rfl⟩ := list4 ah_cond.len
 obtain ⟨y_0, y_1, rfl⟩ := list2 hv.len
 subst hcs
 refine ⟨[.int .i64 a_kind, .int .i64 a_pos, .bool a_mu, txV a_name] ++ [x4_0, x4_1, x4_2, x4_3] ++ [.bool a_has] ++ [y_0, y_1] ++ [x11_0, x11_1, x11_2, x11_3, x11_4, x11_5, x11_6, x11_7, x11_8, x11_9, x11_10, x11_11, x11_12, x11_13, x11_14] ++ [x26_0, x26_1, x26_2, x26_3] ++ [.slice p30 a_thn.length q30, .slice p31 a_els.length q31], rfl, ?_⟩
 rw [stIs_iff]
 exact ⟨[x4_0, x4_1, x4_2, x4_3], [y_0, y_1], [x11_0, x11_1, x11_2, x11_3, x11_4, x11_5, x11_6, x11_7, x11_8, x11_9, x11_10, x11_11, x11_12, x11_13, x11_14], [x26_0, x26_1, x26_2, x26_3], p30, q30, p31, q31, rfl, ah_name, ah_ty, hv, ah_val, ah_cond, ah_thn, ah_els⟩
theorem St_set_val {S : Nat → Prop} {w : World} {a_kind : Int} {a_pos : Int} {a_mu : Bool} {a_name : List UInt8} {a_ty : TyD} {a_has : Bool} {a_place : PlD} {a_val : ValD} {a_cond : OprD} {a_thn : List (StD)} {a_els : List (StD)} {cs : List Value} (h : StIs S w ⟨a_kind, a_pos, a_mu, a_name, a_ty, a_has, a_place, a_val, a_cond, a_thn, a_els⟩ cs) (v : ValD) (H : List Value) (hv : ValIs S w v H) : ∃ cs2, midCs cs.toArray H.toArray 11 = List.toArray cs2 ∧ StIs S w ⟨a_kind, a_pos, a_mu, a_name, a_ty, a_has, a_place, v, a_cond, a_thn, a_els⟩ cs2 := by
 rw [stIs_iff] at h
 obtain ⟨s4, s9, s11, s26, p30, q30, p31, q31, hcs, ah_name, ah_ty, ah_place, ah_val, ah_cond, ah_thn, ah_els⟩ := h
 simp only [StD.kind, StD.pos, StD.mu, StD.name, StD.ty, StD.has, StD.place, StD.val, StD.cond, StD.thn, StD.els] at hcs ah_name ah_ty ah_place ah_val ah_cond ah_thn ah_els
 obtain ⟨x4_0, x4_1, x4_2, x4_3, rfl⟩ := list4 ah_ty.len
 obtain ⟨x9_0, x9_1, rfl⟩ := list2 ah_place.len
 obtain ⟨x11_0, x11_1, x11_2, x11_3, x11_4, x11_5, x11_6, x11_7, x11_8, x11_9, x11_10, x11_11, x11_12, x11_13, x11_14, rfl⟩ := list15 ah_val.len
 obtain ⟨x26_0, x26_1, x26_2, x26_3, rfl⟩ := list4 ah_cond.len
 obtain ⟨y_0, y_1, y_2, y_3, y_4, y_5, y_6, y_7, y_8, y_9, y_10, y_11, y_12, y_13, y_14, rfl⟩ := list15 hv.len
 subst hcs
 refine ⟨[.int .i64 a_kind, .int .i64 a_pos, .bool a_mu, txV a_name] ++ [x4_0, x4_1, x4_2, x4_3] ++ [.bool a_has] ++ [x9_0, x9_1] ++ [y_0, y_1, y_2, y_3, y_4, y_5, y_6, y_7, y_8, y_9, y_10, y_11, y_12, y_13, y_14] ++ [x26_0, x26_1, x26_2, x26_3] ++ [.slice p30 a_thn.length q30, .slice p31 a_els.length q31], rfl, ?_⟩
 rw [stIs_iff]
 exact ⟨[x4_0, x4_1, x4_2, x4_3], [x9_0, x9_1], [y_0, y_1, y_2, y_3, y_4, y_5, y_6, y_7, y_8, y_9, y_10, y_11, y_12, y_13, y_14], [x26_0, x26_1, x26_2, x26_3], p30, q30, p31, q31, rfl, ah_name, ah_ty, ah_place, hv, ah_cond, ah_thn, ah_els⟩
theorem St_set_cond {S : Nat → Prop} {w : World} {a_kind : Int} {a_pos : Int} {a_mu : Bool} {a_name : List UInt8} {a_ty : TyD} {a_has : Bool} {a_place : PlD} {a_val : ValD} {a_cond : OprD} {a_thn : List (StD)} {a_els : List (StD)} {cs : List Value} (h : StIs S w ⟨a_kind, a_pos, a_mu, a_name, a_ty, a_has, a_place, a_val, a_cond, a_thn, a_els⟩ cs) (v : OprD) (H : List Value) (hv : OprIs S w v H) : ∃ cs2, midCs cs.toArray H.toArray 26 = List.toArray cs2 ∧ StIs S w ⟨a_kind, a_pos, a_mu, a_name, a_ty, a_has, a_place, a_val, v, a_thn, a_els⟩ cs2 := by
 rw [stIs_iff] at h
 obtain ⟨s4, s9, s11, s26, p30, q30, p31, q31, hcs, ah_name, ah_ty, ah_place, ah_val, ah_cond, ah_thn, ah_els⟩ := h
 simp only [StD.kind, StD.pos, StD.mu, StD.name, StD.ty, StD.has, StD.place, StD.val, StD.cond, StD.thn, StD.els] at hcs ah_name ah_ty ah_place ah_val ah_cond ah_thn ah_els
 obtain ⟨x4_0, x4_1, x4_2, x4_3, rfl⟩ := list4 ah_ty.len
 obtain ⟨x9_0, x9_1, rfl⟩ := list2 ah_place.len
 obtain ⟨x11_0, x11_1, x11_2, x11_3, x11_4, x11_5, x11_6, x11_7, x11_8, x11_9, x11_10, x11_11, x11_12, x11_13, x11_14, rfl⟩ := list15 ah_val.len
 obtain ⟨x26_0, x26_1, x26_2, x26_3, rfl⟩ := list4 ah_cond.len
 obtain ⟨y_0, y_1, y_2, y_3, rfl⟩ := list4 hv.len
 subst hcs
 refine ⟨[.int .i64 a_kind, .int .i64 a_pos, .bool a_mu, txV a_name] ++ [x4_0, x4_1, x4_2, x4_3] ++ [.bool a_has] ++ [x9_0, x9_1] ++ [x11_0, x11_1, x11_2, x11_3, x11_4, x11_5, x11_6, x11_7, x11_8, x11_9, x11_10, x11_11, x11_12, x11_13, x11_14] ++ [y_0, y_1, y_2, y_3] ++ [.slice p30 a_thn.length q30, .slice p31 a_els.length q31], rfl, ?_⟩
 rw [stIs_iff]
 exact ⟨[x4_0, x4_1, x4_2, x4_3], [x9_0, x9_1], [x11_0, x11_1, x11_2, x11_3, x11_4, x11_5, x11_6, x11_7, x11_8, x11_9, x11_10, x11_11, x11_12, x11_13, x11_14], [y_0, y_1, y_2, y_3], p30, q30, p31, q31, rfl, ah_name, ah_ty, ah_place, ah_val, hv, ah_thn, ah_els⟩
theorem St_set_thn {S : Nat → Prop} {w : World} {a_kind : Int} {a_pos : Int} {a_mu : Bool} {a_name : List UInt8} {a_ty : TyD} {a_has : Bool} {a_place : PlD} {a_val : ValD} {a_cond : OprD} {a_thn : List (StD)} {a_els : List (StD)} {cs : List Value} (h : StIs S w ⟨a_kind, a_pos, a_mu, a_name, a_ty, a_has, a_place, a_val, a_cond, a_thn, a_els⟩ cs)  : ∃ cs2, cs.toArray.setIfInBounds 30 (.slice none 0 0) = List.toArray cs2 ∧ StIs S w ⟨a_kind, a_pos, a_mu, a_name, a_ty, a_has, a_place, a_val, a_cond, [], a_els⟩ cs2 := by
 rw [stIs_iff] at h
 obtain ⟨s4, s9, s11, s26, p30, q30, p31, q31, hcs, ah_name, ah_ty, ah_place, ah_val, ah_cond, ah_thn, ah_els⟩ := h
 simp only [StD.kind, StD.pos, StD.mu, StD.name, StD.ty, StD.has, StD.place, StD.val, StD.cond, StD.thn, StD.els] at hcs ah_name ah_ty ah_place ah_val ah_cond ah_thn ah_els
 obtain ⟨x4_0, x4_1, x4_2, x4_3, rfl⟩ := list4 ah_ty.len
 obtain ⟨x9_0, x9_1, rfl⟩ := list2 ah_place.len
 obtain ⟨x11_0, x11_1, x11_2, x11_3, x11_4, x11_5, x11_6, x11_7, x11_8, x11_9, x11_10, x11_11, x11_12, x11_13, x11_14, rfl⟩ := list15 ah_val.len
 obtain ⟨x26_0, x26_1, x26_2, x26_3, rfl⟩ := list4 ah_cond.len
 subst hcs
 refine ⟨[.int .i64 a_kind, .int .i64 a_pos, .bool a_mu, txV a_name] ++ [x4_0, x4_1, x4_2, x4_3] ++ [.bool a_has] ++ [x9_0, x9_1] ++ [x11_0, x11_1, x11_2, x11_3, x11_4, x11_5, x11_6, x11_7, x11_8, x11_9, x11_10, x11_11, x11_12, x11_13, x11_14] ++ [x26_0, x26_1, x26_2, x26_3] ++ [.slice none 0 0, .slice p31 a_els.length q31], rfl, ?_⟩
 rw [stIs_iff]
 exact ⟨[x4_0, x4_1, x4_2, x4_3], [x9_0, x9_1], [x11_0, x11_1, x11_2, x11_3, x11_4, x11_5, x11_6, x11_7, x11_8, x11_9, x11_10, x11_11, x11_12, x11_13, x11_14], [x26_0, x26_1, x26_2, x26_3], none, 0, p31, q31, rfl, ah_name, ah_ty, ah_place, ah_val, ah_cond, slIs_nil _ _ _ _ _, ah_els⟩
theorem St_set_els {S : Nat → Prop} {w : World} {a_kind : Int} {a_pos : Int} {a_mu : Bool} {a_name : List UInt8} {a_ty : TyD} {a_has : Bool} {a_place : PlD} {a_val : ValD} {a_cond : OprD} {a_thn : List (StD)} {a_els : List (StD)} {cs : List Value} (h : StIs S w ⟨a_kind, a_pos, a_mu, a_name, a_ty, a_has, a_place, a_val, a_cond, a_thn, a_els⟩ cs)  : ∃ cs2, cs.toArray.setIfInBounds 31 (.slice none 0 0) = List.toArray cs2 ∧ StIs S w ⟨a_kind, a_pos, a_mu, a_name, a_ty, a_has, a_place, a_val, a_cond, a_thn, []⟩ cs2 := by
 rw [stIs_iff] at h
 obtain ⟨s4, s9, s11, s26, p30, q30, p31, q31, hcs, ah_name, ah_ty, ah_place, ah_val, ah_cond, ah_thn, ah_els⟩ := h
 simp only [StD.kind, StD.pos, StD.mu, StD.name, StD.ty, StD.has, StD.place, StD.val, StD.cond, StD.thn, StD.els] at hcs ah_name ah_ty ah_place ah_val ah_cond ah_thn ah_els
 obtain ⟨x4_0, x4_1, x4_2, x4_3, rfl⟩ := list4 ah_ty.len
 obtain ⟨x9_0, x9_1, rfl⟩ := list2 ah_place.len
 obtain ⟨x11_0, x11_1, x11_2, x11_3, x11_4, x11_5, x11_6, x11_7, x11_8, x11_9, x11_10, x11_11, x11_12, x11_13, x11_14, rfl⟩ := list15 ah_val.len
 obtain ⟨x26_0, x26_1, x26_2, x26_3, rfl⟩ := list4 ah_cond.len
 subst hcs
 refine ⟨[.int .i64 a_kind, .int .i64 a_pos, .bool a_mu, txV a_name] ++ [x4_0, x4_1, x4_2, x4_3] ++ [.bool a_has] ++ [x9_0, x9_1] ++ [x11_0, x11_1, x11_2, x11_3, x11_4, x11_5, x11_6, x11_7, x11_8, x11_9, x11_10, x11_11, x11_12, x11_13, x11_14] ++ [x26_0, x26_1, x26_2, x26_3] ++ [.slice p30 a_thn.length q30, .slice none 0 0], rfl, ?_⟩
 rw [stIs_iff]
 exact ⟨[x4_0, x4_1, x4_2, x4_3], [x9_0, x9_1], [x11_0, x11_1, x11_2, x11_3, x11_4, x11_5, x11_6, x11_7, x11_8, x11_9, x11_10, x11_11, x11_12, x11_13, x11_14], [x26_0, x26_1, x26_2, x26_3], p30, q30, none, 0, rfl, ah_name, ah_ty, ah_place, ah_val, ah_cond, ah_thn, slIs_nil _ _ _ _ _⟩
theorem exec_into_pl (ρ : Operand → Value) (dst : Option Tmp) (x y : Operand) (ty' : TypeId) (pos : String) (af : Array Edge) (gd : Option (Nat × Bool)) (w : World) (h : midFitV w 2 (ρ x) = true) (hy : aggOk 2 (ρ y) = true) :
  (execOp ρ ⟨dst, .store 114 x y, ty', pos, af, gd⟩).run Tryz.prog w = .ok .skip (midSetV w (ρ x) (aggOf (ρ y))) := exec_store_mid _ 2 infoPl ρ dst x y ty' pos af gd w h hy
theorem exec_into_opr (ρ : Operand → Value) (dst : Option Tmp) (x y : Operand) (ty' : TypeId) (pos : String) (af : Array Edge) (gd : Option (Nat × Bool)) (w : World) (h : midFitV w 4 (ρ x) = true) (hy : aggOk 4 (ρ y) = true) :
  (execOp ρ ⟨dst, .store 116 x y, ty', pos, af, gd⟩).run Tryz.prog w = .ok .skip (midSetV w (ρ x) (aggOf (ρ y))) := exec_store_mid _ 4 infoOpr ρ dst x y ty' pos af gd w h hy
theorem exec_into_ty (ρ : Operand → Value) (dst : Option Tmp) (x y : Operand) (ty' : TypeId) (pos : String) (af : Array Edge) (gd : Option (Nat × Bool)) (w : World) (h : midFitV w 4 (ρ x) = true) (hy : aggOk 4 (ρ y) = true) :
  (execOp ρ ⟨dst, .store 53 x y, ty', pos, af, gd⟩).run Tryz.prog w = .ok .skip (midSetV w (ρ x) (aggOf (ρ y))) := exec_store_mid _ 4 infoTy ρ dst x y ty' pos af gd w h hy
theorem exec_into_val (ρ : Operand → Value) (dst : Option Tmp) (x y : Operand) (ty' : TypeId) (pos : String) (af : Array Edge) (gd : Option (Nat × Bool)) (w : World) (h : midFitV w 15 (ρ x) = true) (hy : aggOk 15 (ρ y) = true) :
  (execOp ρ ⟨dst, .store 119 x y, ty', pos, af, gd⟩).run Tryz.prog w = .ok .skip (midSetV w (ρ x) (aggOf (ρ y))) := exec_store_mid _ 15 infoVal ρ dst x y ty' pos af gd w h hy
def zeroOpr : OprD := ⟨0, 0, zeroPl⟩
def zeroVal : ValD := ⟨0, zeroOpr, zeroOpr, 0, zeroPl, [], [], []⟩
def zeroTy : TyD := .mk 0 [] [] []
def plC : List Value := [.string ⟨#[]⟩, .slice none 0 0]
def oprC : List Value := [.int .i64 0, .int .i64 0, .string ⟨#[]⟩, .slice none 0 0]
def tyC : List Value := [.int .i64 0, .string ⟨#[]⟩, .slice none 0 0, .slice none 0 0]
def valC : List Value := [.int .i64 0] ++ oprC ++ oprC ++ [.int .i64 0] ++ plC ++ [.string ⟨#[]⟩, .slice none 0 0, .slice none 0 0]
theorem zeroOpr_is (S : Nat → Prop) (w : World) : OprIs S w zeroOpr oprC := ⟨plC, rfl, zeroPl_is S w⟩
theorem zeroTy_is (S : Nat → Prop) (w : World) : TyIs S w zeroTy tyC := by
 rw [tyIs_iff]
 exact ⟨none, 0, none, 0, rfl, Nat.zero_le _, slIs_nil _ _ _ _ _, slIs_nil _ _ _ _ _⟩
theorem zeroVal_is (S : Nat → Prop) (w : World) : ValIs S w zeroVal valC := ⟨oprC, oprC, plC, none, 0, none, 0, rfl, zeroOpr_is S w, zeroOpr_is S w, zeroPl_is S w, Nat.zero_le _, slIs_nil _ _ _ _ _, slIs_nil _ _ _ _ _⟩
end Go.Proofs.YtjbcagbnagefcaaGreat
namespace Go.Proofs.YtjbcagbnagefcaaGreat
open Go.RowKit
def ValB2 (S : Nat → Prop) (w wN : World) (ga : Nat) (CA : Array Value) (gz : Nat) (v : ValD) : Prop := Keeps Nothing w wN ∧ w.heap.size ≤ gz ∧ ga ≠ gz ∧ Blk wN ga CA 119 ∧ ∃ cs : List Value, Blk wN gz cs.toArray 119 ∧ ValIs S w v cs
theorem ValB2.keeps {S : Nat → Prop} {w wN wM : World} {ga gz : Nat} {CA : Array Value} {v : ValD} (h : ValB2 S w wN ga CA gz v) (k : Keeps Nothing wN wM) : ValB2 S w wM ga CA gz v := by
 obtain ⟨K, hg, hn, BA, cs, BZ, hv⟩ := h
 exact ⟨K.trans k (fun _ h _ => h), hg, hn, k.blk BA (fun h => h), cs, k.blk BZ (fun h => h), hv⟩
theorem ValB2.cell {S : Nat → Prop} {w wN : World} {ga gz : Nat} {CA : Array Value} {v : ValD} (h : ValB2 S w wN ga CA gz v) (i : Nat) (hi : i < 15) : ∃ u, wN.cell? ⟨gz, i, none⟩ = some u := by
 obtain ⟨K, hg, hn, BA, cs, BZ, hv⟩ := h
 have hl : i < cs.length := by rw [hv.len]; exact hi
 exact ⟨cs[i], blk_cell BZ i (by rw [List.getElem?_toArray]; exact List.getElem?_eq_getElem hl)⟩
theorem ValB2.free {S : Nat → Prop} {w wN : World} {ga gz : Nat} {CA : Array Value} {v : ValD} (h : ValB2 S w wN ga CA gz v) (i : Nat) : wN.frozen? ⟨gz, i, none⟩ = false := by
 obtain ⟨K, hg, hn, BA, cs, BZ, hv⟩ := h
 exact blk_free BZ i
theorem ValB2.fit {S : Nat → Prop} {w wN : World} {ga gz : Nat} {CA : Array Value} {v : ValD} (h : ValB2 S w wN ga CA gz v) (i m : Nat) (hi : i + m ≤ 15) : midFit wN gz i m = true := by
 obtain ⟨K, hg, hn, BA, cs, BZ, hv⟩ := h
 exact midFit_blk BZ (by have := hv.len; simp; omega)
theorem ValB2.new {S : Nat → Prop} {w wb : World} {ga : Nat} {CA : Array Value} {v : ValD} {cs : List Value} (K : Keeps Nothing w wb) (BA : Blk wb ga CA 119) (hc : CA = cs.toArray) (hv : ValIs S w v cs) : ValB2 S w (wb.alloc (.cells CA 119)) ga CA wb.heap.size v := by
 have hga : ga < wb.heap.size := by
  obtain ⟨h, _⟩ := Array.getElem?_eq_some_iff.1 (show wb.heap[ga]? = some _ from BA)
  exact h
 exact ⟨K.alloc _, K.size, by omega, blk_alloc BA _, cs, by rw [← hc]; exact blk_new wb CA _, hv⟩
theorem ValB2.set_kind {S : Nat → Prop} {w wN : World} {ga gz : Nat} {CA : Array Value} {a_kind : Int} {a_a : OprD} {a_b : OprD} {a_op : Int} {a_place : PlD} {a_name : List UInt8} {a_names : List (List UInt8)} {a_args : List (OprD)} (h : ValB2 S w wN ga CA gz ⟨a_kind, a_a, a_b, a_op, a_place, a_name, a_names, a_args⟩) (v : Int) : ValB2 S w (wN.setCell ⟨gz, 0, none⟩ (.int .i64 v)) ga CA gz ⟨v, a_a, a_b, a_op, a_place, a_name, a_names, a_args⟩ := by
 obtain ⟨K, hg, hn, BA, cs, BZ, hv⟩ := h
 obtain ⟨c2, e2, v2⟩ := Val_set_kind hv v
 have b := blk_set BZ 0 (.int .i64 v)
 rw [e2] at b
 exact ⟨K.setCell (fun h => absurd h (Nat.not_lt.2 hg)) _, hg, hn, blk_other BA _ hn _, c2, b, v2⟩
theorem ValB2.set_a {S : Nat → Prop} {w wN : World} {ga gz : Nat} {CA : Array Value} {a_kind : Int} {a_a : OprD} {a_b : OprD} {a_op : Int} {a_place : PlD} {a_name : List UInt8} {a_names : List (List UInt8)} {a_args : List (OprD)} (h : ValB2 S w wN ga CA gz ⟨a_kind, a_a, a_b, a_op, a_place, a_name, a_names, a_args⟩) : ValB2 S w (midSet wN gz 1 #[.int .i64 0, .int .i64 0, .string ⟨#[]⟩, .slice none 0 0]) ga CA gz ⟨a_kind, zeroOpr, a_b, a_op, a_place, a_name, a_names, a_args⟩ := by
 obtain ⟨K, hg, hn, BA, cs, BZ, hv⟩ := h
 obtain ⟨c2, e2, v2⟩ := Val_set_a hv zeroOpr oprC (zeroOpr_is S w)
 have b := blk_midSet BZ 1 oprC.toArray
 rw [e2] at b
 exact ⟨midSet_keeps K (fun h => absurd h (Nat.not_lt.2 hg)) _ _, hg, hn, blk_setRow_other BA hn, c2, b, v2⟩
theorem ValB2.set_b {S : Nat → Prop} {w wN : World} {ga gz : Nat} {CA : Array Value} {a_kind : Int} {a_a : OprD} {a_b : OprD} {a_op : Int} {a_place : PlD} {a_name : List UInt8} {a_names : List (List UInt8)} {a_args : List (OprD)} (h : ValB2 S w wN ga CA gz ⟨a_kind, a_a, a_b, a_op, a_place, a_name, a_names, a_args⟩) : ValB2 S w (midSet wN gz 5 #[.int .i64 0, .int .i64 0, .string ⟨#[]⟩, .slice none 0 0]) ga CA gz ⟨a_kind, a_a, zeroOpr, a_op, a_place, a_name, a_names, a_args⟩ := by
 obtain ⟨K, hg, hn, BA, cs, BZ, hv⟩ := h
 obtain ⟨c2, e2, v2⟩ := Val_set_b hv zeroOpr oprC (zeroOpr_is S w)
 have b := blk_midSet BZ 5 oprC.toArray
 rw [e2] at b
 exact ⟨midSet_keeps K (fun h => absurd h (Nat.not_lt.2 hg)) _ _, hg, hn, blk_setRow_other BA hn, c2, b, v2⟩
theorem ValB2.set_op {S : Nat → Prop} {w wN : World} {ga gz : Nat} {CA : Array Value} {a_kind : Int} {a_a : OprD} {a_b : OprD} {a_op : Int} {a_place : PlD} {a_name : List UInt8} {a_names : List (List UInt8)} {a_args : List (OprD)} (h : ValB2 S w wN ga CA gz ⟨a_kind, a_a, a_b, a_op, a_place, a_name, a_names, a_args⟩) (v : Int) : ValB2 S w (wN.setCell ⟨gz, 9, none⟩ (.int .i64 v)) ga CA gz ⟨a_kind, a_a, a_b, v, a_place, a_name, a_names, a_args⟩ := by
 obtain ⟨K, hg, hn, BA, cs, BZ, hv⟩ := h
 obtain ⟨c2, e2, v2⟩ := Val_set_op hv v
 have b := blk_set BZ 9 (.int .i64 v)
 rw [e2] at b
 exact ⟨K.setCell (fun h => absurd h (Nat.not_lt.2 hg)) _, hg, hn, blk_other BA _ hn _, c2, b, v2⟩
theorem ValB2.set_place {S : Nat → Prop} {w wN : World} {ga gz : Nat} {CA : Array Value} {a_kind : Int} {a_a : OprD} {a_b : OprD} {a_op : Int} {a_place : PlD} {a_name : List UInt8} {a_names : List (List UInt8)} {a_args : List (OprD)} (h : ValB2 S w wN ga CA gz ⟨a_kind, a_a, a_b, a_op, a_place, a_name, a_names, a_args⟩) : ValB2 S w (midSet wN gz 10 #[.string ⟨#[]⟩, .slice none 0 0]) ga CA gz ⟨a_kind, a_a, a_b, a_op, zeroPl, a_name, a_names, a_args⟩ := by
 obtain ⟨K, hg, hn, BA, cs, BZ, hv⟩ := h
 obtain ⟨c2, e2, v2⟩ := Val_set_place hv zeroPl plC (zeroPl_is S w)
 have b := blk_midSet BZ 10 plC.toArray
 rw [e2] at b
 exact ⟨midSet_keeps K (fun h => absurd h (Nat.not_lt.2 hg)) _ _, hg, hn, blk_setRow_other BA hn, c2, b, v2⟩
theorem ValB2.set_name {S : Nat → Prop} {w wN : World} {ga gz : Nat} {CA : Array Value} {a_kind : Int} {a_a : OprD} {a_b : OprD} {a_op : Int} {a_place : PlD} {a_name : List UInt8} {a_names : List (List UInt8)} {a_args : List (OprD)} (h : ValB2 S w wN ga CA gz ⟨a_kind, a_a, a_b, a_op, a_place, a_name, a_names, a_args⟩)  : ValB2 S w (wN.setCell ⟨gz, 12, none⟩ (.string ⟨#[]⟩)) ga CA gz ⟨a_kind, a_a, a_b, a_op, a_place, [], a_names, a_args⟩ := by
 obtain ⟨K, hg, hn, BA, cs, BZ, hv⟩ := h
 obtain ⟨c2, e2, v2⟩ := Val_set_name hv 
 have b := blk_set BZ 12 (.string ⟨#[]⟩)
 rw [e2] at b
 exact ⟨K.setCell (fun h => absurd h (Nat.not_lt.2 hg)) _, hg, hn, blk_other BA _ hn _, c2, b, v2⟩
theorem ValB2.set_names {S : Nat → Prop} {w wN : World} {ga gz : Nat} {CA : Array Value} {a_kind : Int} {a_a : OprD} {a_b : OprD} {a_op : Int} {a_place : PlD} {a_name : List UInt8} {a_names : List (List UInt8)} {a_args : List (OprD)} (h : ValB2 S w wN ga CA gz ⟨a_kind, a_a, a_b, a_op, a_place, a_name, a_names, a_args⟩)  : ValB2 S w (wN.setCell ⟨gz, 13, none⟩ (.slice none 0 0)) ga CA gz ⟨a_kind, a_a, a_b, a_op, a_place, a_name, [], a_args⟩ := by
 obtain ⟨K, hg, hn, BA, cs, BZ, hv⟩ := h
 obtain ⟨c2, e2, v2⟩ := Val_set_names hv 
 have b := blk_set BZ 13 (.slice none 0 0)
 rw [e2] at b
 exact ⟨K.setCell (fun h => absurd h (Nat.not_lt.2 hg)) _, hg, hn, blk_other BA _ hn _, c2, b, v2⟩
theorem ValB2.set_args {S : Nat → Prop} {w wN : World} {ga gz : Nat} {CA : Array Value} {a_kind : Int} {a_a : OprD} {a_b : OprD} {a_op : Int} {a_place : PlD} {a_name : List UInt8} {a_names : List (List UInt8)} {a_args : List (OprD)} (h : ValB2 S w wN ga CA gz ⟨a_kind, a_a, a_b, a_op, a_place, a_name, a_names, a_args⟩)  : ValB2 S w (wN.setCell ⟨gz, 14, none⟩ (.slice none 0 0)) ga CA gz ⟨a_kind, a_a, a_b, a_op, a_place, a_name, a_names, []⟩ := by
 obtain ⟨K, hg, hn, BA, cs, BZ, hv⟩ := h
 obtain ⟨c2, e2, v2⟩ := Val_set_args hv 
 have b := blk_set BZ 14 (.slice none 0 0)
 rw [e2] at b
 exact ⟨K.setCell (fun h => absurd h (Nat.not_lt.2 hg)) _, hg, hn, blk_other BA _ hn _, c2, b, v2⟩
def StB2 (S : Nat → Prop) (w wN : World) (ga : Nat) (CA : Array Value) (gz : Nat) (v : StD) : Prop := Keeps Nothing w wN ∧ w.heap.size ≤ gz ∧ ga ≠ gz ∧ Blk wN ga CA 121 ∧ ∃ cs : List Value, Blk wN gz cs.toArray 121 ∧ StIs S w v cs
theorem StB2.keeps {S : Nat → Prop} {w wN wM : World} {ga gz : Nat} {CA : Array Value} {v : StD} (h : StB2 S w wN ga CA gz v) (k : Keeps Nothing wN wM) : StB2 S w wM ga CA gz v := by
 obtain ⟨K, hg, hn, BA, cs, BZ, hv⟩ := h
 exact ⟨K.trans k (fun _ h _ => h), hg, hn, k.blk BA (fun h => h), cs, k.blk BZ (fun h => h), hv⟩
theorem StB2.cell {S : Nat → Prop} {w wN : World} {ga gz : Nat} {CA : Array Value} {v : StD} (h : StB2 S w wN ga CA gz v) (i : Nat) (hi : i < 32) : ∃ u, wN.cell? ⟨gz, i, none⟩ = some u := by
 obtain ⟨K, hg, hn, BA, cs, BZ, hv⟩ := h
 have hl : i < cs.length := by rw [hv.len]; exact hi
 exact ⟨cs[i], blk_cell BZ i (by rw [List.getElem?_toArray]; exact List.getElem?_eq_getElem hl)⟩
theorem StB2.free {S : Nat → Prop} {w wN : World} {ga gz : Nat} {CA : Array Value} {v : StD} (h : StB2 S w wN ga CA gz v) (i : Nat) : wN.frozen? ⟨gz, i, none⟩ = false := by
 obtain ⟨K, hg, hn, BA, cs, BZ, hv⟩ := h
 exact blk_free BZ i
theorem StB2.fit {S : Nat → Prop} {w wN : World} {ga gz : Nat} {CA : Array Value} {v : StD} (h : StB2 S w wN ga CA gz v) (i m : Nat) (hi : i + m ≤ 32) : midFit wN gz i m = true := by
 obtain ⟨K, hg, hn, BA, cs, BZ, hv⟩ := h
 exact midFit_blk BZ (by have := hv.len; simp; omega)
theorem StB2.new {S : Nat → Prop} {w wb : World} {ga : Nat} {CA : Array Value} {v : StD} {cs : List Value} (K : Keeps Nothing w wb) (BA : Blk wb ga CA 121) (hc : CA = cs.toArray) (hv : StIs S w v cs) : StB2 S w (wb.alloc (.cells CA 121)) ga CA wb.heap.size v := by
 have hga : ga < wb.heap.size := by
  obtain ⟨h, _⟩ := Array.getElem?_eq_some_iff.1 (show wb.heap[ga]? = some _ from BA)
  exact h
 exact ⟨K.alloc _, K.size, by omega, blk_alloc BA _, cs, by rw [← hc]; exact blk_new wb CA _, hv⟩
theorem StB2.set_kind {S : Nat → Prop} {w wN : World} {ga gz : Nat} {CA : Array Value} {a_kind : Int} {a_pos : Int} {a_mu : Bool} {a_name : List UInt8} {a_ty : TyD} {a_has : Bool} {a_place : PlD} {a_val : ValD} {a_cond : OprD} {a_thn : List (StD)} {a_els : List (StD)} (h : StB2 S w wN ga CA gz ⟨a_kind, a_pos, a_mu, a_name, a_ty, a_has, a_place, a_val, a_cond, a_thn, a_els⟩) (v : Int) : StB2 S w (wN.setCell ⟨gz, 0, none⟩ (.int .i64 v)) ga CA gz ⟨v, a_pos, a_mu, a_name, a_ty, a_has, a_place, a_val, a_cond, a_thn, a_els⟩ := by
 obtain ⟨K, hg, hn, BA, cs, BZ, hv⟩ := h
 obtain ⟨c2, e2, v2⟩ := St_set_kind hv v
 have b := blk_set BZ 0 (.int .i64 v)
 rw [e2] at b
 exact ⟨K.setCell (fun h => absurd h (Nat.not_lt.2 hg)) _, hg, hn, blk_other BA _ hn _, c2, b, v2⟩
theorem StB2.set_pos {S : Nat → Prop} {w wN : World} {ga gz : Nat} {CA : Array Value} {a_kind : Int} {a_pos : Int} {a_mu : Bool} {a_name : List UInt8} {a_ty : TyD} {a_has : Bool} {a_place : PlD} {a_val : ValD} {a_cond : OprD} {a_thn : List (StD)} {a_els : List (StD)} (h : StB2 S w wN ga CA gz ⟨a_kind, a_pos, a_mu, a_name, a_ty, a_has, a_place, a_val, a_cond, a_thn, a_els⟩) (v : Int) : StB2 S w (wN.setCell ⟨gz, 1, none⟩ (.int .i64 v)) ga CA gz ⟨a_kind, v, a_mu, a_name, a_ty, a_has, a_place, a_val, a_cond, a_thn, a_els⟩ := by
 obtain ⟨K, hg, hn, BA, cs, BZ, hv⟩ := h
 obtain ⟨c2, e2, v2⟩ := St_set_pos hv v
 have b := blk_set BZ 1 (.int .i64 v)
 rw [e2] at b
 exact ⟨K.setCell (fun h => absurd h (Nat.not_lt.2 hg)) _, hg, hn, blk_other BA _ hn _, c2, b, v2⟩
theorem StB2.set_mu {S : Nat → Prop} {w wN : World} {ga gz : Nat} {CA : Array Value} {a_kind : Int} {a_pos : Int} {a_mu : Bool} {a_name : List UInt8} {a_ty : TyD} {a_has : Bool} {a_place : PlD} {a_val : ValD} {a_cond : OprD} {a_thn : List (StD)} {a_els : List (StD)} (h : StB2 S w wN ga CA gz ⟨a_kind, a_pos, a_mu, a_name, a_ty, a_has, a_place, a_val, a_cond, a_thn, a_els⟩) (v : Bool) : StB2 S w (wN.setCell ⟨gz, 2, none⟩ (.bool v)) ga CA gz ⟨a_kind, a_pos, v, a_name, a_ty, a_has, a_place, a_val, a_cond, a_thn, a_els⟩ := by
 obtain ⟨K, hg, hn, BA, cs, BZ, hv⟩ := h
 obtain ⟨c2, e2, v2⟩ := St_set_mu hv v
 have b := blk_set BZ 2 (.bool v)
 rw [e2] at b
 exact ⟨K.setCell (fun h => absurd h (Nat.not_lt.2 hg)) _, hg, hn, blk_other BA _ hn _, c2, b, v2⟩
theorem StB2.set_name {S : Nat → Prop} {w wN : World} {ga gz : Nat} {CA : Array Value} {a_kind : Int} {a_pos : Int} {a_mu : Bool} {a_name : List UInt8} {a_ty : TyD} {a_has : Bool} {a_place : PlD} {a_val : ValD} {a_cond : OprD} {a_thn : List (StD)} {a_els : List (StD)} (h : StB2 S w wN ga CA gz ⟨a_kind, a_pos, a_mu, a_name, a_ty, a_has, a_place, a_val, a_cond, a_thn, a_els⟩)  : StB2 S w (wN.setCell ⟨gz, 3, none⟩ (.string ⟨#[]⟩)) ga CA gz ⟨a_kind, a_pos, a_mu, [], a_ty, a_has, a_place, a_val, a_cond, a_thn, a_els⟩ := by
 obtain ⟨K, hg, hn, BA, cs, BZ, hv⟩ := h
 obtain ⟨c2, e2, v2⟩ := St_set_name hv 
 have b := blk_set BZ 3 (.string ⟨#[]⟩)
 rw [e2] at b
 exact ⟨K.setCell (fun h => absurd h (Nat.not_lt.2 hg)) _, hg, hn, blk_other BA _ hn _, c2, b, v2⟩
theorem StB2.set_ty {S : Nat → Prop} {w wN : World} {ga gz : Nat} {CA : Array Value} {a_kind : Int} {a_pos : Int} {a_mu : Bool} {a_name : List UInt8} {a_ty : TyD} {a_has : Bool} {a_place : PlD} {a_val : ValD} {a_cond : OprD} {a_thn : List (StD)} {a_els : List (StD)} (h : StB2 S w wN ga CA gz ⟨a_kind, a_pos, a_mu, a_name, a_ty, a_has, a_place, a_val, a_cond, a_thn, a_els⟩) : StB2 S w (midSet wN gz 4 #[.int .i64 0, .string ⟨#[]⟩, .slice none 0 0, .slice none 0 0]) ga CA gz ⟨a_kind, a_pos, a_mu, a_name, zeroTy, a_has, a_place, a_val, a_cond, a_thn, a_els⟩ := by
 obtain ⟨K, hg, hn, BA, cs, BZ, hv⟩ := h
 obtain ⟨c2, e2, v2⟩ := St_set_ty hv zeroTy tyC (zeroTy_is S w)
 have b := blk_midSet BZ 4 tyC.toArray
 rw [e2] at b
 exact ⟨midSet_keeps K (fun h => absurd h (Nat.not_lt.2 hg)) _ _, hg, hn, blk_setRow_other BA hn, c2, b, v2⟩
theorem StB2.set_has {S : Nat → Prop} {w wN : World} {ga gz : Nat} {CA : Array Value} {a_kind : Int} {a_pos : Int} {a_mu : Bool} {a_name : List UInt8} {a_ty : TyD} {a_has : Bool} {a_place : PlD} {a_val : ValD} {a_cond : OprD} {a_thn : List (StD)} {a_els : List (StD)} (h : StB2 S w wN ga CA gz ⟨a_kind, a_pos, a_mu, a_name, a_ty, a_has, a_place, a_val, a_cond, a_thn, a_els⟩) (v : Bool) : StB2 S w (wN.setCell ⟨gz, 8, none⟩ (.bool v)) ga CA gz ⟨a_kind, a_pos, a_mu, a_name, a_ty, v, a_place, a_val, a_cond, a_thn, a_els⟩ := by
 obtain ⟨K, hg, hn, BA, cs, BZ, hv⟩ := h
 obtain ⟨c2, e2, v2⟩ := St_set_has hv v
 have b := blk_set BZ 8 (.bool v)
 rw [e2] at b
 exact ⟨K.setCell (fun h => absurd h (Nat.not_lt.2 hg)) _, hg, hn, blk_other BA _ hn _, c2, b, v2⟩
theorem StB2.set_place {S : Nat → Prop} {w wN : World} {ga gz : Nat} {CA : Array Value} {a_kind : Int} {a_pos : Int} {a_mu : Bool} {a_name : List UInt8} {a_ty : TyD} {a_has : Bool} {a_place : PlD} {a_val : ValD} {a_cond : OprD} {a_thn : List (StD)} {a_els : List (StD)} (h : StB2 S w wN ga CA gz ⟨a_kind, a_pos, a_mu, a_name, a_ty, a_has, a_place, a_val, a_cond, a_thn, a_els⟩) : StB2 S w (midSet wN gz 9 #[.string ⟨#[]⟩, .slice none 0 0]) ga CA gz ⟨a_kind, a_pos, a_mu, a_name, a_ty, a_has, zeroPl, a_val, a_cond, a_thn, a_els⟩ := by
 obtain ⟨K, hg, hn, BA, cs, BZ, hv⟩ := h
 obtain ⟨c2, e2, v2⟩ := St_set_place hv zeroPl plC (zeroPl_is S w)
 have b := blk_midSet BZ 9 plC.toArray
 rw [e2] at b
 exact ⟨midSet_keeps K (fun h => absurd h (Nat.not_lt.2 hg)) _ _, hg, hn, blk_setRow_other BA hn, c2, b, v2⟩
theorem StB2.set_val {S : Nat → Prop} {w wN : World} {ga gz : Nat} {CA : Array Value} {a_kind : Int} {a_pos : Int} {a_mu : Bool} {a_name : List UInt8} {a_ty : TyD} {a_has : Bool} {a_place : PlD} {a_val : ValD} {a_cond : OprD} {a_thn : List (StD)} {a_els : List (StD)} (h : StB2 S w wN ga CA gz ⟨a_kind, a_pos, a_mu, a_name, a_ty, a_has, a_place, a_val, a_cond, a_thn, a_els⟩) : StB2 S w (midSet wN gz 11 #[.int .i64 0, .int .i64 0, .int .i64 0, .string ⟨#[]⟩, .slice none 0 0, .int .i64 0, .int .i64 0, .string ⟨#[]⟩, .slice none 0 0, .int .i64 0, .string ⟨#[]⟩, .slice none 0 0, .string ⟨#[]⟩, .slice none 0 0, .slice none 0 0]) ga CA gz ⟨a_kind, a_pos, a_mu, a_name, a_ty, a_has, a_place, zeroVal, a_cond, a_thn, a_els⟩ := by
 obtain ⟨K, hg, hn, BA, cs, BZ, hv⟩ := h
 obtain ⟨c2, e2, v2⟩ := St_set_val hv zeroVal valC (zeroVal_is S w)
 have b := blk_midSet BZ 11 valC.toArray
 rw [e2] at b
 exact ⟨midSet_keeps K (fun h => absurd h (Nat.not_lt.2 hg)) _ _, hg, hn, blk_setRow_other BA hn, c2, b, v2⟩
theorem StB2.set_cond {S : Nat → Prop} {w wN : World} {ga gz : Nat} {CA : Array Value} {a_kind : Int} {a_pos : Int} {a_mu : Bool} {a_name : List UInt8} {a_ty : TyD} {a_has : Bool} {a_place : PlD} {a_val : ValD} {a_cond : OprD} {a_thn : List (StD)} {a_els : List (StD)} (h : StB2 S w wN ga CA gz ⟨a_kind, a_pos, a_mu, a_name, a_ty, a_has, a_place, a_val, a_cond, a_thn, a_els⟩) : StB2 S w (midSet wN gz 26 #[.int .i64 0, .int .i64 0, .string ⟨#[]⟩, .slice none 0 0]) ga CA gz ⟨a_kind, a_pos, a_mu, a_name, a_ty, a_has, a_place, a_val, zeroOpr, a_thn, a_els⟩ := by
 obtain ⟨K, hg, hn, BA, cs, BZ, hv⟩ := h
 obtain ⟨c2, e2, v2⟩ := St_set_cond hv zeroOpr oprC (zeroOpr_is S w)
 have b := blk_midSet BZ 26 oprC.toArray
 rw [e2] at b
 exact ⟨midSet_keeps K (fun h => absurd h (Nat.not_lt.2 hg)) _ _, hg, hn, blk_setRow_other BA hn, c2, b, v2⟩
theorem StB2.set_thn {S : Nat → Prop} {w wN : World} {ga gz : Nat} {CA : Array Value} {a_kind : Int} {a_pos : Int} {a_mu : Bool} {a_name : List UInt8} {a_ty : TyD} {a_has : Bool} {a_place : PlD} {a_val : ValD} {a_cond : OprD} {a_thn : List (StD)} {a_els : List (StD)} (h : StB2 S w wN ga CA gz ⟨a_kind, a_pos, a_mu, a_name, a_ty, a_has, a_place, a_val, a_cond, a_thn, a_els⟩)  : StB2 S w (wN.setCell ⟨gz, 30, none⟩ (.slice none 0 0)) ga CA gz ⟨a_kind, a_pos, a_mu, a_name, a_ty, a_has, a_place, a_val, a_cond, [], a_els⟩ := by
 obtain ⟨K, hg, hn, BA, cs, BZ, hv⟩ := h
 obtain ⟨c2, e2, v2⟩ := St_set_thn hv 
 have b := blk_set BZ 30 (.slice none 0 0)
 rw [e2] at b
 exact ⟨K.setCell (fun h => absurd h (Nat.not_lt.2 hg)) _, hg, hn, blk_other BA _ hn _, c2, b, v2⟩
theorem StB2.set_els {S : Nat → Prop} {w wN : World} {ga gz : Nat} {CA : Array Value} {a_kind : Int} {a_pos : Int} {a_mu : Bool} {a_name : List UInt8} {a_ty : TyD} {a_has : Bool} {a_place : PlD} {a_val : ValD} {a_cond : OprD} {a_thn : List (StD)} {a_els : List (StD)} (h : StB2 S w wN ga CA gz ⟨a_kind, a_pos, a_mu, a_name, a_ty, a_has, a_place, a_val, a_cond, a_thn, a_els⟩)  : StB2 S w (wN.setCell ⟨gz, 31, none⟩ (.slice none 0 0)) ga CA gz ⟨a_kind, a_pos, a_mu, a_name, a_ty, a_has, a_place, a_val, a_cond, a_thn, []⟩ := by
 obtain ⟨K, hg, hn, BA, cs, BZ, hv⟩ := h
 obtain ⟨c2, e2, v2⟩ := St_set_els hv 
 have b := blk_set BZ 31 (.slice none 0 0)
 rw [e2] at b
 exact ⟨K.setCell (fun h => absurd h (Nat.not_lt.2 hg)) _, hg, hn, blk_other BA _ hn _, c2, b, v2⟩
end Go.Proofs.YtjbcagbnagefcaaGreat
