/- Tree12 Tree13 Tree14 TrT Tree4 -/
import Derived.Test.YtjbcagbnagefcaaGreatZa2
namespace Go.Proofs.YtjbcagbnagefcaaGreat
open Go.RowKit

theorem list2 {l : List Value} (h : l.length = 2) : ∃ x0 x1, l = [x0, x1] := by
  match l, h with
  | [x0, x1], _ => exact ⟨x0, x1, rfl⟩
theorem list4 {l : List Value} (h : l.length = 4) : ∃ x0 x1 x2 x3, l = [x0, x1, x2, x3] := by
  match l, h with
  | [x0, x1, x2, x3], _ => exact ⟨x0, x1, x2, x3, rfl⟩
theorem list15 {l : List Value} (h : l.length = 15) : ∃ x0 x1 x2 x3 x4 x5 x6 x7 x8 x9 x10 x11 x12 x13 x14, l = [x0, x1, x2, x3, x4, x5, x6, x7, x8, x9, x10, x11, x12, x13, x14] := by
  match l, h with
  | [x0, x1, x2, x3, x4, x5, x6, x7, x8, x9, x10, x11, x12, x13, x14], _ => exact ⟨x0, x1, x2, x3, x4, x5, x6, x7, x8, x9, x10, x11, x12, x13, x14, rfl⟩

theorem Val_set_kind {S : Nat → Prop} {w : World} {a_kind : Int} {a_a : OprD} {a_b : OprD} {a_op : Int} {a_place : PlD} {a_name : List UInt8} {a_names : List (List UInt8)} {a_args : List (OprD)} {cs : List Value} (h : ValIs S w ⟨a_kind, a_a, a_b, a_op, a_place, a_name, a_names, a_args⟩ cs) (v : Int) : ∃ cs2, cs.toArray.setIfInBounds 0 (.int .i64 v) = List.toArray cs2 ∧ ValIs S w ⟨v, a_a, a_b, a_op, a_place, a_name, a_names, a_args⟩ cs2 := by
  obtain ⟨s1, s5, s10, p13, q13, p14, q14, hcs, ah_a, ah_b, ah_place, ah_name, ah_names, ah_args⟩ := h
  simp only at hcs ah_a ah_b ah_place ah_name ah_names ah_args
  obtain ⟨x1_0, x1_1, x1_2, x1_3, rfl⟩ := list4 ah_a.len
  obtain ⟨x5_0, x5_1, x5_2, x5_3, rfl⟩ := list4 ah_b.len
  obtain ⟨x10_0, x10_1, rfl⟩ := list2 ah_place.len
  subst hcs
  refine ⟨[.int .i64 v] ++ [x1_0, x1_1, x1_2, x1_3] ++ [x5_0, x5_1, x5_2, x5_3] ++ [.int .i64 a_op] ++ [x10_0, x10_1] ++ [txV a_name, .slice p13 a_names.length q13, .slice p14 a_args.length q14], rfl, ?_⟩
  exact ⟨[x1_0, x1_1, x1_2, x1_3], [x5_0, x5_1, x5_2, x5_3], [x10_0, x10_1], p13, q13, p14, q14, rfl, ah_a, ah_b, ah_place, ah_name, ah_names, ah_args⟩
theorem Val_set_a {S : Nat → Prop} {w : World} {a_kind : Int} {a_a : OprD} {a_b : OprD} {a_op : Int} {a_place : PlD} {a_name : List UInt8} {a_names : List (List UInt8)} {a_args : List (OprD)} {cs : List Value} (h : ValIs S w ⟨a_kind, a_a, a_b, a_op, a_place, a_name, a_names, a_args⟩ cs) (v : OprD) (H : List Value) (hv : OprIs S w v H) : ∃ cs2, midCs cs.toArray H.toArray 1 = List.toArray cs2 ∧ ValIs S w ⟨a_kind, v, a_b, a_op, a_place, a_name, a_names, a_args⟩ cs2 := by
  obtain ⟨s1, s5, s10, p13, q13, p14, q14, hcs, ah_a, ah_b, ah_place, ah_name, ah_names, ah_args⟩ := h
  simp only at hcs ah_a ah_b ah_place ah_name ah_names ah_args
  obtain ⟨x1_0, x1_1, x1_2, x1_3, rfl⟩ := list4 ah_a.len
  obtain ⟨x5_0, x5_1, x5_2, x5_3, rfl⟩ := list4 ah_b.len
  obtain ⟨x10_0, x10_1, rfl⟩ := list2 ah_place.len
  obtain ⟨y_0, y_1, y_2, y_3, rfl⟩ := list4 hv.len
  subst hcs
  refine ⟨[.int .i64 a_kind] ++ [y_0, y_1, y_2, y_3] ++ [x5_0, x5_1, x5_2, x5_3] ++ [.int .i64 a_op] ++ [x10_0, x10_1] ++ [txV a_name, .slice p13 a_names.length q13, .slice p14 a_args.length q14], rfl, ?_⟩
  exact ⟨[y_0, y_1, y_2, y_3], [x5_0, x5_1, x5_2, x5_3], [x10_0, x10_1], p13, q13, p14, q14, rfl, hv, ah_b, ah_place, ah_name, ah_names, ah_args⟩
theorem Val_set_b {S : Nat → Prop} {w : World} {a_kind : Int} {a_a : OprD} {a_b : OprD} {a_op : Int} {a_place : PlD} {a_name : List UInt8} {a_names : List (List UInt8)} {a_args : List (OprD)} {cs : List Value} (h : ValIs S w ⟨a_kind, a_a, a_b, a_op, a_place, a_name, a_names, a_args⟩ cs) (v : OprD) (H : List Value) (hv : OprIs S w v H) : ∃ cs2, midCs cs.toArray H.toArray 5 = List.toArray cs2 ∧ ValIs S w ⟨a_kind, a_a, v, a_op, a_place, a_name, a_names, a_args⟩ cs2 := by
  obtain ⟨s1, s5, s10, p13, q13, p14, q14, hcs, ah_a, ah_b, ah_place, ah_name, ah_names, ah_args⟩ := h
  simp only at hcs ah_a ah_b ah_place ah_name ah_names ah_args
  obtain ⟨x1_0, x1_1, x1_2, x1_3, rfl⟩ := list4 ah_a.len
  obtain ⟨x5_0, x5_1, x5_2, x5_3, rfl⟩ := list4 ah_b.len
  obtain ⟨x10_0, x10_1, rfl⟩ := list2 ah_place.len
  obtain ⟨y_0, y_1, y_2, y_3, rfl⟩ := list4 hv.len
  subst hcs
  refine ⟨[.int .i64 a_kind] ++ [x1_0, x1_1, x1_2, x1_3] ++ [y_0, y_1, y_2, y_3] ++ [.int .i64 a_op] ++ [x10_0, x10_1] ++ [txV a_name, .slice p13 a_names.length q13, .slice p14 a_args.length q14], rfl, ?_⟩
  exact ⟨[x1_0, x1_1, x1_2, x1_3], [y_0, y_1, y_2, y_3], [x10_0, x10_1], p13, q13, p14, q14, rfl, ah_a, hv, ah_place, ah_name, ah_names, ah_args⟩
theorem Val_set_op {S : Nat → Prop} {w : World} {a_kind : Int} {a_a : OprD} {a_b : OprD} {a_op : Int} {a_place : PlD} {a_name : List UInt8} {a_names : List (List UInt8)} {a_args : List (OprD)} {cs : List Value} (h : ValIs S w ⟨a_kind, a_a, a_b, a_op, a_place, a_name, a_names, a_args⟩ cs) (v : Int) : ∃ cs2, cs.toArray.setIfInBounds 9 (.int .i64 v) = List.toArray cs2 ∧ ValIs S w ⟨a_kind, a_a, a_b, v, a_place, a_name, a_names, a_args⟩ cs2 := by
  obtain ⟨s1, s5, s10, p13, q13, p14, q14, hcs, ah_a, ah_b, ah_place, ah_name, ah_names, ah_args⟩ := h
  simp only at hcs ah_a ah_b ah_place ah_name ah_names ah_args
  obtain ⟨x1_0, x1_1, x1_2, x1_3, rfl⟩ := list4 ah_a.len
  obtain ⟨x5_0, x5_1, x5_2, x5_3, rfl⟩ := list4 ah_b.len
  obtain ⟨x10_0, x10_1, rfl⟩ := list2 ah_place.len
  subst hcs
  refine ⟨[.int .i64 a_kind] ++ [x1_0, x1_1, x1_2, x1_3] ++ [x5_0, x5_1, x5_2, x5_3] ++ [.int .i64 v] ++ [x10_0, x10_1] ++ [txV a_name, .slice p13 a_names.length q13, .slice p14 a_args.length q14], rfl, ?_⟩
  exact ⟨[x1_0, x1_1, x1_2, x1_3], [x5_0, x5_1, x5_2, x5_3], [x10_0, x10_1], p13, q13, p14, q14, rfl, ah_a, ah_b, ah_place, ah_name, ah_names, ah_args⟩
theorem Val_set_place {S : Nat → Prop} {w : World} {a_kind : Int} {a_a : OprD} {a_b : OprD} {a_op : Int} {a_place : PlD} {a_name : List UInt8} {a_names : List (List UInt8)} {a_args : List (OprD)} {cs : List Value} (h : ValIs S w ⟨a_kind, a_a, a_b, a_op, a_place, a_name, a_names, a_args⟩ cs) (v : PlD) (H : List Value) (hv : PlIs S w v H) : ∃ cs2, midCs cs.toArray H.toArray 10 = List.toArray cs2 ∧ ValIs S w ⟨a_kind, a_a, a_b, a_op, v, a_name, a_names, a_args⟩ cs2 := by
  obtain ⟨s1, s5, s10, p13, q13, p14, q14, hcs, ah_a, ah_b, ah_place, ah_name, ah_names, ah_args⟩ := h
  simp only at hcs ah_a ah_b ah_place ah_name ah_names ah_args
  obtain ⟨x1_0, x1_1, x1_2, x1_3, rfl⟩ := list4 ah_a.len
  obtain ⟨x5_0, x5_1, x5_2, x5_3, rfl⟩ := list4 ah_b.len
  obtain ⟨x10_0, x10_1, rfl⟩ := list2 ah_place.len
  obtain ⟨y_0, y_1, rfl⟩ := list2 hv.len
  subst hcs
  refine ⟨[.int .i64 a_kind] ++ [x1_0, x1_1, x1_2, x1_3] ++ [x5_0, x5_1, x5_2, x5_3] ++ [.int .i64 a_op] ++ [y_0, y_1] ++ [txV a_name, .slice p13 a_names.length q13, .slice p14 a_args.length q14], rfl, ?_⟩
  exact ⟨[x1_0, x1_1, x1_2, x1_3], [x5_0, x5_1, x5_2, x5_3], [y_0, y_1], p13, q13, p14, q14, rfl, ah_a, ah_b, hv, ah_name, ah_names, ah_args⟩
theorem Val_set_name {S : Nat → Prop} {w : World} {a_kind : Int} {a_a : OprD} {a_b : OprD} {a_op : Int} {a_place : PlD} {a_name : List UInt8} {a_names : List (List UInt8)} {a_args : List (OprD)} {cs : List Value} (h : ValIs S w ⟨a_kind, a_a, a_b, a_op, a_place, a_name, a_names, a_args⟩ cs)  : ∃ cs2, cs.toArray.setIfInBounds 12 (.string ⟨#[]⟩) = List.toArray cs2 ∧ ValIs S w ⟨a_kind, a_a, a_b, a_op, a_place, [], a_names, a_args⟩ cs2 := by
  obtain ⟨s1, s5, s10, p13, q13, p14, q14, hcs, ah_a, ah_b, ah_place, ah_name, ah_names, ah_args⟩ := h
  simp only at hcs ah_a ah_b ah_place ah_name ah_names ah_args
  obtain ⟨x1_0, x1_1, x1_2, x1_3, rfl⟩ := list4 ah_a.len
  obtain ⟨x5_0, x5_1, x5_2, x5_3, rfl⟩ := list4 ah_b.len
  obtain ⟨x10_0, x10_1, rfl⟩ := list2 ah_place.len
  subst hcs
  refine ⟨[.int .i64 a_kind] ++ [x1_0, x1_1, x1_2, x1_3] ++ [x5_0, x5_1, x5_2, x5_3] ++ [.int .i64 a_op] ++ [x10_0, x10_1] ++ [txV [], .slice p13 a_names.length q13, .slice p14 a_args.length q14], rfl, ?_⟩
  exact ⟨[x1_0, x1_1, x1_2, x1_3], [x5_0, x5_1, x5_2, x5_3], [x10_0, x10_1], p13, q13, p14, q14, rfl, ah_a, ah_b, ah_place, Nat.zero_le _, ah_names, ah_args⟩
theorem Val_set_names {S : Nat → Prop} {w : World} {a_kind : Int} {a_a : OprD} {a_b : OprD} {a_op : Int} {a_place : PlD} {a_name : List UInt8} {a_names : List (List UInt8)} {a_args : List (OprD)} {cs : List Value} (h : ValIs S w ⟨a_kind, a_a, a_b, a_op, a_place, a_name, a_names, a_args⟩ cs)  : ∃ cs2, cs.toArray.setIfInBounds 13 (.slice none 0 0) = List.toArray cs2 ∧ ValIs S w ⟨a_kind, a_a, a_b, a_op, a_place, a_name, [], a_args⟩ cs2 := by
  obtain ⟨s1, s5, s10, p13, q13, p14, q14, hcs, ah_a, ah_b, ah_place, ah_name, ah_names, ah_args⟩ := h
  simp only at hcs ah_a ah_b ah_place ah_name ah_names ah_args
  obtain ⟨x1_0, x1_1, x1_2, x1_3, rfl⟩ := list4 ah_a.len
  obtain ⟨x5_0, x5_1, x5_2, x5_3, rfl⟩ := list4 ah_b.len
  obtain ⟨x10_0, x10_1, rfl⟩ := list2 ah_place.len
  subst hcs
  refine ⟨[.int .i64 a_kind] ++ [x1_0, x1_1, x1_2, x1_3] ++ [x5_0, x5_1, x5_2, x5_3] ++ [.int .i64 a_op] ++ [x10_0, x10_1] ++ [txV a_name, .slice none 0 0, .slice p14 a_args.length q14], rfl, ?_⟩
  exact ⟨[x1_0, x1_1, x1_2, x1_3], [x5_0, x5_1, x5_2, x5_3], [x10_0, x10_1], none, 0, p14, q14, rfl, ah_a, ah_b, ah_place, ah_name, slIs_nil _ _ _ _ _, ah_args⟩
theorem Val_set_args {S : Nat → Prop} {w : World} {a_kind : Int} {a_a : OprD} {a_b : OprD} {a_op : Int} {a_place : PlD} {a_name : List UInt8} {a_names : List (List UInt8)} {a_args : List (OprD)} {cs : List Value} (h : ValIs S w ⟨a_kind, a_a, a_b, a_op, a_place, a_name, a_names, a_args⟩ cs)  : ∃ cs2, cs.toArray.setIfInBounds 14 (.slice none 0 0) = List.toArray cs2 ∧ ValIs S w ⟨a_kind, a_a, a_b, a_op, a_place, a_name, a_names, []⟩ cs2 := by
  obtain ⟨s1, s5, s10, p13, q13, p14, q14, hcs, ah_a, ah_b, ah_place, ah_name, ah_names, ah_args⟩ := h
  simp only at hcs ah_a ah_b ah_place ah_name ah_names ah_args
  obtain ⟨x1_0, x1_1, x1_2, x1_3, rfl⟩ := list4 ah_a.len
  obtain ⟨x5_0, x5_1, x5_2, x5_3, rfl⟩ := list4 ah_b.len
  obtain ⟨x10_0, x10_1, rfl⟩ := list2 ah_place.len
  subst hcs
  refine ⟨[.int .i64 a_kind] ++ [x1_0, x1_1, x1_2, x1_3] ++ [x5_0, x5_1, x5_2, x5_3] ++ [.int .i64 a_op] ++ [x10_0, x10_1] ++ [txV a_name, .slice p13 a_names.length q13, .slice none 0 0], rfl, ?_⟩
  exact ⟨[x1_0, x1_1, x1_2, x1_3], [x5_0, x5_1, x5_2, x5_3], [x10_0, x10_1], p13, q13, none, 0, rfl, ah_a, ah_b, ah_place, ah_name, ah_names, slIs_nil _ _ _ _ _⟩
theorem St_set_kind {S : Nat → Prop} {w : World} {a_kind : Int} {a_pos : Int} {a_mu : Bool} {a_name : List UInt8} {a_ty : TyD} {a_has : Bool} {a_place : PlD} {a_val : ValD} {a_cond : OprD} {a_thn : List (StD)} {a_els : List (StD)} {cs : List Value} (h : StIs S w ⟨a_kind, a_pos, a_mu, a_name, a_ty, a_has, a_place, a_val, a_cond, a_thn, a_els⟩ cs) (v : Int) : ∃ cs2, cs.toArray.setIfInBounds 0 (.int .i64 v) = List.toArray cs2 ∧ StIs S w ⟨v, a_pos, a_mu, a_name, a_ty, a_has, a_place, a_val, a_cond, a_thn, a_els⟩ cs2 := by
  rw [stIs_iff] at h
  obtain ⟨s4, s9, s11, s26, p30, q30, p31, q31, hcs, ah_name, ah_ty, ah_place, ah_val, ah_cond, ah_thn, ah_els⟩ := h
  simp only [StD.kind, StD.pos, StD.mu, StD.name, StD.ty, StD.has, StD.place, StD.val, StD.cond, StD.thn, StD.els] at hcs ah_name ah_ty ah_place ah_val ah_cond ah_thn ah_els
  obtain ⟨x4_0, x4_1, x4_2, x4_3, rfl⟩ := list4 ah_ty.len
  obtain ⟨x9_0, x9_1, rfl⟩ := list2 ah_place.len
  obtain ⟨x11_0, x11_1, x11_2, x11_3, x11_4, x11_5, x11_6, x11_7, x11_8, x11_9, x11_10, x11_11, x11_12, x11_13, x11_14, rfl⟩ := list15 ah_val.len
  obtain ⟨x26_0, x26_1, x26_2, x26_3, rfl⟩ := list4 ah_cond.len
  subst hcs
  refine ⟨[.int .i64 v, .int .i64 a_pos, .bool a_mu, txV a_name] ++ [x4_0, x4_1, x4_2, x4_3] ++ [.bool a_has] ++ [x9_0, x9_1] ++ [x11_0, x11_1, x11_2, x11_3, x11_4, x11_5, x11_6, x11_7, x11_8, x11_9, x11_10, x11_11, x11_12, x11_13, x11_14] ++ [x26_0, x26_1, x26_2, x26_3] ++ [.slice p30 a_thn.length q30, .slice p31 a_els.length q31], rfl, ?_⟩
  rw [stIs_iff]
  exact ⟨[x4_0, x4_1, x4_2, x4_3], [x9_0, x9_1], [x11_0, x11_1, x11_2, x11_3, x11_4, x11_5, x11_6, x11_7, x11_8, x11_9, x11_10, x11_11, x11_12, x11_13, x11_14], [x26_0, x26_1, x26_2, x26_3], p30, q30, p31, q31, rfl, ah_name, ah_ty, ah_place, ah_val, ah_cond, ah_thn, ah_els⟩
theorem St_set_pos {S : Nat → Prop} {w : World} {a_kind : Int} {a_pos : Int} {a_mu : Bool} {a_name : List UInt8} {a_ty : TyD} {a_has : Bool} {a_place : PlD} {a_val : ValD} {a_cond : OprD} {a_thn : List (StD)} {a_els : List (StD)} {cs : List Value} (h : StIs S w ⟨a_kind, a_pos, a_mu, a_name, a_ty, a_has, a_place, a_val, a_cond, a_thn, a_els⟩ cs) (v : Int) : ∃ cs2, cs.toArray.setIfInBounds 1 (.int .i64 v) = List.toArray cs2 ∧ StIs S w ⟨a_kind, v, a_mu, a_name, a_ty, a_has, a_place, a_val, a_cond, a_thn, a_els⟩ cs2 := by
  rw [stIs_iff] at h
  obtain ⟨s4, s9, s11, s26, p30, q30, p31, q31, hcs, ah_name, ah_ty, ah_place, ah_val, ah_cond, ah_thn, ah_els⟩ := h
  simp only [StD.kind, StD.pos, StD.mu, StD.name, StD.ty, StD.has, StD.place, StD.val, StD.cond, StD.thn, StD.els] at hcs ah_name ah_ty ah_place ah_val ah_cond ah_thn ah_els
  obtain ⟨x4_0, x4_1, x4_2, x4_3, rfl⟩ := list4 ah_ty.len
  obtain ⟨x9_0, x9_1, rfl⟩ := list2 ah_place.len
  obtain ⟨x11_0, x11_1, x11_2, x11_3, x11_4, x11_5, x11_6, x11_7, x11_8, x11_9, x11_10, x11_11, x11_12, x11_13, x11_14, rfl⟩ := list15 ah_val.len
  obtain ⟨x26_0, x26_1, x26_2, x26_3, rfl⟩ := list4 ah_cond.len
  subst hcs
  refine ⟨[.int .i64 a_kind, .int .i64 v, .bool a_mu, txV a_name] ++ [x4_0, x4_1, x4_2, x4_3] ++ [.bool a_has] ++ [x9_0, x9_1] ++ [x11_0, x11_1, x11_2, x11_3, x11_4, x11_5, x11_6, x11_7, x11_8, x11_9, x11_10, x11_11, x11_12, x11_13, x11_14] ++ [x26_0, x26_1, x26_2, x26_3] ++ [.slice p30 a_thn.length q30, .slice p31 a_els.length q31], rfl, ?_⟩
  rw [stIs_iff]
  exact ⟨[x4_0, x4_1, x4_2, x4_3], [x9_0, x9_1], [x11_0, x11_1, x11_2, x11_3, x11_4, x11_5, x11_6, x11_7, x11_8, x11_9, x11_10, x11_11, x11_12, x11_13, x11_14], [x26_0, x26_1, x26_2, x26_3], p30, q30, p31, q31, rfl, ah_name, ah_ty, ah_place, ah_val, ah_cond, ah_thn, ah_els⟩
theorem St_set_mu {S : Nat → Prop} {w : World} {a_kind : Int} {a_pos : Int} {a_mu : Bool} {a_name : List UInt8} {a_ty : TyD} {a_has : Bool} {a_place : PlD} {a_val : ValD} {a_cond : OprD} {a_thn : List (StD)} {a_els : List (StD)} {cs : List Value} (h : StIs S w ⟨a_kind, a_pos, a_mu, a_name, a_ty, a_has, a_place, a_val, a_cond, a_thn, a_els⟩ cs) (v : Bool) : ∃ cs2, cs.toArray.setIfInBounds 2 (.bool v) = List.toArray cs2 ∧ StIs S w ⟨a_kind, a_pos, v, a_name, a_ty, a_has, a_place, a_val, a_cond, a_thn, a_els⟩ cs2 := by
  rw [stIs_iff] at h
  obtain ⟨s4, s9, s11, s26, p30, q30, p31, q31, hcs, ah_name, ah_ty, ah_place, ah_val, ah_cond, ah_thn, ah_els⟩ := h
  simp only [StD.kind, StD.pos, StD.mu, StD.name, StD.ty, StD.has, StD.place, StD.val, StD.cond, StD.thn, StD.els] at hcs ah_name ah_ty ah_place ah_val ah_cond ah_thn ah_els
  obtain ⟨x4_0, x4_1, x4_2, x4_3, rfl⟩ := list4 ah_ty.len
  obtain ⟨x9_0, x9_1, rfl⟩ := list2 ah_place.len
  obtain ⟨x11_0, x11_1, x11_2, x11_3, x11_4, x11_5, x11_6, x11_7, x11_8, x11_9, x11_10, x11_11, x11_12, x11_13, x11_14, rfl⟩ := list15 ah_val.len
  obtain ⟨x26_0, x26_1, x26_2, x26_3, rfl⟩ := list4 ah_cond.len
  subst hcs
  refine ⟨[.int .i64 a_kind, .int .i64 a_pos, .bool v, txV a_name] ++ [x4_0, x4_1, x4_2, x4_3] ++ [.bool a_has] ++ [x9_0, x9_1] ++ [x11_0, x11_1, x11_2, x11_3, x11_4, x11_5, x11_6, x11_7, x11_8, x11_9, x11_10, x11_11, x11_12, x11_13, x11_14] ++ [x26_0, x26_1, x26_2, x26_3] ++ [.slice p30 a_thn.length q30, .slice p31 a_els.length q31], rfl, ?_⟩
  rw [stIs_iff]
  exact ⟨[x4_0, x4_1, x4_2, x4_3], [x9_0, x9_1], [x11_0, x11_1, x11_2, x11_3, x11_4, x11_5, x11_6, x11_7, x11_8, x11_9, x11_10, x11_11, x11_12, x11_13, x11_14], [x26_0, x26_1, x26_2, x26_3], p30, q30, p31, q31, rfl, ah_name, ah_ty, ah_place, ah_val, ah_cond, ah_thn, ah_els⟩
theorem St_set_name {S : Nat → Prop} {w : World} {a_kind : Int} {a_pos : Int} {a_mu : Bool} {a_name : List UInt8} {a_ty : TyD} {a_has : Bool} {a_place : PlD} {a_val : ValD} {a_cond : OprD} {a_thn : List (StD)} {a_els : List (StD)} {cs : List Value} (h : StIs S w ⟨a_kind, a_pos, a_mu, a_name, a_ty, a_has, a_place, a_val, a_cond, a_thn, a_els⟩ cs)  : ∃ cs2, cs.toArray.setIfInBounds 3 (.string ⟨#[]⟩) = List.toArray cs2 ∧ StIs S w ⟨a_kind, a_pos, a_mu, [], a_ty, a_has, a_place, a_val, a_cond, a_thn, a_els⟩ cs2 := by
  rw [stIs_iff] at h
  obtain ⟨s4, s9, s11, s26, p30, q30, p31, q31, hcs, ah_name, ah_ty, ah_place, ah_val, ah_cond, ah_thn, ah_els⟩ := h
  simp only [StD.kind, StD.pos, StD.mu, StD.name, StD.ty, StD.has, StD.place, StD.val, StD.cond, StD.thn, StD.els] at hcs ah_name ah_ty ah_place ah_val ah_cond ah_thn ah_els
  obtain ⟨x4_0, x4_1, x4_2, x4_3, rfl⟩ := list4 ah_ty.len
  obtain ⟨x9_0, x9_1, rfl⟩ := list2 ah_place.len
  obtain ⟨x11_0, x11_1, x11_2, x11_3, x11_4, x11_5, x11_6, x11_7, x11_8, x11_9, x11_10, x11_11, x11_12, x11_13, x11_14, rfl⟩ := list15 ah_val.len
  obtain ⟨x26_0, x26_1, x26_2, x26_3, rfl⟩ := list4 ah_cond.len
  subst hcs
  refine ⟨[.int .i64 a_kind, .int .i64 a_pos, .bool a_mu, txV []] ++ [x4_0, x4_1, x4_2, x4_3] ++ [.bool a_has] ++ [x9_0, x9_1] ++ [x11_0, x11_1, x11_2, x11_3, x11_4, x11_5, x11_6, x11_7, x11_8, x11_9, x11_10, x11_11, x11_12, x11_13, x11_14] ++ [x26_0, x26_1, x26_2, x26_3] ++ [.slice p30 a_thn.length q30, .slice p31 a_els.length q31], rfl, ?_⟩
  rw [stIs_iff]
  exact ⟨[x4_0, x4_1, x4_2, x4_3], [x9_0, x9_1], [x11_0, x11_1, x11_2, x11_3, x11_4, x11_5, x11_6, x11_7, x11_8, x11_9, x11_10, x11_11, x11_12, x11_13, x11_14], [x26_0, x26_1, x26_2, x26_3], p30, q30, p31, q31, rfl, Nat.zero_le _, ah_ty, ah_place, ah_val, ah_cond, ah_thn, ah_els⟩
theorem St_set_ty {S : Nat → Prop} {w : World} {a_kind : Int} {a_pos : Int} {a_mu : Bool} {a_name : List UInt8} {a_ty : TyD} {a_has : Bool} {a_place : PlD} {a_val : ValD} {a_cond : OprD} {a_thn : List (StD)} {a_els : List (StD)} {cs : List Value} (h : StIs S w ⟨a_kind, a_pos, a_mu, a_name, a_ty, a_has, a_place, a_val, a_cond, a_thn, a_els⟩ cs) (v : TyD) (H : List Value) (hv : TyIs S w v H) : ∃ cs2, midCs cs.toArray H.toArray 4 = List.toArray cs2 ∧ StIs S w ⟨a_kind, a_pos, a_mu, a_name, v, a_has, a_place, a_val, a_cond, a_thn, a_els⟩ cs2 := by
  rw [stIs_iff] at h
  obtain ⟨s4, s9, s11, s26, p30, q30, p31, q31, hcs, ah_name, ah_ty, ah_place, ah_val, ah_cond, ah_thn, ah_els⟩ := h
  simp only [StD.kind, StD.pos, StD.mu, StD.name, StD.ty, StD.has, StD.place, StD.val, StD.cond, StD.thn, StD.els] at hcs ah_name ah_ty ah_place ah_val ah_cond ah_thn ah_els
  obtain ⟨x4_0, x4_1, x4_2, x4_3, rfl⟩ := list4 ah_ty.len
  obtain ⟨x9_0, x9_1, rfl⟩ := list2 ah_place.len
  obtain ⟨x11_0, x11_1, x11_2, x11_3, x11_4, x11_5, x11_6, x11_7, x11_8, x11_9, x11_10, x11_11, x11_12, x11_13, x11_14, rfl⟩ := list15 ah_val.len
  obtain ⟨x26_0, x26_1, x26_2, x26_3, rfl⟩ := list4 ah_cond.len
  obtain ⟨y_0, y_1, y_2, y_3, rfl⟩ := list4 hv.len
  subst hcs
  refine ⟨[.int .i64 a_kind, .int .i64 a_pos, .bool a_mu, txV a_name] ++ [y_0, y_1, y_2, y_3] ++ [.bool a_has] ++ [x9_0, x9_1] ++ [x11_0, x11_1, x11_2, x11_3, x11_4, x11_5, x11_6, x11_7, x11_8, x11_9, x11_10, x11_11, x11_12, x11_13, x11_14] ++ [x26_0, x26_1, x26_2, x26_3] ++ [.slice p30 a_thn.length q30, .slice p31 a_els.length q31], rfl, ?_⟩
  rw [stIs_iff]
  exact ⟨[y_0, y_1, y_2, y_3], [x9_0, x9_1], [x11_0, x11_1, x11_2, x11_3, x11_4, x11_5, x11_6, x11_7, x11_8, x11_9, x11_10, x11_11, x11_12, x11_13, x11_14], [x26_0, x26_1, x26_2, x26_3], p30, q30, p31, q31, rfl, ah_name, hv, ah_place, ah_val, ah_cond, ah_thn, ah_els⟩
theorem St_set_has {S : Nat → Prop} {w : World} {a_kind : Int} {a_pos : Int} {a_mu : Bool} {a_name : List UInt8} {a_ty : TyD} {a_has : Bool} {a_place : PlD} {a_val : ValD} {a_cond : OprD} {a_thn : List (StD)} {a_els : List (StD)} {cs : List Value} (h : StIs S w ⟨a_kind, a_pos, a_mu, a_name, a_ty, a_has, a_place, a_val, a_cond, a_thn, a_els⟩ cs) (v : Bool) : ∃ cs2, cs.toArray.setIfInBounds 8 (.bool v) = List.toArray cs2 ∧ StIs S w ⟨a_kind, a_pos, a_mu, a_name, a_ty, v, a_place, a_val, a_cond, a_thn, a_els⟩ cs2 := by
  rw [stIs_iff] at h
  obtain ⟨s4, s9, s11, s26, p30, q30, p31, q31, hcs, ah_name, ah_ty, ah_place, ah_val, ah_cond, ah_thn, ah_els⟩ := h
  simp only [StD.kind, StD.pos, StD.mu, StD.name, StD.ty, StD.has, StD.place, StD.val, StD.cond, StD.thn, StD.els] at hcs ah_name ah_ty ah_place ah_val ah_cond ah_thn ah_els
  obtain ⟨x4_0, x4_1, x4_2, x4_3, rfl⟩ := list4 ah_ty.len
  obtain ⟨x9_0, x9_1, rfl⟩ := list2 ah_place.len
  obtain ⟨x11_0, x11_1, x11_2, x11_3, x11_4, x11_5, x11_6, x11_7, x11_8, x11_9, x11_10, x11_11, x11_12, x11_13, x11_14, rfl⟩ := list15 ah_val.len
  obtain ⟨x26_0, x26_1, x26_2, x26_3, rfl⟩ := list4 ah_cond.len
  subst hcs
  refine ⟨[.int .i64 a_kind, .int .i64 a_pos, .bool a_mu, txV a_name] ++ [x4_0, x4_1, x4_2, x4_3] ++ [.bool v] ++ [x9_0, x9_1] ++ [x11_0, x11_1, x11_2, x11_3, x11_4, x11_5, x11_6, x11_7, x11_8, x11_9, x11_10, x11_11, x11_12, x11_13, x11_14] ++ [x26_0, x26_1, x26_2, x26_3] ++ [.slice p30 a_thn.length q30, .slice p31 a_els.length q31], rfl, ?_⟩
  rw [stIs_iff]
  exact ⟨[x4_0, x4_1, x4_2, x4_3], [x9_0, x9_1], [x11_0, x11_1, x11_2, x11_3, x11_4, x11_5, x11_6, x11_7, x11_8, x11_9, x11_10, x11_11, x11_12, x11_13, x11_14], [x26_0, x26_1, x26_2, x26_3], p30, q30, p31, q31, rfl, ah_name, ah_ty, ah_place, ah_val, ah_cond, ah_thn, ah_els⟩
theorem St_set_place {S : Nat → Prop} {w : World} {a_kind : Int} {a_pos : Int} {a_mu : Bool} {a_name : List UInt8} {a_ty : TyD} {a_has : Bool} {a_place : PlD} {a_val : ValD} {a_cond : OprD} {a_thn : List (StD)} {a_els : List (StD)} {cs : List Value} (h : StIs S w ⟨a_kind, a_pos, a_mu, a_name, a_ty, a_has, a_place, a_val, a_cond, a_thn, a_els⟩ cs) (v : PlD) (H : List Value) (hv : PlIs S w v H) : ∃ cs2, midCs cs.toArray H.toArray 9 = List.toArray cs2 ∧ StIs S w ⟨a_kind, a_pos, a_mu, a_name, a_ty, a_has, v, a_val, a_cond, a_thn, a_els⟩ cs2 := by
  rw [stIs_iff] at h
  obtain ⟨s4, s9, s11, s26, p30, q30, p31, q31, hcs, ah_name, ah_ty, ah_place, ah_val, ah_cond, ah_thn, ah_els⟩ := h
  simp only [StD.kind, StD.pos, StD.mu, StD.name, StD.ty, StD.has, StD.place, StD.val, StD.cond, StD.thn, StD.els] at hcs ah_name ah_ty ah_place ah_val ah_cond ah_thn ah_els
  obtain ⟨x4_0, x4_1, x4_2, x4_3, rfl⟩ := list4 ah_ty.len
  obtain ⟨x9_0, x9_1, rfl⟩ := list2 ah_place.len
  obtain ⟨x11_0, x11_1, x11_2, x11_3, x11_4, x11_5, x11_6, x11_7, x11_8, x11_9, x11_10, x11_11, x11_12, x11_13, x11_14, rfl⟩ := list15 ah_val.len
  obtain ⟨x26_0, x26_1, x26_2, x26_3, rfl⟩ := list4 ah_cond.len
  obtain ⟨y_0, y_1, rfl⟩ := list2 hv.len
  subst hcs
  refine ⟨[.int .i64 a_kind, .int .i64 a_pos, .bool a_mu, txV a_name] ++ [x4_0, x4_1, x4_2, x4_3] ++ [.bool a_has] ++ [y_0, y_1] ++ [x11_0, x11_1, x11_2, x11_3, x11_4, x11_5, x11_6, x11_7, x11_8, x11_9, x11_10, x11_11, x11_12, x11_13, x11_14] ++ [x26_0, x26_1, x26_2, x26_3] ++ [.slice p30 a_thn.length q30, .slice p31 a_els.length q31], rfl, ?_⟩
  rw [stIs_iff]
  exact ⟨[x4_0, x4_1, x4_2, x4_3], [y_0, y_1], [x11_0, x11_1, x11_2, x11_3, x11_4, x11_5, x11_6, x11_7, x11_8, x11_9, x11_10, x11_11, x11_12, x11_13, x11_14], [x26_0, x26_1, x26_2, x26_3], p30, q30, p31, q31, rfl, ah_name, ah_ty, hv, ah_val, ah_cond, ah_thn, ah_els⟩
theorem St_set_val {S : Nat → Prop} {w : World} {a_kind : Int} {a_pos : Int} {a_mu : Bool} {a_name : List UInt8} {a_ty : TyD} {a_has : Bool} {a_place : PlD} {a_val : ValD} {a_cond : OprD} {a_thn : List (StD)} {a_els : List (StD)} {cs : List Value} (h : StIs S w ⟨a_kind, a_pos, a_mu, a_name, a_ty, a_has, a_place, a_val, a_cond, a_thn, a_els⟩ cs) (v : ValD) (H : List Value) (hv : ValIs S w v H) : ∃ cs2, midCs cs.toArray H.toArray 11 = List.toArray cs2 ∧ StIs S w ⟨a_kind, a_pos, a_mu, a_name, a_ty, a_has, a_place, v, a_cond, a_thn, a_els⟩ cs2 := by
  rw [stIs_iff] at h
  obtain ⟨s4, s9, s11, s26, p30, q30, p31, q31, hcs, ah_name, ah_ty, ah_place, ah_val, ah_cond, ah_thn, ah_els⟩ := h
  simp only [StD.kind, StD.pos, StD.mu, StD.name, StD.ty, StD.has, StD.place, StD.val, StD.cond, StD.thn, StD.els] at hcs ah_name ah_ty ah_place ah_val ah_cond ah_thn ah_els
  obtain ⟨x4_0, x4_1, x4_2, x4_3, rfl⟩ := list4 ah_ty.len
  obtain ⟨x9_0, x9_1, rfl⟩ := list2 ah_place.len
  obtain ⟨x11_0, x11_1, x11_2, x11_3, x11_4, x11_5, x11_6, x11_7, x11_8, x11_9, x11_10, x11_11, x11_12, x11_13, x11_14, rfl⟩ := list15 ah_val.len
  obtain ⟨x26_0, x26_1, x26_2, x26_3, rfl⟩ := list4 ah_cond.len
  obtain ⟨y_0, y_1, y_2, y_3, y_4, y_5, y_6, y_7, y_8, y_9, y_10, y_11, y_12, y_13, y_14, rfl⟩ := list15 hv.len
  subst hcs
  refine ⟨[.int .i64 a_kind, .int .i64 a_pos, .bool a_mu, txV a_name] ++ [x4_0, x4_1, x4_2, x4_3] ++ [.bool a_has] ++ [x9_0, x9_1] ++ [y_0, y_1, y_2, y_3, y_4, y_5, y_6, y_7, y_8, y_9, y_10, y_11, y_12, y_13, y_14] ++ [x26_0, x26_1, x26_2, x26_3] ++ [.slice p30 a_thn.length q30, .slice p31 a_els.length q31], rfl, ?_⟩
  rw [stIs_iff]
  exact ⟨[x4_0, x4_1, x4_2, x4_3], [x9_0, x9_1], [y_0, y_1, y_2, y_3, y_4, y_5, y_6, y_7, y_8, y_9, y_10, y_11, y_12, y_13, y_14], [x26_0, x26_1, x26_2, x26_3], p30, q30, p31, q31, rfl, ah_name, ah_ty, ah_place, hv, ah_cond, ah_thn, ah_els⟩
theorem St_set_cond {S : Nat → Prop} {w : World} {a_kind : Int} {a_pos : Int} {a_mu : Bool} {a_name : List UInt8} {a_ty : TyD} {a_has : Bool} {a_place : PlD} {a_val : ValD} {a_cond : OprD} {a_thn : List (StD)} {a_els : List (StD)} {cs : List Value} (h : StIs S w ⟨a_kind, a_pos, a_mu, a_name, a_ty, a_has, a_place, a_val, a_cond, a_thn, a_els⟩ cs) (v : OprD) (H : List Value) (hv : OprIs S w v H) : ∃ cs2, midCs cs.toArray H.toArray 26 = List.toArray cs2 ∧ StIs S w ⟨a_kind, a_pos, a_mu, a_name, a_ty, a_has, a_place, a_val, v, a_thn, a_els⟩ cs2 := by
  rw [stIs_iff] at h
  obtain ⟨s4, s9, s11, s26, p30, q30, p31, q31, hcs, ah_name, ah_ty, ah_place, ah_val, ah_cond, ah_thn, ah_els⟩ := h
  simp only [StD.kind, StD.pos, StD.mu, StD.name, StD.ty, StD.has, StD.place, StD.val, StD.cond, StD.thn, StD.els] at hcs ah_name ah_ty ah_place ah_val ah_cond ah_thn ah_els
  obtain ⟨x4_0, x4_1, x4_2, x4_3, rfl⟩ := list4 ah_ty.len
  obtain ⟨x9_0, x9_1, rfl⟩ := list2 ah_place.len
  obtain ⟨x11_0, x11_1, x11_2, x11_3, x11_4, x11_5, x11_6, x11_7, x11_8, x11_9, x11_10, x11_11, x11_12, x11_13, x11_14, rfl⟩ := list15 ah_val.len
  obtain ⟨x26_0, x26_1, x26_2, x26_3, rfl⟩ := list4 ah_cond.len
  obtain ⟨y_0, y_1, y_2, y_3, rfl⟩ := list4 hv.len
  subst hcs
  refine ⟨[.int .i64 a_kind, .int .i64 a_pos, .bool a_mu, txV a_name] ++ [x4_0, x4_1, x4_2, x4_3] ++ [.bool a_has] ++ [x9_0, x9_1] ++ [x11_0, x11_1, x11_2, x11_3, x11_4, x11_5, x11_6, x11_7, x11_8, x11_9, x11_10, x11_11, x11_12, x11_13, x11_14] ++ [y_0, y_1, y_2, y_3] ++ [.slice p30 a_thn.length q30, .slice p31 a_els.length q31], rfl, ?_⟩
  rw [stIs_iff]
  exact ⟨[x4_0, x4_1, x4_2, x4_3], [x9_0, x9_1], [x11_0, x11_1, x11_2, x11_3, x11_4, x11_5, x11_6, x11_7, x11_8, x11_9, x11_10, x11_11, x11_12, x11_13, x11_14], [y_0, y_1, y_2, y_3], p30, q30, p31, q31, rfl, ah_name, ah_ty, ah_place, ah_val, hv, ah_thn, ah_els⟩
theorem St_set_thn {S : Nat → Prop} {w : World} {a_kind : Int} {a_pos : Int} {a_mu : Bool} {a_name : List UInt8} {a_ty : TyD} {a_has : Bool} {a_place : PlD} {a_val : ValD} {a_cond : OprD} {a_thn : List (StD)} {a_els : List (StD)} {cs : List Value} (h : StIs S w ⟨a_kind, a_pos, a_mu, a_name, a_ty, a_has, a_place, a_val, a_cond, a_thn, a_els⟩ cs)  : ∃ cs2, cs.toArray.setIfInBounds 30 (.slice none 0 0) = List.toArray cs2 ∧ StIs S w ⟨a_kind, a_pos, a_mu, a_name, a_ty, a_has, a_place, a_val, a_cond, [], a_els⟩ cs2 := by
  rw [stIs_iff] at h
  obtain ⟨s4, s9, s11, s26, p30, q30, p31, q31, hcs, ah_name, ah_ty, ah_place, ah_val, ah_cond, ah_thn, ah_els⟩ := h
  simp only [StD.kind, StD.pos, StD.mu, StD.name, StD.ty, StD.has, StD.place, StD.val, StD.cond, StD.thn, StD.els] at hcs ah_name ah_ty ah_place ah_val ah_cond ah_thn ah_els
  obtain ⟨x4_0, x4_1, x4_2, x4_3, rfl⟩ := list4 ah_ty.len
  obtain ⟨x9_0, x9_1, rfl⟩ := list2 ah_place.len
  obtain ⟨x11_0, x11_1, x11_2, x11_3, x11_4, x11_5, x11_6, x11_7, x11_8, x11_9, x11_10, x11_11, x11_12, x11_13, x11_14, rfl⟩ := list15 ah_val.len
  obtain ⟨x26_0, x26_1, x26_2, x26_3, rfl⟩ := list4 ah_cond.len
  subst hcs
  refine ⟨[.int .i64 a_kind, .int .i64 a_pos, .bool a_mu, txV a_name] ++ [x4_0, x4_1, x4_2, x4_3] ++ [.bool a_has] ++ [x9_0, x9_1] ++ [x11_0, x11_1, x11_2, x11_3, x11_4, x11_5, x11_6, x11_7, x11_8, x11_9, x11_10, x11_11, x11_12, x11_13, x11_14] ++ [x26_0, x26_1, x26_2, x26_3] ++ [.slice none 0 0, .slice p31 a_els.length q31], rfl, ?_⟩
  rw [stIs_iff]
  exact ⟨[x4_0, x4_1, x4_2, x4_3], [x9_0, x9_1], [x11_0, x11_1, x11_2, x11_3, x11_4, x11_5, x11_6, x11_7, x11_8, x11_9, x11_10, x11_11, x11_12, x11_13, x11_14], [x26_0, x26_1, x26_2, x26_3], none, 0, p31, q31, rfl, ah_name, ah_ty, ah_place, ah_val, ah_cond, slIs_nil _ _ _ _ _, ah_els⟩
theorem St_set_els {S : Nat → Prop} {w : World} {a_kind : Int} {a_pos : Int} {a_mu : Bool} {a_name : List UInt8} {a_ty : TyD} {a_has : Bool} {a_place : PlD} {a_val : ValD} {a_cond : OprD} {a_thn : List (StD)} {a_els : List (StD)} {cs : List Value} (h : StIs S w ⟨a_kind, a_pos, a_mu, a_name, a_ty, a_has, a_place, a_val, a_cond, a_thn, a_els⟩ cs)  : ∃ cs2, cs.toArray.setIfInBounds 31 (.slice none 0 0) = List.toArray cs2 ∧ StIs S w ⟨a_kind, a_pos, a_mu, a_name, a_ty, a_has, a_place, a_val, a_cond, a_thn, []⟩ cs2 := by
  rw [stIs_iff] at h
  obtain ⟨s4, s9, s11, s26, p30, q30, p31, q31, hcs, ah_name, ah_ty, ah_place, ah_val, ah_cond, ah_thn, ah_els⟩ := h
  simp only [StD.kind, StD.pos, StD.mu, StD.name, StD.ty, StD.has, StD.place, StD.val, StD.cond, StD.thn, StD.els] at hcs ah_name ah_ty ah_place ah_val ah_cond ah_thn ah_els
  obtain ⟨x4_0, x4_1, x4_2, x4_3, rfl⟩ := list4 ah_ty.len
  obtain ⟨x9_0, x9_1, rfl⟩ := list2 ah_place.len
  obtain ⟨x11_0, x11_1, x11_2, x11_3, x11_4, x11_5, x11_6, x11_7, x11_8, x11_9, x11_10, x11_11, x11_12, x11_13, x11_14, rfl⟩ := list15 ah_val.len
  obtain ⟨x26_0, x26_1, x26_2, x26_3, rfl⟩ := list4 ah_cond.len
  subst hcs
  refine ⟨[.int .i64 a_kind, .int .i64 a_pos, .bool a_mu, txV a_name] ++ [x4_0, x4_1, x4_2, x4_3] ++ [.bool a_has] ++ [x9_0, x9_1] ++ [x11_0, x11_1, x11_2, x11_3, x11_4, x11_5, x11_6, x11_7, x11_8, x11_9, x11_10, x11_11, x11_12, x11_13, x11_14] ++ [x26_0, x26_1, x26_2, x26_3] ++ [.slice p30 a_thn.length q30, .slice none 0 0], rfl, ?_⟩
  rw [stIs_iff]
  exact ⟨[x4_0, x4_1, x4_2, x4_3], [x9_0, x9_1], [x11_0, x11_1, x11_2, x11_3, x11_4, x11_5, x11_6, x11_7, x11_8, x11_9, x11_10, x11_11, x11_12, x11_13, x11_14], [x26_0, x26_1, x26_2, x26_3], p30, q30, none, 0, rfl, ah_name, ah_ty, ah_place, ah_val, ah_cond, ah_thn, slIs_nil _ _ _ _ _⟩

/-- A store in the middle of a box of operands, places, types, values. -/
theorem exec_into_pl (ρ : Operand → Value) (dst : Option Tmp) (x y : Operand) (ty' : TypeId) (pos : String) (af : Array Edge) (gd : Option (Nat × Bool)) (w : World) (h : midFitV w 2 (ρ x) = true) (hy : aggOk 2 (ρ y) = true) :
    (execOp ρ ⟨dst, .store 114 x y, ty', pos, af, gd⟩).run Tryz.prog w = .ok .skip (midSetV w (ρ x) (aggOf (ρ y))) := exec_store_mid _ 2 infoPl ρ dst x y ty' pos af gd w h hy
theorem exec_into_opr (ρ : Operand → Value) (dst : Option Tmp) (x y : Operand) (ty' : TypeId) (pos : String) (af : Array Edge) (gd : Option (Nat × Bool)) (w : World) (h : midFitV w 4 (ρ x) = true) (hy : aggOk 4 (ρ y) = true) :
    (execOp ρ ⟨dst, .store 116 x y, ty', pos, af, gd⟩).run Tryz.prog w = .ok .skip (midSetV w (ρ x) (aggOf (ρ y))) := exec_store_mid _ 4 infoOpr ρ dst x y ty' pos af gd w h hy
theorem exec_into_ty (ρ : Operand → Value) (dst : Option Tmp) (x y : Operand) (ty' : TypeId) (pos : String) (af : Array Edge) (gd : Option (Nat × Bool)) (w : World) (h : midFitV w 4 (ρ x) = true) (hy : aggOk 4 (ρ y) = true) :
    (execOp ρ ⟨dst, .store 53 x y, ty', pos, af, gd⟩).run Tryz.prog w = .ok .skip (midSetV w (ρ x) (aggOf (ρ y))) := exec_store_mid _ 4 infoTy ρ dst x y ty' pos af gd w h hy
theorem exec_into_val (ρ : Operand → Value) (dst : Option Tmp) (x y : Operand) (ty' : TypeId) (pos : String) (af : Array Edge) (gd : Option (Nat × Bool)) (w : World) (h : midFitV w 15 (ρ x) = true) (hy : aggOk 15 (ρ y) = true) :
    (execOp ρ ⟨dst, .store 119 x y, ty', pos, af, gd⟩).run Tryz.prog w = .ok .skip (midSetV w (ρ x) (aggOf (ρ y))) := exec_store_mid _ 15 infoVal ρ dst x y ty' pos af gd w h hy

def zeroOpr : OprD := ⟨0, 0, zeroPl⟩
def zeroVal : ValD := ⟨0, zeroOpr, zeroOpr, 0, zeroPl, [], [], []⟩
def zeroTy : TyD := .mk 0 [] [] []
def plC : List Value := [.string ⟨#[]⟩, .slice none 0 0]
def oprC : List Value := [.int .i64 0, .int .i64 0, .string ⟨#[]⟩, .slice none 0 0]
def tyC : List Value := [.int .i64 0, .string ⟨#[]⟩, .slice none 0 0, .slice none 0 0]
def valC : List Value := [.int .i64 0] ++ oprC ++ oprC ++ [.int .i64 0] ++ plC ++ [.string ⟨#[]⟩, .slice none 0 0, .slice none 0 0]
theorem zeroOpr_is (S : Nat → Prop) (w : World) : OprIs S w zeroOpr oprC := ⟨plC, rfl, zeroPl_is S w⟩
theorem zeroTy_is (S : Nat → Prop) (w : World) : TyIs S w zeroTy tyC := by
  rw [tyIs_iff]
  exact ⟨none, 0, none, 0, rfl, Nat.zero_le _, slIs_nil _ _ _ _ _, slIs_nil _ _ _ _ _⟩
theorem zeroVal_is (S : Nat → Prop) (w : World) : ValIs S w zeroVal valC := ⟨oprC, oprC, plC, none, 0, none, 0, rfl, zeroOpr_is S w, zeroOpr_is S w, zeroPl_is S w, Nat.zero_le _, slIs_nil _ _ _ _ _, slIs_nil _ _ _ _ _⟩

end Go.Proofs.YtjbcagbnagefcaaGreat

namespace Go.Proofs.YtjbcagbnagefcaaGreat
open Go.RowKit

/-- Two boxes: the given one (of cells CA) and one made since w, which holds v. -/
def ValB2 (S : Nat → Prop) (w wN : World) (ga : Nat) (CA : Array Value) (gz : Nat) (v : ValD) : Prop := Keeps Nothing w wN ∧ w.heap.size ≤ gz ∧ ga ≠ gz ∧ Blk wN ga CA 119 ∧ ∃ cs : List Value, Blk wN gz cs.toArray 119 ∧ ValIs S w v cs
theorem ValB2.keeps {S : Nat → Prop} {w wN wM : World} {ga gz : Nat} {CA : Array Value} {v : ValD} (h : ValB2 S w wN ga CA gz v) (k : Keeps Nothing wN wM) : ValB2 S w wM ga CA gz v := by
  obtain ⟨K, hg, hn, BA, cs, BZ, hv⟩ := h
  exact ⟨K.trans k (fun _ h _ => h), hg, hn, k.blk BA (fun h => h), cs, k.blk BZ (fun h => h), hv⟩
theorem ValB2.cell {S : Nat → Prop} {w wN : World} {ga gz : Nat} {CA : Array Value} {v : ValD} (h : ValB2 S w wN ga CA gz v) (i : Nat) (hi : i < 15) : ∃ u, wN.cell? ⟨gz, i, none⟩ = some u := by
  obtain ⟨K, hg, hn, BA, cs, BZ, hv⟩ := h
  have hl : i < cs.length := by rw [hv.len]; exact hi
  exact ⟨cs[i], blk_cell BZ i (by rw [List.getElem?_toArray]; exact List.getElem?_eq_getElem hl)⟩
theorem ValB2.free {S : Nat → Prop} {w wN : World} {ga gz : Nat} {CA : Array Value} {v : ValD} (h : ValB2 S w wN ga CA gz v) (i : Nat) : wN.frozen? ⟨gz, i, none⟩ = false := by
  obtain ⟨K, hg, hn, BA, cs, BZ, hv⟩ := h
  exact blk_free BZ i
theorem ValB2.fit {S : Nat → Prop} {w wN : World} {ga gz : Nat} {CA : Array Value} {v : ValD} (h : ValB2 S w wN ga CA gz v) (i m : Nat) (hi : i + m ≤ 15) : midFit wN gz i m = true := by
  obtain ⟨K, hg, hn, BA, cs, BZ, hv⟩ := h
  exact midFit_blk BZ (by have := hv.len; simp; omega)
theorem ValB2.new {S : Nat → Prop} {w wb : World} {ga : Nat} {CA : Array Value} {v : ValD} {cs : List Value} (K : Keeps Nothing w wb) (BA : Blk wb ga CA 119) (hc : CA = cs.toArray) (hv : ValIs S w v cs) : ValB2 S w (wb.alloc (.cells CA 119)) ga CA wb.heap.size v := by
  have hga : ga < wb.heap.size := by
    obtain ⟨h, _⟩ := Array.getElem?_eq_some_iff.1 (show wb.heap[ga]? = some _ from BA)
    exact h
  exact ⟨K.alloc _, K.size, by omega, blk_alloc BA _, cs, by rw [← hc]; exact blk_new wb CA _, hv⟩
theorem ValB2.set_kind {S : Nat → Prop} {w wN : World} {ga gz : Nat} {CA : Array Value} {a_kind : Int} {a_a : OprD} {a_b : OprD} {a_op : Int} {a_place : PlD} {a_name : List UInt8} {a_names : List (List UInt8)} {a_args : List (OprD)} (h : ValB2 S w wN ga CA gz ⟨a_kind, a_a, a_b, a_op, a_place, a_name, a_names, a_args⟩) (v : Int) : ValB2 S w (wN.setCell ⟨gz, 0, none⟩ (.int .i64 v)) ga CA gz ⟨v, a_a, a_b, a_op, a_place, a_name, a_names, a_args⟩ := by
  obtain ⟨K, hg, hn, BA, cs, BZ, hv⟩ := h
  obtain ⟨c2, e2, v2⟩ := Val_set_kind hv v
  have b := blk_set BZ 0 (.int .i64 v)
  rw [e2] at b
  exact ⟨K.setCell (fun h => absurd h (Nat.not_lt.2 hg)) _, hg, hn, blk_other BA _ hn _, c2, b, v2⟩
theorem ValB2.set_a {S : Nat → Prop} {w wN : World} {ga gz : Nat} {CA : Array Value} {a_kind : Int} {a_a : OprD} {a_b : OprD} {a_op : Int} {a_place : PlD} {a_name : List UInt8} {a_names : List (List UInt8)} {a_args : List (OprD)} (h : ValB2 S w wN ga CA gz ⟨a_kind, a_a, a_b, a_op, a_place, a_name, a_names, a_args⟩) : ValB2 S w (midSet wN gz 1 #[.int .i64 0, .int .i64 0, .string ⟨#[]⟩, .slice none 0 0]) ga CA gz ⟨a_kind, zeroOpr, a_b, a_op, a_place, a_name, a_names, a_args⟩ := by
  obtain ⟨K, hg, hn, BA, cs, BZ, hv⟩ := h
  obtain ⟨c2, e2, v2⟩ := Val_set_a hv zeroOpr oprC (zeroOpr_is S w)
  have b := blk_midSet BZ 1 oprC.toArray
  rw [e2] at b
  exact ⟨midSet_keeps K (fun h => absurd h (Nat.not_lt.2 hg)) _ _, hg, hn, blk_setRow_other BA hn, c2, b, v2⟩
theorem ValB2.set_b {S : Nat → Prop} {w wN : World} {ga gz : Nat} {CA : Array Value} {a_kind : Int} {a_a : OprD} {a_b : OprD} {a_op : Int} {a_place : PlD} {a_name : List UInt8} {a_names : List (List UInt8)} {a_args : List (OprD)} (h : ValB2 S w wN ga CA gz ⟨a_kind, a_a, a_b, a_op, a_place, a_name, a_names, a_args⟩) : ValB2 S w (midSet wN gz 5 #[.int .i64 0, .int .i64 0, .string ⟨#[]⟩, .slice none 0 0]) ga CA gz ⟨a_kind, a_a, zeroOpr, a_op, a_place, a_name, a_names, a_args⟩ := by
  obtain ⟨K, hg, hn, BA, cs, BZ, hv⟩ := h
  obtain ⟨c2, e2, v2⟩ := Val_set_b hv zeroOpr oprC (zeroOpr_is S w)
  have b := blk_midSet BZ 5 oprC.toArray
  rw [e2] at b
  exact ⟨midSet_keeps K (fun h => absurd h (Nat.not_lt.2 hg)) _ _, hg, hn, blk_setRow_other BA hn, c2, b, v2⟩
theorem ValB2.set_op {S : Nat → Prop} {w wN : World} {ga gz : Nat} {CA : Array Value} {a_kind : Int} {a_a : OprD} {a_b : OprD} {a_op : Int} {a_place : PlD} {a_name : List UInt8} {a_names : List (List UInt8)} {a_args : List (OprD)} (h : ValB2 S w wN ga CA gz ⟨a_kind, a_a, a_b, a_op, a_place, a_name, a_names, a_args⟩) (v : Int) : ValB2 S w (wN.setCell ⟨gz, 9, none⟩ (.int .i64 v)) ga CA gz ⟨a_kind, a_a, a_b, v, a_place, a_name, a_names, a_args⟩ := by
  obtain ⟨K, hg, hn, BA, cs, BZ, hv⟩ := h
  obtain ⟨c2, e2, v2⟩ := Val_set_op hv v
  have b := blk_set BZ 9 (.int .i64 v)
  rw [e2] at b
  exact ⟨K.setCell (fun h => absurd h (Nat.not_lt.2 hg)) _, hg, hn, blk_other BA _ hn _, c2, b, v2⟩
theorem ValB2.set_place {S : Nat → Prop} {w wN : World} {ga gz : Nat} {CA : Array Value} {a_kind : Int} {a_a : OprD} {a_b : OprD} {a_op : Int} {a_place : PlD} {a_name : List UInt8} {a_names : List (List UInt8)} {a_args : List (OprD)} (h : ValB2 S w wN ga CA gz ⟨a_kind, a_a, a_b, a_op, a_place, a_name, a_names, a_args⟩) : ValB2 S w (midSet wN gz 10 #[.string ⟨#[]⟩, .slice none 0 0]) ga CA gz ⟨a_kind, a_a, a_b, a_op, zeroPl, a_name, a_names, a_args⟩ := by
  obtain ⟨K, hg, hn, BA, cs, BZ, hv⟩ := h
  obtain ⟨c2, e2, v2⟩ := Val_set_place hv zeroPl plC (zeroPl_is S w)
  have b := blk_midSet BZ 10 plC.toArray
  rw [e2] at b
  exact ⟨midSet_keeps K (fun h => absurd h (Nat.not_lt.2 hg)) _ _, hg, hn, blk_setRow_other BA hn, c2, b, v2⟩
theorem ValB2.set_name {S : Nat → Prop} {w wN : World} {ga gz : Nat} {CA : Array Value} {a_kind : Int} {a_a : OprD} {a_b : OprD} {a_op : Int} {a_place : PlD} {a_name : List UInt8} {a_names : List (List UInt8)} {a_args : List (OprD)} (h : ValB2 S w wN ga CA gz ⟨a_kind, a_a, a_b, a_op, a_place, a_name, a_names, a_args⟩)  : ValB2 S w (wN.setCell ⟨gz, 12, none⟩ (.string ⟨#[]⟩)) ga CA gz ⟨a_kind, a_a, a_b, a_op, a_place, [], a_names, a_args⟩ := by
  obtain ⟨K, hg, hn, BA, cs, BZ, hv⟩ := h
  obtain ⟨c2, e2, v2⟩ := Val_set_name hv 
  have b := blk_set BZ 12 (.string ⟨#[]⟩)
  rw [e2] at b
  exact ⟨K.setCell (fun h => absurd h (Nat.not_lt.2 hg)) _, hg, hn, blk_other BA _ hn _, c2, b, v2⟩
theorem ValB2.set_names {S : Nat → Prop} {w wN : World} {ga gz : Nat} {CA : Array Value} {a_kind : Int} {a_a : OprD} {a_b : OprD} {a_op : Int} {a_place : PlD} {a_name : List UInt8} {a_names : List (List UInt8)} {a_args : List (OprD)} (h : ValB2 S w wN ga CA gz ⟨a_kind, a_a, a_b, a_op, a_place, a_name, a_names, a_args⟩)  : ValB2 S w (wN.setCell ⟨gz, 13, none⟩ (.slice none 0 0)) ga CA gz ⟨a_kind, a_a, a_b, a_op, a_place, a_name, [], a_args⟩ := by
  obtain ⟨K, hg, hn, BA, cs, BZ, hv⟩ := h
  obtain ⟨c2, e2, v2⟩ := Val_set_names hv 
  have b := blk_set BZ 13 (.slice none 0 0)
  rw [e2] at b
  exact ⟨K.setCell (fun h => absurd h (Nat.not_lt.2 hg)) _, hg, hn, blk_other BA _ hn _, c2, b, v2⟩
theorem ValB2.set_args {S : Nat → Prop} {w wN : World} {ga gz : Nat} {CA : Array Value} {a_kind : Int} {a_a : OprD} {a_b : OprD} {a_op : Int} {a_place : PlD} {a_name : List UInt8} {a_names : List (List UInt8)} {a_args : List (OprD)} (h : ValB2 S w wN ga CA gz ⟨a_kind, a_a, a_b, a_op, a_place, a_name, a_names, a_args⟩)  : ValB2 S w (wN.setCell ⟨gz, 14, none⟩ (.slice none 0 0)) ga CA gz ⟨a_kind, a_a, a_b, a_op, a_place, a_name, a_names, []⟩ := by
  obtain ⟨K, hg, hn, BA, cs, BZ, hv⟩ := h
  obtain ⟨c2, e2, v2⟩ := Val_set_args hv 
  have b := blk_set BZ 14 (.slice none 0 0)
  rw [e2] at b
  exact ⟨K.setCell (fun h => absurd h (Nat.not_lt.2 hg)) _, hg, hn, blk_other BA _ hn _, c2, b, v2⟩

/-- Two boxes: the given one (of cells CA) and one made since w, which holds v. -/
def StB2 (S : Nat → Prop) (w wN : World) (ga : Nat) (CA : Array Value) (gz : Nat) (v : StD) : Prop := Keeps Nothing w wN ∧ w.heap.size ≤ gz ∧ ga ≠ gz ∧ Blk wN ga CA 121 ∧ ∃ cs : List Value, Blk wN gz cs.toArray 121 ∧ StIs S w v cs
theorem StB2.keeps {S : Nat → Prop} {w wN wM : World} {ga gz : Nat} {CA : Array Value} {v : StD} (h : StB2 S w wN ga CA gz v) (k : Keeps Nothing wN wM) : StB2 S w wM ga CA gz v := by
  obtain ⟨K, hg, hn, BA, cs, BZ, hv⟩ := h
  exact ⟨K.trans k (fun _ h _ => h), hg, hn, k.blk BA (fun h => h), cs, k.blk BZ (fun h => h), hv⟩
theorem StB2.cell {S : Nat → Prop} {w wN : World} {ga gz : Nat} {CA : Array Value} {v : StD} (h : StB2 S w wN ga CA gz v) (i : Nat) (hi : i < 32) : ∃ u, wN.cell? ⟨gz, i, none⟩ = some u := by
  obtain ⟨K, hg, hn, BA, cs, BZ, hv⟩ := h
  have hl : i < cs.length := by rw [hv.len]; exact hi
  exact ⟨cs[i], blk_cell BZ i (by rw [List.getElem?_toArray]; exact List.getElem?_eq_getElem hl)⟩
theorem StB2.free {S : Nat → Prop} {w wN : World} {ga gz : Nat} {CA : Array Value} {v : StD} (h : StB2 S w wN ga CA gz v) (i : Nat) : wN.frozen? ⟨gz, i, none⟩ = false := by
  obtain ⟨K, hg, hn, BA, cs, BZ, hv⟩ := h
  exact blk_free BZ i
theorem StB2.fit {S : Nat → Prop} {w wN : World} {ga gz : Nat} {CA : Array Value} {v : StD} (h : StB2 S w wN ga CA gz v) (i m : Nat) (hi : i + m ≤ 32) : midFit wN gz i m = true := by
  obtain ⟨K, hg, hn, BA, cs, BZ, hv⟩ := h
  exact midFit_blk BZ (by have := hv.len; simp; omega)
theorem StB2.new {S : Nat → Prop} {w wb : World} {ga : Nat} {CA : Array Value} {v : StD} {cs : List Value} (K : Keeps Nothing w wb) (BA : Blk wb ga CA 121) (hc : CA = cs.toArray) (hv : StIs S w v cs) : StB2 S w (wb.alloc (.cells CA 121)) ga CA wb.heap.size v := by
  have hga : ga < wb.heap.size := by
    obtain ⟨h, _⟩ := Array.getElem?_eq_some_iff.1 (show wb.heap[ga]? = some _ from BA)
    exact h
  exact ⟨K.alloc _, K.size, by omega, blk_alloc BA _, cs, by rw [← hc]; exact blk_new wb CA _, hv⟩
theorem StB2.set_kind {S : Nat → Prop} {w wN : World} {ga gz : Nat} {CA : Array Value} {a_kind : Int} {a_pos : Int} {a_mu : Bool} {a_name : List UInt8} {a_ty : TyD} {a_has : Bool} {a_place : PlD} {a_val : ValD} {a_cond : OprD} {a_thn : List (StD)} {a_els : List (StD)} (h : StB2 S w wN ga CA gz ⟨a_kind, a_pos, a_mu, a_name, a_ty, a_has, a_place, a_val, a_cond, a_thn, a_els⟩) (v : Int) : StB2 S w (wN.setCell ⟨gz, 0, none⟩ (.int .i64 v)) ga CA gz ⟨v, a_pos, a_mu, a_name, a_ty, a_has, a_place, a_val, a_cond, a_thn, a_els⟩ := by
  obtain ⟨K, hg, hn, BA, cs, BZ, hv⟩ := h
  obtain ⟨c2, e2, v2⟩ := St_set_kind hv v
  have b := blk_set BZ 0 (.int .i64 v)
  rw [e2] at b
  exact ⟨K.setCell (fun h => absurd h (Nat.not_lt.2 hg)) _, hg, hn, blk_other BA _ hn _, c2, b, v2⟩
theorem StB2.set_pos {S : Nat → Prop} {w wN : World} {ga gz : Nat} {CA : Array Value} {a_kind : Int} {a_pos : Int} {a_mu : Bool} {a_name : List UInt8} {a_ty : TyD} {a_has : Bool} {a_place : PlD} {a_val : ValD} {a_cond : OprD} {a_thn : List (StD)} {a_els : List (StD)} (h : StB2 S w wN ga CA gz ⟨a_kind, a_pos, a_mu, a_name, a_ty, a_has, a_place, a_val, a_cond, a_thn, a_els⟩) (v : Int) : StB2 S w (wN.setCell ⟨gz, 1, none⟩ (.int .i64 v)) ga CA gz ⟨a_kind, v, a_mu, a_name, a_ty, a_has, a_place, a_val, a_cond, a_thn, a_els⟩ := by
  obtain ⟨K, hg, hn, BA, cs, BZ, hv⟩ := h
  obtain ⟨c2, e2, v2⟩ := St_set_pos hv v
  have b := blk_set BZ 1 (.int .i64 v)
  rw [e2] at b
  exact ⟨K.setCell (fun h => absurd h (Nat.not_lt.2 hg)) _, hg, hn, blk_other BA _ hn _, c2, b, v2⟩
theorem StB2.set_mu {S : Nat → Prop} {w wN : World} {ga gz : Nat} {CA : Array Value} {a_kind : Int} {a_pos : Int} {a_mu : Bool} {a_name : List UInt8} {a_ty : TyD} {a_has : Bool} {a_place : PlD} {a_val : ValD} {a_cond : OprD} {a_thn : List (StD)} {a_els : List (StD)} (h : StB2 S w wN ga CA gz ⟨a_kind, a_pos, a_mu, a_name, a_ty, a_has, a_place, a_val, a_cond, a_thn, a_els⟩) (v : Bool) : StB2 S w (wN.setCell ⟨gz, 2, none⟩ (.bool v)) ga CA gz ⟨a_kind, a_pos, v, a_name, a_ty, a_has, a_place, a_val, a_cond, a_thn, a_els⟩ := by
  obtain ⟨K, hg, hn, BA, cs, BZ, hv⟩ := h
  obtain ⟨c2, e2, v2⟩ := St_set_mu hv v
  have b := blk_set BZ 2 (.bool v)
  rw [e2] at b
  exact ⟨K.setCell (fun h => absurd h (Nat.not_lt.2 hg)) _, hg, hn, blk_other BA _ hn _, c2, b, v2⟩
theorem StB2.set_name {S : Nat → Prop} {w wN : World} {ga gz : Nat} {CA : Array Value} {a_kind : Int} {a_pos : Int} {a_mu : Bool} {a_name : List UInt8} {a_ty : TyD} {a_has : Bool} {a_place : PlD} {a_val : ValD} {a_cond : OprD} {a_thn : List (StD)} {a_els : List (StD)} (h : StB2 S w wN ga CA gz ⟨a_kind, a_pos, a_mu, a_name, a_ty, a_has, a_place, a_val, a_cond, a_thn, a_els⟩)  : StB2 S w (wN.setCell ⟨gz, 3, none⟩ (.string ⟨#[]⟩)) ga CA gz ⟨a_kind, a_pos, a_mu, [], a_ty, a_has, a_place, a_val, a_cond, a_thn, a_els⟩ := by
  obtain ⟨K, hg, hn, BA, cs, BZ, hv⟩ := h
  obtain ⟨c2, e2, v2⟩ := St_set_name hv 
  have b := blk_set BZ 3 (.string ⟨#[]⟩)
  rw [e2] at b
  exact ⟨K.setCell (fun h => absurd h (Nat.not_lt.2 hg)) _, hg, hn, blk_other BA _ hn _, c2, b, v2⟩
theorem StB2.set_ty {S : Nat → Prop} {w wN : World} {ga gz : Nat} {CA : Array Value} {a_kind : Int} {a_pos : Int} {a_mu : Bool} {a_name : List UInt8} {a_ty : TyD} {a_has : Bool} {a_place : PlD} {a_val : ValD} {a_cond : OprD} {a_thn : List (StD)} {a_els : List (StD)} (h : StB2 S w wN ga CA gz ⟨a_kind, a_pos, a_mu, a_name, a_ty, a_has, a_place, a_val, a_cond, a_thn, a_els⟩) : StB2 S w (midSet wN gz 4 #[.int .i64 0, .string ⟨#[]⟩, .slice none 0 0, .slice none 0 0]) ga CA gz ⟨a_kind, a_pos, a_mu, a_name, zeroTy, a_has, a_place, a_val, a_cond, a_thn, a_els⟩ := by
  obtain ⟨K, hg, hn, BA, cs, BZ, hv⟩ := h
  obtain ⟨c2, e2, v2⟩ := St_set_ty hv zeroTy tyC (zeroTy_is S w)
  have b := blk_midSet BZ 4 tyC.toArray
  rw [e2] at b
  exact ⟨midSet_keeps K (fun h => absurd h (Nat.not_lt.2 hg)) _ _, hg, hn, blk_setRow_other BA hn, c2, b, v2⟩
theorem StB2.set_has {S : Nat → Prop} {w wN : World} {ga gz : Nat} {CA : Array Value} {a_kind : Int} {a_pos : Int} {a_mu : Bool} {a_name : List UInt8} {a_ty : TyD} {a_has : Bool} {a_place : PlD} {a_val : ValD} {a_cond : OprD} {a_thn : List (StD)} {a_els : List (StD)} (h : StB2 S w wN ga CA gz ⟨a_kind, a_pos, a_mu, a_name, a_ty, a_has, a_place, a_val, a_cond, a_thn, a_els⟩) (v : Bool) : StB2 S w (wN.setCell ⟨gz, 8, none⟩ (.bool v)) ga CA gz ⟨a_kind, a_pos, a_mu, a_name, a_ty, v, a_place, a_val, a_cond, a_thn, a_els⟩ := by
  obtain ⟨K, hg, hn, BA, cs, BZ, hv⟩ := h
  obtain ⟨c2, e2, v2⟩ := St_set_has hv v
  have b := blk_set BZ 8 (.bool v)
  rw [e2] at b
  exact ⟨K.setCell (fun h => absurd h (Nat.not_lt.2 hg)) _, hg, hn, blk_other BA _ hn _, c2, b, v2⟩
theorem StB2.set_place {S : Nat → Prop} {w wN : World} {ga gz : Nat} {CA : Array Value} {a_kind : Int} {a_pos : Int} {a_mu : Bool} {a_name : List UInt8} {a_ty : TyD} {a_has : Bool} {a_place : PlD} {a_val : ValD} {a_cond : OprD} {a_thn : List (StD)} {a_els : List (StD)} (h : StB2 S w wN ga CA gz ⟨a_kind, a_pos, a_mu, a_name, a_ty, a_has, a_place, a_val, a_cond, a_thn, a_els⟩) : StB2 S w (midSet wN gz 9 #[.string ⟨#[]⟩, .slice none 0 0]) ga CA gz ⟨a_kind, a_pos, a_mu, a_name, a_ty, a_has, zeroPl, a_val, a_cond, a_thn, a_els⟩ := by
  obtain ⟨K, hg, hn, BA, cs, BZ, hv⟩ := h
  obtain ⟨c2, e2, v2⟩ := St_set_place hv zeroPl plC (zeroPl_is S w)
  have b := blk_midSet BZ 9 plC.toArray
  rw [e2] at b
  exact ⟨midSet_keeps K (fun h => absurd h (Nat.not_lt.2 hg)) _ _, hg, hn, blk_setRow_other BA hn, c2, b, v2⟩
theorem StB2.set_val {S : Nat → Prop} {w wN : World} {ga gz : Nat} {CA : Array Value} {a_kind : Int} {a_pos : Int} {a_mu : Bool} {a_name : List UInt8} {a_ty : TyD} {a_has : Bool} {a_place : PlD} {a_val : ValD} {a_cond : OprD} {a_thn : List (StD)} {a_els : List (StD)} (h : StB2 S w wN ga CA gz ⟨a_kind, a_pos, a_mu, a_name, a_ty, a_has, a_place, a_val, a_cond, a_thn, a_els⟩) : StB2 S w (midSet wN gz 11 #[.int .i64 0, .int .i64 0, .int .i64 0, .string ⟨#[]⟩, .slice none 0 0, .int .i64 0, .int .i64 0, .string ⟨#[]⟩, .slice none 0 0, .int .i64 0, .string ⟨#[]⟩, .slice none 0 0, .string ⟨#[]⟩, .slice none 0 0, .slice none 0 0]) ga CA gz ⟨a_kind, a_pos, a_mu, a_name, a_ty, a_has, a_place, zeroVal, a_cond, a_thn, a_els⟩ := by
  obtain ⟨K, hg, hn, BA, cs, BZ, hv⟩ := h
  obtain ⟨c2, e2, v2⟩ := St_set_val hv zeroVal valC (zeroVal_is S w)
  have b := blk_midSet BZ 11 valC.toArray
  rw [e2] at b
  exact ⟨midSet_keeps K (fun h => absurd h (Nat.not_lt.2 hg)) _ _, hg, hn, blk_setRow_other BA hn, c2, b, v2⟩
theorem StB2.set_cond {S : Nat → Prop} {w wN : World} {ga gz : Nat} {CA : Array Value} {a_kind : Int} {a_pos : Int} {a_mu : Bool} {a_name : List UInt8} {a_ty : TyD} {a_has : Bool} {a_place : PlD} {a_val : ValD} {a_cond : OprD} {a_thn : List (StD)} {a_els : List (StD)} (h : StB2 S w wN ga CA gz ⟨a_kind, a_pos, a_mu, a_name, a_ty, a_has, a_place, a_val, a_cond, a_thn, a_els⟩) : StB2 S w (midSet wN gz 26 #[.int .i64 0, .int .i64 0, .string ⟨#[]⟩, .slice none 0 0]) ga CA gz ⟨a_kind, a_pos, a_mu, a_name, a_ty, a_has, a_place, a_val, zeroOpr, a_thn, a_els⟩ := by
  obtain ⟨K, hg, hn, BA, cs, BZ, hv⟩ := h
  obtain ⟨c2, e2, v2⟩ := St_set_cond hv zeroOpr oprC (zeroOpr_is S w)
  have b := blk_midSet BZ 26 oprC.toArray
  rw [e2] at b
  exact ⟨midSet_keeps K (fun h => absurd h (Nat.not_lt.2 hg)) _ _, hg, hn, blk_setRow_other BA hn, c2, b, v2⟩
theorem StB2.set_thn {S : Nat → Prop} {w wN : World} {ga gz : Nat} {CA : Array Value} {a_kind : Int} {a_pos : Int} {a_mu : Bool} {a_name : List UInt8} {a_ty : TyD} {a_has : Bool} {a_place : PlD} {a_val : ValD} {a_cond : OprD} {a_thn : List (StD)} {a_els : List (StD)} (h : StB2 S w wN ga CA gz ⟨a_kind, a_pos, a_mu, a_name, a_ty, a_has, a_place, a_val, a_cond, a_thn, a_els⟩)  : StB2 S w (wN.setCell ⟨gz, 30, none⟩ (.slice none 0 0)) ga CA gz ⟨a_kind, a_pos, a_mu, a_name, a_ty, a_has, a_place, a_val, a_cond, [], a_els⟩ := by
  obtain ⟨K, hg, hn, BA, cs, BZ, hv⟩ := h
  obtain ⟨c2, e2, v2⟩ := St_set_thn hv 
  have b := blk_set BZ 30 (.slice none 0 0)
  rw [e2] at b
  exact ⟨K.setCell (fun h => absurd h (Nat.not_lt.2 hg)) _, hg, hn, blk_other BA _ hn _, c2, b, v2⟩
theorem StB2.set_els {S : Nat → Prop} {w wN : World} {ga gz : Nat} {CA : Array Value} {a_kind : Int} {a_pos : Int} {a_mu : Bool} {a_name : List UInt8} {a_ty : TyD} {a_has : Bool} {a_place : PlD} {a_val : ValD} {a_cond : OprD} {a_thn : List (StD)} {a_els : List (StD)} (h : StB2 S w wN ga CA gz ⟨a_kind, a_pos, a_mu, a_name, a_ty, a_has, a_place, a_val, a_cond, a_thn, a_els⟩)  : StB2 S w (wN.setCell ⟨gz, 31, none⟩ (.slice none 0 0)) ga CA gz ⟨a_kind, a_pos, a_mu, a_name, a_ty, a_has, a_place, a_val, a_cond, a_thn, []⟩ := by
  obtain ⟨K, hg, hn, BA, cs, BZ, hv⟩ := h
  obtain ⟨c2, e2, v2⟩ := St_set_els hv 
  have b := blk_set BZ 31 (.slice none 0 0)
  rw [e2] at b
  exact ⟨K.setCell (fun h => absurd h (Nat.not_lt.2 hg)) _, hg, hn, blk_other BA _ hn _, c2, b, v2⟩

end Go.Proofs.YtjbcagbnagefcaaGreat

namespace Go.Proofs.YtjbcagbnagefcaaGreat
open Go.RowKit

attribute [local go_sem ↓] exec_mid_ty exec_store_ty exec_mid_pl exec_store_pl exec_mid_opr exec_store_opr exec_mid_val exec_store_val exec_mid_st exec_store_st exec_mid_fld exec_store_fld exec_mid_str exec_store_str exec_mid_lif exec_store_lif exec_mid_fun exec_store_fun exec_mid_cr exec_store_cr
attribute [local go_sem] rowOk_new World.setRow_alloc_new

theorem build_val (ρ : Operand → Value) (dst : Option Tmp) (ty' : TypeId) (pos : String) (af : Array Edge) (gd : Option (Nat × Bool)) (w : World) :
    (execOp ρ ⟨dst, .build 119 #[], ty', pos, af, gd⟩).run Tryz.prog w = .ok (.value (.agg #[.int .i64 0, .int .i64 0, .int .i64 0, .string ⟨#[]⟩, .slice none 0 0, .int .i64 0, .int .i64 0, .string ⟨#[]⟩, .slice none 0 0, .int .i64 0, .string ⟨#[]⟩, .slice none 0 0, .string ⟨#[]⟩, .slice none 0 0, .slice none 0 0])) w := by
  kernel_rfl
attribute [local go_sem ↓] exec_into_pl exec_into_opr build_val

def V23 (v : ValD) : Prop := PlP v.place ∧ (⟨0, v.a, v.b, v.op, zeroPl, v.name, v.names, v.args⟩ : ValD) = zeroVal
def V7 (v : ValD) : Prop := (∀ n ∈ v.names, isName n = true) ∧ v.names.length = v.args.length ∧ DoubleP v.name ∧ OprsP v.args ∧ (⟨0, v.a, v.b, v.op, v.place, [], [], []⟩ : ValD) = zeroVal
def V6 (v : ValD) : Prop := DoubleP v.name ∧ OprsP v.args ∧ (⟨0, v.a, v.b, v.op, v.place, [], v.names, []⟩ : ValD) = zeroVal
def V5 (v : ValD) : Prop := 1 ≤ v.op ∧ v.op ≤ 4 ∧ OprP v.b ∧ OprP v.a ∧ (⟨0, zeroOpr, zeroOpr, 0, v.place, v.name, v.names, v.args⟩ : ValD) = zeroVal
def V14 (v : ValD) : Prop := OprP v.a ∧ (⟨0, zeroOpr, v.b, v.op, v.place, v.name, v.names, v.args⟩ : ValD) = zeroVal
/-- A value that may be. -/
def ValP (v : ValD) : Prop := ((v.kind = 2 ∨ v.kind = 3) ∧ V23 v) ∨ (v.kind = 7 ∧ V7 v) ∨ (v.kind = 6 ∧ V6 v) ∨ (v.kind = 5 ∧ V5 v) ∨ ((v.kind = 1 ∨ v.kind = 4) ∧ V14 v)

set_option maxRecDepth 100000 in
set_option linter.unusedSimpArgs false in
set_option maxHeartbeats 8000000 in
theorem value_any {S : Nat → Prop} (a : ValD) (w : World) (hM : MaxV w) (cs : List Value) (ha : ValIs S w a cs) : Calls Tryz.prog 126 #[.agg cs.toArray] w (Tells w (ValP a)) := by
  have HV0 := shut ha
  obtain ⟨a_kind, a_a, a_b, a_op, a_place, a_name, a_names, a_args⟩ := a
  have HM := shut hM
  clear hM
  have HP : Shut (ValP ⟨a_kind, a_a, a_b, a_op, a_place, a_name, a_names, a_args⟩ ↔ ((a_kind = 2 ∨ a_kind = 3) ∧ V23 ⟨a_kind, a_a, a_b, a_op, a_place, a_name, a_names, a_args⟩) ∨ (a_kind = 7 ∧ V7 ⟨a_kind, a_a, a_b, a_op, a_place, a_name, a_names, a_args⟩) ∨ (a_kind = 6 ∧ V6 ⟨a_kind, a_a, a_b, a_op, a_place, a_name, a_names, a_args⟩) ∨ (a_kind = 5 ∧ V5 ⟨a_kind, a_a, a_b, a_op, a_place, a_name, a_names, a_args⟩) ∨ ((a_kind = 1 ∨ a_kind = 4) ∧ V14 ⟨a_kind, a_a, a_b, a_op, a_place, a_name, a_names, a_args⟩)) := shut Iff.rfl
  obtain ⟨X, hX⟩ : ∃ X, X = ValP ⟨a_kind, a_a, a_b, a_op, a_place, a_name, a_names, a_args⟩ := ⟨_, rfl⟩
  rw [← hX] at HP ⊢
  clear hX
  have ag1 := agg_ok ha.len ha.one
  obtain ⟨s1, s5, s10, p13, q13, p14, q14, hcs, ah_a, ah_b, ah_place, ah_name, ah_names, ah_args⟩ := ha
  have HCA := shut hcs
  clear hcs
  simp only at ah_a ah_b ah_place ah_name ah_names ah_args HCA
  obtain ⟨CA, hCA⟩ : ∃ C, C = cs.toArray := ⟨_, rfl⟩
  rw [← hCA] at ag1 ⊢
  have HCS := shut hCA
  rw [HCA.out] at hCA
  have GCA := shut hCA
  clear hCA HCA
  have al_a := ah_a.len
  have al_b := ah_b.len
  have al_place := ah_place.len
  have KW : Keeps Nothing w (w.alloc (.cells CA 119)) := (Keeps.refl Nothing w).alloc _
  have BA := blk_new w CA 119
  go_enter Tryz.func126, Tryz.ntmps126
  go_upto_region 1 with fail
  generalize w.heap.size = ga at *
  generalize w.alloc (.cells CA 119) = wb at *
  have hsz : CA.size = 15 := by rw [HCS.out]; simpa using HV0.out.len
  obtain ⟨y1, y2⟩ := tblk_mid BA hsz
  go_upto_region 3 with fail
  have ZB := ValB2.new KW BA HCS.out HV0.out
  clear y1 y2 ag1 HV0 HCS hsz
  have BA := blk_alloc BA (.cells CA 119)
  have KW := KW.alloc (.cells CA 119)
  have hgz : ga ≠ wb.heap.size := ZB.2.2.1
  generalize wb.heap.size = gz at *
  generalize wb.alloc (.cells CA 119) = wc at *
  by_cases k2 : a_kind = 2
  · subst k2
    have HQ : Shut (X ↔ PlP a_place ∧ (⟨0, a_a, a_b, a_op, zeroPl, a_name, a_names, a_args⟩ : ValD) = zeroVal) := shut (by rw [HP.out]; simp [V23])
    clear HP
    obtain ⟨ae0, -, -, -, ⟨ae10, af10⟩, -, -, -⟩ := ValB al_a al_b al_place GCA.out BA
    have hc := place_any a_place wc s10 (ah_place.keeps KW (fun _ _ h => h) (fun _ h => h))
    try dsimp only
    repeat (first | go_values | go_skip | go_guarded | go_step | go_upon | go_back)
    refine hc.mono ?_
    rintro e w1 ⟨⟨z1, rfl, hz1⟩, k1⟩
    have KW := KW.trans k1 (fun _ h _ => h)
    have BA := k1.blk BA (fun h => h)
    have ZB := ZB.keeps k1
    clear hc k1 ae0 ae10 af10
    have hf100 := ZB.fit 10 2 (by omega)
    have hg10 : aggOk 2 (.agg #[.string ⟨#[]⟩, .slice none 0 0]) = true := agg_ok (zeroPl_is S w).len (zeroPl_is S w).one
    have ZB1 := ZB.set_place
    go_upto_region 26 with fail
    clear hf100 hg10
    have ZB := ZB1
    clear ZB1
    have KW := ZB.1
    have BA := ZB.2.2.2.1
    generalize midSet (w1) gz 10 #[.string ⟨#[]⟩, .slice none 0 0] = w2 at *
    cases z1 with
    | false =>
      obtain ⟨u00, hu00⟩ := ZB.cell 0 (by omega)
      have hr00 := ZB.free 0
      have ZB1 := ZB.set_kind 0
      go_upto_region 27 with fail
      any_goals try (rename_i hfz; simp [hr00] at hfz; done)
      clear hu00 hr00
      have ZB := ZB1
      clear ZB1
      have KW := ZB.1
      have BA := ZB.2.2.2.1
      generalize World.setCell (w2) ⟨gz, 0, none⟩ (.int .i64 0) = wf at *
      have hno : Shut (¬ X) := shut (fun h => by have h2 := hz1.2 (HQ.out.1 h).1; cases h2)
      clear HQ
      obtain ⟨-, -, -, -, cz, BZ, hvz⟩ := ZB
      have agz := agg_ok hvz.len hvz.one
      have hszz : cz.toArray.size = 15 := by simpa using hvz.len
      obtain ⟨y1, y2⟩ := tblk_mid BZ hszz
      clear hvz
      generalize cz.toArray = CZ at *
      repeat (first | go_values | go_skip | go_guarded | go_step | go_upon | go_back)
      go_ret
      exact tells_f hno.out KW
    | true =>
      obtain ⟨u00, hu00⟩ := ZB.cell 0 (by omega)
      have hr00 := ZB.free 0
      have ZB1 := ZB.set_kind 0
      go_upto_region 27 with fail
      any_goals try (rename_i hfz; simp [hr00] at hfz; done)
      clear hu00 hr00
      have ZB := ZB1
      clear ZB1
      have KW := ZB.1
      have BA := ZB.2.2.2.1
      generalize World.setCell (w2) ⟨gz, 0, none⟩ (.int .i64 0) = wf at *
      obtain ⟨K, hg, hn, BA2, cz, BZ, hvz⟩ := ZB
      have agz := agg_ok hvz.len hvz.one
      have hszz : cz.toArray.size = 15 := by simpa using hvz.len
      obtain ⟨y1, y2⟩ := tblk_mid BZ hszz
      have hc0 := sameValue_any _ zeroVal wf cz valC (hvz.keeps K (fun _ _ h => h) (fun _ h => h)) (zeroVal_is S wf)
      have hc : Calls Tryz.prog 132 #[.agg cz.toArray, .agg #[.int .i64 0, .int .i64 0, .int .i64 0, .string ⟨#[]⟩, .slice none 0 0, .int .i64 0, .int .i64 0, .string ⟨#[]⟩, .slice none 0 0, .int .i64 0, .string ⟨#[]⟩, .slice none 0 0, .string ⟨#[]⟩, .slice none 0 0, .slice none 0 0]] wf (Tells wf _) := hc0
      clear hc0 hvz BA2 hg hn
      generalize cz.toArray = CZ at *
      repeat (first | go_values | go_skip | go_guarded | go_step | go_upon | go_back)
      refine hc.mono ?_
      rintro e w9 ⟨⟨z, rfl, hz⟩, k9⟩
      have HZ : Shut (z = true ↔ X) := shut (by rw [hz, HQ.out]; exact ⟨fun h => ⟨hz1.1 rfl, h⟩, fun h => h.2⟩)
      clear hc hz HQ y1 y2
      dsimp only
      repeat (first | go_values | go_skip | go_guarded | go_step | go_upon | go_back)
      go_ret
      exact tells_z HZ.out (K.trans k9 (fun _ h _ => h))
  by_cases k3 : a_kind = 3
  · subst k3
    have HQ : Shut (X ↔ PlP a_place ∧ (⟨0, a_a, a_b, a_op, zeroPl, a_name, a_names, a_args⟩ : ValD) = zeroVal) := shut (by rw [HP.out]; simp [V23])
    clear HP
    obtain ⟨ae0, -, -, -, ⟨ae10, af10⟩, -, -, -⟩ := ValB al_a al_b al_place GCA.out BA
    have hc := place_any a_place wc s10 (ah_place.keeps KW (fun _ _ h => h) (fun _ h => h))
    try dsimp only
    repeat (first | go_values | go_skip | go_guarded | go_step | go_upon | go_back)
    refine hc.mono ?_
    rintro e w1 ⟨⟨z1, rfl, hz1⟩, k1⟩
    have KW := KW.trans k1 (fun _ h _ => h)
    have BA := k1.blk BA (fun h => h)
    have ZB := ZB.keeps k1
    clear hc k1 ae0 ae10 af10
    have hf100 := ZB.fit 10 2 (by omega)
    have hg10 : aggOk 2 (.agg #[.string ⟨#[]⟩, .slice none 0 0]) = true := agg_ok (zeroPl_is S w).len (zeroPl_is S w).one
    have ZB1 := ZB.set_place
    go_upto_region 26 with fail
    clear hf100 hg10
    have ZB := ZB1
    clear ZB1
    have KW := ZB.1
    have BA := ZB.2.2.2.1
    generalize midSet (w1) gz 10 #[.string ⟨#[]⟩, .slice none 0 0] = w2 at *
    cases z1 with
    | false =>
      obtain ⟨u00, hu00⟩ := ZB.cell 0 (by omega)
      have hr00 := ZB.free 0
      have ZB1 := ZB.set_kind 0
      go_upto_region 27 with fail
      any_goals try (rename_i hfz; simp [hr00] at hfz; done)
      clear hu00 hr00
      have ZB := ZB1
      clear ZB1
      have KW := ZB.1
      have BA := ZB.2.2.2.1
      generalize World.setCell (w2) ⟨gz, 0, none⟩ (.int .i64 0) = wf at *
      have hno : Shut (¬ X) := shut (fun h => by have h2 := hz1.2 (HQ.out.1 h).1; cases h2)
      clear HQ
      obtain ⟨-, -, -, -, cz, BZ, hvz⟩ := ZB
      have agz := agg_ok hvz.len hvz.one
      have hszz : cz.toArray.size = 15 := by simpa using hvz.len
      obtain ⟨y1, y2⟩ := tblk_mid BZ hszz
      clear hvz
      generalize cz.toArray = CZ at *
      repeat (first | go_values | go_skip | go_guarded | go_step | go_upon | go_back)
      go_ret
      exact tells_f hno.out KW
    | true =>
      obtain ⟨u00, hu00⟩ := ZB.cell 0 (by omega)
      have hr00 := ZB.free 0
      have ZB1 := ZB.set_kind 0
      go_upto_region 27 with fail
      any_goals try (rename_i hfz; simp [hr00] at hfz; done)
      clear hu00 hr00
      have ZB := ZB1
      clear ZB1
      have KW := ZB.1
      have BA := ZB.2.2.2.1
      generalize World.setCell (w2) ⟨gz, 0, none⟩ (.int .i64 0) = wf at *
      obtain ⟨K, hg, hn, BA2, cz, BZ, hvz⟩ := ZB
      have agz := agg_ok hvz.len hvz.one
      have hszz : cz.toArray.size = 15 := by simpa using hvz.len
      obtain ⟨y1, y2⟩ := tblk_mid BZ hszz
      have hc0 := sameValue_any _ zeroVal wf cz valC (hvz.keeps K (fun _ _ h => h) (fun _ h => h)) (zeroVal_is S wf)
      have hc : Calls Tryz.prog 132 #[.agg cz.toArray, .agg #[.int .i64 0, .int .i64 0, .int .i64 0, .string ⟨#[]⟩, .slice none 0 0, .int .i64 0, .int .i64 0, .string ⟨#[]⟩, .slice none 0 0, .int .i64 0, .string ⟨#[]⟩, .slice none 0 0, .string ⟨#[]⟩, .slice none 0 0, .slice none 0 0]] wf (Tells wf _) := hc0
      clear hc0 hvz BA2 hg hn
      generalize cz.toArray = CZ at *
      repeat (first | go_values | go_skip | go_guarded | go_step | go_upon | go_back)
      refine hc.mono ?_
      rintro e w9 ⟨⟨z, rfl, hz⟩, k9⟩
      have HZ : Shut (z = true ↔ X) := shut (by rw [hz, HQ.out]; exact ⟨fun h => ⟨hz1.1 rfl, h⟩, fun h => h.2⟩)
      clear hc hz HQ y1 y2
      dsimp only
      repeat (first | go_values | go_skip | go_guarded | go_step | go_upon | go_back)
      go_ret
      exact tells_z HZ.out (K.trans k9 (fun _ h _ => h))
  by_cases k1 : a_kind = 1
  · subst k1
    have HQ : Shut (X ↔ OprP a_a ∧ (⟨0, zeroOpr, a_b, a_op, a_place, a_name, a_names, a_args⟩ : ValD) = zeroVal) := shut (by rw [HP.out]; simp [V14])
    clear HP
    obtain ⟨ae0, -, -, -, -, -, -, -⟩ := ValB al_a al_b al_place GCA.out BA
    obtain ⟨-, ⟨ae1, af1⟩, -, -, -, -, -, -⟩ := ValB al_a al_b al_place GCA.out BA
    have hc := oper_any a_a wc s1 (ah_a.keeps KW (fun _ _ h => h) (fun _ h => h))
    try dsimp only
    repeat (first | go_values | go_skip | go_guarded | go_step | go_upon | go_back)
    refine hc.mono ?_
    rintro e w3 ⟨⟨z3, rfl, hz3⟩, k3⟩
    have KW := KW.trans k3 (fun _ h _ => h)
    have BA := k3.blk BA (fun h => h)
    have ZB := ZB.keeps k3
    clear hc k3 ae1 af1
    try dsimp only
    cases z3 with
    | false =>
      have hf10 := ZB.fit 1 4 (by omega)
      have hg1 : aggOk 4 (.agg #[.int .i64 0, .int .i64 0, .string ⟨#[]⟩, .slice none 0 0]) = true := agg_ok (zeroOpr_is S w).len (zeroOpr_is S w).one
      have ZB1 := ZB.set_a
      go_upto_region 26 with fail
      clear hf10 hg1
      have ZB := ZB1
      clear ZB1
      have KW := ZB.1
      have BA := ZB.2.2.2.1
      generalize midSet (w3) gz 1 #[.int .i64 0, .int .i64 0, .string ⟨#[]⟩, .slice none 0 0] = w4 at *
      obtain ⟨u00, hu00⟩ := ZB.cell 0 (by omega)
      have hr00 := ZB.free 0
      have ZB1 := ZB.set_kind 0
      go_upto_region 27 with fail
      any_goals try (rename_i hfz; simp [hr00] at hfz; done)
      clear hu00 hr00
      have ZB := ZB1
      clear ZB1
      have KW := ZB.1
      have BA := ZB.2.2.2.1
      generalize World.setCell (w4) ⟨gz, 0, none⟩ (.int .i64 0) = wf at *
      have hno : Shut (¬ X) := shut (fun h => by have h2 := hz3.2 ((HQ.out.1 h).1); cases h2)
      clear HQ
      obtain ⟨-, -, -, -, cz, BZ, hvz⟩ := ZB
      have agz := agg_ok hvz.len hvz.one
      have hszz : cz.toArray.size = 15 := by simpa using hvz.len
      obtain ⟨y1, y2⟩ := tblk_mid BZ hszz
      clear hvz
      generalize cz.toArray = CZ at *
      repeat (first | go_values | go_skip | go_guarded | go_step | go_upon | go_back)
      go_ret
      exact tells_f hno.out KW
    | true =>
      have hf10 := ZB.fit 1 4 (by omega)
      have hg1 : aggOk 4 (.agg #[.int .i64 0, .int .i64 0, .string ⟨#[]⟩, .slice none 0 0]) = true := agg_ok (zeroOpr_is S w).len (zeroOpr_is S w).one
      have ZB1 := ZB.set_a
      go_upto_region 26 with fail
      clear hf10 hg1
      have ZB := ZB1
      clear ZB1
      have KW := ZB.1
      have BA := ZB.2.2.2.1
      generalize midSet (w3) gz 1 #[.int .i64 0, .int .i64 0, .string ⟨#[]⟩, .slice none 0 0] = w4 at *
      obtain ⟨u00, hu00⟩ := ZB.cell 0 (by omega)
      have hr00 := ZB.free 0
      have ZB1 := ZB.set_kind 0
      go_upto_region 27 with fail
      any_goals try (rename_i hfz; simp [hr00] at hfz; done)
      clear hu00 hr00
      have ZB := ZB1
      clear ZB1
      have KW := ZB.1
      have BA := ZB.2.2.2.1
      generalize World.setCell (w4) ⟨gz, 0, none⟩ (.int .i64 0) = wf at *
      obtain ⟨K, hg, hn, BA2, cz, BZ, hvz⟩ := ZB
      have agz := agg_ok hvz.len hvz.one
      have hszz : cz.toArray.size = 15 := by simpa using hvz.len
      obtain ⟨y1, y2⟩ := tblk_mid BZ hszz
      have hc0 := sameValue_any _ zeroVal wf cz valC (hvz.keeps K (fun _ _ h => h) (fun _ h => h)) (zeroVal_is S wf)
      have hc : Calls Tryz.prog 132 #[.agg cz.toArray, .agg #[.int .i64 0, .int .i64 0, .int .i64 0, .string ⟨#[]⟩, .slice none 0 0, .int .i64 0, .int .i64 0, .string ⟨#[]⟩, .slice none 0 0, .int .i64 0, .string ⟨#[]⟩, .slice none 0 0, .string ⟨#[]⟩, .slice none 0 0, .slice none 0 0]] wf (Tells wf _) := hc0
      clear hc0 hvz BA2 hg hn
      generalize cz.toArray = CZ at *
      repeat (first | go_values | go_skip | go_guarded | go_step | go_upon | go_back)
      refine hc.mono ?_
      rintro e w9 ⟨⟨z, rfl, hz⟩, k9⟩
      have HZ : Shut (z = true ↔ X) := shut (by rw [hz, HQ.out]; exact ⟨fun h => ⟨hz3.1 rfl, h⟩, fun h => h.2⟩)
      clear hc hz HQ y1 y2
      dsimp only
      repeat (first | go_values | go_skip | go_guarded | go_step | go_upon | go_back)
      go_ret
      exact tells_z HZ.out (K.trans k9 (fun _ h _ => h))
  by_cases k4 : a_kind = 4
  · subst k4
    have HQ : Shut (X ↔ OprP a_a ∧ (⟨0, zeroOpr, a_b, a_op, a_place, a_name, a_names, a_args⟩ : ValD) = zeroVal) := shut (by rw [HP.out]; simp [V14])
    clear HP
    obtain ⟨ae0, -, -, -, -, -, -, -⟩ := ValB al_a al_b al_place GCA.out BA
    obtain ⟨-, ⟨ae1, af1⟩, -, -, -, -, -, -⟩ := ValB al_a al_b al_place GCA.out BA
    have hc := oper_any a_a wc s1 (ah_a.keeps KW (fun _ _ h => h) (fun _ h => h))
    try dsimp only
    repeat (first | go_values | go_skip | go_guarded | go_step | go_upon | go_back)
    refine hc.mono ?_
    rintro e w3 ⟨⟨z3, rfl, hz3⟩, k3⟩
    have KW := KW.trans k3 (fun _ h _ => h)
    have BA := k3.blk BA (fun h => h)
    have ZB := ZB.keeps k3
    clear hc k3 ae1 af1
    try dsimp only
    cases z3 with
    | false =>
      have hf10 := ZB.fit 1 4 (by omega)
      have hg1 : aggOk 4 (.agg #[.int .i64 0, .int .i64 0, .string ⟨#[]⟩, .slice none 0 0]) = true := agg_ok (zeroOpr_is S w).len (zeroOpr_is S w).one
      have ZB1 := ZB.set_a
      go_upto_region 26 with fail
      clear hf10 hg1
      have ZB := ZB1
      clear ZB1
      have KW := ZB.1
      have BA := ZB.2.2.2.1
      generalize midSet (w3) gz 1 #[.int .i64 0, .int .i64 0, .string ⟨#[]⟩, .slice none 0 0] = w4 at *
      obtain ⟨u00, hu00⟩ := ZB.cell 0 (by omega)
      have hr00 := ZB.free 0
      have ZB1 := ZB.set_kind 0
      go_upto_region 27 with fail
      any_goals try (rename_i hfz; simp [hr00] at hfz; done)
      clear hu00 hr00
      have ZB := ZB1
      clear ZB1
      have KW := ZB.1
      have BA := ZB.2.2.2.1
      generalize World.setCell (w4) ⟨gz, 0, none⟩ (.int .i64 0) = wf at *
      have hno : Shut (¬ X) := shut (fun h => by have h2 := hz3.2 ((HQ.out.1 h).1); cases h2)
      clear HQ
      obtain ⟨-, -, -, -, cz, BZ, hvz⟩ := ZB
      have agz := agg_ok hvz.len hvz.one
      have hszz : cz.toArray.size = 15 := by simpa using hvz.len
      obtain ⟨y1, y2⟩ := tblk_mid BZ hszz
      clear hvz
      generalize cz.toArray = CZ at *
      repeat (first | go_values | go_skip | go_guarded | go_step | go_upon | go_back)
      go_ret
      exact tells_f hno.out KW
    | true =>
      have hf10 := ZB.fit 1 4 (by omega)
      have hg1 : aggOk 4 (.agg #[.int .i64 0, .int .i64 0, .string ⟨#[]⟩, .slice none 0 0]) = true := agg_ok (zeroOpr_is S w).len (zeroOpr_is S w).one
      have ZB1 := ZB.set_a
      go_upto_region 26 with fail
      clear hf10 hg1
      have ZB := ZB1
      clear ZB1
      have KW := ZB.1
      have BA := ZB.2.2.2.1
      generalize midSet (w3) gz 1 #[.int .i64 0, .int .i64 0, .string ⟨#[]⟩, .slice none 0 0] = w4 at *
      obtain ⟨u00, hu00⟩ := ZB.cell 0 (by omega)
      have hr00 := ZB.free 0
      have ZB1 := ZB.set_kind 0
      go_upto_region 27 with fail
      any_goals try (rename_i hfz; simp [hr00] at hfz; done)
      clear hu00 hr00
      have ZB := ZB1
      clear ZB1
      have KW := ZB.1
      have BA := ZB.2.2.2.1
      generalize World.setCell (w4) ⟨gz, 0, none⟩ (.int .i64 0) = wf at *
      obtain ⟨K, hg, hn, BA2, cz, BZ, hvz⟩ := ZB
      have agz := agg_ok hvz.len hvz.one
      have hszz : cz.toArray.size = 15 := by simpa using hvz.len
      obtain ⟨y1, y2⟩ := tblk_mid BZ hszz
      have hc0 := sameValue_any _ zeroVal wf cz valC (hvz.keeps K (fun _ _ h => h) (fun _ h => h)) (zeroVal_is S wf)
      have hc : Calls Tryz.prog 132 #[.agg cz.toArray, .agg #[.int .i64 0, .int .i64 0, .int .i64 0, .string ⟨#[]⟩, .slice none 0 0, .int .i64 0, .int .i64 0, .string ⟨#[]⟩, .slice none 0 0, .int .i64 0, .string ⟨#[]⟩, .slice none 0 0, .string ⟨#[]⟩, .slice none 0 0, .slice none 0 0]] wf (Tells wf _) := hc0
      clear hc0 hvz BA2 hg hn
      generalize cz.toArray = CZ at *
      repeat (first | go_values | go_skip | go_guarded | go_step | go_upon | go_back)
      refine hc.mono ?_
      rintro e w9 ⟨⟨z, rfl, hz⟩, k9⟩
      have HZ : Shut (z = true ↔ X) := shut (by rw [hz, HQ.out]; exact ⟨fun h => ⟨hz3.1 rfl, h⟩, fun h => h.2⟩)
      clear hc hz HQ y1 y2
      dsimp only
      repeat (first | go_values | go_skip | go_guarded | go_step | go_upon | go_back)
      go_ret
      exact tells_z HZ.out (K.trans k9 (fun _ h _ => h))
  by_cases k5 : a_kind = 5
  · subst k5
    have HQ : Shut (X ↔ 1 ≤ a_op ∧ a_op ≤ 4 ∧ OprP a_b ∧ OprP a_a ∧ (⟨0, zeroOpr, zeroOpr, 0, a_place, a_name, a_names, a_args⟩ : ValD) = zeroVal) := shut (by rw [HP.out]; simp [V5])
    clear HP
    obtain ⟨ae0, -, -, ae9, -, -, -, -⟩ := ValB al_a al_b al_place GCA.out BA
    by_cases h1 : 1 ≤ a_op
    rotate_left
    · have hb : decide (1 ≤ a_op) = false := decide_eq_false h1
      obtain ⟨u90, hu90⟩ := ZB.cell 9 (by omega)
      have hr90 := ZB.free 9
      have ZB1 := ZB.set_op 0
      have hf50 := ZB.fit 5 4 (by omega)
      have hf51 := ZB1.fit 5 4 (by omega)
      have hg5 : aggOk 4 (.agg #[.int .i64 0, .int .i64 0, .string ⟨#[]⟩, .slice none 0 0]) = true := agg_ok (zeroOpr_is S w).len (zeroOpr_is S w).one
      have ZB2 := ZB1.set_b
      go_upto_region 23 with fail
      any_goals try (rename_i hfz; simp [hr90] at hfz; done)
      clear hu90 hr90 hf50 hf51 hg5
      clear ZB1
      have ZB := ZB2
      clear ZB2
      have KW := ZB.1
      have BA := ZB.2.2.2.1
      generalize midSet (World.setCell (wc) ⟨gz, 9, none⟩ (.int .i64 0)) gz 5 #[.int .i64 0, .int .i64 0, .string ⟨#[]⟩, .slice none 0 0] = w5 at *
      have hf10 := ZB.fit 1 4 (by omega)
      have hg1 : aggOk 4 (.agg #[.int .i64 0, .int .i64 0, .string ⟨#[]⟩, .slice none 0 0]) = true := agg_ok (zeroOpr_is S w).len (zeroOpr_is S w).one
      have ZB1 := ZB.set_a
      go_upto_region 26 with fail
      clear hf10 hg1
      have ZB := ZB1
      clear ZB1
      have KW := ZB.1
      have BA := ZB.2.2.2.1
      generalize midSet (w5) gz 1 #[.int .i64 0, .int .i64 0, .string ⟨#[]⟩, .slice none 0 0] = w6 at *
      obtain ⟨u00, hu00⟩ := ZB.cell 0 (by omega)
      have hr00 := ZB.free 0
      have ZB1 := ZB.set_kind 0
      go_upto_region 27 with fail
      any_goals try (rename_i hfz; simp [hr00] at hfz; done)
      clear hu00 hr00
      have ZB := ZB1
      clear ZB1
      have KW := ZB.1
      have BA := ZB.2.2.2.1
      generalize World.setCell (w6) ⟨gz, 0, none⟩ (.int .i64 0) = wf at *
      have hno : Shut (¬ X) := shut (fun h => by have h2 := (HQ.out.1 h).1; omega)
      clear HQ
      obtain ⟨-, -, -, -, cz, BZ, hvz⟩ := ZB
      have agz := agg_ok hvz.len hvz.one
      have hszz : cz.toArray.size = 15 := by simpa using hvz.len
      obtain ⟨y1, y2⟩ := tblk_mid BZ hszz
      clear hvz
      generalize cz.toArray = CZ at *
      repeat (first | go_values | go_skip | go_guarded | go_step | go_upon | go_back)
      go_ret
      exact tells_f hno.out KW
    by_cases h4 : a_op ≤ 4
    rotate_left
    · have hb : decide (a_op ≤ 4) = false := decide_eq_false h4
      obtain ⟨u90, hu90⟩ := ZB.cell 9 (by omega)
      have hr90 := ZB.free 9
      have ZB1 := ZB.set_op 0
      have hf50 := ZB.fit 5 4 (by omega)
      have hf51 := ZB1.fit 5 4 (by omega)
      have hg5 : aggOk 4 (.agg #[.int .i64 0, .int .i64 0, .string ⟨#[]⟩, .slice none 0 0]) = true := agg_ok (zeroOpr_is S w).len (zeroOpr_is S w).one
      have ZB2 := ZB1.set_b
      go_upto_region 23 with fail
      any_goals try (rename_i hfz; simp [hr90] at hfz; done)
      clear hu90 hr90 hf50 hf51 hg5
      clear ZB1
      have ZB := ZB2
      clear ZB2
      have KW := ZB.1
      have BA := ZB.2.2.2.1
      generalize midSet (World.setCell (wc) ⟨gz, 9, none⟩ (.int .i64 0)) gz 5 #[.int .i64 0, .int .i64 0, .string ⟨#[]⟩, .slice none 0 0] = w5 at *
      have hf10 := ZB.fit 1 4 (by omega)
      have hg1 : aggOk 4 (.agg #[.int .i64 0, .int .i64 0, .string ⟨#[]⟩, .slice none 0 0]) = true := agg_ok (zeroOpr_is S w).len (zeroOpr_is S w).one
      have ZB1 := ZB.set_a
      go_upto_region 26 with fail
      clear hf10 hg1
      have ZB := ZB1
      clear ZB1
      have KW := ZB.1
      have BA := ZB.2.2.2.1
      generalize midSet (w5) gz 1 #[.int .i64 0, .int .i64 0, .string ⟨#[]⟩, .slice none 0 0] = w6 at *
      obtain ⟨u00, hu00⟩ := ZB.cell 0 (by omega)
      have hr00 := ZB.free 0
      have ZB1 := ZB.set_kind 0
      go_upto_region 27 with fail
      any_goals try (rename_i hfz; simp [hr00] at hfz; done)
      clear hu00 hr00
      have ZB := ZB1
      clear ZB1
      have KW := ZB.1
      have BA := ZB.2.2.2.1
      generalize World.setCell (w6) ⟨gz, 0, none⟩ (.int .i64 0) = wf at *
      have hno : Shut (¬ X) := shut (fun h => by have h2 := (HQ.out.1 h).2.1; omega)
      clear HQ
      obtain ⟨-, -, -, -, cz, BZ, hvz⟩ := ZB
      have agz := agg_ok hvz.len hvz.one
      have hszz : cz.toArray.size = 15 := by simpa using hvz.len
      obtain ⟨y1, y2⟩ := tblk_mid BZ hszz
      clear hvz
      generalize cz.toArray = CZ at *
      repeat (first | go_values | go_skip | go_guarded | go_step | go_upon | go_back)
      go_ret
      exact tells_f hno.out KW
    obtain ⟨-, -, ⟨ae5, af5⟩, -, -, -, -, -⟩ := ValB al_a al_b al_place GCA.out BA
    have hc := oper_any a_b wc s5 (ah_b.keeps KW (fun _ _ h => h) (fun _ h => h))
    try dsimp only
    repeat (first | go_values | go_skip | go_guarded | go_step | go_upon | go_back)
    refine hc.mono ?_
    rintro e w2 ⟨⟨z2, rfl, hz2⟩, k2⟩
    have KW := KW.trans k2 (fun _ h _ => h)
    have BA := k2.blk BA (fun h => h)
    have ZB := ZB.keeps k2
    clear hc k2 ae0 ae9 ae5 af5
    obtain ⟨u90, hu90⟩ := ZB.cell 9 (by omega)
    have hr90 := ZB.free 9
    have ZB1 := ZB.set_op 0
    have hf50 := ZB.fit 5 4 (by omega)
    have hf51 := ZB1.fit 5 4 (by omega)
    have hg5 : aggOk 4 (.agg #[.int .i64 0, .int .i64 0, .string ⟨#[]⟩, .slice none 0 0]) = true := agg_ok (zeroOpr_is S w).len (zeroOpr_is S w).one
    have ZB2 := ZB1.set_b
    go_upto_region 23 with fail
    any_goals try (rename_i hfz; simp [hr90] at hfz; done)
    clear hu90 hr90 hf50 hf51 hg5
    clear ZB1
    have ZB := ZB2
    clear ZB2
    have KW := ZB.1
    have BA := ZB.2.2.2.1
    generalize midSet (World.setCell (w2) ⟨gz, 9, none⟩ (.int .i64 0)) gz 5 #[.int .i64 0, .int .i64 0, .string ⟨#[]⟩, .slice none 0 0] = w5 at *
    cases z2 with
    | false =>
      have hf10 := ZB.fit 1 4 (by omega)
      have hg1 : aggOk 4 (.agg #[.int .i64 0, .int .i64 0, .string ⟨#[]⟩, .slice none 0 0]) = true := agg_ok (zeroOpr_is S w).len (zeroOpr_is S w).one
      have ZB1 := ZB.set_a
      go_upto_region 26 with fail
      clear hf10 hg1
      have ZB := ZB1
      clear ZB1
      have KW := ZB.1
      have BA := ZB.2.2.2.1
      generalize midSet (w5) gz 1 #[.int .i64 0, .int .i64 0, .string ⟨#[]⟩, .slice none 0 0] = w6 at *
      obtain ⟨u00, hu00⟩ := ZB.cell 0 (by omega)
      have hr00 := ZB.free 0
      have ZB1 := ZB.set_kind 0
      go_upto_region 27 with fail
      any_goals try (rename_i hfz; simp [hr00] at hfz; done)
      clear hu00 hr00
      have ZB := ZB1
      clear ZB1
      have KW := ZB.1
      have BA := ZB.2.2.2.1
      generalize World.setCell (w6) ⟨gz, 0, none⟩ (.int .i64 0) = wf at *
      have hno : Shut (¬ X) := shut (fun h => by have h2 := hz2.2 (HQ.out.1 h).2.2.1; cases h2)
      clear HQ
      obtain ⟨-, -, -, -, cz, BZ, hvz⟩ := ZB
      have agz := agg_ok hvz.len hvz.one
      have hszz : cz.toArray.size = 15 := by simpa using hvz.len
      obtain ⟨y1, y2⟩ := tblk_mid BZ hszz
      clear hvz
      generalize cz.toArray = CZ at *
      repeat (first | go_values | go_skip | go_guarded | go_step | go_upon | go_back)
      go_ret
      exact tells_f hno.out KW
    | true =>
      obtain ⟨-, ⟨ae1, af1⟩, -, -, -, -, -, -⟩ := ValB al_a al_b al_place GCA.out BA
      have hc := oper_any a_a w5 s1 (ah_a.keeps KW (fun _ _ h => h) (fun _ h => h))
      try dsimp only
      repeat (first | go_values | go_skip | go_guarded | go_step | go_upon | go_back)
      refine hc.mono ?_
      rintro e w3 ⟨⟨z3, rfl, hz3⟩, k3⟩
      have KW := KW.trans k3 (fun _ h _ => h)
      have BA := k3.blk BA (fun h => h)
      have ZB := ZB.keeps k3
      clear hc k3 ae1 af1
      try dsimp only
      cases z3 with
      | false =>
        have hf10 := ZB.fit 1 4 (by omega)
        have hg1 : aggOk 4 (.agg #[.int .i64 0, .int .i64 0, .string ⟨#[]⟩, .slice none 0 0]) = true := agg_ok (zeroOpr_is S w).len (zeroOpr_is S w).one
        have ZB1 := ZB.set_a
        go_upto_region 26 with fail
        clear hf10 hg1
        have ZB := ZB1
        clear ZB1
        have KW := ZB.1
        have BA := ZB.2.2.2.1
        generalize midSet (w3) gz 1 #[.int .i64 0, .int .i64 0, .string ⟨#[]⟩, .slice none 0 0] = w4 at *
        obtain ⟨u00, hu00⟩ := ZB.cell 0 (by omega)
        have hr00 := ZB.free 0
        have ZB1 := ZB.set_kind 0
        go_upto_region 27 with fail
        any_goals try (rename_i hfz; simp [hr00] at hfz; done)
        clear hu00 hr00
        have ZB := ZB1
        clear ZB1
        have KW := ZB.1
        have BA := ZB.2.2.2.1
        generalize World.setCell (w4) ⟨gz, 0, none⟩ (.int .i64 0) = wf at *
        have hno : Shut (¬ X) := shut (fun h => by have h2 := hz3.2 ((HQ.out.1 h).2.2.2.1); cases h2)
        clear HQ
        obtain ⟨-, -, -, -, cz, BZ, hvz⟩ := ZB
        have agz := agg_ok hvz.len hvz.one
        have hszz : cz.toArray.size = 15 := by simpa using hvz.len
        obtain ⟨y1, y2⟩ := tblk_mid BZ hszz
        clear hvz
        generalize cz.toArray = CZ at *
        repeat (first | go_values | go_skip | go_guarded | go_step | go_upon | go_back)
        go_ret
        exact tells_f hno.out KW
      | true =>
        have hf10 := ZB.fit 1 4 (by omega)
        have hg1 : aggOk 4 (.agg #[.int .i64 0, .int .i64 0, .string ⟨#[]⟩, .slice none 0 0]) = true := agg_ok (zeroOpr_is S w).len (zeroOpr_is S w).one
        have ZB1 := ZB.set_a
        go_upto_region 26 with fail
        clear hf10 hg1
        have ZB := ZB1
        clear ZB1
        have KW := ZB.1
        have BA := ZB.2.2.2.1
        generalize midSet (w3) gz 1 #[.int .i64 0, .int .i64 0, .string ⟨#[]⟩, .slice none 0 0] = w4 at *
        obtain ⟨u00, hu00⟩ := ZB.cell 0 (by omega)
        have hr00 := ZB.free 0
        have ZB1 := ZB.set_kind 0
        go_upto_region 27 with fail
        any_goals try (rename_i hfz; simp [hr00] at hfz; done)
        clear hu00 hr00
        have ZB := ZB1
        clear ZB1
        have KW := ZB.1
        have BA := ZB.2.2.2.1
        generalize World.setCell (w4) ⟨gz, 0, none⟩ (.int .i64 0) = wf at *
        obtain ⟨K, hg, hn, BA2, cz, BZ, hvz⟩ := ZB
        have agz := agg_ok hvz.len hvz.one
        have hszz : cz.toArray.size = 15 := by simpa using hvz.len
        obtain ⟨y1, y2⟩ := tblk_mid BZ hszz
        have hc0 := sameValue_any _ zeroVal wf cz valC (hvz.keeps K (fun _ _ h => h) (fun _ h => h)) (zeroVal_is S wf)
        have hc : Calls Tryz.prog 132 #[.agg cz.toArray, .agg #[.int .i64 0, .int .i64 0, .int .i64 0, .string ⟨#[]⟩, .slice none 0 0, .int .i64 0, .int .i64 0, .string ⟨#[]⟩, .slice none 0 0, .int .i64 0, .string ⟨#[]⟩, .slice none 0 0, .string ⟨#[]⟩, .slice none 0 0, .slice none 0 0]] wf (Tells wf _) := hc0
        clear hc0 hvz BA2 hg hn
        generalize cz.toArray = CZ at *
        repeat (first | go_values | go_skip | go_guarded | go_step | go_upon | go_back)
        refine hc.mono ?_
        rintro e w9 ⟨⟨z, rfl, hz⟩, k9⟩
        have HZ : Shut (z = true ↔ X) := shut (by rw [hz, HQ.out]; exact ⟨fun h => ⟨h1, h4, hz2.1 rfl, hz3.1 rfl, h⟩, fun h => h.2.2.2.2⟩)
        clear hc hz HQ y1 y2
        dsimp only
        repeat (first | go_values | go_skip | go_guarded | go_step | go_upon | go_back)
        go_ret
        exact tells_z HZ.out (K.trans k9 (fun _ h _ => h))
  by_cases k6 : a_kind = 6
  · subst k6
    have HQ : Shut (X ↔ DoubleP a_name ∧ OprsP a_args ∧ (⟨0, a_a, a_b, a_op, a_place, [], a_names, []⟩ : ValD) = zeroVal) := shut (by rw [HP.out]; simp [V6])
    clear HP
    obtain ⟨ae0, -, -, -, -, -, -, -⟩ := ValB al_a al_b al_place GCA.out BA
    obtain ⟨-, -, -, -, -, ae12, -, -⟩ := ValB al_a al_b al_place GCA.out BA
    unfold txV at *
    have hc := double_any wc (HM.out.keeps KW) a_name ah_name
    try dsimp only
    repeat (first | go_values | go_skip | go_guarded | go_step | go_upon | go_back)
    refine hc.mono ?_
    rintro e w5 ⟨⟨z5, rfl, hz5⟩, k5⟩
    have KW := KW.trans k5 (fun _ h _ => h)
    have BA := k5.blk BA (fun h => h)
    have ZB := ZB.keeps k5
    clear hc k5 ae12
    cases z5 with
    | false =>
      obtain ⟨u120, hu120⟩ := ZB.cell 12 (by omega)
      have hr120 := ZB.free 12
      have ZB1 := ZB.set_name
      obtain ⟨u140, hu140⟩ := ZB.cell 14 (by omega)
      have hr140 := ZB.free 14
      obtain ⟨u141, hu141⟩ := ZB1.cell 14 (by omega)
      have hr141 := ZB1.free 14
      have ZB2 := ZB1.set_args
      go_upto_region 26 with fail
      any_goals try (rename_i hfz; simp [hr120, hr140, hr141] at hfz; done)
      clear hu120 hr120 hu140 hr140 hu141 hr141
      clear ZB1
      have ZB := ZB2
      clear ZB2
      have KW := ZB.1
      have BA := ZB.2.2.2.1
      generalize World.setCell (World.setCell (w5) ⟨gz, 12, none⟩ (.string ⟨#[]⟩)) ⟨gz, 14, none⟩ (.slice none 0 0) = w6 at *
      obtain ⟨u00, hu00⟩ := ZB.cell 0 (by omega)
      have hr00 := ZB.free 0
      have ZB1 := ZB.set_kind 0
      go_upto_region 27 with fail
      any_goals try (rename_i hfz; simp [hr00] at hfz; done)
      clear hu00 hr00
      have ZB := ZB1
      clear ZB1
      have KW := ZB.1
      have BA := ZB.2.2.2.1
      generalize World.setCell (w6) ⟨gz, 0, none⟩ (.int .i64 0) = wf at *
      have hno : Shut (¬ X) := shut (fun h => by have h2 := hz5.2 ((HQ.out.1 h).1); cases h2)
      clear HQ
      obtain ⟨-, -, -, -, cz, BZ, hvz⟩ := ZB
      have agz := agg_ok hvz.len hvz.one
      have hszz : cz.toArray.size = 15 := by simpa using hvz.len
      obtain ⟨y1, y2⟩ := tblk_mid BZ hszz
      clear hvz
      generalize cz.toArray = CZ at *
      repeat (first | go_values | go_skip | go_guarded | go_step | go_upon | go_back)
      go_ret
      exact tells_f hno.out KW
    | true =>
      obtain ⟨-, -, -, -, -, -, -, ae14⟩ := ValB al_a al_b al_place GCA.out BA
      have hc := opers_any w5 q14 (ah_args.keeps KW (fun _ _ h => h) (fun _ h => h) (fun _ _ _ h => h.keeps KW (fun _ _ h => h) (fun _ h => h)))
      try dsimp only
      repeat (first | go_values | go_skip | go_guarded | go_step | go_upon | go_back)
      refine hc.mono ?_
      rintro e w6 ⟨⟨z6, rfl, hz6⟩, k6⟩
      have KW := KW.trans k6 (fun _ h _ => h)
      have BA := k6.blk BA (fun h => h)
      have ZB := ZB.keeps k6
      clear hc k6 ae14
      try dsimp only
      cases z6 with
      | false =>
        obtain ⟨u120, hu120⟩ := ZB.cell 12 (by omega)
        have hr120 := ZB.free 12
        have ZB1 := ZB.set_name
        obtain ⟨u140, hu140⟩ := ZB.cell 14 (by omega)
        have hr140 := ZB.free 14
        obtain ⟨u141, hu141⟩ := ZB1.cell 14 (by omega)
        have hr141 := ZB1.free 14
        have ZB2 := ZB1.set_args
        go_upto_region 26 with fail
        any_goals try (rename_i hfz; simp [hr120, hr140, hr141] at hfz; done)
        clear hu120 hr120 hu140 hr140 hu141 hr141
        clear ZB1
        have ZB := ZB2
        clear ZB2
        have KW := ZB.1
        have BA := ZB.2.2.2.1
        generalize World.setCell (World.setCell (w6) ⟨gz, 12, none⟩ (.string ⟨#[]⟩)) ⟨gz, 14, none⟩ (.slice none 0 0) = w7 at *
        obtain ⟨u00, hu00⟩ := ZB.cell 0 (by omega)
        have hr00 := ZB.free 0
        have ZB1 := ZB.set_kind 0
        go_upto_region 27 with fail
        any_goals try (rename_i hfz; simp [hr00] at hfz; done)
        clear hu00 hr00
        have ZB := ZB1
        clear ZB1
        have KW := ZB.1
        have BA := ZB.2.2.2.1
        generalize World.setCell (w7) ⟨gz, 0, none⟩ (.int .i64 0) = wf at *
        have hno : Shut (¬ X) := shut (fun h => by have h2 := hz6.2 ((HQ.out.1 h).2.1); cases h2)
        clear HQ
        obtain ⟨-, -, -, -, cz, BZ, hvz⟩ := ZB
        have agz := agg_ok hvz.len hvz.one
        have hszz : cz.toArray.size = 15 := by simpa using hvz.len
        obtain ⟨y1, y2⟩ := tblk_mid BZ hszz
        clear hvz
        generalize cz.toArray = CZ at *
        repeat (first | go_values | go_skip | go_guarded | go_step | go_upon | go_back)
        go_ret
        exact tells_f hno.out KW
      | true =>
        obtain ⟨u120, hu120⟩ := ZB.cell 12 (by omega)
        have hr120 := ZB.free 12
        have ZB1 := ZB.set_name
        obtain ⟨u140, hu140⟩ := ZB.cell 14 (by omega)
        have hr140 := ZB.free 14
        obtain ⟨u141, hu141⟩ := ZB1.cell 14 (by omega)
        have hr141 := ZB1.free 14
        have ZB2 := ZB1.set_args
        go_upto_region 26 with fail
        any_goals try (rename_i hfz; simp [hr120, hr140, hr141] at hfz; done)
        clear hu120 hr120 hu140 hr140 hu141 hr141
        clear ZB1
        have ZB := ZB2
        clear ZB2
        have KW := ZB.1
        have BA := ZB.2.2.2.1
        generalize World.setCell (World.setCell (w6) ⟨gz, 12, none⟩ (.string ⟨#[]⟩)) ⟨gz, 14, none⟩ (.slice none 0 0) = w7 at *
        obtain ⟨u00, hu00⟩ := ZB.cell 0 (by omega)
        have hr00 := ZB.free 0
        have ZB1 := ZB.set_kind 0
        go_upto_region 27 with fail
        any_goals try (rename_i hfz; simp [hr00] at hfz; done)
        clear hu00 hr00
        have ZB := ZB1
        clear ZB1
        have KW := ZB.1
        have BA := ZB.2.2.2.1
        generalize World.setCell (w7) ⟨gz, 0, none⟩ (.int .i64 0) = wf at *
        obtain ⟨K, hg, hn, BA2, cz, BZ, hvz⟩ := ZB
        have agz := agg_ok hvz.len hvz.one
        have hszz : cz.toArray.size = 15 := by simpa using hvz.len
        obtain ⟨y1, y2⟩ := tblk_mid BZ hszz
        have hc0 := sameValue_any _ zeroVal wf cz valC (hvz.keeps K (fun _ _ h => h) (fun _ h => h)) (zeroVal_is S wf)
        have hc : Calls Tryz.prog 132 #[.agg cz.toArray, .agg #[.int .i64 0, .int .i64 0, .int .i64 0, .string ⟨#[]⟩, .slice none 0 0, .int .i64 0, .int .i64 0, .string ⟨#[]⟩, .slice none 0 0, .int .i64 0, .string ⟨#[]⟩, .slice none 0 0, .string ⟨#[]⟩, .slice none 0 0, .slice none 0 0]] wf (Tells wf _) := hc0
        clear hc0 hvz BA2 hg hn
        generalize cz.toArray = CZ at *
        repeat (first | go_values | go_skip | go_guarded | go_step | go_upon | go_back)
        refine hc.mono ?_
        rintro e w9 ⟨⟨z, rfl, hz⟩, k9⟩
        have HZ : Shut (z = true ↔ X) := shut (by rw [hz, HQ.out]; exact ⟨fun h => ⟨hz5.1 rfl, hz6.1 rfl, h⟩, fun h => h.2.2⟩)
        clear hc hz HQ y1 y2
        dsimp only
        repeat (first | go_values | go_skip | go_guarded | go_step | go_upon | go_back)
        go_ret
        exact tells_z HZ.out (K.trans k9 (fun _ h _ => h))
  by_cases k7 : a_kind = 7
  · subst k7
    have HQ : Shut (X ↔ (∀ n ∈ a_names, isName n = true) ∧ a_names.length = a_args.length ∧ DoubleP a_name ∧ OprsP a_args ∧ (⟨0, a_a, a_b, a_op, a_place, [], [], []⟩ : ValD) = zeroVal) := shut (by rw [HP.out]; simp [V7])
    clear HP
    obtain ⟨n, hn⟩ : ∃ n, a_names.length = n := ⟨_, rfl⟩
    have hnb : n ≤ bigN := by rw [← hn]; exact ah_names.1
    unfold bigN at hnb
    rw [hn] at GCA HQ
    have HN := shut hn
    clear hn
    obtain ⟨ae0, -, -, -, -, -, ae13, -⟩ := ValB al_a al_b al_place GCA.out BA
    go_upto_region 13 with fail
    clear ae0 ae13
    go_loopw [3, 6, 30] (fun s3 s6 s30 wx => ∃ (t : Nat) (ok : Bool), s30 = .int .i64 t ∧ s3 = .bool ok ∧ t ≤ n ∧ Keeps Nothing wc wx ∧ Shut (ok = true ↔ ∀ s ∈ a_names.take t, isName s = true)) (fun _ _ s30 _ => n - (intOf s30).toNat)
    case atStart => exact ⟨0, true, rfl, rfl, Nat.zero_le _, Keeps.refl _ _, shut (by simp)⟩
    case round =>
      obtain ⟨t, ok, rfl, rfl, ht, KL, HT⟩ := hrel
      have BA := KL.blk BA (fun h => h)
      have ZB := ZB.keeps KL
      have KW := KW.trans KL (fun _ h _ => h)
      by_cases hlt : t < n
      · obtain ⟨a, ha⟩ : ∃ a, a_names[t]? = some a := ⟨_, List.getElem?_eq_getElem (by rw [HN.out]; exact hlt)⟩
        obtain ⟨g1, o1, rfl, e1, hal⟩ := tx_cell (ah_names.keeps KW (fun _ _ h => h) (fun _ h => h) (fun _ _ _ h => h)) ha
        have hc := fun W => lname_any W a (by unfold bigN at hal; omega)
        have HA := shut ha
        clear ha hal
        have m0 : (0 : Int) ≤ t := by omega
        have m1 : (t : Int) < n := by omega
        obtain ⟨z, hz⟩ : ∃ z, isName a = z := ⟨_, rfl⟩
        rw [hz] at hc
        have HT2 : Shut ((ok && z) = true ↔ ∀ s ∈ a_names.take (t + 1), isName s = true) := shut (by
          rw [Bool.and_eq_true, HT.out, ← hz]
          exact ⟨fun h => all_take (P := fun s => isName s = true) HA.out h.1 h.2, fun h => ⟨fun s hs => h s (List.mem_of_mem_take (by rw [List.take_take, Nat.min_eq_left (Nat.le_succ t)]; exact hs)), h a (List.mem_of_getElem? (i := t) (by rw [List.getElem?_take, if_pos (Nat.lt_succ_self t)]; exact HA.out))⟩⟩)
        clear hz HT
        cases ok with
        | false =>
          clear hc
          go_wp2_with fail
          go_roundw
          case rel => exact ⟨t + 1, false, by go_num, rfl, by omega, KL, HT2⟩
          case measure => simp [intOf]; omega
        | true =>
          go_wp2_with fail
          refine (hc _).mono ?_
          rintro e w1 ⟨rfl, rfl⟩
          clear hc e1
          go_wp2_with fail
          go_roundw
          case rel => exact ⟨t + 1, z, by go_num, rfl, by omega, KL, shut (by simpa using HT2.out)⟩
          case measure => simp [intOf]; omega
      · obtain rfl : t = n := by omega
        have m1 : ¬ (t : Int) < t := by omega
        have HALL : Shut (ok = true ↔ ∀ s ∈ a_names, isName s = true) := shut (by rw [HT.out, List.take_of_length_le (Nat.le_of_eq HN.out)])
        clear HT
        cases ok with
        | false =>
          obtain ⟨u130, hu130⟩ := ZB.cell 13 (by omega)
          have hr130 := ZB.free 13
          have ZB1 := ZB.set_names
          go_upto_region 19 with fail
          any_goals try (rename_i hfz; simp [hr130] at hfz; done)
          clear hu130 hr130
          have ZB := ZB1
          clear ZB1
          have KW := ZB.1
          have BA := ZB.2.2.2.1
          generalize World.setCell (wr) ⟨gz, 13, none⟩ (.slice none 0 0) = w4 at *
          obtain ⟨u120, hu120⟩ := ZB.cell 12 (by omega)
          have hr120 := ZB.free 12
          have ZB1 := ZB.set_name
          obtain ⟨u140, hu140⟩ := ZB.cell 14 (by omega)
          have hr140 := ZB.free 14
          obtain ⟨u141, hu141⟩ := ZB1.cell 14 (by omega)
          have hr141 := ZB1.free 14
          have ZB2 := ZB1.set_args
          go_upto_region 26 with fail
          any_goals try (rename_i hfz; simp [hr120, hr140, hr141] at hfz; done)
          clear hu120 hr120 hu140 hr140 hu141 hr141
          clear ZB1
          have ZB := ZB2
          clear ZB2
          have KW := ZB.1
          have BA := ZB.2.2.2.1
          generalize World.setCell (World.setCell (w4) ⟨gz, 12, none⟩ (.string ⟨#[]⟩)) ⟨gz, 14, none⟩ (.slice none 0 0) = w6 at *
          obtain ⟨u00, hu00⟩ := ZB.cell 0 (by omega)
          have hr00 := ZB.free 0
          have ZB1 := ZB.set_kind 0
          go_upto_region 27 with fail
          any_goals try (rename_i hfz; simp [hr00] at hfz; done)
          clear hu00 hr00
          have ZB := ZB1
          clear ZB1
          have KW := ZB.1
          have BA := ZB.2.2.2.1
          generalize World.setCell (w6) ⟨gz, 0, none⟩ (.int .i64 0) = wf at *
          have hno : Shut (¬ X) := shut (fun h => by have h2 := HALL.out.2 (HQ.out.1 h).1; cases h2)
          clear HQ
          obtain ⟨-, -, -, -, cz, BZ, hvz⟩ := ZB
          have agz := agg_ok hvz.len hvz.one
          have hszz : cz.toArray.size = 15 := by simpa using hvz.len
          obtain ⟨y1, y2⟩ := tblk_mid BZ hszz
          clear hvz
          generalize cz.toArray = CZ at *
          repeat (first | go_values | go_skip | go_guarded | go_step | go_upon | go_back)
          go_ret
          exact tells_f hno.out KW
        | true =>
          obtain ⟨m, hm⟩ : ∃ m, a_args.length = m := ⟨_, rfl⟩
          rw [hm] at GCA HQ
          have HM2 := shut hm
          clear hm
          by_cases hnm : t = m
          rotate_left
          · have hne : ¬ (t : Int) = m := by omega
            have hqb : ((t : Int) == m) = false := by rw [beq_eq_false_iff_ne]; exact hne
            obtain ⟨-, -, -, -, -, -, ae13, ae14⟩ := ValB al_a al_b al_place GCA.out BA
            obtain ⟨u130, hu130⟩ := ZB.cell 13 (by omega)
            have hr130 := ZB.free 13
            have ZB1 := ZB.set_names
            go_upto_region 19 with fail
            any_goals try (rename_i hfz; simp [hr130] at hfz; done)
            clear hu130 hr130
            have ZB := ZB1
            clear ZB1
            have KW := ZB.1
            have BA := ZB.2.2.2.1
            generalize World.setCell (wr) ⟨gz, 13, none⟩ (.slice none 0 0) = w4 at *
            obtain ⟨u120, hu120⟩ := ZB.cell 12 (by omega)
            have hr120 := ZB.free 12
            have ZB1 := ZB.set_name
            obtain ⟨u140, hu140⟩ := ZB.cell 14 (by omega)
            have hr140 := ZB.free 14
            obtain ⟨u141, hu141⟩ := ZB1.cell 14 (by omega)
            have hr141 := ZB1.free 14
            have ZB2 := ZB1.set_args
            go_upto_region 26 with fail
            any_goals try (rename_i hfz; simp [hr120, hr140, hr141] at hfz; done)
            clear hu120 hr120 hu140 hr140 hu141 hr141
            clear ZB1
            have ZB := ZB2
            clear ZB2
            have KW := ZB.1
            have BA := ZB.2.2.2.1
            generalize World.setCell (World.setCell (w4) ⟨gz, 12, none⟩ (.string ⟨#[]⟩)) ⟨gz, 14, none⟩ (.slice none 0 0) = w6 at *
            obtain ⟨u00, hu00⟩ := ZB.cell 0 (by omega)
            have hr00 := ZB.free 0
            have ZB1 := ZB.set_kind 0
            go_upto_region 27 with fail
            any_goals try (rename_i hfz; simp [hr00] at hfz; done)
            clear hu00 hr00
            have ZB := ZB1
            clear ZB1
            have KW := ZB.1
            have BA := ZB.2.2.2.1
            generalize World.setCell (w6) ⟨gz, 0, none⟩ (.int .i64 0) = wf at *
            have hno : Shut (¬ X) := shut (fun h => by exact hnm (HQ.out.1 h).2.1)
            clear HQ
            obtain ⟨-, -, -, -, cz, BZ, hvz⟩ := ZB
            have agz := agg_ok hvz.len hvz.one
            have hszz : cz.toArray.size = 15 := by simpa using hvz.len
            obtain ⟨y1, y2⟩ := tblk_mid BZ hszz
            clear hvz
            generalize cz.toArray = CZ at *
            repeat (first | go_values | go_skip | go_guarded | go_step | go_upon | go_back)
            go_ret
            exact tells_f hno.out KW
          subst hnm
          obtain ⟨-, -, -, -, -, -, ae13, ae14⟩ := ValB al_a al_b al_place GCA.out BA
          obtain ⟨u130, hu130⟩ := ZB.cell 13 (by omega)
          have hr130 := ZB.free 13
          have ZB1 := ZB.set_names
          go_upto_region 19 with fail
          any_goals try (rename_i hfz; simp [hr130] at hfz; done)
          clear hu130 hr130
          have ZB := ZB1
          clear ZB1
          have KW := ZB.1
          have BA := ZB.2.2.2.1
          generalize World.setCell (wr) ⟨gz, 13, none⟩ (.slice none 0 0) = w4 at *
          clear ae13 ae14
          rw [← HM2.out] at GCA
          obtain ⟨-, -, -, -, -, ae12, -, -⟩ := ValB al_a al_b al_place GCA.out BA
          unfold txV at *
          have hc := double_any w4 (HM.out.keeps KW) a_name ah_name
          try dsimp only
          repeat (first | go_values | go_skip | go_guarded | go_step | go_upon | go_back)
          refine hc.mono ?_
          rintro e w5 ⟨⟨z5, rfl, hz5⟩, k5⟩
          have KW := KW.trans k5 (fun _ h _ => h)
          have BA := k5.blk BA (fun h => h)
          have ZB := ZB.keeps k5
          clear hc k5 ae12
          cases z5 with
          | false =>
            obtain ⟨u120, hu120⟩ := ZB.cell 12 (by omega)
            have hr120 := ZB.free 12
            have ZB1 := ZB.set_name
            obtain ⟨u140, hu140⟩ := ZB.cell 14 (by omega)
            have hr140 := ZB.free 14
            obtain ⟨u141, hu141⟩ := ZB1.cell 14 (by omega)
            have hr141 := ZB1.free 14
            have ZB2 := ZB1.set_args
            go_upto_region 26 with fail
            any_goals try (rename_i hfz; simp [hr120, hr140, hr141] at hfz; done)
            clear hu120 hr120 hu140 hr140 hu141 hr141
            clear ZB1
            have ZB := ZB2
            clear ZB2
            have KW := ZB.1
            have BA := ZB.2.2.2.1
            generalize World.setCell (World.setCell (w5) ⟨gz, 12, none⟩ (.string ⟨#[]⟩)) ⟨gz, 14, none⟩ (.slice none 0 0) = w6 at *
            obtain ⟨u00, hu00⟩ := ZB.cell 0 (by omega)
            have hr00 := ZB.free 0
            have ZB1 := ZB.set_kind 0
            go_upto_region 27 with fail
            any_goals try (rename_i hfz; simp [hr00] at hfz; done)
            clear hu00 hr00
            have ZB := ZB1
            clear ZB1
            have KW := ZB.1
            have BA := ZB.2.2.2.1
            generalize World.setCell (w6) ⟨gz, 0, none⟩ (.int .i64 0) = wf at *
            have hno : Shut (¬ X) := shut (fun h => by have h2 := hz5.2 ((HQ.out.1 h).2.2.1); cases h2)
            clear HQ
            obtain ⟨-, -, -, -, cz, BZ, hvz⟩ := ZB
            have agz := agg_ok hvz.len hvz.one
            have hszz : cz.toArray.size = 15 := by simpa using hvz.len
            obtain ⟨y1, y2⟩ := tblk_mid BZ hszz
            clear hvz
            generalize cz.toArray = CZ at *
            repeat (first | go_values | go_skip | go_guarded | go_step | go_upon | go_back)
            go_ret
            exact tells_f hno.out KW
          | true =>
            obtain ⟨-, -, -, -, -, -, -, ae14⟩ := ValB al_a al_b al_place GCA.out BA
            have hc := opers_any w5 q14 (ah_args.keeps KW (fun _ _ h => h) (fun _ h => h) (fun _ _ _ h => h.keeps KW (fun _ _ h => h) (fun _ h => h)))
            try dsimp only
            repeat (first | go_values | go_skip | go_guarded | go_step | go_upon | go_back)
            refine hc.mono ?_
            rintro e w6 ⟨⟨z6, rfl, hz6⟩, k6⟩
            have KW := KW.trans k6 (fun _ h _ => h)
            have BA := k6.blk BA (fun h => h)
            have ZB := ZB.keeps k6
            clear hc k6 ae14
            try dsimp only
            cases z6 with
            | false =>
              obtain ⟨u120, hu120⟩ := ZB.cell 12 (by omega)
              have hr120 := ZB.free 12
              have ZB1 := ZB.set_name
              obtain ⟨u140, hu140⟩ := ZB.cell 14 (by omega)
              have hr140 := ZB.free 14
              obtain ⟨u141, hu141⟩ := ZB1.cell 14 (by omega)
              have hr141 := ZB1.free 14
              have ZB2 := ZB1.set_args
              go_upto_region 26 with fail
              any_goals try (rename_i hfz; simp [hr120, hr140, hr141] at hfz; done)
              clear hu120 hr120 hu140 hr140 hu141 hr141
              clear ZB1
              have ZB := ZB2
              clear ZB2
              have KW := ZB.1
              have BA := ZB.2.2.2.1
              generalize World.setCell (World.setCell (w6) ⟨gz, 12, none⟩ (.string ⟨#[]⟩)) ⟨gz, 14, none⟩ (.slice none 0 0) = w7 at *
              obtain ⟨u00, hu00⟩ := ZB.cell 0 (by omega)
              have hr00 := ZB.free 0
              have ZB1 := ZB.set_kind 0
              go_upto_region 27 with fail
              any_goals try (rename_i hfz; simp [hr00] at hfz; done)
              clear hu00 hr00
              have ZB := ZB1
              clear ZB1
              have KW := ZB.1
              have BA := ZB.2.2.2.1
              generalize World.setCell (w7) ⟨gz, 0, none⟩ (.int .i64 0) = wf at *
              have hno : Shut (¬ X) := shut (fun h => by have h2 := hz6.2 ((HQ.out.1 h).2.2.2.1); cases h2)
              clear HQ
              obtain ⟨-, -, -, -, cz, BZ, hvz⟩ := ZB
              have agz := agg_ok hvz.len hvz.one
              have hszz : cz.toArray.size = 15 := by simpa using hvz.len
              obtain ⟨y1, y2⟩ := tblk_mid BZ hszz
              clear hvz
              generalize cz.toArray = CZ at *
              repeat (first | go_values | go_skip | go_guarded | go_step | go_upon | go_back)
              go_ret
              exact tells_f hno.out KW
            | true =>
              obtain ⟨u120, hu120⟩ := ZB.cell 12 (by omega)
              have hr120 := ZB.free 12
              have ZB1 := ZB.set_name
              obtain ⟨u140, hu140⟩ := ZB.cell 14 (by omega)
              have hr140 := ZB.free 14
              obtain ⟨u141, hu141⟩ := ZB1.cell 14 (by omega)
              have hr141 := ZB1.free 14
              have ZB2 := ZB1.set_args
              go_upto_region 26 with fail
              any_goals try (rename_i hfz; simp [hr120, hr140, hr141] at hfz; done)
              clear hu120 hr120 hu140 hr140 hu141 hr141
              clear ZB1
              have ZB := ZB2
              clear ZB2
              have KW := ZB.1
              have BA := ZB.2.2.2.1
              generalize World.setCell (World.setCell (w6) ⟨gz, 12, none⟩ (.string ⟨#[]⟩)) ⟨gz, 14, none⟩ (.slice none 0 0) = w7 at *
              obtain ⟨u00, hu00⟩ := ZB.cell 0 (by omega)
              have hr00 := ZB.free 0
              have ZB1 := ZB.set_kind 0
              go_upto_region 27 with fail
              any_goals try (rename_i hfz; simp [hr00] at hfz; done)
              clear hu00 hr00
              have ZB := ZB1
              clear ZB1
              have KW := ZB.1
              have BA := ZB.2.2.2.1
              generalize World.setCell (w7) ⟨gz, 0, none⟩ (.int .i64 0) = wf at *
              obtain ⟨K, hg, hn, BA2, cz, BZ, hvz⟩ := ZB
              have agz := agg_ok hvz.len hvz.one
              have hszz : cz.toArray.size = 15 := by simpa using hvz.len
              obtain ⟨y1, y2⟩ := tblk_mid BZ hszz
              have hc0 := sameValue_any _ zeroVal wf cz valC (hvz.keeps K (fun _ _ h => h) (fun _ h => h)) (zeroVal_is S wf)
              have hc : Calls Tryz.prog 132 #[.agg cz.toArray, .agg #[.int .i64 0, .int .i64 0, .int .i64 0, .string ⟨#[]⟩, .slice none 0 0, .int .i64 0, .int .i64 0, .string ⟨#[]⟩, .slice none 0 0, .int .i64 0, .string ⟨#[]⟩, .slice none 0 0, .string ⟨#[]⟩, .slice none 0 0, .slice none 0 0]] wf (Tells wf _) := hc0
              clear hc0 hvz BA2 hg hn
              generalize cz.toArray = CZ at *
              repeat (first | go_values | go_skip | go_guarded | go_step | go_upon | go_back)
              refine hc.mono ?_
              rintro e w9 ⟨⟨z, rfl, hz⟩, k9⟩
              have HZ : Shut (z = true ↔ X) := shut (by rw [hz, HQ.out]; exact ⟨fun h => ⟨HALL.out.1 rfl, rfl, hz5.1 rfl, hz6.1 rfl, h⟩, fun h => h.2.2.2.2⟩)
              clear hc hz HQ y1 y2
              dsimp only
              repeat (first | go_values | go_skip | go_guarded | go_step | go_upon | go_back)
              go_ret
              exact tells_z HZ.out (K.trans k9 (fun _ h _ => h))
  have hno : Shut (¬ X) := shut (fun h => by have h2 := HP.out.1 h; simp [k1, k2, k3, k4, k5, k6, k7] at h2)
  clear HP
  obtain ⟨ae0, -, -, -, -, -, -, -⟩ := ValB al_a al_b al_place GCA.out BA
  go_wp2_with fail
  go_ret
  exact tells_f hno.out KW

end Go.Proofs.YtjbcagbnagefcaaGreat

namespace Go.Proofs.YtjbcagbnagefcaaGreat
open Go.RowKit

attribute [local go_sem ↓] exec_mid_ty exec_store_ty exec_mid_pl exec_store_pl exec_mid_opr exec_store_opr exec_mid_val exec_store_val exec_mid_st exec_store_st exec_mid_fld exec_store_fld exec_mid_str exec_store_str exec_mid_lif exec_store_lif exec_mid_fun exec_store_fun exec_mid_cr exec_store_cr
attribute [local go_sem] rowOk_new World.setRow_alloc_new

/-- A value that is there may be. -/
def VldP (s : StD) : Prop := s.has = true → ValP s.val

set_option maxRecDepth 100000 in
set_option maxHeartbeats 4000000 in
theorem valued_any {S : Nat → Prop} (a : StD) (w : World) (hM : MaxV w) (cs : List Value) (ha : StIs S w a cs) : Calls Tryz.prog 124 #[.agg cs.toArray] w (Tells w (VldP a)) := by
  obtain ⟨a_kind, a_pos, a_mu, a_name, a_ty, a_has, a_place, a_val, a_cond, a_thn, a_els⟩ := a
  have HP : Shut (VldP (.mk a_kind a_pos a_mu a_name a_ty a_has a_place a_val a_cond a_thn a_els) ↔ (a_has = true → ValP a_val)) := shut Iff.rfl
  obtain ⟨X, hX⟩ : ∃ X, X = VldP (.mk a_kind a_pos a_mu a_name a_ty a_has a_place a_val a_cond a_thn a_els) := ⟨_, rfl⟩
  rw [← hX] at HP ⊢
  clear hX
  have HM := shut hM
  clear hM
  have ag1 := agg_ok ha.len ha.one
  rw [stIs_iff] at ha
  obtain ⟨s4, s9, s11, s26, p30, q30, p31, q31, hcs, ah_name, ah_ty, ah_place, ah_val, ah_cond, ah_thn, ah_els⟩ := ha
  have HCA := shut hcs
  clear hcs
  simp only [StD.kind, StD.pos, StD.mu, StD.name, StD.ty, StD.has, StD.place, StD.val, StD.cond, StD.thn, StD.els] at ah_name ah_ty ah_place ah_val ah_cond ah_thn ah_els HCA
  obtain ⟨CA, hCA⟩ : ∃ C, C = cs.toArray := ⟨_, rfl⟩
  rw [← hCA] at ag1 ⊢
  rw [HCA.out] at hCA
  have GCA := shut hCA
  clear hCA HCA
  have al_ty := ah_ty.len
  have al_place := ah_place.len
  have al_val := ah_val.len
  have al_cond := ah_cond.len
  have KW : Keeps Nothing w (w.alloc (.cells CA 121)) := (Keeps.refl Nothing w).alloc _
  have BA := blk_new w CA 121
  go_enter Tryz.func124, Tryz.ntmps124
  go_upto_region 1 with fail
  clear ag1
  generalize w.heap.size = ga at *
  generalize w.alloc (.cells CA 121) = wb at *
  obtain ⟨-, -, -, -, -, ae8, -, ⟨ae11, af11⟩, -, -, -⟩ := StB al_ty al_place al_val al_cond GCA.out BA
  cases a_has with
  | false =>
    have hy : Shut X := shut (HP.out.2 (fun h => by cases h))
    clear HP
    go_wp2_with fail
    go_ret
    exact tells_t hy.out KW
  | true =>
    have hc := value_any a_val wb (HM.out.keeps KW) s11 (ah_val.keeps KW (fun _ _ h => h) (fun _ h => h))
    go_wp2_with fail
    refine hc.mono ?_
    rintro e w1 ⟨⟨z, rfl, hz⟩, k1⟩
    have KW := KW.trans k1 (fun _ h _ => h)
    have BA := k1.blk BA (fun h => h)
    have HZ : Shut (z = true ↔ X) := shut (by rw [hz, HP.out]; exact ⟨fun h _ => h, fun h => h (by first | rfl | trivial)⟩)
    clear hc hz k1 ae8 ae11 af11 HP
    obtain ⟨-, -, -, -, -, ae8, -, -, -, -, -⟩ := StB al_ty al_place al_val al_cond GCA.out BA
    cases z with
    | false =>
      go_wp2_with fail
      go_ret
      exact tells_f (fun h => by have h2 := HZ.out.2 h; cases h2) KW
    | true =>
      have hy : Shut X := shut (HZ.out.1 rfl)
      clear HZ
      go_wp2_with fail
      go_ret
      exact tells_t hy.out KW

end Go.Proofs.YtjbcagbnagefcaaGreat

namespace Go.Proofs.YtjbcagbnagefcaaGreat
open Go.RowKit

attribute [local go_sem ↓] exec_mid_ty exec_store_ty exec_mid_pl exec_store_pl exec_mid_opr exec_store_opr exec_mid_val exec_store_val exec_mid_st exec_store_st exec_mid_fld exec_store_fld exec_mid_str exec_store_str exec_mid_lif exec_store_lif exec_mid_fun exec_store_fun exec_mid_cr exec_store_cr
attribute [local go_sem] rowOk_new World.setRow_alloc_new

theorem build_valS (ρ : Operand → Value) (dst : Option Tmp) (ty' : TypeId) (pos : String) (af : Array Edge) (gd : Option (Nat × Bool)) (w : World) :
    (execOp ρ ⟨dst, .build 119 #[], ty', pos, af, gd⟩).run Tryz.prog w = .ok (.value (.agg #[.int .i64 0, .int .i64 0, .int .i64 0, .string ⟨#[]⟩, .slice none 0 0, .int .i64 0, .int .i64 0, .string ⟨#[]⟩, .slice none 0 0, .int .i64 0, .string ⟨#[]⟩, .slice none 0 0, .string ⟨#[]⟩, .slice none 0 0, .slice none 0 0])) w := by
  kernel_rfl
theorem build_st (ρ : Operand → Value) (dst : Option Tmp) (ty' : TypeId) (pos : String) (af : Array Edge) (gd : Option (Nat × Bool)) (w : World) :
    (execOp ρ ⟨dst, .build 121 #[], ty', pos, af, gd⟩).run Tryz.prog w = .ok (.value (.agg #[.int .i64 0, .int .i64 0, .bool false, .string ⟨#[]⟩, .int .i64 0, .string ⟨#[]⟩, .slice none 0 0, .slice none 0 0, .bool false, .string ⟨#[]⟩, .slice none 0 0, .int .i64 0, .int .i64 0, .int .i64 0, .string ⟨#[]⟩, .slice none 0 0, .int .i64 0, .int .i64 0, .string ⟨#[]⟩, .slice none 0 0, .int .i64 0, .string ⟨#[]⟩, .slice none 0 0, .string ⟨#[]⟩, .slice none 0 0, .slice none 0 0, .int .i64 0, .int .i64 0, .string ⟨#[]⟩, .slice none 0 0, .slice none 0 0, .slice none 0 0])) w := by
  kernel_rfl
attribute [local go_sem ↓] exec_into_pl exec_into_opr exec_into_ty exec_into_val build_valS build_st

theorem blkr_v {w : World} {gr gz : Nat} {C : Array Value} {t : TypeId} (h : Blk w gr C t) (hn : gr ≠ gz) : Blk (midSet (World.setCell w ⟨gz, 8, none⟩ (.bool false)) gz 11 #[.int .i64 0, .int .i64 0, .int .i64 0, .string ⟨#[]⟩, .slice none 0 0, .int .i64 0, .int .i64 0, .string ⟨#[]⟩, .slice none 0 0, .int .i64 0, .string ⟨#[]⟩, .slice none 0 0, .string ⟨#[]⟩, .slice none 0 0, .slice none 0 0]) gr C t := blk_setRow_other (blk_other h ⟨gz, 8, none⟩ hn _) hn
theorem blkr_e {w : World} {gr gz : Nat} {C : Array Value} {t : TypeId} (h : Blk w gr C t) (hn : gr ≠ gz) : Blk (World.setCell (World.setCell w ⟨gz, 8, none⟩ (.bool false)) ⟨gz, 31, none⟩ (.slice none 0 0)) gr C t := blk_other (blk_other h ⟨gz, 8, none⟩ hn _) ⟨gz, 31, none⟩ hn _

/-- What is there by Has is taken out. -/
def optD (a z : StD) : StD :=
  if a.has = true then
    (if a.kind = 1 ∨ a.kind = 10 then .mk z.kind z.pos z.mu z.name z.ty false z.place zeroVal z.cond z.thn z.els
     else if a.kind = 4 then .mk z.kind z.pos z.mu z.name z.ty false z.place z.val z.cond z.thn []
     else z)
  else z

set_option maxRecDepth 100000 in
set_option linter.unusedSimpArgs false in
set_option maxHeartbeats 8000000 in
theorem optional_any {S : Nat → Prop} (a z : StD) (w : World) (cs ds : List Value) (ha : StIs S w a cs) (hz : StIs S w z ds) : Calls Tryz.prog 129 #[.agg cs.toArray, .agg ds.toArray] w (fun e w' => Keeps Nothing w w' ∧ ∃ es : List Value, e = .returned (.agg es.toArray) ∧ StIs S w' (optD a z) es) := by
  have HZ0 := shut hz
  have agy := agg_ok hz.len hz.one
  clear hz
  obtain ⟨a_kind, a_pos, a_mu, a_name, a_ty, a_has, a_place, a_val, a_cond, a_thn, a_els⟩ := a
  obtain ⟨z_kind, z_pos, z_mu, z_name, z_ty, z_has, z_place, z_val, z_cond, z_thn, z_els⟩ := z
  have HP : Shut (optD (.mk a_kind a_pos a_mu a_name a_ty a_has a_place a_val a_cond a_thn a_els) (.mk z_kind z_pos z_mu z_name z_ty z_has z_place z_val z_cond z_thn z_els) = if a_has = true then (if a_kind = 1 ∨ a_kind = 10 then .mk z_kind z_pos z_mu z_name z_ty false z_place zeroVal z_cond z_thn z_els else if a_kind = 4 then .mk z_kind z_pos z_mu z_name z_ty false z_place z_val z_cond z_thn [] else .mk z_kind z_pos z_mu z_name z_ty z_has z_place z_val z_cond z_thn z_els) else .mk z_kind z_pos z_mu z_name z_ty z_has z_place z_val z_cond z_thn z_els) := shut rfl
  obtain ⟨X, hX⟩ : ∃ X, X = optD (.mk a_kind a_pos a_mu a_name a_ty a_has a_place a_val a_cond a_thn a_els) (.mk z_kind z_pos z_mu z_name z_ty z_has z_place z_val z_cond z_thn z_els) := ⟨_, rfl⟩
  rw [← hX] at HP ⊢
  clear hX
  have ag1 := agg_ok ha.len ha.one
  rw [stIs_iff] at ha
  obtain ⟨s4, s9, s11, s26, p30, q30, p31, q31, hcs, ah_name, ah_ty, ah_place, ah_val, ah_cond, ah_thn, ah_els⟩ := ha
  have HCA := shut hcs
  clear hcs
  simp only [StD.kind, StD.pos, StD.mu, StD.name, StD.ty, StD.has, StD.place, StD.val, StD.cond, StD.thn, StD.els] at HCA
  have al_ty := ah_ty.len
  have al_place := ah_place.len
  have al_val := ah_val.len
  have al_cond := ah_cond.len
  clear ah_name ah_ty ah_place ah_val ah_cond ah_thn ah_els
  obtain ⟨CA, hCA⟩ : ∃ C, C = cs.toArray := ⟨_, rfl⟩
  rw [← hCA] at ag1 ⊢
  rw [HCA.out] at hCA
  have GCA := shut hCA
  clear hCA HCA
  obtain ⟨CD, hCD⟩ : ∃ C, C = ds.toArray := ⟨_, rfl⟩
  rw [← hCD] at agy ⊢
  have HCD := shut hCD
  clear hCD
  go_enter Tryz.func129, Tryz.ntmps129
  go_upto_region 1 with fail
  clear ag1 agy
  have s1 : (w.alloc (.cells CA 121)).heap.size = w.heap.size + 1 := World.size_alloc _ _
  have BA := blk_alloc (blk_alloc (blk_new w CA 121) (.cells CD 121)) (.cells #[.int .i64 0, .int .i64 0, .bool false, .string ⟨#[]⟩, .int .i64 0, .string ⟨#[]⟩, .slice none 0 0, .slice none 0 0, .bool false, .string ⟨#[]⟩, .slice none 0 0, .int .i64 0, .int .i64 0, .int .i64 0, .string ⟨#[]⟩, .slice none 0 0, .int .i64 0, .int .i64 0, .string ⟨#[]⟩, .slice none 0 0, .int .i64 0, .string ⟨#[]⟩, .slice none 0 0, .string ⟨#[]⟩, .slice none 0 0, .slice none 0 0, .int .i64 0, .int .i64 0, .string ⟨#[]⟩, .slice none 0 0, .slice none 0 0, .slice none 0 0] 121)
  have KW : Keeps Nothing w (((w.alloc (.cells CA 121)).alloc (.cells CD 121)).alloc (.cells #[.int .i64 0, .int .i64 0, .bool false, .string ⟨#[]⟩, .int .i64 0, .string ⟨#[]⟩, .slice none 0 0, .slice none 0 0, .bool false, .string ⟨#[]⟩, .slice none 0 0, .int .i64 0, .int .i64 0, .int .i64 0, .string ⟨#[]⟩, .slice none 0 0, .int .i64 0, .int .i64 0, .string ⟨#[]⟩, .slice none 0 0, .int .i64 0, .string ⟨#[]⟩, .slice none 0 0, .string ⟨#[]⟩, .slice none 0 0, .slice none 0 0, .int .i64 0, .int .i64 0, .string ⟨#[]⟩, .slice none 0 0, .slice none 0 0, .slice none 0 0] 121)) := (((Keeps.refl Nothing w).alloc _).alloc _).alloc _
  have BR := blk_new ((w.alloc (.cells CA 121)).alloc (.cells CD 121)) #[.int .i64 0, .int .i64 0, .bool false, .string ⟨#[]⟩, .int .i64 0, .string ⟨#[]⟩, .slice none 0 0, .slice none 0 0, .bool false, .string ⟨#[]⟩, .slice none 0 0, .int .i64 0, .int .i64 0, .int .i64 0, .string ⟨#[]⟩, .slice none 0 0, .int .i64 0, .int .i64 0, .string ⟨#[]⟩, .slice none 0 0, .int .i64 0, .string ⟨#[]⟩, .slice none 0 0, .string ⟨#[]⟩, .slice none 0 0, .slice none 0 0, .int .i64 0, .int .i64 0, .string ⟨#[]⟩, .slice none 0 0, .slice none 0 0, .slice none 0 0] 121
  have BZ := blk_alloc (blk_new (w.alloc (.cells CA 121)) CD 121) (.cells #[.int .i64 0, .int .i64 0, .bool false, .string ⟨#[]⟩, .int .i64 0, .string ⟨#[]⟩, .slice none 0 0, .slice none 0 0, .bool false, .string ⟨#[]⟩, .slice none 0 0, .int .i64 0, .int .i64 0, .int .i64 0, .string ⟨#[]⟩, .slice none 0 0, .int .i64 0, .int .i64 0, .string ⟨#[]⟩, .slice none 0 0, .int .i64 0, .string ⟨#[]⟩, .slice none 0 0, .string ⟨#[]⟩, .slice none 0 0, .slice none 0 0, .int .i64 0, .int .i64 0, .string ⟨#[]⟩, .slice none 0 0, .slice none 0 0, .slice none 0 0] 121)
  rw [World.size_alloc, World.size_alloc] at BR
  rw [World.size_alloc] at BZ
  have hgr : w.heap.size ≤ w.heap.size + 1 + 1 := by omega
  have hrz : w.heap.size + 1 + 1 ≠ w.heap.size + 1 := by omega
  have ZB : StB2 S w (((w.alloc (.cells CA 121)).alloc (.cells CD 121)).alloc (.cells #[.int .i64 0, .int .i64 0, .bool false, .string ⟨#[]⟩, .int .i64 0, .string ⟨#[]⟩, .slice none 0 0, .slice none 0 0, .bool false, .string ⟨#[]⟩, .slice none 0 0, .int .i64 0, .int .i64 0, .int .i64 0, .string ⟨#[]⟩, .slice none 0 0, .int .i64 0, .int .i64 0, .string ⟨#[]⟩, .slice none 0 0, .int .i64 0, .string ⟨#[]⟩, .slice none 0 0, .string ⟨#[]⟩, .slice none 0 0, .slice none 0 0, .int .i64 0, .int .i64 0, .string ⟨#[]⟩, .slice none 0 0, .slice none 0 0, .slice none 0 0] 121)) w.heap.size CA (w.heap.size + 1) (.mk z_kind z_pos z_mu z_name z_ty z_has z_place z_val z_cond z_thn z_els) := ⟨KW, by omega, by omega, BA, ds, by rw [← HCD.out]; exact BZ, HZ0.out⟩
  clear BZ s1
  generalize ((w.alloc (.cells CA 121)).alloc (.cells CD 121)).alloc (.cells #[.int .i64 0, .int .i64 0, .bool false, .string ⟨#[]⟩, .int .i64 0, .string ⟨#[]⟩, .slice none 0 0, .slice none 0 0, .bool false, .string ⟨#[]⟩, .slice none 0 0, .int .i64 0, .int .i64 0, .int .i64 0, .string ⟨#[]⟩, .slice none 0 0, .int .i64 0, .int .i64 0, .string ⟨#[]⟩, .slice none 0 0, .int .i64 0, .string ⟨#[]⟩, .slice none 0 0, .string ⟨#[]⟩, .slice none 0 0, .slice none 0 0, .int .i64 0, .int .i64 0, .string ⟨#[]⟩, .slice none 0 0, .slice none 0 0, .slice none 0 0] 121) = wc at *
  generalize hgr2 : w.heap.size + 1 + 1 = gr at *
  generalize hgz2 : w.heap.size + 1 = gz at *
  generalize hga2 : w.heap.size = ga at *
  have HGR : Shut (w.heap.size ≤ gr) := shut (by rw [hga2]; exact hgr)
  clear hga2 hgr2 hgz2 hgr
  by_cases hh : a_has = false
  · subst hh
    have HO : Shut (X = .mk z_kind z_pos z_mu z_name z_ty z_has z_place z_val z_cond z_thn z_els) := shut (by rw [HP.out]; rfl)
    clear HP
    obtain ⟨-, -, -, -, -, ae8, -, -, -, -, -⟩ := StB al_ty al_place al_val al_cond GCA.out BA
    obtain ⟨K, hg, hn, BA2, cz, BZ, hvz⟩ := ZB
    have agz := agg_ok hvz.len hvz.one
    have hszz : cz.toArray.size = 32 := by simpa using hvz.len
    obtain ⟨y1, y2⟩ := tblk_mid BZ hszz
    have y3 := rowOk_blk BR (n := 32) rfl
    have HV := shut hvz
    clear hvz BA2 hg hn
    generalize hCZ : cz.toArray = CZ at *
    repeat (first | go_values | go_skip | go_guarded | go_step | go_upon | go_back)
    refine bodyPost_ret (v := .agg CZ) (results_cell_row rfl _ _ gr _ CZ (0, 0) _ rfl (blk_setRow (cs := CZ) BR) Tryz.underlying121 rfl (by rw [infoSt, hszz])) rfl ?_
    have K2 := K.setRow (g := gr) (fun h => absurd h (Nat.not_lt.2 HGR.out)) CZ
    refine ⟨K2, cz, by rw [hCZ], ?_⟩
    rw [HO.out]
    exact HV.out.keeps K2 (fun _ _ h => h) (fun _ h => h)
  obtain rfl : a_has = true := by cases a_has with | false => exact absurd rfl hh | true => rfl
  clear hh
  by_cases k1 : a_kind = 1
  · subst k1
    have HO : Shut (X = .mk z_kind z_pos z_mu z_name z_ty false z_place zeroVal z_cond z_thn z_els) := shut (by rw [HP.out]; simp)
    clear HP
    obtain ⟨ae0, -, -, -, -, ae8, -, -, -, -, -⟩ := StB al_ty al_place al_val al_cond GCA.out BA
    obtain ⟨u80, hu80⟩ := ZB.cell 8 (by omega)
    have hr80 := ZB.free 8
    have ZB1 := ZB.set_has false
    have hf110 := ZB.fit 11 15 (by omega)
    have hf111 := ZB1.fit 11 15 (by omega)
    have hg11 : aggOk 15 (.agg #[.int .i64 0, .int .i64 0, .int .i64 0, .string ⟨#[]⟩, .slice none 0 0, .int .i64 0, .int .i64 0, .string ⟨#[]⟩, .slice none 0 0, .int .i64 0, .string ⟨#[]⟩, .slice none 0 0, .string ⟨#[]⟩, .slice none 0 0, .slice none 0 0]) = true := agg_ok (zeroVal_is S w).len (zeroVal_is S w).one
    have ZB2 := ZB1.set_val
    go_upto_region 9 with fail
    any_goals try (rename_i hfz; simp [hr80] at hfz; done)
    clear hu80 hr80 hf110 hf111 hg11
    clear ZB1
    have ZB := ZB2
    clear ZB2
    have KW := ZB.1
    have BA := ZB.2.2.2.1
    have BR := blkr_v BR hrz
    generalize midSet (World.setCell (wc) ⟨gz, 8, none⟩ (.bool false)) gz 11 #[.int .i64 0, .int .i64 0, .int .i64 0, .string ⟨#[]⟩, .slice none 0 0, .int .i64 0, .int .i64 0, .string ⟨#[]⟩, .slice none 0 0, .int .i64 0, .string ⟨#[]⟩, .slice none 0 0, .string ⟨#[]⟩, .slice none 0 0, .slice none 0 0] = wd at *
    clear ae0 ae8
    obtain ⟨K, hg, hn, BA2, cz, BZ, hvz⟩ := ZB
    have agz := agg_ok hvz.len hvz.one
    have hszz : cz.toArray.size = 32 := by simpa using hvz.len
    obtain ⟨y1, y2⟩ := tblk_mid BZ hszz
    have y3 := rowOk_blk BR (n := 32) rfl
    have HV := shut hvz
    clear hvz BA2 hg hn
    generalize hCZ : cz.toArray = CZ at *
    repeat (first | go_values | go_skip | go_guarded | go_step | go_upon | go_back)
    refine bodyPost_ret (v := .agg CZ) (results_cell_row rfl _ _ gr _ CZ (0, 0) _ rfl (blk_setRow (cs := CZ) BR) Tryz.underlying121 rfl (by rw [infoSt, hszz])) rfl ?_
    have K2 := K.setRow (g := gr) (fun h => absurd h (Nat.not_lt.2 HGR.out)) CZ
    refine ⟨K2, cz, by rw [hCZ], ?_⟩
    rw [HO.out]
    exact HV.out.keeps K2 (fun _ _ h => h) (fun _ h => h)
  by_cases k10 : a_kind = 10
  · subst k10
    have HO : Shut (X = .mk z_kind z_pos z_mu z_name z_ty false z_place zeroVal z_cond z_thn z_els) := shut (by rw [HP.out]; simp)
    clear HP
    obtain ⟨ae0, -, -, -, -, ae8, -, -, -, -, -⟩ := StB al_ty al_place al_val al_cond GCA.out BA
    obtain ⟨u80, hu80⟩ := ZB.cell 8 (by omega)
    have hr80 := ZB.free 8
    have ZB1 := ZB.set_has false
    have hf110 := ZB.fit 11 15 (by omega)
    have hf111 := ZB1.fit 11 15 (by omega)
    have hg11 : aggOk 15 (.agg #[.int .i64 0, .int .i64 0, .int .i64 0, .string ⟨#[]⟩, .slice none 0 0, .int .i64 0, .int .i64 0, .string ⟨#[]⟩, .slice none 0 0, .int .i64 0, .string ⟨#[]⟩, .slice none 0 0, .string ⟨#[]⟩, .slice none 0 0, .slice none 0 0]) = true := agg_ok (zeroVal_is S w).len (zeroVal_is S w).one
    have ZB2 := ZB1.set_val
    go_upto_region 9 with fail
    any_goals try (rename_i hfz; simp [hr80] at hfz; done)
    clear hu80 hr80 hf110 hf111 hg11
    clear ZB1
    have ZB := ZB2
    clear ZB2
    have KW := ZB.1
    have BA := ZB.2.2.2.1
    have BR := blkr_v BR hrz
    generalize midSet (World.setCell (wc) ⟨gz, 8, none⟩ (.bool false)) gz 11 #[.int .i64 0, .int .i64 0, .int .i64 0, .string ⟨#[]⟩, .slice none 0 0, .int .i64 0, .int .i64 0, .string ⟨#[]⟩, .slice none 0 0, .int .i64 0, .string ⟨#[]⟩, .slice none 0 0, .string ⟨#[]⟩, .slice none 0 0, .slice none 0 0] = wd at *
    clear ae0 ae8
    obtain ⟨K, hg, hn, BA2, cz, BZ, hvz⟩ := ZB
    have agz := agg_ok hvz.len hvz.one
    have hszz : cz.toArray.size = 32 := by simpa using hvz.len
    obtain ⟨y1, y2⟩ := tblk_mid BZ hszz
    have y3 := rowOk_blk BR (n := 32) rfl
    have HV := shut hvz
    clear hvz BA2 hg hn
    generalize hCZ : cz.toArray = CZ at *
    repeat (first | go_values | go_skip | go_guarded | go_step | go_upon | go_back)
    refine bodyPost_ret (v := .agg CZ) (results_cell_row rfl _ _ gr _ CZ (0, 0) _ rfl (blk_setRow (cs := CZ) BR) Tryz.underlying121 rfl (by rw [infoSt, hszz])) rfl ?_
    have K2 := K.setRow (g := gr) (fun h => absurd h (Nat.not_lt.2 HGR.out)) CZ
    refine ⟨K2, cz, by rw [hCZ], ?_⟩
    rw [HO.out]
    exact HV.out.keeps K2 (fun _ _ h => h) (fun _ h => h)
  by_cases k4 : a_kind = 4
  · subst k4
    have HO : Shut (X = .mk z_kind z_pos z_mu z_name z_ty false z_place z_val z_cond z_thn []) := shut (by rw [HP.out]; simp)
    clear HP
    obtain ⟨ae0, -, -, -, -, ae8, -, -, -, -, -⟩ := StB al_ty al_place al_val al_cond GCA.out BA
    obtain ⟨u80, hu80⟩ := ZB.cell 8 (by omega)
    have hr80 := ZB.free 8
    have ZB1 := ZB.set_has false
    obtain ⟨u310, hu310⟩ := ZB.cell 31 (by omega)
    have hr310 := ZB.free 31
    obtain ⟨u311, hu311⟩ := ZB1.cell 31 (by omega)
    have hr311 := ZB1.free 31
    have ZB2 := ZB1.set_els
    go_upto_region 9 with fail
    any_goals try (rename_i hfz; simp [hr80, hr310, hr311] at hfz; done)
    clear hu80 hr80 hu310 hr310 hu311 hr311
    clear ZB1
    have ZB := ZB2
    clear ZB2
    have KW := ZB.1
    have BA := ZB.2.2.2.1
    have BR := blkr_e BR hrz
    generalize World.setCell (World.setCell (wc) ⟨gz, 8, none⟩ (.bool false)) ⟨gz, 31, none⟩ (.slice none 0 0) = wd at *
    clear ae0 ae8
    obtain ⟨K, hg, hn, BA2, cz, BZ, hvz⟩ := ZB
    have agz := agg_ok hvz.len hvz.one
    have hszz : cz.toArray.size = 32 := by simpa using hvz.len
    obtain ⟨y1, y2⟩ := tblk_mid BZ hszz
    have y3 := rowOk_blk BR (n := 32) rfl
    have HV := shut hvz
    clear hvz BA2 hg hn
    generalize hCZ : cz.toArray = CZ at *
    repeat (first | go_values | go_skip | go_guarded | go_step | go_upon | go_back)
    refine bodyPost_ret (v := .agg CZ) (results_cell_row rfl _ _ gr _ CZ (0, 0) _ rfl (blk_setRow (cs := CZ) BR) Tryz.underlying121 rfl (by rw [infoSt, hszz])) rfl ?_
    have K2 := K.setRow (g := gr) (fun h => absurd h (Nat.not_lt.2 HGR.out)) CZ
    refine ⟨K2, cz, by rw [hCZ], ?_⟩
    rw [HO.out]
    exact HV.out.keeps K2 (fun _ _ h => h) (fun _ h => h)
  have HO : Shut (X = .mk z_kind z_pos z_mu z_name z_ty z_has z_place z_val z_cond z_thn z_els) := shut (by rw [HP.out, if_pos rfl, if_neg (by rintro (h | h); exact k1 h; exact k10 h), if_neg k4])
  clear HP
  obtain ⟨ae0, -, -, -, -, ae8, -, -, -, -, -⟩ := StB al_ty al_place al_val al_cond GCA.out BA
  obtain ⟨K, hg, hn, BA2, cz, BZ, hvz⟩ := ZB
  have agz := agg_ok hvz.len hvz.one
  have hszz : cz.toArray.size = 32 := by simpa using hvz.len
  obtain ⟨y1, y2⟩ := tblk_mid BZ hszz
  have y3 := rowOk_blk BR (n := 32) rfl
  have HV := shut hvz
  clear hvz BA2 hg hn
  generalize hCZ : cz.toArray = CZ at *
  repeat (first | go_values | go_skip | go_guarded | go_step | go_upon | go_back)
  refine bodyPost_ret (v := .agg CZ) (results_cell_row rfl _ _ gr _ CZ (0, 0) _ rfl (blk_setRow (cs := CZ) BR) Tryz.underlying121 rfl (by rw [infoSt, hszz])) rfl ?_
  have K2 := K.setRow (g := gr) (fun h => absurd h (Nat.not_lt.2 HGR.out)) CZ
  refine ⟨K2, cz, by rw [hCZ], ?_⟩
  rw [HO.out]
  exact HV.out.keeps K2 (fun _ _ h => h) (fun _ h => h)

end Go.Proofs.YtjbcagbnagefcaaGreat

namespace Go.Proofs.YtjbcagbnagefcaaGreat
open Go.RowKit

attribute [local go_sem ↓] exec_mid_ty exec_store_ty exec_mid_pl exec_store_pl exec_mid_opr exec_store_opr exec_mid_val exec_store_val exec_mid_st exec_store_st exec_mid_fld exec_store_fld exec_mid_str exec_store_str exec_mid_lif exec_store_lif exec_mid_fun exec_store_fun exec_mid_cr exec_store_cr
attribute [local go_sem] rowOk_new World.setRow_alloc_new
theorem ent_sameStmt : Entered 128 := entered_of Tryz.func128 (by kernel_rfl) (by kernel_rfl)

set_option maxRecDepth 100000 in
set_option maxHeartbeats 4000000 in
theorem eqf_st (f : FuncId) (hcf : Entered f) {S S' : Nat → Prop} {l m : List StD} (hf : ∀ a ∈ l, ∀ b ∈ m, ∀ (W : World) (cs ds : List Value), StIs S W a cs → StIs S' W b ds → Calls Tryz.prog f #[.agg cs.toArray, .agg ds.toArray] W (Tells W (a = b)))
    (w : World) {ax ay : Option Addr} (cx cy : Nat) (hx : SlIs S w 32 (StIs S w) ax l) (hy : SlIs S' w 32 (StIs S' w) ay m) :
    Calls Tryz.prog 143 #[.slice ax l.length cx, .slice ay m.length cy, .func (.func f) #[] #[]] w (Tells w (l = m)) := by
  have hlx := hx.1
  have hly := hy.1
  unfold bigN at hlx hly
  have HX := shut hx
  have HY := shut hy
  have HF := shut hf
  clear hx hy hf
  by_cases hne : l.length = m.length
  · obtain ⟨n, hn⟩ : ∃ n, l.length = n := ⟨_, rfl⟩
    have hm : m.length = n := by omega
    rw [hn, hm]
    rw [hn] at hlx
    clear hne hly
    have HN := shut hn
    have HM := shut hm
    clear hn hm
    go_enter Tryz.func143, Tryz.ntmps143
    go_wp2_with fail
    go_loopw [7, 8, 9, 17] (fun s7 s8 s9 s17 wx => ∃ t : Nat, s17 = .int .i64 t ∧ t ≤ n ∧ Keeps Nothing w wx ∧ Shut (l.take t = m.take t)) (fun _ _ _ s17 _ => n - (intOf s17).toNat)
    case atStart => exact ⟨0, rfl, Nat.zero_le _, Keeps.refl _ _, shut (by simp)⟩
    case round =>
      obtain ⟨t, rfl, ht, K, HT⟩ := hrel
      by_cases hlt : t < n
      · obtain ⟨a, ha⟩ : ∃ a, l[t]? = some a := ⟨_, List.getElem?_eq_getElem (by rw [HN.out]; exact hlt)⟩
        obtain ⟨b, hb⟩ : ∃ b, m[t]? = some b := ⟨_, List.getElem?_eq_getElem (by rw [HM.out]; exact hlt)⟩
        have HA := shut ha
        have HB := shut hb
        obtain ⟨g1, o1, rfl, -, cs, l1, r1, i1⟩ := (HX.out.keeps K (fun _ _ h => h) (fun _ h => h) (fun _ _ _ h => h.keeps K (fun _ _ h => h) (fun _ h => h))).get ha
        obtain ⟨g2, o2, rfl, -, ds, l2, r2, i2⟩ := (HY.out.keeps K (fun _ _ h => h) (fun _ h => h) (fun _ _ _ h => h.keeps K (fun _ _ h => h) (fun _ h => h))).get hb
        have ag1 := agg_ok l1 i1.one
        have ag2 := agg_ok l2 i2.one
        have hcm := List.mem_of_getElem? ha
        have hdm := List.mem_of_getElem? hb
        clear ha hb
        have m0 : (0 : Int) ≤ t := by omega
        have m1 : (t : Int) < n := by omega
        have hk := midOk_range r1
        have ho := midOf_range r1
        rw [l1] at hk ho
        have hz : cs.toArray.size = 32 := by simpa using l1
        obtain ⟨C, hC⟩ : ∃ C, C = cs.toArray := ⟨_, rfl⟩
        rw [← hC] at ag1 ho hz
        have HC := shut hC
        clear hC
        go_upto_region 6 with fail
        have kb1 : Keeps Nothing wr (wr.alloc (.cells C 121)) := (Keeps.refl Nothing wr).alloc _
        have bx1 := blk_new wr C 121
        have r2' := rangeAt_keeps r2 kb1 (fun h => h)
        clear hk ho r2
        generalize hgx1 : wr.heap.size = gx1 at *
        clear hgx1
        have hk := midOk_range r2'
        have ho := midOf_range r2'
        rw [l2] at hk ho
        have hz2 : ds.toArray.size = 32 := by simpa using l2
        obtain ⟨D, hD⟩ : ∃ D, D = ds.toArray := ⟨_, rfl⟩
        rw [← hD] at ag2 ho hz2
        have HD := shut hD
        clear hD
        have KB := K.trans kb1 (fun _ h _ => h)
        have j1 := i1.keeps kb1 (fun _ _ h => h) (fun _ h => h)
        have j2 := i2.keeps kb1 (fun _ _ h => h) (fun _ h => h)
        clear i1 i2 kb1 K r1
        generalize wr.alloc (.cells C 121) = w1 at *
        go_upto_region 7 with fail
        have kb2 : Keeps Nothing w1 (w1.alloc (.cells D 121)) := (Keeps.refl Nothing w1).alloc _
        have bx2 := blk_new w1 D 121
        have bx1 := kb2.blk bx1 (fun h => h)
        have KC := KB.trans kb2 (fun _ h _ => h)
        have q1 := j1.keeps kb2 (fun _ _ h => h) (fun _ h => h)
        have q2 := j2.keeps kb2 (fun _ _ h => h) (fun _ h => h)
        clear hk ho r2' j1 j2 kb2 KB
        generalize hgx2 : w1.heap.size = gx2 at *
        clear hgx2
        generalize w1.alloc (.cells D 121) = w2 at *
        obtain ⟨y1, y2⟩ := tblk_mid bx1 hz
        obtain ⟨y3, y4⟩ := tblk_mid bx2 hz2
        have hcall := HF.out a hcm b hdm w2 cs ds q1 q2
        rw [← HC.out, ← HD.out] at hcall
        clear q1 q2 bx1 bx2
        have hcf2 := hcf #[.agg C, .agg D] w2
        go_wp2_with fail
        clear hcf2
        refine hcall.mono ?_
        rintro e w3 ⟨⟨z, rfl, hzz⟩, k3⟩
        have KD := KC.trans k3 (fun _ h _ => h)
        have HZ := shut hzz
        clear hcall y1 y2 y3 y4 KC k3 hzz
        cases z with
        | true =>
          have HAB := shut (HZ.out.1 rfl)
          clear HZ
          go_wp2_with fail
          go_roundw
          case rel => exact ⟨t + 1, by go_num, by omega, KD, shut (take_eq HA.out HB.out HT.out HAB.out)⟩
          case measure => simp [intOf]; omega
        | false =>
          have HAB : Shut (a ≠ b) := shut (fun h => by have h2 := HZ.out.2 h; cases h2)
          clear HZ
          go_wp2_with fail
          go_ret
          exact tells_f (ne_at HA.out HB.out HAB.out) KD
      · obtain rfl : t = n := by omega
        have m1 : ¬ (t : Int) < t := by omega
        go_wp2_with fail
        go_ret
        refine tells_t ?_ K
        have h := HT.out
        rwa [List.take_of_length_le (Nat.le_of_eq HN.out), List.take_of_length_le (Nat.le_of_eq HM.out)] at h
  · have hne' : ¬ (l.length : Int) = m.length := by omega
    have hl : l ≠ m := fun h => hne (by rw [h])
    go_enter Tryz.func143, Tryz.ntmps143
    go_wp2_with fail
    go_ret
    exact tells_f hl (Keeps.refl _ _)

set_option maxHeartbeats 1000000 in
theorem each_st (f : FuncId) (hcf : Entered f) {S S' : Nat → Prop} {l m : List StD} (hf : ∀ a ∈ l, ∀ b ∈ m, ∀ (W : World) (cs ds : List Value), StIs S W a cs → StIs S' W b ds → Calls Tryz.prog f #[.agg cs.toArray, .agg ds.toArray] W (Tells W (a = b)))
    (w : World) {ax ay : Option Addr} (cx cy : Nat) (hx : SlIs S w 32 (StIs S w) ax l) (hy : SlIs S' w 32 (StIs S' w) ay m) :
    Calls Tryz.prog 136 #[.slice ax l.length cx, .slice ay m.length cy, .func (.func f) #[] #[]] w (Tells w (l = m)) := by
  have h := eqf_st f hcf hf w cx cy hx hy
  clear hf hcf hx hy
  go_enter Tryz.func136, Tryz.ntmps136
  go_wp2_with fail
  refine h.mono ?_
  rintro e w1 ⟨⟨z, rfl, hz⟩, k⟩
  have HZ := shut hz
  clear hz h
  go_wp2_with fail
  go_ret
  exact tells_z HZ.out k
set_option maxRecDepth 100000 in
set_option maxHeartbeats 4000000 in
theorem sameStmt_any {S S' : Nat → Prop} : ∀ (a b : StD) (w : World) (cs ds : List Value), StIs S w a cs → StIs S' w b ds → Calls Tryz.prog 128 #[.agg cs.toArray, .agg ds.toArray] w (Tells w (a = b)) := by
  refine StD.ind ?_
  intro a_kind a_pos a_mu a_name a_ty a_has a_place a_val a_cond a_thn a_els ih_thn ih_els b w cs ds ha hb
  obtain ⟨b_kind, b_pos, b_mu, b_name, b_ty, b_has, b_place, b_val, b_cond, b_thn, b_els⟩ := b
  have hih_thn : ∀ a ∈ a_thn, ∀ b ∈ b_thn, ∀ (W : World) (cs ds : List Value), StIs S W a cs → StIs S' W b ds → Calls Tryz.prog 128 #[.agg cs.toArray, .agg ds.toArray] W (Tells W (a = b)) := fun a h b _ W cs ds => ih_thn a h b W cs ds
  have HI_thn := shut hih_thn
  clear hih_thn ih_thn
  have hih_els : ∀ a ∈ a_els, ∀ b ∈ b_els, ∀ (W : World) (cs ds : List Value), StIs S W a cs → StIs S' W b ds → Calls Tryz.prog 128 #[.agg cs.toArray, .agg ds.toArray] W (Tells W (a = b)) := fun a h b _ W cs ds => ih_els a h b W cs ds
  have HI_els := shut hih_els
  clear hih_els ih_els
  have ag1 := agg_ok ha.len ha.one
  have ag2 := agg_ok hb.len hb.one
  rw [stIs_iff] at ha hb
  obtain ⟨s4, s9, s11, s26, p30, q30, p31, q31, hcs, ah_name, ah_ty, ah_place, ah_val, ah_cond, ah_thn, ah_els⟩ := ha
  have HCA := shut hcs
  clear hcs
  obtain ⟨t4, t9, t11, t26, x30, y30, x31, y31, hcs, bh_name, bh_ty, bh_place, bh_val, bh_cond, bh_thn, bh_els⟩ := hb
  have HCB := shut hcs
  clear hcs
  simp only [StD.kind, StD.pos, StD.mu, StD.name, StD.ty, StD.has, StD.place, StD.val, StD.cond, StD.thn, StD.els] at ah_name bh_name ah_ty bh_ty ah_place bh_place ah_val bh_val ah_cond bh_cond ah_thn bh_thn ah_els bh_els HCA HCB
  have HE : Shut ((StD.mk a_kind a_pos a_mu a_name a_ty a_has a_place a_val a_cond a_thn a_els) = (StD.mk b_kind b_pos b_mu b_name b_ty b_has b_place b_val b_cond b_thn b_els) ↔ a_kind = b_kind ∧ a_pos = b_pos ∧ a_mu = b_mu ∧ a_name = b_name ∧ a_ty = b_ty ∧ a_has = b_has ∧ a_place = b_place ∧ a_val = b_val ∧ a_cond = b_cond ∧ a_thn = b_thn ∧ a_els = b_els) := shut (by rw [StD.mk.injEq])
  obtain ⟨XA, hXA⟩ : ∃ X, X = StD.mk a_kind a_pos a_mu a_name a_ty a_has a_place a_val a_cond a_thn a_els := ⟨_, rfl⟩
  obtain ⟨XB, hXB⟩ : ∃ X, X = StD.mk b_kind b_pos b_mu b_name b_ty b_has b_place b_val b_cond b_thn b_els := ⟨_, rfl⟩
  rw [← hXA, ← hXB] at HE ⊢
  clear hXA hXB
  obtain ⟨CA, hCA⟩ : ∃ C, C = cs.toArray := ⟨_, rfl⟩
  obtain ⟨CB, hCB⟩ : ∃ C, C = ds.toArray := ⟨_, rfl⟩
  rw [← hCA] at ag1 ⊢
  rw [← hCB] at ag2 ⊢
  rw [HCA.out] at hCA
  rw [HCB.out] at hCB
  have GCA := shut hCA
  have GCB := shut hCB
  clear hCA hCB HCA HCB
  have KW : Keeps Nothing w ((w.alloc (.cells CA 121)).alloc (.cells CB 121)) := ((Keeps.refl Nothing w).alloc _).alloc _
  have BA : Blk ((w.alloc (.cells CA 121)).alloc (.cells CB 121)) w.heap.size CA 121 := blk_alloc (blk_new w CA 121) _
  have BB : Blk ((w.alloc (.cells CA 121)).alloc (.cells CB 121)) (w.heap.size + 1) CB 121 := by have h := blk_new (w.alloc (.cells CA 121)) CB 121; rwa [World.size_alloc] at h
  have al_ty := ah_ty.len
  have bl_ty := bh_ty.len
  have al_place := ah_place.len
  have bl_place := bh_place.len
  have al_val := ah_val.len
  have bl_val := bh_val.len
  have al_cond := ah_cond.len
  have bl_cond := bh_cond.len
  go_enter Tryz.func128, Tryz.ntmps128
  obtain ⟨ae0, ae1, ae2, ae3, ⟨ae4, af4⟩, ae8, -, -, -, -, -⟩ := StB al_ty al_place al_val al_cond GCA.out BA
  obtain ⟨be0, be1, be2, be3, ⟨be4, bf4⟩, be8, -, -, -, -, -⟩ := StB bl_ty bl_place bl_val bl_cond GCB.out BB
  have ac0 := blk_inv BA ae0
  have bc0 := blk_inv BB be0
  have ac1 := blk_inv BA ae1
  have bc1 := blk_inv BB be1
  have ac2 := blk_inv BA ae2
  have bc2 := blk_inv BB be2
  have ac3 := blk_inv BA ae3
  have bc3 := blk_inv BB be3
  have ac8 := blk_inv BA ae8
  have bc8 := blk_inv BB be8
  by_cases e_kind : a_kind = b_kind
  rotate_left
  · have hno : Shut (¬ XA = XB) := shut (fun h => e_kind ((HE.out.1 h).1))
    clear HE GCA GCB BA BB
    unfold txV at *
    go_wp2_with fail
    go_ret
    exact tells_f hno.out KW
  subst e_kind
  by_cases e_pos : a_pos = b_pos
  rotate_left
  · have hno : Shut (¬ XA = XB) := shut (fun h => e_pos ((HE.out.1 h).2.1))
    clear HE GCA GCB BA BB
    unfold txV at *
    go_wp2_with fail
    go_ret
    exact tells_f hno.out KW
  subst e_pos
  by_cases e_mu : a_mu = b_mu
  rotate_left
  · have hno : Shut (¬ XA = XB) := shut (fun h => e_mu ((HE.out.1 h).2.2.1))
    clear HE GCA GCB BA BB
    unfold txV at *
    have hq : (a_mu == b_mu) = false := by rw [beq_eq_false_iff_ne]; exact e_mu
    go_wp2_with fail
    go_ret
    exact tells_f hno.out KW
  subst e_mu
  by_cases e_name : a_name = b_name
  rotate_left
  · have hno : Shut (¬ XA = XB) := shut (fun h => e_name ((HE.out.1 h).2.2.2.1))
    clear HE GCA GCB BA BB
    have hq : (a_name == b_name) = false := by rw [beq_eq_false_iff_ne]; exact e_name
    unfold txV at *
    go_wp2_with fail
    go_ret
    exact tells_f hno.out KW
  subst e_name
  have hq_name : (a_name == a_name) = true := beq_self_eq_true _
  by_cases e_has : a_has = b_has
  rotate_left
  · have hno : Shut (¬ XA = XB) := shut (fun h => e_has ((HE.out.1 h).2.2.2.2.2.1))
    clear HE GCA GCB BA BB
    unfold txV at *
    have hq : (a_has == b_has) = false := by rw [beq_eq_false_iff_ne]; exact e_has
    go_wp2_with fail
    go_ret
    exact tells_f hno.out KW
  subst e_has
  have hc := sameType_any _ _ ((w.alloc (.cells CA 121)).alloc (.cells CB 121)) _ _ (ah_ty.keeps KW (fun _ _ h => h) (fun _ h => h)) (bh_ty.keeps KW (fun _ _ h => h) (fun _ h => h))
  generalize hsa : s4.toArray = sa at *
  generalize hsb : t4.toArray = sb at *
  clear hsa hsb
  unfold txV at *
  go_wp2_with fail
  refine hc.mono ?_
  rintro e w1 ⟨⟨z, rfl, hz⟩, k1⟩
  have KW := KW.trans k1 (fun _ h _ => h)
  have BA := k1.blk BA (fun h => h)
  have BB := k1.blk BB (fun h => h)
  clear hc k1 ae0 ac0 be0 bc0 ae1 ac1 be1 bc1 ae2 ac2 be2 bc2 ae3 ac3 be3 bc3 ae4 af4 be4 bf4 ae8 ac8 be8 bc8 hq_name
  cases z
  · have hno : Shut (¬ XA = XB) := shut (fun h => by have h2 := hz.2 ((HE.out.1 h).2.2.2.2.1); cases h2)
    clear HE GCA GCB BA BB hz
    go_wp2_with fail
    go_ret
    exact tells_f hno.out KW
  have E_ty := shut (hz.1 rfl)
  clear hz
  obtain ⟨-, -, -, -, -, -, ⟨ae9, af9⟩, -, -, -, -⟩ := StB al_ty al_place al_val al_cond GCA.out BA
  obtain ⟨-, -, -, -, -, -, ⟨be9, bf9⟩, -, -, -, -⟩ := StB bl_ty bl_place bl_val bl_cond GCB.out BB
  have hc := samePlace_any _ _ w1 _ _ (ah_place.keeps KW (fun _ _ h => h) (fun _ h => h)) (bh_place.keeps KW (fun _ _ h => h) (fun _ h => h))
  generalize hsa : s9.toArray = sa at *
  generalize hsb : t9.toArray = sb at *
  clear hsa hsb
  skip
  go_wp2_with fail
  refine hc.mono ?_
  rintro e w2 ⟨⟨z, rfl, hz⟩, k2⟩
  have KW := KW.trans k2 (fun _ h _ => h)
  have BA := k2.blk BA (fun h => h)
  have BB := k2.blk BB (fun h => h)
  clear hc k2 ae9 af9 be9 bf9
  cases z
  · have hno : Shut (¬ XA = XB) := shut (fun h => by have h2 := hz.2 ((HE.out.1 h).2.2.2.2.2.2.1); cases h2)
    clear HE GCA GCB BA BB hz
    go_wp2_with fail
    go_ret
    exact tells_f hno.out KW
  have E_place := shut (hz.1 rfl)
  clear hz
  obtain ⟨-, -, -, -, -, -, -, ⟨ae11, af11⟩, -, -, -⟩ := StB al_ty al_place al_val al_cond GCA.out BA
  obtain ⟨-, -, -, -, -, -, -, ⟨be11, bf11⟩, -, -, -⟩ := StB bl_ty bl_place bl_val bl_cond GCB.out BB
  have hc := sameValue_any _ _ w2 _ _ (ah_val.keeps KW (fun _ _ h => h) (fun _ h => h)) (bh_val.keeps KW (fun _ _ h => h) (fun _ h => h))
  generalize hsa : s11.toArray = sa at *
  generalize hsb : t11.toArray = sb at *
  clear hsa hsb
  skip
  go_wp2_with fail
  refine hc.mono ?_
  rintro e w3 ⟨⟨z, rfl, hz⟩, k3⟩
  have KW := KW.trans k3 (fun _ h _ => h)
  have BA := k3.blk BA (fun h => h)
  have BB := k3.blk BB (fun h => h)
  clear hc k3 ae11 af11 be11 bf11
  cases z
  · have hno : Shut (¬ XA = XB) := shut (fun h => by have h2 := hz.2 ((HE.out.1 h).2.2.2.2.2.2.2.1); cases h2)
    clear HE GCA GCB BA BB hz
    go_wp2_with fail
    go_ret
    exact tells_f hno.out KW
  have E_val := shut (hz.1 rfl)
  clear hz
  obtain ⟨-, -, -, -, -, -, -, -, ⟨ae26, af26⟩, -, -⟩ := StB al_ty al_place al_val al_cond GCA.out BA
  obtain ⟨-, -, -, -, -, -, -, -, ⟨be26, bf26⟩, -, -⟩ := StB bl_ty bl_place bl_val bl_cond GCB.out BB
  have hc := sameOper_any _ _ w3 _ _ (ah_cond.keeps KW (fun _ _ h => h) (fun _ h => h)) (bh_cond.keeps KW (fun _ _ h => h) (fun _ h => h))
  generalize hsa : s26.toArray = sa at *
  generalize hsb : t26.toArray = sb at *
  clear hsa hsb
  skip
  go_wp2_with fail
  refine hc.mono ?_
  rintro e w4 ⟨⟨z, rfl, hz⟩, k4⟩
  have KW := KW.trans k4 (fun _ h _ => h)
  have BA := k4.blk BA (fun h => h)
  have BB := k4.blk BB (fun h => h)
  clear hc k4 ae26 af26 be26 bf26
  cases z
  · have hno : Shut (¬ XA = XB) := shut (fun h => by have h2 := hz.2 ((HE.out.1 h).2.2.2.2.2.2.2.2.1); cases h2)
    clear HE GCA GCB BA BB hz
    go_wp2_with fail
    go_ret
    exact tells_f hno.out KW
  have E_cond := shut (hz.1 rfl)
  clear hz
  obtain ⟨-, -, -, -, -, -, -, -, -, ae30, -⟩ := StB al_ty al_place al_val al_cond GCA.out BA
  obtain ⟨-, -, -, -, -, -, -, -, -, be30, -⟩ := StB bl_ty bl_place bl_val bl_cond GCB.out BB
  have hc := each_st _ ent_sameStmt HI_thn.out w4 q30 y30 (ah_thn.keeps KW (fun _ _ h => h) (fun _ h => h) (fun _ _ _ h => h.keeps KW (fun _ _ h => h) (fun _ h => h))) (bh_thn.keeps KW (fun _ _ h => h) (fun _ h => h) (fun _ _ _ h => h.keeps KW (fun _ _ h => h) (fun _ h => h)))
  skip
  go_wp2_with fail
  refine hc.mono ?_
  rintro e w5 ⟨⟨z, rfl, hz⟩, k5⟩
  have KW := KW.trans k5 (fun _ h _ => h)
  have BA := k5.blk BA (fun h => h)
  have BB := k5.blk BB (fun h => h)
  clear hc k5 ae30 be30
  cases z
  · have hno : Shut (¬ XA = XB) := shut (fun h => by have h2 := hz.2 ((HE.out.1 h).2.2.2.2.2.2.2.2.2.1); cases h2)
    clear HE GCA GCB BA BB hz
    go_wp2_with fail
    go_ret
    exact tells_f hno.out KW
  have E_thn := shut (hz.1 rfl)
  clear hz
  obtain ⟨-, -, -, -, -, -, -, -, -, -, ae31⟩ := StB al_ty al_place al_val al_cond GCA.out BA
  obtain ⟨-, -, -, -, -, -, -, -, -, -, be31⟩ := StB bl_ty bl_place bl_val bl_cond GCB.out BB
  have hc := each_st _ ent_sameStmt HI_els.out w5 q31 y31 (ah_els.keeps KW (fun _ _ h => h) (fun _ h => h) (fun _ _ _ h => h.keeps KW (fun _ _ h => h) (fun _ h => h))) (bh_els.keeps KW (fun _ _ h => h) (fun _ h => h) (fun _ _ _ h => h.keeps KW (fun _ _ h => h) (fun _ h => h)))
  skip
  go_wp2_with fail
  refine hc.mono ?_
  rintro e w6 ⟨⟨z, rfl, hz⟩, k6⟩
  have KW := KW.trans k6 (fun _ h _ => h)
  have BA := k6.blk BA (fun h => h)
  have BB := k6.blk BB (fun h => h)
  clear hc k6 ae31 be31
  cases z
  · have hno : Shut (¬ XA = XB) := shut (fun h => by have h2 := hz.2 ((HE.out.1 h).2.2.2.2.2.2.2.2.2.2); cases h2)
    clear HE GCA GCB BA BB hz
    go_wp2_with fail
    go_ret
    exact tells_f hno.out KW
  have E_els := shut (hz.1 rfl)
  clear hz
  go_wp2_with fail
  go_ret
  exact tells_t (HE.out.2 ⟨(by first | rfl | trivial), (by first | rfl | trivial), (by first | rfl | trivial), (by first | rfl | trivial), E_ty.out, (by first | rfl | trivial), E_place.out, E_val.out, E_cond.out, E_thn.out, E_els.out⟩) KW

end Go.Proofs.YtjbcagbnagefcaaGreat

