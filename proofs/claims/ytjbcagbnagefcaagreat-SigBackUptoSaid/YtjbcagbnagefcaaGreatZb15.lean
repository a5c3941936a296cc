/- Tree24 -/
import Derived.Test.YtjbcagbnagefcaaGreatZb4
import Derived.Test.YtjbcagbnagefcaaGreatZb14
import Derived.Test.YtjbcagbnagefcaaGreatZb12
namespace Go.Proofs.YtjbcagbnagefcaaGreat
open Go.RowKit
attribute [local go_sem ↓] exec_mid_ty exec_store_ty exec_mid_pl exec_store_pl exec_mid_opr exec_store_opr exec_mid_val exec_store_val exec_mid_st exec_store_st exec_mid_fld exec_store_fld exec_mid_str exec_store_str exec_mid_lif exec_store_lif exec_mid_fun exec_store_fun exec_mid_cr exec_store_cr
attribute [local go_sem] rowOk_new World.setRow_alloc_new
attribute [local go_sem ↓] exec_into_pl exec_into_opr build_val
set_option maxRecDepth 100000 in
set_option linter.unusedSimpArgs false in
set_option maxHeartbeats 16000000 in
theorem rvalue_any {S : Nat → Prop} (a : ValD) (w : World) (cs : List Value) (ha : ValIs S w a cs) : Calls Tryz.prog 100 #[.agg cs.toArray] w (Tells w (ValP a)) := by
 have HV0 := shut ha
 obtain ⟨a_kind, a_a, a_b, a_op, a_place, a_name, a_names, a_args⟩ := a
 have HP : Shut (ValP ⟨a_kind, a_a, a_b, a_op, a_place, a_name, a_names, a_args⟩ ↔ ((a_kind = 2 ∨ a_kind = 3) ∧ V23 ⟨a_kind, a_a, a_b, a_op, a_place, a_name, a_names, a_args⟩) ∨ (a_kind = 7 ∧ V7 ⟨a_kind, a_a, a_b, a_op, a_place, a_name, a_names, a_args⟩) ∨ (a_kind = 6 ∧ V6 ⟨a_kind, a_a, a_b, a_op, a_place, a_name, a_names, a_args⟩) ∨ (a_kind = 5 ∧ V5 ⟨a_kind, a_a, a_b, a_op, a_place, a_name, a_names, a_args⟩) ∨ ((a_kind = 1 ∨ a_kind = 4) ∧ V14 ⟨a_kind, a_a, a_b, a_op, a_place, a_name, a_names, a_args⟩)) := shut Iff.rfl
 obtain ⟨X, hX⟩ : ∃ X, X = ValP ⟨a_kind, a_a, a_b, a_op, a_place, a_name, a_names, a_args⟩ := ⟨_, rfl⟩
 rw [← hX] at HP ⊢
 clear hX
 have ag1 := agg_ok ha.len ha.one
 obtain ⟨s1, s5, s10, p13, q13, p14, q14, hcs, ah_a, ah_b, ah_place, ah_name, ah_names, ah_args⟩ := ha
 have HCA := shut hcs
 clear hcs
 simp only at ah_a ah_b ah_place ah_name ah_names ah_args HCA
 obtain ⟨CA, hCA⟩ : ∃ C, C = cs.toArray := ⟨_, rfl⟩
 rw [← hCA] at ag1 ⊢
 have HCS := shut hCA
 rw [HCA.out] at hCA
 have GCA := shut hCA
 clear hCA HCA
 have al_a := ah_a.len
 have al_b := ah_b.len
 have al_place := ah_place.len
 have KW : Keeps Nothing w (w.alloc (.cells CA 119)) := (Keeps.refl Nothing w).alloc _
 have BA := blk_new w CA 119
 go_enter Tryz.func100, Tryz.ntmps100
 go_upto_region 1 with fail
 generalize w.heap.size = ga at *
 generalize w.alloc (.cells CA 119) = wb at *
 have hsz : CA.size = 15 := by rw [HCS.out]; simpa using HV0.out.len
 obtain ⟨y1, y2⟩ := tblk_mid BA hsz
 go_upto_region 2 with fail
 have ZB := ValB2.new KW BA HCS.out HV0.out
 clear y1 y2 ag1 HV0 HCS hsz
 have BA := blk_alloc BA (.cells CA 119)
 have KW := KW.alloc (.cells CA 119)
 have hgz : ga ≠ wb.heap.size := ZB.2.2.1
 generalize wb.heap.size = gz at *
 generalize wb.alloc (.cells CA 119) = wb2 at *
 obtain ⟨u00, hu00⟩ := ZB.cell 0 (by omega)
 have hr00 := ZB.free 0
 have ZB1 := ZB.set_kind 0
 go_upto_region 4 with (rw [if_neg Bool.false_ne_true])
 any_goals try (rename_i hfz; simp [hr00] at hfz; done)
 clear hu00 hr00
 clear ZB
 have ZB := ZB1
 clear ZB1
 have KW := ZB.1
 have BA := ZB.2.2.2.1
 generalize World.setCell (wb2) ⟨gz, 0, none⟩ (.int .i64 0) = wc at *
 by_cases k1 : a_kind = 1
 ·subst k1
  have HQ : Shut (X ↔ OprP a_a ∧ (⟨0, zeroOpr, a_b, a_op, a_place, a_name, a_names, a_args⟩ : ValD) = zeroVal) := shut (by rw [HP.out]; simp [V14])
  clear HP
  obtain ⟨ae0, -, -, -, -, -, -, -⟩ := ValB al_a al_b al_place GCA.out BA
  obtain ⟨-, ⟨ae1, af1⟩, -, -, -, -, -, -⟩ := ValB al_a al_b al_place GCA.out BA
  have hc := roper_any a_a wc s1 (ah_a.keeps KW (fun _ _ h => h) (fun _ h => h))
  try dsimp only
  repeat (first | rw [if_neg Bool.false_ne_true] | go_values | go_skip | go_guarded | go_step | go_upon | go_back)
  refine hc.mono ?_
  rintro e w102 ⟨⟨z102, rfl, hz102⟩, k102⟩
  have KW := KW.trans k102 (fun _ h _ => h)
  have BA := k102.blk BA (fun h => h)
  have ZB := ZB.keeps k102
  clear hc k102 ae1 af1
  try dsimp only
  cases z102 with
  | false =>
   have hf10 := ZB.fit 1 4 (by omega)
   have hg1 : aggOk 4 (.agg #[.int .i64 0, .int .i64 0, .string ⟨#[]⟩, .slice none 0 0]) = true := agg_ok (zeroOpr_is S w).len (zeroOpr_is S w).one
   have ZB1 := ZB.set_a
   go_upto_region 32 with (rw [if_neg Bool.false_ne_true])
   clear hf10 hg1
   have ZB := ZB1
   clear ZB1
   have KW := ZB.1
   have BA := ZB.2.2.2.1
   generalize midSet (w102) gz 1 #[.int .i64 0, .int .i64 0, .string ⟨#[]⟩, .slice none 0 0] = w103 at *
   have hno : Shut (¬ X) := shut (fun h => by have h2 := hz102.2 (HQ.out.1 h).1; cases h2)
   clear HQ
   have KW := ZB.1
   clear ZB BA
   repeat (first | rw [if_neg Bool.false_ne_true] | go_values | go_skip | go_guarded | go_step | go_upon | go_back)
   go_ret
   exact tells_f hno.out KW
  | true =>
   have hf10 := ZB.fit 1 4 (by omega)
   have hg1 : aggOk 4 (.agg #[.int .i64 0, .int .i64 0, .string ⟨#[]⟩, .slice none 0 0]) = true := agg_ok (zeroOpr_is S w).len (zeroOpr_is S w).one
   have ZB1 := ZB.set_a
   go_upto_region 32 with (rw [if_neg Bool.false_ne_true])
   clear hf10 hg1
   have ZB := ZB1
   clear ZB1
   have KW := ZB.1
   have BA := ZB.2.2.2.1
   generalize midSet (w102) gz 1 #[.int .i64 0, .int .i64 0, .string ⟨#[]⟩, .slice none 0 0] = w104 at *
   obtain ⟨K, hg, hn, BA2, cz, BZ, hvz⟩ := ZB
   have agz := agg_ok hvz.len hvz.one
   have hszz : cz.toArray.size = 15 := by simpa using hvz.len
   obtain ⟨y1, y2⟩ := tblk_mid BZ hszz
   have hc0 := rsameValue_any _ zeroVal w104 cz valC (hvz.keeps K (fun _ _ h => h) (fun _ h => h)) (zeroVal_is S w104)
   have hc : Calls Tryz.prog 116 #[.agg cz.toArray, .agg #[.int .i64 0, .int .i64 0, .int .i64 0, .string ⟨#[]⟩, .slice none 0 0, .int .i64 0, .int .i64 0, .string ⟨#[]⟩, .slice none 0 0, .int .i64 0, .string ⟨#[]⟩, .slice none 0 0, .string ⟨#[]⟩, .slice none 0 0, .slice none 0 0]] w104 (Tells w104 _) := hc0
   clear hc0 hvz BA2 hg hn
   generalize cz.toArray = CZ at *
   try dsimp only
   repeat (first | rw [if_neg Bool.false_ne_true] | go_values | go_skip | go_guarded | go_step | go_upon | go_back)
   refine hc.mono ?_
   rintro e w9 ⟨⟨z, rfl, hz⟩, k9⟩
   have HZ : Shut (z = true ↔ X) := shut (by rw [hz, HQ.out]; exact ⟨fun h => ⟨hz102.1 rfl, h⟩, fun h => h.2⟩)
   clear hc hz HQ y1 y2
   try dsimp only
   repeat (first | rw [if_neg Bool.false_ne_true] | go_values | go_skip | go_guarded | go_step | go_upon | go_back)
   go_ret
   exact tells_z HZ.out (K.trans k9 (fun _ h _ => h))
 by_cases k4 : a_kind = 4
 ·subst k4
  have HQ : Shut (X ↔ OprP a_a ∧ (⟨0, zeroOpr, a_b, a_op, a_place, a_name, a_names, a_args⟩ : ValD) = zeroVal) := shut (by rw [HP.out]; simp [V14])
  clear HP
  obtain ⟨ae0, -, -, -, -, -, -, -⟩ := ValB al_a al_b al_place GCA.out BA
  obtain ⟨-, ⟨ae1, af1⟩, -, -, -, -, -, -⟩ := ValB al_a al_b al_place GCA.out BA
  have hc := roper_any a_a wc s1 (ah_a.keeps KW (fun _ _ h => h) (fun _ h => h))
  try dsimp only
  repeat (first | rw [if_neg Bool.false_ne_true] | go_values | go_skip | go_guarded | go_step | go_upon | go_back)
  refine hc.mono ?_
  rintro e w105 ⟨⟨z105, rfl, hz105⟩, k105⟩
  have KW := KW.trans k105 (fun _ h _ => h)
  have BA := k105.blk BA (fun h => h)
  have ZB := ZB.keeps k105
  clear hc k105 ae1 af1
  try dsimp only
  cases z105 with
  | false =>
   have hf10 := ZB.fit 1 4 (by omega)
   have hg1 : aggOk 4 (.agg #[.int .i64 0, .int .i64 0, .string ⟨#[]⟩, .slice none 0 0]) = true := agg_ok (zeroOpr_is S w).len (zeroOpr_is S w).one
   have ZB1 := ZB.set_a
   go_upto_region 32 with (rw [if_neg Bool.false_ne_true])
   clear hf10 hg1
   have ZB := ZB1
   clear ZB1
   have KW := ZB.1
   have BA := ZB.2.2.2.1
   generalize midSet (w105) gz 1 #[.int .i64 0, .int .i64 0, .string ⟨#[]⟩, .slice none 0 0] = w106 at *
   have hno : Shut (¬ X) := shut (fun h => by have h2 := hz105.2 (HQ.out.1 h).1; cases h2)
   clear HQ
   have KW := ZB.1
   clear ZB BA
   repeat (first | rw [if_neg Bool.false_ne_true] | go_values | go_skip | go_guarded | go_step | go_upon | go_back)
   go_ret
   exact tells_f hno.out KW
  | true =>
   have hf10 := ZB.fit 1 4 (by omega)
   have hg1 : aggOk 4 (.agg #[.int .i64 0, .int .i64 0, .string ⟨#[]⟩, .slice none 0 0]) = true := agg_ok (zeroOpr_is S w).len (zeroOpr_is S w).one
   have ZB1 := ZB.set_a
   go_upto_region 32 with (rw [if_neg Bool.false_ne_true])
   clear hf10 hg1
   have ZB := ZB1
   clear ZB1
   have KW := ZB.1
   have BA := ZB.2.2.2.1
   generalize midSet (w105) gz 1 #[.int .i64 0, .int .i64 0, .string ⟨#[]⟩, .slice none 0 0] = w107 at *
   obtain ⟨K, hg, hn, BA2, cz, BZ, hvz⟩ := ZB
   have agz := agg_ok hvz.len hvz.one
   have hszz : cz.toArray.size = 15 := by simpa using hvz.len
   obtain ⟨y1, y2⟩ := tblk_mid BZ hszz
   have hc0 := rsameValue_any _ zeroVal w107 cz valC (hvz.keeps K (fun _ _ h => h) (fun _ h => h)) (zeroVal_is S w107)
   have hc : Calls Tryz.prog 116 #[.agg cz.toArray, .agg #[.int .i64 0, .int .i64 0, .int .i64 0, .string ⟨#[]⟩, .slice none 0 0, .int .i64 0, .int .i64 0, .string ⟨#[]⟩, .slice none 0 0, .int .i64 0, .string ⟨#[]⟩, .slice none 0 0, .string ⟨#[]⟩, .slice none 0 0, .slice none 0 0]] w107 (Tells w107 _) := hc0
   clear hc0 hvz BA2 hg hn
   generalize cz.toArray = CZ at *
   try dsimp only
   repeat (first | rw [if_neg Bool.false_ne_true] | go_values | go_skip | go_guarded | go_step | go_upon | go_back)
   refine hc.mono ?_
   rintro e w9 ⟨⟨z, rfl, hz⟩, k9⟩
   have HZ : Shut (z = true ↔ X) := shut (by rw [hz, HQ.out]; exact ⟨fun h => ⟨hz105.1 rfl, h⟩, fun h => h.2⟩)
   clear hc hz HQ y1 y2
   try dsimp only
   repeat (first | rw [if_neg Bool.false_ne_true] | go_values | go_skip | go_guarded | go_step | go_upon | go_back)
   go_ret
   exact tells_z HZ.out (K.trans k9 (fun _ h _ => h))
 by_cases k2 : a_kind = 2
 ·subst k2
  have HQ : Shut (X ↔ PlP a_place ∧ (⟨0, a_a, a_b, a_op, zeroPl, a_name, a_names, a_args⟩ : ValD) = zeroVal) := shut (by rw [HP.out]; simp [V23])
  clear HP
  obtain ⟨ae0, -, -, -, -, -, -, -⟩ := ValB al_a al_b al_place GCA.out BA
  obtain ⟨-, -, -, -, ⟨ae10, af10⟩, -, -, -⟩ := ValB al_a al_b al_place GCA.out BA
  have hc := rPlace_any a_place wc s10 (ah_place.keeps KW (fun _ _ h => h) (fun _ h => h))
  try dsimp only
  repeat (first | rw [if_neg Bool.false_ne_true] | go_values | go_skip | go_guarded | go_step | go_upon | go_back)
  refine hc.mono ?_
  rintro e w108 ⟨⟨z108, rfl, hz108⟩, k108⟩
  have KW := KW.trans k108 (fun _ h _ => h)
  have BA := k108.blk BA (fun h => h)
  have ZB := ZB.keeps k108
  clear hc k108 ae10 af10
  try dsimp only
  cases z108 with
  | false =>
   have hf100 := ZB.fit 10 2 (by omega)
   have hg10 : aggOk 2 (.agg #[.string ⟨#[]⟩, .slice none 0 0]) = true := agg_ok (zeroPl_is S w).len (zeroPl_is S w).one
   have ZB1 := ZB.set_place
   go_upto_region 32 with (rw [if_neg Bool.false_ne_true])
   clear hf100 hg10
   have ZB := ZB1
   clear ZB1
   have KW := ZB.1
   have BA := ZB.2.2.2.1
   generalize midSet (w108) gz 10 #[.string ⟨#[]⟩, .slice none 0 0] = w109 at *
   have hno : Shut (¬ X) := shut (fun h => by have h2 := hz108.2 (HQ.out.1 h).1; cases h2)
   clear HQ
   have KW := ZB.1
   clear ZB BA
   repeat (first | rw [if_neg Bool.false_ne_true] | go_values | go_skip | go_guarded | go_step | go_upon | go_back)
   go_ret
   exact tells_f hno.out KW
  | true =>
   have hf100 := ZB.fit 10 2 (by omega)
   have hg10 : aggOk 2 (.agg #[.string ⟨#[]⟩, .slice none 0 0]) = true := agg_ok (zeroPl_is S w).len (zeroPl_is S w).one
   have ZB1 := ZB.set_place
   go_upto_region 32 with (rw [if_neg Bool.false_ne_true])
   clear hf100 hg10
   have ZB := ZB1
   clear ZB1
   have KW := ZB.1
   have BA := ZB.2.2.2.1
   generalize midSet (w108) gz 10 #[.string ⟨#[]⟩, .slice none 0 0] = w110 at *
   obtain ⟨K, hg, hn, BA2, cz, BZ, hvz⟩ := ZB
   have agz := agg_ok hvz.len hvz.one
   have hszz : cz.toArray.size = 15 := by simpa using hvz.len
   obtain ⟨y1, y2⟩ := tblk_mid BZ hszz
   have hc0 := rsameValue_any _ zeroVal w110 cz valC (hvz.keeps K (fun _ _ h => h) (fun _ h => h)) (zeroVal_is S w110)
   have hc : Calls Tryz.prog 116 #[.agg cz.toArray, .agg #[.int .i64 0, .int .i64 0, .int .i64 0, .string ⟨#[]⟩, .slice none 0 0, .int .i64 0, .int .i64 0, .string ⟨#[]⟩, .slice none 0 0, .int .i64 0, .string ⟨#[]⟩, .slice none 0 0, .string ⟨#[]⟩, .slice none 0 0, .slice none 0 0]] w110 (Tells w110 _) := hc0
   clear hc0 hvz BA2 hg hn
   generalize cz.toArray = CZ at *
   try dsimp only
   repeat (first | rw [if_neg Bool.false_ne_true] | go_values | go_skip | go_guarded | go_step | go_upon | go_back)
   refine hc.mono ?_
   rintro e w9 ⟨⟨z, rfl, hz⟩, k9⟩
   have HZ : Shut (z = true ↔ X) := shut (by rw [hz, HQ.out]; exact ⟨fun h => ⟨hz108.1 rfl, h⟩, fun h => h.2⟩)
   clear hc hz HQ y1 y2
   try dsimp only
   repeat (first | rw [if_neg Bool.false_ne_true] | go_values | go_skip | go_guarded | go_step | go_upon | go_back)
   go_ret
   exact tells_z HZ.out (K.trans k9 (fun _ h _ => h))
 by_cases k3 : a_kind = 3
 ·subst k3
  have HQ : Shut (X ↔ PlP a_place ∧ (⟨0, a_a, a_b, a_op, zeroPl, a_name, a_names, a_args⟩ : ValD) = zeroVal) := shut (by rw [HP.out]; simp [V23])
  clear HP
  obtain ⟨ae0, -, -, -, -, -, -, -⟩ := ValB al_a al_b al_place GCA.out BA
  obtain ⟨-, -, -, -, ⟨ae10, af10⟩, -, -, -⟩ := ValB al_a al_b al_place GCA.out BA
  have hc := rPlace_any a_place wc s10 (ah_place.keeps KW (fun _ _ h => h) (fun _ h => h))
  try dsimp only
  repeat (first | rw [if_neg Bool.false_ne_true] | go_values | go_skip | go_guarded | go_step | go_upon | go_back)
  refine hc.mono ?_
  rintro e w111 ⟨⟨z111, rfl, hz111⟩, k111⟩
  have KW := KW.trans k111 (fun _ h _ => h)
  have BA := k111.blk BA (fun h => h)
  have ZB := ZB.keeps k111
  clear hc k111 ae10 af10
  try dsimp only
  cases z111 with
  | false =>
   have hf100 := ZB.fit 10 2 (by omega)
   have hg10 : aggOk 2 (.agg #[.string ⟨#[]⟩, .slice none 0 0]) = true := agg_ok (zeroPl_is S w).len (zeroPl_is S w).one
   have ZB1 := ZB.set_place
   go_upto_region 32 with (rw [if_neg Bool.false_ne_true])
   clear hf100 hg10
   have ZB := ZB1
   clear ZB1
   have KW := ZB.1
   have BA := ZB.2.2.2.1
   generalize midSet (w111) gz 10 #[.string ⟨#[]⟩, .slice none 0 0] = w112 at *
   have hno : Shut (¬ X) := shut (fun h => by have h2 := hz111.2 (HQ.out.1 h).1; cases h2)
   clear HQ
   have KW := ZB.1
   clear ZB BA
   repeat (first | rw [if_neg Bool.false_ne_true] | go_values | go_skip | go_guarded | go_step | go_upon | go_back)
   go_ret
   exact tells_f hno.out KW
  | true =>
   have hf100 := ZB.fit 10 2 (by omega)
   have hg10 : aggOk 2 (.agg #[.string ⟨#[]⟩, .slice none 0 0]) = true := agg_ok (zeroPl_is S w).len (zeroPl_is S w).one
   have ZB1 := ZB.set_place
   go_upto_region 32 with (rw [if_neg Bool.false_ne_true])
   clear hf100 hg10
   have ZB := ZB1
   clear ZB1
   have KW := ZB.1
   have BA := ZB.2.2.2.1
   generalize midSet (w111) gz 10 #[.string ⟨#[]⟩, .slice none 0 0] = w113 at *
   obtain ⟨K, hg, hn, BA2, cz, BZ, hvz⟩ := ZB
   have agz := agg_ok hvz.len hvz.one
   have hszz : cz.toArray.size = 15 := by simpa using hvz.len
   obtain ⟨y1, y2⟩ := tblk_mid BZ hszz
   have hc0 := rsameValue_any _ zeroVal w113 cz valC (hvz.keeps K (fun _ _ h => h) (fun _ h => h)) (zeroVal_is S w113)
   have hc : Calls Tryz.prog 116 #[.agg cz.toArray, .agg #[.int .i64 0, .int .i64 0, .int .i64 0, .string ⟨#[]⟩, .slice none 0 0, .int .i64 0, .int .i64 0, .string ⟨#[]⟩, .slice none 0 0, .int .i64 0, .string ⟨#[]⟩, .slice none 0 0, .string ⟨#[]⟩, .slice none 0 0, .slice none 0 0]] w113 (Tells w113 _) := hc0
   clear hc0 hvz BA2 hg hn
   generalize cz.toArray = CZ at *
   try dsimp only
   repeat (first | rw [if_neg Bool.false_ne_true] | go_values | go_skip | go_guarded | go_step | go_upon | go_back)
   refine hc.mono ?_
   rintro e w9 ⟨⟨z, rfl, hz⟩, k9⟩
   have HZ : Shut (z = true ↔ X) := shut (by rw [hz, HQ.out]; exact ⟨fun h => ⟨hz111.1 rfl, h⟩, fun h => h.2⟩)
   clear hc hz HQ y1 y2
   try dsimp only
   repeat (first | rw [if_neg Bool.false_ne_true] | go_values | go_skip | go_guarded | go_step | go_upon | go_back)
   go_ret
   exact tells_z HZ.out (K.trans k9 (fun _ h _ => h))
 by_cases k5 : a_kind = 5
 ·subst k5
  have HQ : Shut (X ↔ 1 ≤ a_op ∧ a_op ≤ 4 ∧ OprP a_b ∧ OprP a_a ∧ (⟨0, zeroOpr, zeroOpr, 0, a_place, a_name, a_names, a_args⟩ : ValD) = zeroVal) := shut (by rw [HP.out]; simp [V5])
  clear HP
  obtain ⟨ae0, -, -, -, -, -, -, -⟩ := ValB al_a al_b al_place GCA.out BA
  obtain ⟨-, ⟨ae1, af1⟩, -, -, -, -, -, -⟩ := ValB al_a al_b al_place GCA.out BA
  have hc := roper_any a_a wc s1 (ah_a.keeps KW (fun _ _ h => h) (fun _ h => h))
  try dsimp only
  repeat (first | rw [if_neg Bool.false_ne_true] | go_values | go_skip | go_guarded | go_step | go_upon | go_back)
  refine hc.mono ?_
  rintro e w114 ⟨⟨z114, rfl, hz114⟩, k114⟩
  have KW := KW.trans k114 (fun _ h _ => h)
  have BA := k114.blk BA (fun h => h)
  have ZB := ZB.keeps k114
  clear hc k114 ae1 af1
  try dsimp only
  cases z114 with
  | false =>
   have hf10 := ZB.fit 1 4 (by omega)
   have hg1 : aggOk 4 (.agg #[.int .i64 0, .int .i64 0, .string ⟨#[]⟩, .slice none 0 0]) = true := agg_ok (zeroOpr_is S w).len (zeroOpr_is S w).one
   have ZB1 := ZB.set_a
   have hf50 := ZB.fit 5 4 (by omega)
   have hf51 := ZB1.fit 5 4 (by omega)
   have hg5 : aggOk 4 (.agg #[.int .i64 0, .int .i64 0, .string ⟨#[]⟩, .slice none 0 0]) = true := agg_ok (zeroOpr_is S w).len (zeroOpr_is S w).one
   have ZB2 := ZB1.set_b
   obtain ⟨u90, hu90⟩ := ZB.cell 9 (by omega)
   have hr90 := ZB.free 9
   obtain ⟨u91, hu91⟩ := ZB2.cell 9 (by omega)
   have hr91 := ZB2.free 9
   have ZB3 := ZB2.set_op 0
   go_upto_region 32 with (rw [if_neg Bool.false_ne_true])
   any_goals try (rename_i hfz; simp [hr90, hr91] at hfz; done)
   clear hf10 hg1 hf50 hf51 hg5 hu90 hr90 hu91 hr91
   clear ZB1 ZB2
   have ZB := ZB3
   clear ZB3
   have KW := ZB.1
   have BA := ZB.2.2.2.1
   generalize World.setCell (midSet (midSet (w114) gz 1 #[.int .i64 0, .int .i64 0, .string ⟨#[]⟩, .slice none 0 0]) gz 5 #[.int .i64 0, .int .i64 0, .string ⟨#[]⟩, .slice none 0 0]) ⟨gz, 9, none⟩ (.int .i64 0) = w115 at *
   have hno : Shut (¬ X) := shut (fun h => by have h2 := hz114.2 (HQ.out.1 h).2.2.2.1; cases h2)
   clear HQ
   have KW := ZB.1
   clear ZB BA
   repeat (first | rw [if_neg Bool.false_ne_true] | go_values | go_skip | go_guarded | go_step | go_upon | go_back)
   go_ret
   exact tells_f hno.out KW
  | true =>
   obtain ⟨-, -, ⟨ae5, af5⟩, -, -, -, -, -⟩ := ValB al_a al_b al_place GCA.out BA
   have hc := roper_any a_b w114 s5 (ah_b.keeps KW (fun _ _ h => h) (fun _ h => h))
   try dsimp only
   repeat (first | rw [if_neg Bool.false_ne_true] | go_values | go_skip | go_guarded | go_step | go_upon | go_back)
   refine hc.mono ?_
   rintro e w116 ⟨⟨z116, rfl, hz116⟩, k116⟩
   have KW := KW.trans k116 (fun _ h _ => h)
   have BA := k116.blk BA (fun h => h)
   have ZB := ZB.keeps k116
   clear hc k116 ae5 af5
   try dsimp only
   cases z116 with
   | false =>
    have hf10 := ZB.fit 1 4 (by omega)
    have hg1 : aggOk 4 (.agg #[.int .i64 0, .int .i64 0, .string ⟨#[]⟩, .slice none 0 0]) = true := agg_ok (zeroOpr_is S w).len (zeroOpr_is S w).one
    have ZB1 := ZB.set_a
    have hf50 := ZB.fit 5 4 (by omega)
    have hf51 := ZB1.fit 5 4 (by omega)
    have hg5 : aggOk 4 (.agg #[.int .i64 0, .int .i64 0, .string ⟨#[]⟩, .slice none 0 0]) = true := agg_ok (zeroOpr_is S w).len (zeroOpr_is S w).one
    have ZB2 := ZB1.set_b
    obtain ⟨u90, hu90⟩ := ZB.cell 9 (by omega)
    have hr90 := ZB.free 9
    obtain ⟨u91, hu91⟩ := ZB2.cell 9 (by omega)
    have hr91 := ZB2.free 9
    have ZB3 := ZB2.set_op 0
    go_upto_region 32 with (rw [if_neg Bool.false_ne_true])
    any_goals try (rename_i hfz; simp [hr90, hr91] at hfz; done)
    clear hf10 hg1 hf50 hf51 hg5 hu90 hr90 hu91 hr91
    clear ZB1 ZB2
    have ZB := ZB3
    clear ZB3
    have KW := ZB.1
    have BA := ZB.2.2.2.1
    generalize World.setCell (midSet (midSet (w116) gz 1 #[.int .i64 0, .int .i64 0, .string ⟨#[]⟩, .slice none 0 0]) gz 5 #[.int .i64 0, .int .i64 0, .string ⟨#[]⟩, .slice none 0 0]) ⟨gz, 9, none⟩ (.int .i64 0) = w117 at *
    have hno : Shut (¬ X) := shut (fun h => by have h2 := hz116.2 (HQ.out.1 h).2.2.1; cases h2)
    clear HQ
    have KW := ZB.1
    clear ZB BA
    repeat (first | rw [if_neg Bool.false_ne_true] | go_values | go_skip | go_guarded | go_step | go_upon | go_back)
    go_ret
    exact tells_f hno.out KW
   | true =>
    obtain ⟨-, -, -, ae9, -, -, -, -⟩ := ValB al_a al_b al_place GCA.out BA
    by_cases h1 : 1 ≤ a_op
    rotate_left
    ·have hb : decide (1 ≤ a_op) = false := decide_eq_false h1
     have hf10 := ZB.fit 1 4 (by omega)
     have hg1 : aggOk 4 (.agg #[.int .i64 0, .int .i64 0, .string ⟨#[]⟩, .slice none 0 0]) = true := agg_ok (zeroOpr_is S w).len (zeroOpr_is S w).one
     have ZB1 := ZB.set_a
     have hf50 := ZB.fit 5 4 (by omega)
     have hf51 := ZB1.fit 5 4 (by omega)
     have hg5 : aggOk 4 (.agg #[.int .i64 0, .int .i64 0, .string ⟨#[]⟩, .slice none 0 0]) = true := agg_ok (zeroOpr_is S w).len (zeroOpr_is S w).one
     have ZB2 := ZB1.set_b
     obtain ⟨u90, hu90⟩ := ZB.cell 9 (by omega)
     have hr90 := ZB.free 9
     obtain ⟨u91, hu91⟩ := ZB2.cell 9 (by omega)
     have hr91 := ZB2.free 9
     have ZB3 := ZB2.set_op 0
     go_upto_region 32 with (rw [if_neg Bool.false_ne_true])
     any_goals try (rename_i hfz; simp [hr90, hr91] at hfz; done)
     clear hf10 hg1 hf50 hf51 hg5 hu90 hr90 hu91 hr91
     clear ZB1 ZB2
     have ZB := ZB3
     clear ZB3
     have KW := ZB.1
     have BA := ZB.2.2.2.1
     generalize World.setCell (midSet (midSet (w116) gz 1 #[.int .i64 0, .int .i64 0, .string ⟨#[]⟩, .slice none 0 0]) gz 5 #[.int .i64 0, .int .i64 0, .string ⟨#[]⟩, .slice none 0 0]) ⟨gz, 9, none⟩ (.int .i64 0) = w118 at *
     have hno : Shut (¬ X) := shut (fun h => by exact h1 (HQ.out.1 h).1)
     clear HQ
     have KW := ZB.1
     clear ZB BA
     repeat (first | rw [if_neg Bool.false_ne_true] | go_values | go_skip | go_guarded | go_step | go_upon | go_back)
     go_ret
     exact tells_f hno.out KW
    by_cases h4 : a_op ≤ 4
    rotate_left
    ·have hb : decide (a_op ≤ 4) = false := decide_eq_false h4
     have hf10 := ZB.fit 1 4 (by omega)
     have hg1 : aggOk 4 (.agg #[.int .i64 0, .int .i64 0, .string ⟨#[]⟩, .slice none 0 0]) = true := agg_ok (zeroOpr_is S w).len (zeroOpr_is S w).one
     have ZB1 := ZB.set_a
     have hf50 := ZB.fit 5 4 (by omega)
     have hf51 := ZB1.fit 5 4 (by omega)
     have hg5 : aggOk 4 (.agg #[.int .i64 0, .int .i64 0, .string ⟨#[]⟩, .slice none 0 0]) = true := agg_ok (zeroOpr_is S w).len (zeroOpr_is S w).one
     have ZB2 := ZB1.set_b
     obtain ⟨u90, hu90⟩ := ZB.cell 9 (by omega)
     have hr90 := ZB.free 9
     obtain ⟨u91, hu91⟩ := ZB2.cell 9 (by omega)
     have hr91 := ZB2.free 9
     have ZB3 := ZB2.set_op 0
     go_upto_region 32 with (rw [if_neg Bool.false_ne_true])
     any_goals try (rename_i hfz; simp [hr90, hr91] at hfz; done)
     clear hf10 hg1 hf50 hf51 hg5 hu90 hr90 hu91 hr91
     clear ZB1 ZB2
     have ZB := ZB3
     clear ZB3
     have KW := ZB.1
     have BA := ZB.2.2.2.1
     generalize World.setCell (midSet (midSet (w116) gz 1 #[.int .i64 0, .int .i64 0, .string ⟨#[]⟩, .slice none 0 0]) gz 5 #[.int .i64 0, .int .i64 0, .string ⟨#[]⟩, .slice none 0 0]) ⟨gz, 9, none⟩ (.int .i64 0) = w119 at *
     have hno : Shut (¬ X) := shut (fun h => by exact h4 (HQ.out.1 h).2.1)
     clear HQ
     have KW := ZB.1
     clear ZB BA
     repeat (first | rw [if_neg Bool.false_ne_true] | go_values | go_skip | go_guarded | go_step | go_upon | go_back)
     go_ret
     exact tells_f hno.out KW
    have hf10 := ZB.fit 1 4 (by omega)
    have hg1 : aggOk 4 (.agg #[.int .i64 0, .int .i64 0, .string ⟨#[]⟩, .slice none 0 0]) = true := agg_ok (zeroOpr_is S w).len (zeroOpr_is S w).one
    have ZB1 := ZB.set_a
    have hf50 := ZB.fit 5 4 (by omega)
    have hf51 := ZB1.fit 5 4 (by omega)
    have hg5 : aggOk 4 (.agg #[.int .i64 0, .int .i64 0, .string ⟨#[]⟩, .slice none 0 0]) = true := agg_ok (zeroOpr_is S w).len (zeroOpr_is S w).one
    have ZB2 := ZB1.set_b
    obtain ⟨u90, hu90⟩ := ZB.cell 9 (by omega)
    have hr90 := ZB.free 9
    obtain ⟨u91, hu91⟩ := ZB2.cell 9 (by omega)
    have hr91 := ZB2.free 9
    have ZB3 := ZB2.set_op 0
    go_upto_region 32 with (rw [if_neg Bool.false_ne_true])
    any_goals try (rename_i hfz; simp [hr90, hr91] at hfz; done)
    clear hf10 hg1 hf50 hf51 hg5 hu90 hr90 hu91 hr91
    clear ZB1 ZB2
    have ZB := ZB3
    clear ZB3
    have KW := ZB.1
    have BA := ZB.2.2.2.1
    generalize World.setCell (midSet (midSet (w116) gz 1 #[.int .i64 0, .int .i64 0, .string ⟨#[]⟩, .slice none 0 0]) gz 5 #[.int .i64 0, .int .i64 0, .string ⟨#[]⟩, .slice none 0 0]) ⟨gz, 9, none⟩ (.int .i64 0) = w120 at *
    obtain ⟨K, hg, hn, BA2, cz, BZ, hvz⟩ := ZB
    have agz := agg_ok hvz.len hvz.one
    have hszz : cz.toArray.size = 15 := by simpa using hvz.len
    obtain ⟨y1, y2⟩ := tblk_mid BZ hszz
    have hc0 := rsameValue_any _ zeroVal w120 cz valC (hvz.keeps K (fun _ _ h => h) (fun _ h => h)) (zeroVal_is S w120)
    have hc : Calls Tryz.prog 116 #[.agg cz.toArray, .agg #[.int .i64 0, .int .i64 0, .int .i64 0, .string ⟨#[]⟩, .slice none 0 0, .int .i64 0, .int .i64 0, .string ⟨#[]⟩, .slice none 0 0, .int .i64 0, .string ⟨#[]⟩, .slice none 0 0, .string ⟨#[]⟩, .slice none 0 0, .slice none 0 0]] w120 (Tells w120 _) := hc0
    clear hc0 hvz BA2 hg hn
    generalize cz.toArray = CZ at *
    try dsimp only
    repeat (first | rw [if_neg Bool.false_ne_true] | go_values | go_skip | go_guarded | go_step | go_upon | go_back)
    refine hc.mono ?_
    rintro e w9 ⟨⟨z, rfl, hz⟩, k9⟩
    have HZ : Shut (z = true ↔ X) := shut (by rw [hz, HQ.out]; exact ⟨fun h => ⟨h1, h4, hz116.1 rfl, hz114.1 rfl, h⟩, fun h => h.2.2.2.2⟩)
    clear hc hz HQ y1 y2
    try dsimp only
    repeat (first | rw [if_neg Bool.false_ne_true] | go_values | go_skip | go_guarded | go_step | go_upon | go_back)
    go_ret
    exact tells_z HZ.out (K.trans k9 (fun _ h _ => h))
 by_cases k6 : a_kind = 6
 ·subst k6
  have HQ : Shut (X ↔ DoubleP a_name ∧ OprsP a_args ∧ (⟨0, a_a, a_b, a_op, a_place, [], a_names, []⟩ : ValD) = zeroVal) := shut (by rw [HP.out]; simp [V6])
  clear HP
  obtain ⟨ae0, -, -, -, -, -, -, -⟩ := ValB al_a al_b al_place GCA.out BA
  obtain ⟨n, hn⟩ : ∃ n, a_names.length = n := ⟨_, rfl⟩
  obtain ⟨m, hm⟩ : ∃ m, a_args.length = m := ⟨_, rfl⟩
  rw [hn, hm] at GCA
  have HN := shut hn
  have HM2 := shut hm
  have hmb : m ≤ bigN := by rw [← hm]; exact ah_args.1
  have hnb : n ≤ bigN := by rw [← hn]; exact ah_names.1
  unfold bigN at hmb hnb
  clear hn hm
  obtain ⟨-, -, -, -, -, ae12, -, -⟩ := ValB al_a al_b al_place GCA.out BA
  unfold txV at *
  have hc := rlong_any wc a_name ah_name
  try dsimp only
  repeat (first | rw [if_neg Bool.false_ne_true] | go_values | go_skip | go_guarded | go_step | go_upon | go_back)
  refine hc.mono ?_
  rintro e w121 ⟨⟨z121, rfl, hz121⟩, k121⟩
  have KW := KW.trans k121 (fun _ h _ => h)
  have BA := k121.blk BA (fun h => h)
  have ZB := ZB.keeps k121
  clear hc k121 ae12
  try dsimp only
  obtain ⟨-, -, -, -, -, -, -, ae14⟩ := ValB al_a al_b al_place GCA.out BA
  cases z121 with
  | false =>
   go_upto_region 20 with (rw [if_neg Bool.false_ne_true])
   go_wp2_with fail
   clear ae14
   go_loopw [4, 5] (fun s4 s5 wx => s4 = .bool false ∧ s5 = .int .i64 0 ∧ Keeps Nothing w121 wx) (fun _ _ _ => 0)
   case atStart => exact ⟨rfl, rfl, Keeps.refl _ _⟩
   case round =>
    obtain ⟨rfl, rfl, KL⟩ := hrel
    have BA := KL.blk BA (fun h => h)
    have ZB := ZB.keeps KL
    have KW := KW.trans KL (fun _ h _ => h)
    obtain ⟨-, -, -, -, -, -, -, ae14⟩ := ValB al_a al_b al_place GCA.out BA
    by_cases hl0 : (0 : Int) < (m : Int)
    ·go_upto_region 24 with fail
     obtain ⟨ae0, -, -, -, -, -, -, -⟩ := ValB al_a al_b al_place GCA.out BA
     obtain ⟨u120, hu120⟩ := ZB.cell 12 (by omega)
     have hr120 := ZB.free 12
     have ZB1 := ZB.set_name
     obtain ⟨u140, hu140⟩ := ZB.cell 14 (by omega)
     have hr140 := ZB.free 14
     obtain ⟨u141, hu141⟩ := ZB1.cell 14 (by omega)
     have hr141 := ZB1.free 14
     have ZB2 := ZB1.set_args
     go_upto_region 32 with (rw [if_neg Bool.false_ne_true])
     any_goals try (rename_i hfz; simp [hr120, hr140, hr141] at hfz; done)
     clear hu120 hr120 hu140 hr140 hu141 hr141
     clear ZB1
     have ZB := ZB2
     clear ZB2
     have KW := ZB.1
     have BA := ZB.2.2.2.1
     generalize World.setCell (World.setCell (wr) ⟨gz, 12, none⟩ (.string ⟨#[]⟩)) ⟨gz, 14, none⟩ (.slice none 0 0) = w122 at *
     have hno : Shut (¬ X) := shut (fun h => by have h2 := hz121.2 (HQ.out.1 h).1; cases h2)
     clear HQ
     have KW := ZB.1
     clear ZB BA
     repeat (first | rw [if_neg Bool.false_ne_true] | go_values | go_skip | go_guarded | go_step | go_upon | go_back)
     go_ret
     exact tells_f hno.out KW
    ·obtain rfl : m = 0 := by omega
     clear hl0
     go_upto_region 24 with fail
     obtain ⟨ae0, -, -, -, -, -, -, -⟩ := ValB al_a al_b al_place GCA.out BA
     obtain ⟨u120, hu120⟩ := ZB.cell 12 (by omega)
     have hr120 := ZB.free 12
     have ZB1 := ZB.set_name
     obtain ⟨u140, hu140⟩ := ZB.cell 14 (by omega)
     have hr140 := ZB.free 14
     obtain ⟨u141, hu141⟩ := ZB1.cell 14 (by omega)
     have hr141 := ZB1.free 14
     have ZB2 := ZB1.set_args
     go_upto_region 32 with (rw [if_neg Bool.false_ne_true])
     any_goals try (rename_i hfz; simp [hr120, hr140, hr141] at hfz; done)
     clear hu120 hr120 hu140 hr140 hu141 hr141
     clear ZB1
     have ZB := ZB2
     clear ZB2
     have KW := ZB.1
     have BA := ZB.2.2.2.1
     generalize World.setCell (World.setCell (wr) ⟨gz, 12, none⟩ (.string ⟨#[]⟩)) ⟨gz, 14, none⟩ (.slice none 0 0) = w123 at *
     have hno : Shut (¬ X) := shut (fun h => by have h2 := hz121.2 (HQ.out.1 h).1; cases h2)
     clear HQ
     have KW := ZB.1
     clear ZB BA
     repeat (first | rw [if_neg Bool.false_ne_true] | go_values | go_skip | go_guarded | go_step | go_upon | go_back)
     go_ret
     exact tells_f hno.out KW
  | true =>
   have HL := shut (hz121.1 rfl)
   clear hz121
   by_cases h64 : m ≤ 64
   rotate_left
   ·have m64 : ¬ (m : Int) ≤ 64 := by omega
    have hb : decide ((m : Int) ≤ 64) = false := decide_eq_false m64
    go_upto_region 20 with (rw [if_neg Bool.false_ne_true])
    go_wp2_with fail
    clear ae14 m64 hb
    go_loopw [4, 5] (fun s4 s5 wx => s4 = .bool false ∧ s5 = .int .i64 0 ∧ Keeps Nothing w121 wx) (fun _ _ _ => 0)
    case atStart => exact ⟨rfl, rfl, Keeps.refl _ _⟩
    case round =>
     obtain ⟨rfl, rfl, KL⟩ := hrel
     have BA := KL.blk BA (fun h => h)
     have ZB := ZB.keeps KL
     have KW := KW.trans KL (fun _ h _ => h)
     obtain ⟨-, -, -, -, -, -, -, ae14⟩ := ValB al_a al_b al_place GCA.out BA
     by_cases hl0 : (0 : Int) < (m : Int)
     ·go_upto_region 24 with fail
      obtain ⟨ae0, -, -, -, -, -, -, -⟩ := ValB al_a al_b al_place GCA.out BA
      obtain ⟨u120, hu120⟩ := ZB.cell 12 (by omega)
      have hr120 := ZB.free 12
      have ZB1 := ZB.set_name
      obtain ⟨u140, hu140⟩ := ZB.cell 14 (by omega)
      have hr140 := ZB.free 14
      obtain ⟨u141, hu141⟩ := ZB1.cell 14 (by omega)
      have hr141 := ZB1.free 14
      have ZB2 := ZB1.set_args
      go_upto_region 32 with (rw [if_neg Bool.false_ne_true])
      any_goals try (rename_i hfz; simp [hr120, hr140, hr141] at hfz; done)
      clear hu120 hr120 hu140 hr140 hu141 hr141
      clear ZB1
      have ZB := ZB2
      clear ZB2
      have KW := ZB.1
      have BA := ZB.2.2.2.1
      generalize World.setCell (World.setCell (wr) ⟨gz, 12, none⟩ (.string ⟨#[]⟩)) ⟨gz, 14, none⟩ (.slice none 0 0) = w124 at *
      have hno : Shut (¬ X) := shut (fun h => by have h2 := (HQ.out.1 h).2.1.2; rw [HM2.out] at h2; exact h64 h2)
      clear HQ
      have KW := ZB.1
      clear ZB BA
      repeat (first | rw [if_neg Bool.false_ne_true] | go_values | go_skip | go_guarded | go_step | go_upon | go_back)
      go_ret
      exact tells_f hno.out KW
     ·exact absurd (show (0 : Int) < (m : Int) by omega) hl0
   have m64 : (m : Int) ≤ 64 := by omega
   have hb : decide ((m : Int) ≤ 64) = true := decide_eq_true m64
   go_upto_region 20 with fail
   go_wp2_with fail
   clear ae14 m64 hb
   go_loopw [4, 5] (fun s4 s5 wx => ∃ (t : Nat) (ok : Bool), s5 = .int .i64 t ∧ s4 = .bool ok ∧ t ≤ m ∧ Keeps Nothing w121 wx ∧ Shut (ok = true ↔ ∀ o ∈ a_args.take t, OprP o)) (fun _ s5 _ => m - (intOf s5).toNat)
   case atStart => exact ⟨0, true, rfl, rfl, Nat.zero_le _, Keeps.refl _ _, shut (by simp)⟩
   case round =>
    obtain ⟨t, ok, rfl, rfl, ht, KL, HT⟩ := hrel
    have BA := KL.blk BA (fun h => h)
    have ZB := ZB.keeps KL
    have KW := KW.trans KL (fun _ h _ => h)
    obtain ⟨-, -, -, -, -, -, -, ae14⟩ := ValB al_a al_b al_place GCA.out BA
    by_cases hlt : t < m
    ·have m0 : (0 : Int) ≤ t := by omega
     have m1 : (t : Int) < m := by omega
     cases ok with
     | false =>
      go_upto_region 24 with fail
      obtain ⟨ae0, -, -, -, -, -, -, -⟩ := ValB al_a al_b al_place GCA.out BA
      obtain ⟨u120, hu120⟩ := ZB.cell 12 (by omega)
      have hr120 := ZB.free 12
      have ZB1 := ZB.set_name
      obtain ⟨u140, hu140⟩ := ZB.cell 14 (by omega)
      have hr140 := ZB.free 14
      obtain ⟨u141, hu141⟩ := ZB1.cell 14 (by omega)
      have hr141 := ZB1.free 14
      have ZB2 := ZB1.set_args
      go_upto_region 32 with (rw [if_neg Bool.false_ne_true])
      any_goals try (rename_i hfz; simp [hr120, hr140, hr141] at hfz; done)
      clear hu120 hr120 hu140 hr140 hu141 hr141
      clear ZB1
      have ZB := ZB2
      clear ZB2
      have KW := ZB.1
      have BA := ZB.2.2.2.1
      generalize World.setCell (World.setCell (wr) ⟨gz, 12, none⟩ (.string ⟨#[]⟩)) ⟨gz, 14, none⟩ (.slice none 0 0) = w125 at *
      have hno : Shut (¬ X) := shut (fun h => by have h2 := HT.out.2 (fun o ho => (HQ.out.1 h).2.1.1 o (List.mem_of_mem_take ho)); cases h2)
      clear HQ
      have KW := ZB.1
      clear ZB BA
      repeat (first | rw [if_neg Bool.false_ne_true] | go_values | go_skip | go_guarded | go_step | go_upon | go_back)
      go_ret
      exact tells_f hno.out KW
     | true =>
      obtain ⟨a, ha⟩ : ∃ a, a_args[t]? = some a := ⟨_, List.getElem?_eq_getElem (by rw [HM2.out]; exact hlt)⟩
      obtain ⟨g1, o1, rfl, -, cs1, l1, r1, hi⟩ := (ah_args.keeps KW (fun _ _ h => h) (fun _ h => h) (fun _ _ _ h => h.keeps KW (fun _ _ h => h) (fun _ h => h))).get ha
      obtain ⟨f1, f2⟩ := sub_of r1 l1
      have hc := roper_any a wr cs1 hi
      have HA := shut ha
      clear ha hi r1
      generalize cs1.toArray = C1 at *
      go_wp2_with fail
      refine hc.mono ?_
      rintro e w1 ⟨⟨z, rfl, hz⟩, k1⟩
      have KL := KL.trans k1 (fun _ h _ => h)
      have HT2 : Shut (z = true ↔ ∀ o ∈ a_args.take (t + 1), OprP o) := shut (by
       rw [hz]
       exact ⟨fun h => all_take (P := OprP) HA.out (HT.out.1 (by first | rfl | trivial)) h, fun h => h a (List.mem_of_getElem? (i := t) (by rw [List.getElem?_take, if_pos (Nat.lt_succ_self t)]; exact HA.out))⟩)
      clear hc f1 f2 k1 hz HT
      try dsimp only
      go_wp2_with fail
      go_roundw
      case rel => exact ⟨t + 1, z, by go_num, rfl, by omega, KL, HT2⟩
      case measure => simp [intOf]; omega
    ·obtain rfl : t = m := by omega
     have m1 : ¬ (t : Int) < t := by omega
     have HAS : Shut (ok = true ↔ ∀ o ∈ a_args, OprP o) := shut (by rw [HT.out, List.take_of_length_le (Nat.le_of_eq HM2.out)])
     clear HT
     cases ok with
     | false =>
      go_upto_region 24 with fail
      obtain ⟨ae0, -, -, -, -, -, -, -⟩ := ValB al_a al_b al_place GCA.out BA
      obtain ⟨u120, hu120⟩ := ZB.cell 12 (by omega)
      have hr120 := ZB.free 12
      have ZB1 := ZB.set_name
      obtain ⟨u140, hu140⟩ := ZB.cell 14 (by omega)
      have hr140 := ZB.free 14
      obtain ⟨u141, hu141⟩ := ZB1.cell 14 (by omega)
      have hr141 := ZB1.free 14
      have ZB2 := ZB1.set_args
      go_upto_region 32 with (rw [if_neg Bool.false_ne_true])
      any_goals try (rename_i hfz; simp [hr120, hr140, hr141] at hfz; done)
      clear hu120 hr120 hu140 hr140 hu141 hr141
      clear ZB1
      have ZB := ZB2
      clear ZB2
      have KW := ZB.1
      have BA := ZB.2.2.2.1
      generalize World.setCell (World.setCell (wr) ⟨gz, 12, none⟩ (.string ⟨#[]⟩)) ⟨gz, 14, none⟩ (.slice none 0 0) = w126 at *
      have hno : Shut (¬ X) := shut (fun h => by have h2 := HAS.out.2 (HQ.out.1 h).2.1.1; cases h2)
      clear HQ
      have KW := ZB.1
      clear ZB BA
      repeat (first | rw [if_neg Bool.false_ne_true] | go_values | go_skip | go_guarded | go_step | go_upon | go_back)
      go_ret
      exact tells_f hno.out KW
     | true =>
      have HALL := shut (HAS.out.1 (by first | rfl | trivial))
      clear HAS
      go_upto_region 24 with fail
      obtain ⟨ae0, -, -, -, -, -, -, -⟩ := ValB al_a al_b al_place GCA.out BA
      obtain ⟨u120, hu120⟩ := ZB.cell 12 (by omega)
      have hr120 := ZB.free 12
      have ZB1 := ZB.set_name
      obtain ⟨u140, hu140⟩ := ZB.cell 14 (by omega)
      have hr140 := ZB.free 14
      obtain ⟨u141, hu141⟩ := ZB1.cell 14 (by omega)
      have hr141 := ZB1.free 14
      have ZB2 := ZB1.set_args
      go_upto_region 32 with (rw [if_neg Bool.false_ne_true])
      any_goals try (rename_i hfz; simp [hr120, hr140, hr141] at hfz; done)
      clear hu120 hr120 hu140 hr140 hu141 hr141
      clear ZB1
      have ZB := ZB2
      clear ZB2
      have KW := ZB.1
      have BA := ZB.2.2.2.1
      generalize World.setCell (World.setCell (wr) ⟨gz, 12, none⟩ (.string ⟨#[]⟩)) ⟨gz, 14, none⟩ (.slice none 0 0) = w127 at *
      obtain ⟨K, hg, hn, BA2, cz, BZ, hvz⟩ := ZB
      have agz := agg_ok hvz.len hvz.one
      have hszz : cz.toArray.size = 15 := by simpa using hvz.len
      obtain ⟨y1, y2⟩ := tblk_mid BZ hszz
      have hc0 := rsameValue_any _ zeroVal w127 cz valC (hvz.keeps K (fun _ _ h => h) (fun _ h => h)) (zeroVal_is S w127)
      have hc : Calls Tryz.prog 116 #[.agg cz.toArray, .agg #[.int .i64 0, .int .i64 0, .int .i64 0, .string ⟨#[]⟩, .slice none 0 0, .int .i64 0, .int .i64 0, .string ⟨#[]⟩, .slice none 0 0, .int .i64 0, .string ⟨#[]⟩, .slice none 0 0, .string ⟨#[]⟩, .slice none 0 0, .slice none 0 0]] w127 (Tells w127 _) := hc0
      clear hc0 hvz BA2 hg hn
      generalize cz.toArray = CZ at *
      try dsimp only
      repeat (first | rw [if_neg Bool.false_ne_true] | go_values | go_skip | go_guarded | go_step | go_upon | go_back)
      refine hc.mono ?_
      rintro e w9 ⟨⟨z, rfl, hz⟩, k9⟩
      have HZ : Shut (z = true ↔ X) := shut (by rw [hz, HQ.out]; exact ⟨fun h => ⟨HL.out, ⟨HALL.out, by rw [HM2.out]; exact h64⟩, h⟩, fun h => h.2.2⟩)
      clear hc hz HQ y1 y2
      try dsimp only
      repeat (first | rw [if_neg Bool.false_ne_true] | go_values | go_skip | go_guarded | go_step | go_upon | go_back)
      go_ret
      exact tells_z HZ.out (K.trans k9 (fun _ h _ => h))
 by_cases k7 : a_kind = 7
 ·subst k7
  have HQ : Shut (X ↔ (∀ n ∈ a_names, isName n = true) ∧ a_names.length = a_args.length ∧ DoubleP a_name ∧ OprsP a_args ∧ (⟨0, a_a, a_b, a_op, a_place, [], [], []⟩ : ValD) = zeroVal) := shut (by rw [HP.out]; simp [V7])
  clear HP
  obtain ⟨ae0, -, -, -, -, -, -, -⟩ := ValB al_a al_b al_place GCA.out BA
  obtain ⟨n, hn⟩ : ∃ n, a_names.length = n := ⟨_, rfl⟩
  obtain ⟨m, hm⟩ : ∃ m, a_args.length = m := ⟨_, rfl⟩
  rw [hn, hm] at GCA
  have HN := shut hn
  have HM2 := shut hm
  have hmb : m ≤ bigN := by rw [← hm]; exact ah_args.1
  have hnb : n ≤ bigN := by rw [← hn]; exact ah_names.1
  unfold bigN at hmb hnb
  clear hn hm
  obtain ⟨-, -, -, -, -, ae12, -, -⟩ := ValB al_a al_b al_place GCA.out BA
  unfold txV at *
  have hc := rlong_any wc a_name ah_name
  try dsimp only
  repeat (first | rw [if_neg Bool.false_ne_true] | go_values | go_skip | go_guarded | go_step | go_upon | go_back)
  refine hc.mono ?_
  rintro e w128 ⟨⟨z128, rfl, hz128⟩, k128⟩
  have KW := KW.trans k128 (fun _ h _ => h)
  have BA := k128.blk BA (fun h => h)
  have ZB := ZB.keeps k128
  clear hc k128 ae12
  try dsimp only
  obtain ⟨-, -, -, -, -, -, -, ae14⟩ := ValB al_a al_b al_place GCA.out BA
  cases z128 with
  | false =>
   go_upto_region 20 with (rw [if_neg Bool.false_ne_true])
   go_wp2_with fail
   clear ae14
   go_loopw [4, 5] (fun s4 s5 wx => s4 = .bool false ∧ s5 = .int .i64 0 ∧ Keeps Nothing w128 wx) (fun _ _ _ => 0)
   case atStart => exact ⟨rfl, rfl, Keeps.refl _ _⟩
   case round =>
    obtain ⟨rfl, rfl, KL⟩ := hrel
    have BA := KL.blk BA (fun h => h)
    have ZB := ZB.keeps KL
    have KW := KW.trans KL (fun _ h _ => h)
    obtain ⟨-, -, -, -, -, -, -, ae14⟩ := ValB al_a al_b al_place GCA.out BA
    by_cases hl0 : (0 : Int) < (m : Int)
    ·go_upto_region 24 with fail
     obtain ⟨ae0, -, -, -, -, -, -, -⟩ := ValB al_a al_b al_place GCA.out BA
     go_upto_region 26 with (rw [if_neg Bool.false_ne_true])
     go_wp2_with fail
     go_loopw [4, 6] (fun s4 s5 wx => s4 = .bool false ∧ s5 = .int .i64 0 ∧ Keeps Nothing wr wx) (fun _ _ _ => 0)
     case atStart => exact ⟨rfl, rfl, Keeps.refl _ _⟩
     case round =>
      obtain ⟨rfl, rfl, KL⟩ := hrel
      have BA := KL.blk BA (fun h => h)
      have ZB := ZB.keeps KL
      have KW := KW.trans KL (fun _ h _ => h)
      obtain ⟨-, -, -, -, -, -, ae13, -⟩ := ValB al_a al_b al_place GCA.out BA
      by_cases hl0 : (0 : Int) < (n : Int)
      ·go_upto_region 30 with fail
       obtain ⟨u130, hu130⟩ := ZB.cell 13 (by omega)
       have hr130 := ZB.free 13
       have ZB1 := ZB.set_names
       go_upto_region 31 with (rw [if_neg Bool.false_ne_true])
       any_goals try (rename_i hfz; simp [hr130] at hfz; done)
       clear hu130 hr130
       have ZB := ZB1
       clear ZB1
       have KW := ZB.1
       have BA := ZB.2.2.2.1
       generalize World.setCell (wr) ⟨gz, 13, none⟩ (.slice none 0 0) = w129 at *
       obtain ⟨u120, hu120⟩ := ZB.cell 12 (by omega)
       have hr120 := ZB.free 12
       have ZB1 := ZB.set_name
       obtain ⟨u140, hu140⟩ := ZB.cell 14 (by omega)
       have hr140 := ZB.free 14
       obtain ⟨u141, hu141⟩ := ZB1.cell 14 (by omega)
       have hr141 := ZB1.free 14
       have ZB2 := ZB1.set_args
       go_upto_region 32 with (rw [if_neg Bool.false_ne_true])
       any_goals try (rename_i hfz; simp [hr120, hr140, hr141] at hfz; done)
       clear hu120 hr120 hu140 hr140 hu141 hr141
       clear ZB1
       have ZB := ZB2
       clear ZB2
       have KW := ZB.1
       have BA := ZB.2.2.2.1
       generalize World.setCell (World.setCell (w129) ⟨gz, 12, none⟩ (.string ⟨#[]⟩)) ⟨gz, 14, none⟩ (.slice none 0 0) = w130 at *
       have hno : Shut (¬ X) := shut (fun h => by have h2 := hz128.2 (HQ.out.1 h).2.2.1; cases h2)
       clear HQ
       have KW := ZB.1
       clear ZB BA
       repeat (first | rw [if_neg Bool.false_ne_true] | go_values | go_skip | go_guarded | go_step | go_upon | go_back)
       go_ret
       exact tells_f hno.out KW
      ·obtain rfl : n = 0 := by omega
       clear hl0
       go_upto_region 30 with fail
       obtain ⟨u130, hu130⟩ := ZB.cell 13 (by omega)
       have hr130 := ZB.free 13
       have ZB1 := ZB.set_names
       go_upto_region 31 with (rw [if_neg Bool.false_ne_true])
       any_goals try (rename_i hfz; simp [hr130] at hfz; done)
       clear hu130 hr130
       have ZB := ZB1
       clear ZB1
       have KW := ZB.1
       have BA := ZB.2.2.2.1
       generalize World.setCell (wr) ⟨gz, 13, none⟩ (.slice none 0 0) = w131 at *
       obtain ⟨u120, hu120⟩ := ZB.cell 12 (by omega)
       have hr120 := ZB.free 12
       have ZB1 := ZB.set_name
       obtain ⟨u140, hu140⟩ := ZB.cell 14 (by omega)
       have hr140 := ZB.free 14
       obtain ⟨u141, hu141⟩ := ZB1.cell 14 (by omega)
       have hr141 := ZB1.free 14
       have ZB2 := ZB1.set_args
       go_upto_region 32 with (rw [if_neg Bool.false_ne_true])
       any_goals try (rename_i hfz; simp [hr120, hr140, hr141] at hfz; done)
       clear hu120 hr120 hu140 hr140 hu141 hr141
       clear ZB1
       have ZB := ZB2
       clear ZB2
       have KW := ZB.1
       have BA := ZB.2.2.2.1
       generalize World.setCell (World.setCell (w131) ⟨gz, 12, none⟩ (.string ⟨#[]⟩)) ⟨gz, 14, none⟩ (.slice none 0 0) = w132 at *
       have hno : Shut (¬ X) := shut (fun h => by have h2 := hz128.2 (HQ.out.1 h).2.2.1; cases h2)
       clear HQ
       have KW := ZB.1
       clear ZB BA
       repeat (first | rw [if_neg Bool.false_ne_true] | go_values | go_skip | go_guarded | go_step | go_upon | go_back)
       go_ret
       exact tells_f hno.out KW
    ·obtain rfl : m = 0 := by omega
     clear hl0
     go_upto_region 24 with fail
     obtain ⟨ae0, -, -, -, -, -, -, -⟩ := ValB al_a al_b al_place GCA.out BA
     go_upto_region 26 with (rw [if_neg Bool.false_ne_true])
     go_wp2_with fail
     go_loopw [4, 6] (fun s4 s5 wx => s4 = .bool false ∧ s5 = .int .i64 0 ∧ Keeps Nothing wr wx) (fun _ _ _ => 0)
     case atStart => exact ⟨rfl, rfl, Keeps.refl _ _⟩
     case round =>
      obtain ⟨rfl, rfl, KL⟩ := hrel
      have BA := KL.blk BA (fun h => h)
      have ZB := ZB.keeps KL
      have KW := KW.trans KL (fun _ h _ => h)
      obtain ⟨-, -, -, -, -, -, ae13, -⟩ := ValB al_a al_b al_place GCA.out BA
      by_cases hl0 : (0 : Int) < (n : Int)
      ·go_upto_region 30 with fail
       obtain ⟨u130, hu130⟩ := ZB.cell 13 (by omega)
       have hr130 := ZB.free 13
       have ZB1 := ZB.set_names
       go_upto_region 31 with (rw [if_neg Bool.false_ne_true])
       any_goals try (rename_i hfz; simp [hr130] at hfz; done)
       clear hu130 hr130
       have ZB := ZB1
       clear ZB1
       have KW := ZB.1
       have BA := ZB.2.2.2.1
       generalize World.setCell (wr) ⟨gz, 13, none⟩ (.slice none 0 0) = w133 at *
       obtain ⟨u120, hu120⟩ := ZB.cell 12 (by omega)
       have hr120 := ZB.free 12
       have ZB1 := ZB.set_name
       obtain ⟨u140, hu140⟩ := ZB.cell 14 (by omega)
       have hr140 := ZB.free 14
       obtain ⟨u141, hu141⟩ := ZB1.cell 14 (by omega)
       have hr141 := ZB1.free 14
       have ZB2 := ZB1.set_args
       go_upto_region 32 with (rw [if_neg Bool.false_ne_true])
       any_goals try (rename_i hfz; simp [hr120, hr140, hr141] at hfz; done)
       clear hu120 hr120 hu140 hr140 hu141 hr141
       clear ZB1
       have ZB := ZB2
       clear ZB2
       have KW := ZB.1
       have BA := ZB.2.2.2.1
       generalize World.setCell (World.setCell (w133) ⟨gz, 12, none⟩ (.string ⟨#[]⟩)) ⟨gz, 14, none⟩ (.slice none 0 0) = w134 at *
       have hno : Shut (¬ X) := shut (fun h => by have h2 := hz128.2 (HQ.out.1 h).2.2.1; cases h2)
       clear HQ
       have KW := ZB.1
       clear ZB BA
       repeat (first | rw [if_neg Bool.false_ne_true] | go_values | go_skip | go_guarded | go_step | go_upon | go_back)
       go_ret
       exact tells_f hno.out KW
      ·obtain rfl : n = 0 := by omega
       clear hl0
       go_upto_region 30 with fail
       obtain ⟨u130, hu130⟩ := ZB.cell 13 (by omega)
       have hr130 := ZB.free 13
       have ZB1 := ZB.set_names
       go_upto_region 31 with (rw [if_neg Bool.false_ne_true])
       any_goals try (rename_i hfz; simp [hr130] at hfz; done)
       clear hu130 hr130
       have ZB := ZB1
       clear ZB1
       have KW := ZB.1
       have BA := ZB.2.2.2.1
       generalize World.setCell (wr) ⟨gz, 13, none⟩ (.slice none 0 0) = w135 at *
       obtain ⟨u120, hu120⟩ := ZB.cell 12 (by omega)
       have hr120 := ZB.free 12
       have ZB1 := ZB.set_name
       obtain ⟨u140, hu140⟩ := ZB.cell 14 (by omega)
       have hr140 := ZB.free 14
       obtain ⟨u141, hu141⟩ := ZB1.cell 14 (by omega)
       have hr141 := ZB1.free 14
       have ZB2 := ZB1.set_args
       go_upto_region 32 with (rw [if_neg Bool.false_ne_true])
       any_goals try (rename_i hfz; simp [hr120, hr140, hr141] at hfz; done)
       clear hu120 hr120 hu140 hr140 hu141 hr141
       clear ZB1
       have ZB := ZB2
       clear ZB2
       have KW := ZB.1
       have BA := ZB.2.2.2.1
       generalize World.setCell (World.setCell (w135) ⟨gz, 12, none⟩ (.string ⟨#[]⟩)) ⟨gz, 14, none⟩ (.slice none 0 0) = w136 at *
       have hno : Shut (¬ X) := shut (fun h => by have h2 := hz128.2 (HQ.out.1 h).2.2.1; cases h2)
       clear HQ
       have KW := ZB.1
       clear ZB BA
       repeat (first | rw [if_neg Bool.false_ne_true] | go_values | go_skip | go_guarded | go_step | go_upon | go_back)
       go_ret
       exact tells_f hno.out KW
  | true =>
   have HL := shut (hz128.1 rfl)
   clear hz128
   by_cases h64 : m ≤ 64
   rotate_left
   ·have m64 : ¬ (m : Int) ≤ 64 := by omega
    have hb : decide ((m : Int) ≤ 64) = false := decide_eq_false m64
    go_upto_region 20 with (rw [if_neg Bool.false_ne_true])
    go_wp2_with fail
    clear ae14 m64 hb
    go_loopw [4, 5] (fun s4 s5 wx => s4 = .bool false ∧ s5 = .int .i64 0 ∧ Keeps Nothing w128 wx) (fun _ _ _ => 0)
    case atStart => exact ⟨rfl, rfl, Keeps.refl _ _⟩
    case round =>
     obtain ⟨rfl, rfl, KL⟩ := hrel
     have BA := KL.blk BA (fun h => h)
     have ZB := ZB.keeps KL
     have KW := KW.trans KL (fun _ h _ => h)
     obtain ⟨-, -, -, -, -, -, -, ae14⟩ := ValB al_a al_b al_place GCA.out BA
     by_cases hl0 : (0 : Int) < (m : Int)
     ·go_upto_region 24 with fail
      obtain ⟨ae0, -, -, -, -, -, -, -⟩ := ValB al_a al_b al_place GCA.out BA
      go_upto_region 26 with (rw [if_neg Bool.false_ne_true])
      go_wp2_with fail
      go_loopw [4, 6] (fun s4 s5 wx => s4 = .bool false ∧ s5 = .int .i64 0 ∧ Keeps Nothing wr wx) (fun _ _ _ => 0)
      case atStart => exact ⟨rfl, rfl, Keeps.refl _ _⟩
      case round =>
       obtain ⟨rfl, rfl, KL⟩ := hrel
       have BA := KL.blk BA (fun h => h)
       have ZB := ZB.keeps KL
       have KW := KW.trans KL (fun _ h _ => h)
       obtain ⟨-, -, -, -, -, -, ae13, -⟩ := ValB al_a al_b al_place GCA.out BA
       by_cases hl0 : (0 : Int) < (n : Int)
       ·go_upto_region 30 with fail
        obtain ⟨u130, hu130⟩ := ZB.cell 13 (by omega)
        have hr130 := ZB.free 13
        have ZB1 := ZB.set_names
        go_upto_region 31 with (rw [if_neg Bool.false_ne_true])
        any_goals try (rename_i hfz; simp [hr130] at hfz; done)
        clear hu130 hr130
        have ZB := ZB1
        clear ZB1
        have KW := ZB.1
        have BA := ZB.2.2.2.1
        generalize World.setCell (wr) ⟨gz, 13, none⟩ (.slice none 0 0) = w137 at *
        obtain ⟨u120, hu120⟩ := ZB.cell 12 (by omega)
        have hr120 := ZB.free 12
        have ZB1 := ZB.set_name
        obtain ⟨u140, hu140⟩ := ZB.cell 14 (by omega)
        have hr140 := ZB.free 14
        obtain ⟨u141, hu141⟩ := ZB1.cell 14 (by omega)
        have hr141 := ZB1.free 14
        have ZB2 := ZB1.set_args
        go_upto_region 32 with (rw [if_neg Bool.false_ne_true])
        any_goals try (rename_i hfz; simp [hr120, hr140, hr141] at hfz; done)
        clear hu120 hr120 hu140 hr140 hu141 hr141
        clear ZB1
        have ZB := ZB2
        clear ZB2
        have KW := ZB.1
        have BA := ZB.2.2.2.1
        generalize World.setCell (World.setCell (w137) ⟨gz, 12, none⟩ (.string ⟨#[]⟩)) ⟨gz, 14, none⟩ (.slice none 0 0) = w138 at *
        have hno : Shut (¬ X) := shut (fun h => by have h2 := (HQ.out.1 h).2.2.2.1.2; rw [HM2.out] at h2; exact h64 h2)
        clear HQ
        have KW := ZB.1
        clear ZB BA
        repeat (first | rw [if_neg Bool.false_ne_true] | go_values | go_skip | go_guarded | go_step | go_upon | go_back)
        go_ret
        exact tells_f hno.out KW
       ·obtain rfl : n = 0 := by omega
        clear hl0
        go_upto_region 30 with fail
        obtain ⟨u130, hu130⟩ := ZB.cell 13 (by omega)
        have hr130 := ZB.free 13
        have ZB1 := ZB.set_names
        go_upto_region 31 with (rw [if_neg Bool.false_ne_true])
        any_goals try (rename_i hfz; simp [hr130] at hfz; done)
        clear hu130 hr130
        have ZB := ZB1
        clear ZB1
        have KW := ZB.1
        have BA := ZB.2.2.2.1
        generalize World.setCell (wr) ⟨gz, 13, none⟩ (.slice none 0 0) = w139 at *
        obtain ⟨u120, hu120⟩ := ZB.cell 12 (by omega)
        have hr120 := ZB.free 12
        have ZB1 := ZB.set_name
        obtain ⟨u140, hu140⟩ := ZB.cell 14 (by omega)
        have hr140 := ZB.free 14
        obtain ⟨u141, hu141⟩ := ZB1.cell 14 (by omega)
        have hr141 := ZB1.free 14
        have ZB2 := ZB1.set_args
        go_upto_region 32 with (rw [if_neg Bool.false_ne_true])
        any_goals try (rename_i hfz; simp [hr120, hr140, hr141] at hfz; done)
        clear hu120 hr120 hu140 hr140 hu141 hr141
        clear ZB1
        have ZB := ZB2
        clear ZB2
        have KW := ZB.1
        have BA := ZB.2.2.2.1
        generalize World.setCell (World.setCell (w139) ⟨gz, 12, none⟩ (.string ⟨#[]⟩)) ⟨gz, 14, none⟩ (.slice none 0 0) = w140 at *
        have hno : Shut (¬ X) := shut (fun h => by have h2 := (HQ.out.1 h).2.2.2.1.2; rw [HM2.out] at h2; exact h64 h2)
        clear HQ
        have KW := ZB.1
        clear ZB BA
        repeat (first | rw [if_neg Bool.false_ne_true] | go_values | go_skip | go_guarded | go_step | go_upon | go_back)
        go_ret
        exact tells_f hno.out KW
     ·exact absurd (show (0 : Int) < (m : Int) by omega) hl0
   have m64 : (m : Int) ≤ 64 := by omega
   have hb : decide ((m : Int) ≤ 64) = true := decide_eq_true m64
   go_upto_region 20 with fail
   go_wp2_with fail
   clear ae14 m64 hb
   go_loopw [4, 5] (fun s4 s5 wx => ∃ (t : Nat) (ok : Bool), s5 = .int .i64 t ∧ s4 = .bool ok ∧ t ≤ m ∧ Keeps Nothing w128 wx ∧ Shut (ok = true ↔ ∀ o ∈ a_args.take t, OprP o)) (fun _ s5 _ => m - (intOf s5).toNat)
   case atStart => exact ⟨0, true, rfl, rfl, Nat.zero_le _, Keeps.refl _ _, shut (by simp)⟩
   case round =>
    obtain ⟨t, ok, rfl, rfl, ht, KL, HT⟩ := hrel
    have BA := KL.blk BA (fun h => h)
    have ZB := ZB.keeps KL
    have KW := KW.trans KL (fun _ h _ => h)
    obtain ⟨-, -, -, -, -, -, -, ae14⟩ := ValB al_a al_b al_place GCA.out BA
    by_cases hlt : t < m
    ·have m0 : (0 : Int) ≤ t := by omega
     have m1 : (t : Int) < m := by omega
     cases ok with
     | false =>
      go_upto_region 24 with fail
      obtain ⟨ae0, -, -, -, -, -, -, -⟩ := ValB al_a al_b al_place GCA.out BA
      go_upto_region 26 with (rw [if_neg Bool.false_ne_true])
      go_wp2_with fail
      go_loopw [4, 6] (fun s4 s5 wx => s4 = .bool false ∧ s5 = .int .i64 0 ∧ Keeps Nothing wr wx) (fun _ _ _ => 0)
      case atStart => exact ⟨rfl, rfl, Keeps.refl _ _⟩
      case round =>
       obtain ⟨rfl, rfl, KL⟩ := hrel
       have BA := KL.blk BA (fun h => h)
       have ZB := ZB.keeps KL
       have KW := KW.trans KL (fun _ h _ => h)
       obtain ⟨-, -, -, -, -, -, ae13, -⟩ := ValB al_a al_b al_place GCA.out BA
       by_cases hl0 : (0 : Int) < (n : Int)
       ·go_upto_region 30 with fail
        obtain ⟨u130, hu130⟩ := ZB.cell 13 (by omega)
        have hr130 := ZB.free 13
        have ZB1 := ZB.set_names
        go_upto_region 31 with (rw [if_neg Bool.false_ne_true])
        any_goals try (rename_i hfz; simp [hr130] at hfz; done)
        clear hu130 hr130
        have ZB := ZB1
        clear ZB1
        have KW := ZB.1
        have BA := ZB.2.2.2.1
        generalize World.setCell (wr) ⟨gz, 13, none⟩ (.slice none 0 0) = w141 at *
        obtain ⟨u120, hu120⟩ := ZB.cell 12 (by omega)
        have hr120 := ZB.free 12
        have ZB1 := ZB.set_name
        obtain ⟨u140, hu140⟩ := ZB.cell 14 (by omega)
        have hr140 := ZB.free 14
        obtain ⟨u141, hu141⟩ := ZB1.cell 14 (by omega)
        have hr141 := ZB1.free 14
        have ZB2 := ZB1.set_args
        go_upto_region 32 with (rw [if_neg Bool.false_ne_true])
        any_goals try (rename_i hfz; simp [hr120, hr140, hr141] at hfz; done)
        clear hu120 hr120 hu140 hr140 hu141 hr141
        clear ZB1
        have ZB := ZB2
        clear ZB2
        have KW := ZB.1
        have BA := ZB.2.2.2.1
        generalize World.setCell (World.setCell (w141) ⟨gz, 12, none⟩ (.string ⟨#[]⟩)) ⟨gz, 14, none⟩ (.slice none 0 0) = w142 at *
        have hno : Shut (¬ X) := shut (fun h => by have h2 := HT.out.2 (fun o ho => (HQ.out.1 h).2.2.2.1.1 o (List.mem_of_mem_take ho)); cases h2)
        clear HQ
        have KW := ZB.1
        clear ZB BA
        repeat (first | rw [if_neg Bool.false_ne_true] | go_values | go_skip | go_guarded | go_step | go_upon | go_back)
        go_ret
        exact tells_f hno.out KW
       ·obtain rfl : n = 0 := by omega
        clear hl0
        go_upto_region 30 with fail
        obtain ⟨u130, hu130⟩ := ZB.cell 13 (by omega)
        have hr130 := ZB.free 13
        have ZB1 := ZB.set_names
        go_upto_region 31 with (rw [if_neg Bool.false_ne_true])
        any_goals try (rename_i hfz; simp [hr130] at hfz; done)
        clear hu130 hr130
        have ZB := ZB1
        clear ZB1
        have KW := ZB.1
        have BA := ZB.2.2.2.1
        generalize World.setCell (wr) ⟨gz, 13, none⟩ (.slice none 0 0) = w143 at *
        obtain ⟨u120, hu120⟩ := ZB.cell 12 (by omega)
        have hr120 := ZB.free 12
        have ZB1 := ZB.set_name
        obtain ⟨u140, hu140⟩ := ZB.cell 14 (by omega)
        have hr140 := ZB.free 14
        obtain ⟨u141, hu141⟩ := ZB1.cell 14 (by omega)
        have hr141 := ZB1.free 14
        have ZB2 := ZB1.set_args
        go_upto_region 32 with (rw [if_neg Bool.false_ne_true])
        any_goals try (rename_i hfz; simp [hr120, hr140, hr141] at hfz; done)
        clear hu120 hr120 hu140 hr140 hu141 hr141
        clear ZB1
        have ZB := ZB2
        clear ZB2
        have KW := ZB.1
        have BA := ZB.2.2.2.1
        generalize World.setCell (World.setCell (w143) ⟨gz, 12, none⟩ (.string ⟨#[]⟩)) ⟨gz, 14, none⟩ (.slice none 0 0) = w144 at *
        have hno : Shut (¬ X) := shut (fun h => by have h2 := HT.out.2 (fun o ho => (HQ.out.1 h).2.2.2.1.1 o (List.mem_of_mem_take ho)); cases h2)
        clear HQ
        have KW := ZB.1
        clear ZB BA
        repeat (first | rw [if_neg Bool.false_ne_true] | go_values | go_skip | go_guarded | go_step | go_upon | go_back)
        go_ret
        exact tells_f hno.out KW
     | true =>
      obtain ⟨a, ha⟩ : ∃ a, a_args[t]? = some a := ⟨_, List.getElem?_eq_getElem (by rw [HM2.out]; exact hlt)⟩
      obtain ⟨g1, o1, rfl, -, cs1, l1, r1, hi⟩ := (ah_args.keeps KW (fun _ _ h => h) (fun _ h => h) (fun _ _ _ h => h.keeps KW (fun _ _ h => h) (fun _ h => h))).get ha
      obtain ⟨f1, f2⟩ := sub_of r1 l1
      have hc := roper_any a wr cs1 hi
      have HA := shut ha
      clear ha hi r1
      generalize cs1.toArray = C1 at *
      go_wp2_with fail
      refine hc.mono ?_
      rintro e w1 ⟨⟨z, rfl, hz⟩, k1⟩
      have KL := KL.trans k1 (fun _ h _ => h)
      have HT2 : Shut (z = true ↔ ∀ o ∈ a_args.take (t + 1), OprP o) := shut (by
       rw [hz]
       exact ⟨fun h => all_take (P := OprP) HA.out (HT.out.1 (by first | rfl | trivial)) h, fun h => h a (List.mem_of_getElem? (i := t) (by rw [List.getElem?_take, if_pos (Nat.lt_succ_self t)]; exact HA.out))⟩)
      clear hc f1 f2 k1 hz HT
      try dsimp only
      go_wp2_with fail
      go_roundw
      case rel => exact ⟨t + 1, z, by go_num, rfl, by omega, KL, HT2⟩
      case measure => simp [intOf]; omega
    ·obtain rfl : t = m := by omega
     have m1 : ¬ (t : Int) < t := by omega
     have HAS : Shut (ok = true ↔ ∀ o ∈ a_args, OprP o) := shut (by rw [HT.out, List.take_of_length_le (Nat.le_of_eq HM2.out)])
     clear HT
     cases ok with
     | false =>
      go_upto_region 24 with fail
      obtain ⟨ae0, -, -, -, -, -, -, -⟩ := ValB al_a al_b al_place GCA.out BA
      go_upto_region 26 with (rw [if_neg Bool.false_ne_true])
      go_wp2_with fail
      go_loopw [4, 6] (fun s4 s5 wx => s4 = .bool false ∧ s5 = .int .i64 0 ∧ Keeps Nothing wr wx) (fun _ _ _ => 0)
      case atStart => exact ⟨rfl, rfl, Keeps.refl _ _⟩
      case round =>
       obtain ⟨rfl, rfl, KL⟩ := hrel
       have BA := KL.blk BA (fun h => h)
       have ZB := ZB.keeps KL
       have KW := KW.trans KL (fun _ h _ => h)
       obtain ⟨-, -, -, -, -, -, ae13, -⟩ := ValB al_a al_b al_place GCA.out BA
       by_cases hl0 : (0 : Int) < (n : Int)
       ·go_upto_region 30 with fail
        obtain ⟨u130, hu130⟩ := ZB.cell 13 (by omega)
        have hr130 := ZB.free 13
        have ZB1 := ZB.set_names
        go_upto_region 31 with (rw [if_neg Bool.false_ne_true])
        any_goals try (rename_i hfz; simp [hr130] at hfz; done)
        clear hu130 hr130
        have ZB := ZB1
        clear ZB1
        have KW := ZB.1
        have BA := ZB.2.2.2.1
        generalize World.setCell (wr) ⟨gz, 13, none⟩ (.slice none 0 0) = w145 at *
        obtain ⟨u120, hu120⟩ := ZB.cell 12 (by omega)
        have hr120 := ZB.free 12
        have ZB1 := ZB.set_name
        obtain ⟨u140, hu140⟩ := ZB.cell 14 (by omega)
        have hr140 := ZB.free 14
        obtain ⟨u141, hu141⟩ := ZB1.cell 14 (by omega)
        have hr141 := ZB1.free 14
        have ZB2 := ZB1.set_args
        go_upto_region 32 with (rw [if_neg Bool.false_ne_true])
        any_goals try (rename_i hfz; simp [hr120, hr140, hr141] at hfz; done)
        clear hu120 hr120 hu140 hr140 hu141 hr141
        clear ZB1
        have ZB := ZB2
        clear ZB2
        have KW := ZB.1
        have BA := ZB.2.2.2.1
        generalize World.setCell (World.setCell (w145) ⟨gz, 12, none⟩ (.string ⟨#[]⟩)) ⟨gz, 14, none⟩ (.slice none 0 0) = w146 at *
        have hno : Shut (¬ X) := shut (fun h => by have h2 := HAS.out.2 (HQ.out.1 h).2.2.2.1.1; cases h2)
        clear HQ
        have KW := ZB.1
        clear ZB BA
        repeat (first | rw [if_neg Bool.false_ne_true] | go_values | go_skip | go_guarded | go_step | go_upon | go_back)
        go_ret
        exact tells_f hno.out KW
       ·obtain rfl : n = 0 := by omega
        clear hl0
        go_upto_region 30 with fail
        obtain ⟨u130, hu130⟩ := ZB.cell 13 (by omega)
        have hr130 := ZB.free 13
        have ZB1 := ZB.set_names
        go_upto_region 31 with (rw [if_neg Bool.false_ne_true])
        any_goals try (rename_i hfz; simp [hr130] at hfz; done)
        clear hu130 hr130
        have ZB := ZB1
        clear ZB1
        have KW := ZB.1
        have BA := ZB.2.2.2.1
        generalize World.setCell (wr) ⟨gz, 13, none⟩ (.slice none 0 0) = w147 at *
        obtain ⟨u120, hu120⟩ := ZB.cell 12 (by omega)
        have hr120 := ZB.free 12
        have ZB1 := ZB.set_name
        obtain ⟨u140, hu140⟩ := ZB.cell 14 (by omega)
        have hr140 := ZB.free 14
        obtain ⟨u141, hu141⟩ := ZB1.cell 14 (by omega)
        have hr141 := ZB1.free 14
        have ZB2 := ZB1.set_args
        go_upto_region 32 with (rw [if_neg Bool.false_ne_true])
        any_goals try (rename_i hfz; simp [hr120, hr140, hr141] at hfz; done)
        clear hu120 hr120 hu140 hr140 hu141 hr141
        clear ZB1
        have ZB := ZB2
        clear ZB2
        have KW := ZB.1
        have BA := ZB.2.2.2.1
        generalize World.setCell (World.setCell (w147) ⟨gz, 12, none⟩ (.string ⟨#[]⟩)) ⟨gz, 14, none⟩ (.slice none 0 0) = w148 at *
        have hno : Shut (¬ X) := shut (fun h => by have h2 := HAS.out.2 (HQ.out.1 h).2.2.2.1.1; cases h2)
        clear HQ
        have KW := ZB.1
        clear ZB BA
        repeat (first | rw [if_neg Bool.false_ne_true] | go_values | go_skip | go_guarded | go_step | go_upon | go_back)
        go_ret
        exact tells_f hno.out KW
     | true =>
      have HALL := shut (HAS.out.1 (by first | rfl | trivial))
      clear HAS
      go_upto_region 24 with fail
      obtain ⟨ae0, -, -, -, -, -, ae13, ae14⟩ := ValB al_a al_b al_place GCA.out BA
      by_cases hnm : n = t
      rotate_left
      ·have hne : ¬ (n : Int) = t := by omega
       have hqb : ((n : Int) == t) = false := by rw [beq_eq_false_iff_ne]; exact hne
       go_upto_region 26 with (rw [if_neg Bool.false_ne_true])
       clear hne hqb
       go_wp2_with fail
       go_loopw [4, 6] (fun s4 s5 wx => s4 = .bool false ∧ s5 = .int .i64 0 ∧ Keeps Nothing wr wx) (fun _ _ _ => 0)
       case atStart => exact ⟨rfl, rfl, Keeps.refl _ _⟩
       case round =>
        obtain ⟨rfl, rfl, KL⟩ := hrel
        have BA := KL.blk BA (fun h => h)
        have ZB := ZB.keeps KL
        have KW := KW.trans KL (fun _ h _ => h)
        obtain ⟨-, -, -, -, -, -, ae13, -⟩ := ValB al_a al_b al_place GCA.out BA
        by_cases hl0 : (0 : Int) < (n : Int)
        ·go_upto_region 30 with fail
         obtain ⟨u130, hu130⟩ := ZB.cell 13 (by omega)
         have hr130 := ZB.free 13
         have ZB1 := ZB.set_names
         go_upto_region 31 with (rw [if_neg Bool.false_ne_true])
         any_goals try (rename_i hfz; simp [hr130] at hfz; done)
         clear hu130 hr130
         have ZB := ZB1
         clear ZB1
         have KW := ZB.1
         have BA := ZB.2.2.2.1
         generalize World.setCell (wr) ⟨gz, 13, none⟩ (.slice none 0 0) = w149 at *
         obtain ⟨u120, hu120⟩ := ZB.cell 12 (by omega)
         have hr120 := ZB.free 12
         have ZB1 := ZB.set_name
         obtain ⟨u140, hu140⟩ := ZB.cell 14 (by omega)
         have hr140 := ZB.free 14
         obtain ⟨u141, hu141⟩ := ZB1.cell 14 (by omega)
         have hr141 := ZB1.free 14
         have ZB2 := ZB1.set_args
         go_upto_region 32 with (rw [if_neg Bool.false_ne_true])
         any_goals try (rename_i hfz; simp [hr120, hr140, hr141] at hfz; done)
         clear hu120 hr120 hu140 hr140 hu141 hr141
         clear ZB1
         have ZB := ZB2
         clear ZB2
         have KW := ZB.1
         have BA := ZB.2.2.2.1
         generalize World.setCell (World.setCell (w149) ⟨gz, 12, none⟩ (.string ⟨#[]⟩)) ⟨gz, 14, none⟩ (.slice none 0 0) = w150 at *
         have hno : Shut (¬ X) := shut (fun h => by exact hnm (by rw [← HN.out, ← HM2.out]; exact (HQ.out.1 h).2.1))
         clear HQ
         have KW := ZB.1
         clear ZB BA
         repeat (first | rw [if_neg Bool.false_ne_true] | go_values | go_skip | go_guarded | go_step | go_upon | go_back)
         go_ret
         exact tells_f hno.out KW
        ·obtain rfl : n = 0 := by omega
         clear hl0
         go_upto_region 30 with fail
         obtain ⟨u130, hu130⟩ := ZB.cell 13 (by omega)
         have hr130 := ZB.free 13
         have ZB1 := ZB.set_names
         go_upto_region 31 with (rw [if_neg Bool.false_ne_true])
         any_goals try (rename_i hfz; simp [hr130] at hfz; done)
         clear hu130 hr130
         have ZB := ZB1
         clear ZB1
         have KW := ZB.1
         have BA := ZB.2.2.2.1
         generalize World.setCell (wr) ⟨gz, 13, none⟩ (.slice none 0 0) = w151 at *
         obtain ⟨u120, hu120⟩ := ZB.cell 12 (by omega)
         have hr120 := ZB.free 12
         have ZB1 := ZB.set_name
         obtain ⟨u140, hu140⟩ := ZB.cell 14 (by omega)
         have hr140 := ZB.free 14
         obtain ⟨u141, hu141⟩ := ZB1.cell 14 (by omega)
         have hr141 := ZB1.free 14
         have ZB2 := ZB1.set_args
         go_upto_region 32 with (rw [if_neg Bool.false_ne_true])
         any_goals try (rename_i hfz; simp [hr120, hr140, hr141] at hfz; done)
         clear hu120 hr120 hu140 hr140 hu141 hr141
         clear ZB1
         have ZB := ZB2
         clear ZB2
         have KW := ZB.1
         have BA := ZB.2.2.2.1
         generalize World.setCell (World.setCell (w151) ⟨gz, 12, none⟩ (.string ⟨#[]⟩)) ⟨gz, 14, none⟩ (.slice none 0 0) = w152 at *
         have hno : Shut (¬ X) := shut (fun h => by exact hnm (by rw [← HN.out, ← HM2.out]; exact (HQ.out.1 h).2.1))
         clear HQ
         have KW := ZB.1
         clear ZB BA
         repeat (first | rw [if_neg Bool.false_ne_true] | go_values | go_skip | go_guarded | go_step | go_upon | go_back)
         go_ret
         exact tells_f hno.out KW
      subst hnm
      have hqb : ((n : Int) == n) = true := beq_self_eq_true _
      go_wp2_with fail
      clear hqb ae0 ae13 ae14
      go_loopw [4, 6] (fun s4 s6 wx => ∃ (t : Nat) (ok : Bool), s6 = .int .i64 t ∧ s4 = .bool ok ∧ t ≤ n ∧ Keeps Nothing wr wx ∧ Shut (ok = true ↔ ∀ s ∈ a_names.take t, isName s = true)) (fun _ s6 _ => n - (intOf s6).toNat)
      case atStart => exact ⟨0, true, rfl, rfl, Nat.zero_le _, Keeps.refl _ _, shut (by simp)⟩
      case round =>
       obtain ⟨t, ok, rfl, rfl, ht, KL, HT⟩ := hrel
       have BA := KL.blk BA (fun h => h)
       have ZB := ZB.keeps KL
       have KW := KW.trans KL (fun _ h _ => h)
       obtain ⟨-, -, -, -, -, -, ae13, -⟩ := ValB al_a al_b al_place GCA.out BA
       by_cases hlt : t < n
       ·have m0 : (0 : Int) ≤ t := by omega
        have m1 : (t : Int) < n := by omega
        cases ok with
        | false =>
         clear HALL
         go_upto_region 30 with fail
         obtain ⟨u130, hu130⟩ := ZB.cell 13 (by omega)
         have hr130 := ZB.free 13
         have ZB1 := ZB.set_names
         go_upto_region 31 with (rw [if_neg Bool.false_ne_true])
         any_goals try (rename_i hfz; simp [hr130] at hfz; done)
         clear hu130 hr130
         have ZB := ZB1
         clear ZB1
         have KW := ZB.1
         have BA := ZB.2.2.2.1
         generalize World.setCell (wr) ⟨gz, 13, none⟩ (.slice none 0 0) = w153 at *
         obtain ⟨u120, hu120⟩ := ZB.cell 12 (by omega)
         have hr120 := ZB.free 12
         have ZB1 := ZB.set_name
         obtain ⟨u140, hu140⟩ := ZB.cell 14 (by omega)
         have hr140 := ZB.free 14
         obtain ⟨u141, hu141⟩ := ZB1.cell 14 (by omega)
         have hr141 := ZB1.free 14
         have ZB2 := ZB1.set_args
         go_upto_region 32 with (rw [if_neg Bool.false_ne_true])
         any_goals try (rename_i hfz; simp [hr120, hr140, hr141] at hfz; done)
         clear hu120 hr120 hu140 hr140 hu141 hr141
         clear ZB1
         have ZB := ZB2
         clear ZB2
         have KW := ZB.1
         have BA := ZB.2.2.2.1
         generalize World.setCell (World.setCell (w153) ⟨gz, 12, none⟩ (.string ⟨#[]⟩)) ⟨gz, 14, none⟩ (.slice none 0 0) = w154 at *
         have hno : Shut (¬ X) := shut (fun h => by have h2 := HT.out.2 (fun s hs => (HQ.out.1 h).1 s (List.mem_of_mem_take hs)); cases h2)
         clear HQ
         have KW := ZB.1
         clear ZB BA
         repeat (first | rw [if_neg Bool.false_ne_true] | go_values | go_skip | go_guarded | go_step | go_upon | go_back)
         go_ret
         exact tells_f hno.out KW
        | true =>
         obtain ⟨a, ha⟩ : ∃ a, a_names[t]? = some a := ⟨_, List.getElem?_eq_getElem (by rw [HN.out]; exact hlt)⟩
         obtain ⟨g1, o1, rfl, e1, hal⟩ := tx_cell (ah_names.keeps KW (fun _ _ h => h) (fun _ h => h) (fun _ _ _ h => h)) ha
         have hc := fun W => rname_any W a (by unfold bigN at hal; omega)
         have HA := shut ha
         clear ha hal
         obtain ⟨z, hz⟩ : ∃ z, isName a = z := ⟨_, rfl⟩
         rw [hz] at hc
         have HT2 : Shut (z = true ↔ ∀ s ∈ a_names.take (t + 1), isName s = true) := shut (by
          rw [← hz]
          exact ⟨fun h => all_take (P := fun s => isName s = true) HA.out (HT.out.1 (by first | rfl | trivial)) h, fun h => h a (List.mem_of_getElem? (i := t) (by rw [List.getElem?_take, if_pos (Nat.lt_succ_self t)]; exact HA.out))⟩)
         clear hz HT
         go_wp2_with fail
         refine (hc _).mono ?_
         rintro e w1 ⟨rfl, k1⟩
         have KL := KL.trans k1 (fun _ h _ => h)
         clear hc e1 k1
         try dsimp only
         go_wp2_with fail
         go_roundw
         case rel => exact ⟨t + 1, z, by go_num, rfl, by omega, KL, HT2⟩
         case measure => simp [intOf]; omega
       ·obtain rfl : t = n := by omega
        have m1 : ¬ (t : Int) < t := by omega
        have HNS : Shut (ok = true ↔ ∀ s ∈ a_names, isName s = true) := shut (by rw [HT.out, List.take_of_length_le (Nat.le_of_eq HN.out)])
        clear HT
        cases ok with
        | false =>
         go_upto_region 30 with fail
         obtain ⟨u130, hu130⟩ := ZB.cell 13 (by omega)
         have hr130 := ZB.free 13
         have ZB1 := ZB.set_names
         go_upto_region 31 with (rw [if_neg Bool.false_ne_true])
         any_goals try (rename_i hfz; simp [hr130] at hfz; done)
         clear hu130 hr130
         have ZB := ZB1
         clear ZB1
         have KW := ZB.1
         have BA := ZB.2.2.2.1
         generalize World.setCell (wr) ⟨gz, 13, none⟩ (.slice none 0 0) = w155 at *
         obtain ⟨u120, hu120⟩ := ZB.cell 12 (by omega)
         have hr120 := ZB.free 12
         have ZB1 := ZB.set_name
         obtain ⟨u140, hu140⟩ := ZB.cell 14 (by omega)
         have hr140 := ZB.free 14
         obtain ⟨u141, hu141⟩ := ZB1.cell 14 (by omega)
         have hr141 := ZB1.free 14
         have ZB2 := ZB1.set_args
         go_upto_region 32 with (rw [if_neg Bool.false_ne_true])
         any_goals try (rename_i hfz; simp [hr120, hr140, hr141] at hfz; done)
         clear hu120 hr120 hu140 hr140 hu141 hr141
         clear ZB1
         have ZB := ZB2
         clear ZB2
         have KW := ZB.1
         have BA := ZB.2.2.2.1
         generalize World.setCell (World.setCell (w155) ⟨gz, 12, none⟩ (.string ⟨#[]⟩)) ⟨gz, 14, none⟩ (.slice none 0 0) = w156 at *
         have hno : Shut (¬ X) := shut (fun h => by have h2 := HNS.out.2 (HQ.out.1 h).1; cases h2)
         clear HQ
         have KW := ZB.1
         clear ZB BA
         repeat (first | rw [if_neg Bool.false_ne_true] | go_values | go_skip | go_guarded | go_step | go_upon | go_back)
         go_ret
         exact tells_f hno.out KW
        | true =>
         go_upto_region 30 with fail
         obtain ⟨u130, hu130⟩ := ZB.cell 13 (by omega)
         have hr130 := ZB.free 13
         have ZB1 := ZB.set_names
         go_upto_region 31 with (rw [if_neg Bool.false_ne_true])
         any_goals try (rename_i hfz; simp [hr130] at hfz; done)
         clear hu130 hr130
         have ZB := ZB1
         clear ZB1
         have KW := ZB.1
         have BA := ZB.2.2.2.1
         generalize World.setCell (wr) ⟨gz, 13, none⟩ (.slice none 0 0) = w157 at *
         obtain ⟨u120, hu120⟩ := ZB.cell 12 (by omega)
         have hr120 := ZB.free 12
         have ZB1 := ZB.set_name
         obtain ⟨u140, hu140⟩ := ZB.cell 14 (by omega)
         have hr140 := ZB.free 14
         obtain ⟨u141, hu141⟩ := ZB1.cell 14 (by omega)
         have hr141 := ZB1.free 14
         have ZB2 := ZB1.set_args
         go_upto_region 32 with (rw [if_neg Bool.false_ne_true])
         any_goals try (rename_i hfz; simp [hr120, hr140, hr141] at hfz; done)
         clear hu120 hr120 hu140 hr140 hu141 hr141
         clear ZB1
         have ZB := ZB2
         clear ZB2
         have KW := ZB.1
         have BA := ZB.2.2.2.1
         generalize World.setCell (World.setCell (w157) ⟨gz, 12, none⟩ (.string ⟨#[]⟩)) ⟨gz, 14, none⟩ (.slice none 0 0) = w158 at *
         obtain ⟨K, hg, hn, BA2, cz, BZ, hvz⟩ := ZB
         have agz := agg_ok hvz.len hvz.one
         have hszz : cz.toArray.size = 15 := by simpa using hvz.len
         obtain ⟨y1, y2⟩ := tblk_mid BZ hszz
         have hc0 := rsameValue_any _ zeroVal w158 cz valC (hvz.keeps K (fun _ _ h => h) (fun _ h => h)) (zeroVal_is S w158)
         have hc : Calls Tryz.prog 116 #[.agg cz.toArray, .agg #[.int .i64 0, .int .i64 0, .int .i64 0, .string ⟨#[]⟩, .slice none 0 0, .int .i64 0, .int .i64 0, .string ⟨#[]⟩, .slice none 0 0, .int .i64 0, .string ⟨#[]⟩, .slice none 0 0, .string ⟨#[]⟩, .slice none 0 0, .slice none 0 0]] w158 (Tells w158 _) := hc0
         clear hc0 hvz BA2 hg hn
         generalize cz.toArray = CZ at *
         try dsimp only
         repeat (first | rw [if_neg Bool.false_ne_true] | go_values | go_skip | go_guarded | go_step | go_upon | go_back)
         refine hc.mono ?_
         rintro e w9 ⟨⟨z, rfl, hz⟩, k9⟩
         have HZ : Shut (z = true ↔ X) := shut (by rw [hz, HQ.out]; exact ⟨fun h => ⟨HNS.out.1 (by first | rfl | trivial), (by rw [HN.out, HM2.out]), HL.out, ⟨HALL.out, by rw [HM2.out]; exact h64⟩, h⟩, fun h => h.2.2.2.2⟩)
         clear hc hz HQ y1 y2
         try dsimp only
         repeat (first | rw [if_neg Bool.false_ne_true] | go_values | go_skip | go_guarded | go_step | go_upon | go_back)
         go_ret
         exact tells_z HZ.out (K.trans k9 (fun _ h _ => h))
 have hno : Shut (¬ X) := shut (fun h => by have h2 := HP.out.1 h; simp [k1, k2, k3, k4, k5, k6, k7] at h2)
 clear HP ZB
 obtain ⟨ae0, -, -, -, -, -, -, -⟩ := ValB al_a al_b al_place GCA.out BA
 go_wp2_with fail
 go_ret
 exact tells_f hno.out KW
end Go.Proofs.YtjbcagbnagefcaaGreat
