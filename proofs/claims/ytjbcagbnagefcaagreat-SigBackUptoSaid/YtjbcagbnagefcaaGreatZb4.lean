/- Tree14 TrT -/
import Derived.Test.YtjbcagbnagefcaaGreatZb3
namespace Go.Proofs.YtjbcagbnagefcaaGreat
open Go.RowKit
attribute [local go_sem ↓] exec_mid_ty exec_store_ty exec_mid_pl exec_store_pl exec_mid_opr exec_store_opr exec_mid_val exec_store_val exec_mid_st exec_store_st exec_mid_fld exec_store_fld exec_mid_str exec_store_str exec_mid_lif exec_store_lif exec_mid_fun exec_store_fun exec_mid_cr exec_store_cr
attribute [local go_sem] rowOk_new World.setRow_alloc_new
theorem build_val (ρ : Operand → Value) (dst : Option Tmp) (ty' : TypeId) (pos : String) (af : Array Edge) (gd : Option (Nat × Bool)) (w : World) :
  (execOp ρ ⟨dst, .build 119 #[], ty', pos, af, gd⟩).run Tryz.prog w = .ok (.value (.agg #[.int .i64 0, .int .i64 0, .int .i64 0, .string ⟨#[]⟩, .slice none 0 0, .int .i64 0, .int .i64 0, .string ⟨#[]⟩, .slice none 0 0, .int .i64 0, .string ⟨#[]⟩, .slice none 0 0, .string ⟨#[]⟩, .slice none 0 0, .slice none 0 0])) w := by
 kernel_rfl
attribute [local go_sem ↓] exec_into_pl exec_into_opr build_val
def V23 (v : ValD) : Prop := PlP v.place ∧ (⟨0, v.a, v.b, v.op, zeroPl, v.name, v.names, v.args⟩ : ValD) = zeroVal
def V7 (v : ValD) : Prop := (∀ n ∈ v.names, isName n = true) ∧ v.names.length = v.args.length ∧ DoubleP v.name ∧ OprsP v.args ∧ (⟨0, v.a, v.b, v.op, v.place, [], [], []⟩ : ValD) = zeroVal
def V6 (v : ValD) : Prop := DoubleP v.name ∧ OprsP v.args ∧ (⟨0, v.a, v.b, v.op, v.place, [], v.names, []⟩ : ValD) = zeroVal
def V5 (v : ValD) : Prop := 1 ≤ v.op ∧ v.op ≤ 4 ∧ OprP v.b ∧ OprP v.a ∧ (⟨0, zeroOpr, zeroOpr, 0, v.place, v.name, v.names, v.args⟩ : ValD) = zeroVal
def V14 (v : ValD) : Prop := OprP v.a ∧ (⟨0, zeroOpr, v.b, v.op, v.place, v.name, v.names, v.args⟩ : ValD) = zeroVal
def ValP (v : ValD) : Prop := ((v.kind = 2 ∨ v.kind = 3) ∧ V23 v) ∨ (v.kind = 7 ∧ V7 v) ∨ (v.kind = 6 ∧ V6 v) ∨ (v.kind = 5 ∧ V5 v) ∨ ((v.kind = 1 ∨ v.kind = 4) ∧ V14 v)
set_option maxRecDepth 100000 in
set_option linter.unusedSimpArgs false in
set_option maxHeartbeats 8000000 in
theorem value_any {S : Nat → Prop} (a : ValD) (w : World) (hM : MaxV w) (cs : List Value) (ha : ValIs S w a cs) : Calls Tryz.prog 126 #[.agg cs.toArray] w (Tells w (ValP a)) := by
 have HV0 := shut ha
 obtain ⟨a_kind, a_a, a_b, a_op, a_place, a_name, a_names, a_args⟩ := a
 have HM := shut hM
 clear hM
 have HP : Shut (ValP ⟨a_kind, a_a, a_b, a_op, a_place, a_name, a_names, a_args⟩ ↔ ((a_kind = 2 ∨ a_kind = 3) ∧ V23 ⟨a_kind, a_a, a_b, a_op, a_place, a_name, a_names, a_args⟩) ∨ (a_kind = 7 ∧ V7 ⟨a_kind, a_a, a_b, a_op, a_place, a_name, a_names, a_args⟩) ∨ (a_kind = 6 ∧ V6 ⟨a_kind, a_a, a_b, a_op, a_place, a_name, a_names, a_args⟩) ∨ (a_kind = 5 ∧ V5 ⟨a_kind, a_a, a_b, a_op, a_place, a_name, a_names, a_args⟩) ∨ ((a_kind = 1 ∨ a_kind = 4) ∧ V14 ⟨a_kind, a_a, a_b, a_op, a_place, a_name, a_names, a_args⟩)) := shut Iff.rfl
 obtain ⟨X, hX⟩ : ∃ X, X = ValP ⟨a_kind, a_a, a_b, a_op, a_place, a_name, a_names, a_args⟩ := ⟨_, rfl⟩
 rw [← hX] at HP ⊢
 clear hX
 have ag1 := agg_ok ha.len ha.one
 obtain ⟨s1, s5, s10, p13, q13, p14, q14, hcs, ah_a, ah_b, ah_place, ah_name, ah_names, ah_args⟩ := ha
 have HCA := shut hcs
 clear hcs
 simp only at ah_a ah_b ah_place ah_name ah_names ah_args HCA
 obtain ⟨CA, hCA⟩ : ∃ C, C = cs.toArray := ⟨_, rfl⟩
 rw [← hCA] at ag1 ⊢
 have HCS := shut hCA
 rw [HCA.out] at hCA
 have GCA := shut hCA
 clear hCA HCA
 have al_a := ah_a.len
 have al_b := ah_b.len
 have al_place := ah_place.len
 have KW : Keeps Nothing w (w.alloc (.cells CA 119)) := (Keeps.refl Nothing w).alloc _
 have BA := blk_new w CA 119
 go_enter Tryz.func126, Tryz.ntmps126
 go_upto_region 1 with fail
 generalize w.heap.size = ga at *
 generalize w.alloc (.cells CA 119) = wb at *
 have hsz : CA.size = 15 := by rw [HCS.out]; simpa using HV0.out.len
 obtain ⟨y1, y2⟩ := tblk_mid BA hsz
 go_upto_region 3 with fail
 have ZB := ValB2.new KW BA HCS.out HV0.out
 clear y1 y2 ag1 HV0 HCS hsz
 have BA := blk_alloc BA (.cells CA 119)
 have KW := KW.alloc (.cells CA 119)
 have hgz : ga ≠ wb.heap.size := ZB.2.2.1
 generalize wb.heap.size = gz at *
 generalize wb.alloc (.cells CA 119) = wc at *
 by_cases k2 : a_kind = 2
 ·subst k2
  have HQ : Shut (X ↔ PlP a_place ∧ (⟨0, a_a, a_b, a_op, zeroPl, a_name, a_names, a_args⟩ : ValD) = zeroVal) := shut (by rw [HP.out]; simp [V23])
  clear HP
  obtain ⟨ae0, -, -, -, ⟨ae10, af10⟩, -, -, -⟩ := ValB al_a al_b al_place GCA.out BA
  have hc := place_any a_place wc s10 (ah_place.keeps KW (fun _ _ h => h) (fun _ h => h))
  try dsimp only
  repeat (first | go_values | go_skip | go_guarded | go_step | go_upon | go_back)
  refine hc.mono ?_
  rintro e w1 ⟨⟨z1, rfl, hz1⟩, k1⟩
  have KW := KW.trans k1 (fun _ h _ => h)
  have BA := k1.blk BA (fun h => h)
  have ZB := ZB.keeps k1
  clear hc k1 ae0 ae10 af10
  have hf100 := ZB.fit 10 2 (by omega)
  have hg10 : aggOk 2 (.agg #[.string ⟨#[]⟩, .slice none 0 0]) = true := agg_ok (zeroPl_is S w).len (zeroPl_is S w).one
  have ZB1 := ZB.set_place
  go_upto_region 26 with fail
  clear hf100 hg10
  have ZB := ZB1
  clear ZB1
  have KW := ZB.1
  have BA := ZB.2.2.2.1
  generalize midSet (w1) gz 10 #[.string ⟨#[]⟩, .slice none 0 0] = w2 at *
  cases z1 with
  | false =>
   obtain ⟨u00, hu00⟩ := ZB.cell 0 (by omega)
   have hr00 := ZB.free 0
   have ZB1 := ZB.set_kind 0
   go_upto_region 27 with fail
   any_goals try (rename_i hfz; simp [hr00] at hfz; done)
   clear hu00 hr00
   have ZB := ZB1
   clear ZB1
   have KW := ZB.1
   have BA := ZB.2.2.2.1
   generalize World.setCell (w2) ⟨gz, 0, none⟩ (.int .i64 0) = wf at *
   have hno : Shut (¬ X) := shut (fun h => by have h2 := hz1.2 (HQ.out.1 h).1; cases h2)
   clear HQ
   obtain ⟨-, -, -, -, cz, BZ, hvz⟩ := ZB
   have agz := agg_ok hvz.len hvz.one
   have hszz : cz.toArray.size = 15 := by simpa using hvz.len
   obtain ⟨y1, y2⟩ := tblk_mid BZ hszz
   clear hvz
   generalize cz.toArray = CZ at *
   repeat (first | go_values | go_skip | go_guarded | go_step | go_upon | go_back)
   go_ret
   exact tells_f hno.out KW
  | true =>
   obtain ⟨u00, hu00⟩ := ZB.cell 0 (by omega)
   have hr00 := ZB.free 0
   have ZB1 := ZB.set_kind 0
   go_upto_region 27 with fail
   any_goals try (rename_i hfz; simp [hr00] at hfz; done)
   clear hu00 hr00
   have ZB := ZB1
   clear ZB1
   have KW := ZB.1
   have BA := ZB.2.2.2.1
   generalize World.setCell (w2) ⟨gz, 0, none⟩ (.int .i64 0) = wf at *
   obtain ⟨K, hg, hn, BA2, cz, BZ, hvz⟩ := ZB
   have agz := agg_ok hvz.len hvz.one
   have hszz : cz.toArray.size = 15 := by simpa using hvz.len
   obtain ⟨y1, y2⟩ := tblk_mid BZ hszz
   have hc0 := sameValue_any _ zeroVal wf cz valC (hvz.keeps K (fun _ _ h => h) (fun _ h => h)) (zeroVal_is S wf)
   have hc : Calls Tryz.prog 132 #[.agg cz.toArray, .agg #[.int .i64 0, .int .i64 0, .int .i64 0, .string ⟨#[]⟩, .slice none 0 0, .int .i64 0, .int .i64 0, .string ⟨#[]⟩, .slice none 0 0, .int .i64 0, .string ⟨#[]⟩, .slice none 0 0, .string ⟨#[]⟩, .slice none 0 0, .slice none 0 0]] wf (Tells wf _) := hc0
   clear hc0 hvz BA2 hg hn
   generalize cz.toArray = CZ at *
   repeat (first | go_values | go_skip | go_guarded | go_step | go_upon | go_back)
   refine hc.mono ?_
   rintro e w9 ⟨⟨z, rfl, hz⟩, k9⟩
   have HZ : Shut (z = true ↔ X) := shut (by rw [hz, HQ.out]; exact ⟨fun h => ⟨hz1.1 rfl, h⟩, fun h => h.2⟩)
   clear hc hz HQ y1 y2
   dsimp only
   repeat (first | go_values | go_skip | go_guarded | go_step | go_upon | go_back)
   go_ret
   exact tells_z HZ.out (K.trans k9 (fun _ h _ => h))
 by_cases k3 : a_kind = 3
 ·subst k3
  have HQ : Shut (X ↔ PlP a_place ∧ (⟨0, a_a, a_b, a_op, zeroPl, a_name, a_names, a_args⟩ : ValD) = zeroVal) := shut (by rw [HP.out]; simp [V23])
  clear HP
  obtain ⟨ae0, -, -, -, ⟨ae10, af10⟩, -, -, -⟩ := ValB al_a al_b al_place GCA.out BA
  have hc := place_any a_place wc s10 (ah_place.keeps KW (fun _ _ h => h) (fun _ h => h))
  try dsimp only
  repeat (first | go_values | go_skip | go_guarded | go_step | go_upon | go_back)
  refine hc.mono ?_
  rintro e w1 ⟨⟨z1, rfl, hz1⟩, k1⟩
  have KW := KW.trans k1 (fun _ h _ => h)
  have BA := k1.blk BA (fun h => h)
  have ZB := ZB.keeps k1
  clear hc k1 ae0 ae10 af10
  have hf100 := ZB.fit 10 2 (by omega)
  have hg10 : aggOk 2 (.agg #[.string ⟨#[]⟩, .slice none 0 0]) = true := agg_ok (zeroPl_is S w).len (zeroPl_is S w).one
  have ZB1 := ZB.set_place
  go_upto_region 26 with fail
  clear hf100 hg10
  have ZB := ZB1
  clear ZB1
  have KW := ZB.1
  have BA := ZB.2.2.2.1
  generalize midSet (w1) gz 10 #[.string ⟨#[]⟩, .slice none 0 0] = w2 at *
  cases z1 with
  | false =>
   obtain ⟨u00, hu00⟩ := ZB.cell 0 (by omega)
   have hr00 := ZB.free 0
   have ZB1 := ZB.set_kind 0
   go_upto_region 27 with fail
   any_goals try (rename_i hfz; simp [hr00] at hfz; done)
   clear hu00 hr00
   have ZB := ZB1
   clear ZB1
   have KW := ZB.1
   have BA := ZB.2.2.2.1
   generalize World.setCell (w2) ⟨gz, 0, none⟩ (.int .i64 0) = wf at *
   have hno : Shut (¬ X) := shut (fun h => by have h2 := hz1.2 (HQ.out.1 h).1; cases h2)
   clear HQ
   obtain ⟨-, -, -, -, cz, BZ, hvz⟩ := ZB
   have agz := agg_ok hvz.len hvz.one
   have hszz : cz.toArray.size = 15 := by simpa using hvz.len
   obtain ⟨y1, y2⟩ := tblk_mid BZ hszz
   clear hvz
   generalize cz.toArray = CZ at *
   repeat (first | go_values | go_skip | go_guarded | go_step | go_upon | go_back)
   go_ret
   exact tells_f hno.out KW
  | true =>
   obtain ⟨u00, hu00⟩ := ZB.cell 0 (by omega)
   have hr00 := ZB.free 0
   have ZB1 := ZB.set_kind 0
   go_upto_region 27 with fail
   any_goals try (rename_i hfz; simp [hr00] at hfz; done)
   clear hu00 hr00
   have ZB := ZB1
   clear ZB1
   have KW := ZB.1
   have BA := ZB.2.2.2.1
   generalize World.setCell (w2) ⟨gz, 0, none⟩ (.int .i64 0) = wf at *
   obtain ⟨K, hg, hn, BA2, cz, BZ, hvz⟩ := ZB
   have agz := agg_ok hvz.len hvz.one
   have hszz : cz.toArray.size = 15 := by simpa using hvz.len
   obtain ⟨y1, y2⟩ := tblk_mid BZ hszz
   have hc0 := sameValue_any _ zeroVal wf cz valC (hvz.keeps K (fun _ _ h => h) (fun _ h => h)) (zeroVal_is S wf)
   have hc : Calls Tryz.prog 132 #[.agg cz.toArray, .agg #[.int .i64 0, .int .i64 0, .int .i64 0, .string ⟨#[]⟩, .slice none 0 0, .int .i64 0, .int .i64 0, .string ⟨#[]⟩, .slice none 0 0, .int .i64 0, .string ⟨#[]⟩, .slice none 0 0, .string ⟨#[]⟩, .slice none 0 0, .slice none 0 0]] wf (Tells wf _) := hc0
   clear hc0 hvz BA2 hg hn
   generalize cz.toArray = CZ at *
   repeat (first | go_values | go_skip | go_guarded | go_step | go_upon | go_back)
   refine hc.mono ?_
   rintro e w9 ⟨⟨z, rfl, hz⟩, k9⟩
   have HZ : Shut (z = true ↔ X) := shut (by rw [hz, HQ.out]; exact ⟨fun h => ⟨hz1.1 rfl, h⟩, fun h => h.2⟩)
   clear hc hz HQ y1 y2
   dsimp only
   repeat (first | go_values | go_skip | go_guarded | go_step | go_upon | go_back)
   go_ret
   exact tells_z HZ.out (K.trans k9 (fun _ h _ => h))
 by_cases k1 : a_kind = 1
 ·subst k1
  have HQ : Shut (X ↔ OprP a_a ∧ (⟨0, zeroOpr, a_b, a_op, a_place, a_name, a_names, a_args⟩ : ValD) = zeroVal) := shut (by rw [HP.out]; simp [V14])
  clear HP
  obtain ⟨ae0, -, -, -, -, -, -, -⟩ := ValB al_a al_b al_place GCA.out BA
  obtain ⟨-, ⟨ae1, af1⟩, -, -, -, -, -, -⟩ := ValB al_a al_b al_place GCA.out BA
  have hc := oper_any a_a wc s1 (ah_a.keeps KW (fun _ _ h => h) (fun _ h => h))
  try dsimp only
  repeat (first | go_values | go_skip | go_guarded | go_step | go_upon | go_back)
  refine hc.mono ?_
  rintro e w3 ⟨⟨z3, rfl, hz3⟩, k3⟩
  have KW := KW.trans k3 (fun _ h _ => h)
  have BA := k3.blk BA (fun h => h)
  have ZB := ZB.keeps k3
  clear hc k3 ae1 af1
  try dsimp only
  cases z3 with
  | false =>
   have hf10 := ZB.fit 1 4 (by omega)
   have hg1 : aggOk 4 (.agg #[.int .i64 0, .int .i64 0, .string ⟨#[]⟩, .slice none 0 0]) = true := agg_ok (zeroOpr_is S w).len (zeroOpr_is S w).one
   have ZB1 := ZB.set_a
   go_upto_region 26 with fail
   clear hf10 hg1
   have ZB := ZB1
   clear ZB1
   have KW := ZB.1
   have BA := ZB.2.2.2.1
   generalize midSet (w3) gz 1 #[.int .i64 0, .int .i64 0, .string ⟨#[]⟩, .slice none 0 0] = w4 at *
   obtain ⟨u00, hu00⟩ := ZB.cell 0 (by omega)
   have hr00 := ZB.free 0
   have ZB1 := ZB.set_kind 0
   go_upto_region 27 with fail
   any_goals try (rename_i hfz; simp [hr00] at hfz; done)
   clear hu00 hr00
   have ZB := ZB1
   clear ZB1
   have KW := ZB.1
   have BA := ZB.2.2.2.1
   generalize World.setCell (w4) ⟨gz, 0, none⟩ (.int .i64 0) = wf at *
   have hno : Shut (¬ X) := shut (fun h => by have h2 := hz3.2 ((HQ.out.1 h).1); cases h2)
   clear HQ
   obtain ⟨-, -, -, -, cz, BZ, hvz⟩ := ZB
   have agz := agg_ok hvz.len hvz.one
   have hszz : cz.toArray.size = 15 := by simpa using hvz.len
   obtain ⟨y1, y2⟩ := tblk_mid BZ hszz
   clear hvz
   generalize cz.toArray = CZ at *
   repeat (first | go_values | go_skip | go_guarded | go_step | go_upon | go_back)
   go_ret
   exact tells_f hno.out KW
  | true =>
   have hf10 := ZB.fit 1 4 (by omega)
   have hg1 : aggOk 4 (.agg #[.int .i64 0, .int .i64 0, .string ⟨#[]⟩, .slice none 0 0]) = true := agg_ok (zeroOpr_is S w).len (zeroOpr_is S w).one
   have ZB1 := ZB.set_a
   go_upto_region 26 with fail
   clear hf10 hg1
   have ZB := ZB1
   clear ZB1
   have KW := ZB.1
   have BA := ZB.2.2.2.1
   generalize midSet (w3) gz 1 #[.int .i64 0, .int .i64 0, .string ⟨#[]⟩, .slice none 0 0] = w4 at *
   obtain ⟨u00, hu00⟩ := ZB.cell 0 (by omega)
   have hr00 := ZB.free 0
   have ZB1 := ZB.set_kind 0
   go_upto_region 27 with fail
   any_goals try (rename_i hfz; simp [hr00] at hfz; done)
   clear hu00 hr00
   have ZB := ZB1
   clear ZB1
   have KW := ZB.1
   have BA := ZB.2.2.2.1
   generalize World.setCell (w4) ⟨gz, 0, none⟩ (.int .i64 0) = wf at *
   obtain ⟨K, hg, hn, BA2, cz, BZ, hvz⟩ := ZB
   have agz := agg_ok hvz.len hvz.one
   have hszz : cz.toArray.size = 15 := by simpa using hvz.len
   obtain ⟨y1, y2⟩ := tblk_mid BZ hszz
   have hc0 := sameValue_any _ zeroVal wf cz valC (hvz.keeps K (fun _ _ h => h) (fun _ h => h)) (zeroVal_is S wf)
   have hc : Calls Tryz.prog 132 #[.agg cz.toArray, .agg #[.int .i64 0, .int .i64 0, .int .i64 0, .string ⟨#[]⟩, .slice none 0 0, .int .i64 0, .int .i64 0, .string ⟨#[]⟩, .slice none 0 0, .int .i64 0, .string ⟨#[]⟩, .slice none 0 0, .string ⟨#[]⟩, .slice none 0 0, .slice none 0 0]] wf (Tells wf _) := hc0
   clear hc0 hvz BA2 hg hn
   generalize cz.toArray = CZ at *
   repeat (first | go_values | go_skip | go_guarded | go_step | go_upon | go_back)
   refine hc.mono ?_
   rintro e w9 ⟨⟨z, rfl, hz⟩, k9⟩
   have HZ : Shut (z = true ↔ X) := shut (by rw [hz, HQ.out]; exact ⟨fun h => ⟨hz3.1 rfl, h⟩, fun h => h.2⟩)
   clear hc hz HQ y1 y2
   dsimp only
   repeat (first | go_values | go_skip | go_guarded | go_step | go_upon | go_back)
   go_ret
   exact tells_z HZ.out (K.trans k9 (fun _ h _ => h))
 by_cases k4 : a_kind = 4
 ·subst k4
  have HQ : Shut (X ↔ OprP a_a ∧ (⟨0, zeroOpr, a_b, a_op, a_place, a_name, a_names, a_args⟩ : ValD) = zeroVal) := shut (by rw [HP.out]; simp [V14])
  clear HP
  obtain ⟨ae0, -, -, -, -, -, -, -⟩ := ValB al_a al_b al_place GCA.out BA
  obtain ⟨-, ⟨ae1, af1⟩, -, -, -, -, -, -⟩ := ValB al_a al_b al_place GCA.out BA
  have hc := oper_any a_a wc s1 (ah_a.keeps KW (fun _ _ h => h) (fun _ h => h))
  try dsimp only
  repeat (first | go_values | go_skip | go_guarded | go_step | go_upon | go_back)
  refine hc.mono ?_
  rintro e w3 ⟨⟨z3, rfl, hz3⟩, k3⟩
  have KW := KW.trans k3 (fun _ h _ => h)
  have BA := k3.blk BA (fun h => h)
  have ZB := ZB.keeps k3
  clear hc k3 ae1 af1
  try dsimp only
  cases z3 with
  | false =>
   have hf10 := ZB.fit 1 4 (by omega)
   have hg1 : aggOk 4 (.agg #[.int .i64 0, .int .i64 0, .string ⟨#[]⟩, .slice none 0 0]) = true := agg_ok (zeroOpr_is S w).len (zeroOpr_is S w).one
   have ZB1 := ZB.set_a
   go_upto_region 26 with fail
   clear hf10 hg1
   have ZB := ZB1
   clear ZB1
   have KW := ZB.1
   have BA := ZB.2.2.2.1
   generalize midSet (w3) gz 1 #[.int .i64 0, .int .i64 0, .string ⟨#[]⟩, .slice none 0 0] = w4 at *
   obtain ⟨u00, hu00⟩ := ZB.cell 0 (by omega)
   have hr00 := ZB.free 0
   have ZB1 := ZB.set_kind 0
   go_upto_region 27 with fail
   any_goals try (rename_i hfz; simp [hr00] at hfz; done)
   clear hu00 hr00
   have ZB := ZB1
   clear ZB1
   have KW := ZB.1
   have BA := ZB.2.2.2.1
   generalize World.setCell (w4) ⟨gz, 0, none⟩ (.int .i64 0) = wf at *
   have hno : Shut (¬ X) := shut (fun h => by have h2 := hz3.2 ((HQ.out.1 h).1); cases h2)
   clear HQ
   obtain ⟨-, -, -, -, cz, BZ, hvz⟩ := ZB
   have agz := agg_ok hvz.len hvz.one
   have hszz : cz.toArray.size = 15 := by simpa using hvz.len
   obtain ⟨y1, y2⟩ := tblk_mid BZ hszz
   clear hvz
   generalize cz.toArray = CZ at *
   repeat (first | go_values | go_skip | go_guarded | go_step | go_upon | go_back)
   go_ret
   exact tells_f hno.out KW
  | true =>
   have hf10 := ZB.fit 1 4 (by omega)
   have hg1 : aggOk 4 (.agg #[.int .i64 0, .int .i64 0, .string ⟨#[]⟩, .slice none 0 0]) = true := agg_ok (zeroOpr_is S w).len (zeroOpr_is S w).one
   have ZB1 := ZB.set_a
   go_upto_region 26 with fail
   clear hf10 hg1
   have ZB := ZB1
   clear ZB1
   have KW := ZB.1
   have BA := ZB.2.2.2.1
   generalize midSet (w3) gz 1 #[.int .i64 0, .int .i64 0, .string ⟨#[]⟩, .slice none 0 0] = w4 at *
   obtain ⟨u00, hu00⟩ := ZB.cell 0 (by omega)
   have hr00 := ZB.free 0
   have ZB1 := ZB.set_kind 0
   go_upto_region 27 with fail
   any_goals try (rename_i hfz; simp [hr00] at hfz; done)
   clear hu00 hr00
   have ZB := ZB1
   clear ZB1
   have KW := ZB.1
   have BA := ZB.2.2.2.1
   generalize World.setCell (w4) ⟨gz, 0, none⟩ (.int .i64 0) = wf at *
   obtain ⟨K, hg, hn, BA2, cz, BZ, hvz⟩ := ZB
   have agz := agg_ok hvz.len hvz.one
   have hszz : cz.toArray.size = 15 := by simpa using hvz.len
   obtain ⟨y1, y2⟩ := tblk_mid BZ hszz
   have hc0 := sameValue_any _ zeroVal wf cz valC (hvz.keeps K (fun _ _ h => h) (fun _ h => h)) (zeroVal_is S wf)
   have hc : Calls Tryz.prog 132 #[.agg cz.toArray, .agg #[.int .i64 0, .int .i64 0, .int .i64 0, .string ⟨#[]⟩, .slice none 0 0, .int .i64 0, .int .i64 0, .string ⟨#[]⟩, .slice none 0 0, .int .i64 0, .string ⟨#[]⟩, .slice none 0 0, .string ⟨#[]⟩, .slice none 0 0, .slice none 0 0]] wf (Tells wf _) := hc0
   clear hc0 hvz BA2 hg hn
   generalize cz.toArray = CZ at *
   repeat (first | go_values | go_skip | go_guarded | go_step | go_upon | go_back)
   refine hc.mono ?_
   rintro e w9 ⟨⟨z, rfl, hz⟩, k9⟩
   have HZ : Shut (z = true ↔ X) := shut (by rw [hz, HQ.out]; exact ⟨fun h => ⟨hz3.1 rfl, h⟩, fun h => h.2⟩)
   clear hc hz HQ y1 y2
   dsimp only
   repeat (first | go_values | go_skip | go_guarded | go_step | go_upon | go_back)
   go_ret
   exact tells_z HZ.out (K.trans k9 (fun _ h _ => h))
 by_cases k5 : a_kind = 5
 ·subst k5
  have HQ : Shut (X ↔ 1 ≤ a_op ∧ a_op ≤ 4 ∧ OprP a_b ∧ OprP a_a ∧ (⟨0, zeroOpr, zeroOpr, 0, a_place, a_name, a_names, a_args⟩ : ValD) = zeroVal) := shut (by rw [HP.out]; simp [V5])
  clear HP
  obtain ⟨ae0, -, -, ae9, -, -, -, -⟩ := ValB al_a al_b al_place GCA.out BA
  by_cases h1 : 1 ≤ a_op
  rotate_left
  ·have hb : decide (1 ≤ a_op) = false := decide_eq_false h1
   obtain ⟨u90, hu90⟩ := ZB.cell 9 (by omega)
   have hr90 := ZB.free 9
   have ZB1 := ZB.set_op 0
   have hf50 := ZB.fit 5 4 (by omega)
   have hf51 := ZB1.fit 5 4 (by omega)
   have hg5 : aggOk 4 (.agg #[.int .i64 0, .int .i64 0, .string ⟨#[]⟩, .slice none 0 0]) = true := agg_ok (zeroOpr_is S w).len (zeroOpr_is S w).one
   have ZB2 := ZB1.set_b
   go_upto_region 23 with fail
   any_goals try (rename_i hfz; simp [hr90] at hfz; done)
   clear hu90 hr90 hf50 hf51 hg5
   clear ZB1
   have ZB := ZB2
   clear ZB2
   have KW := ZB.1
   have BA := ZB.2.2.2.1
   generalize midSet (World.setCell (wc) ⟨gz, 9, none⟩ (.int .i64 0)) gz 5 #[.int .i64 0, .int .i64 0, .string ⟨#[]⟩, .slice none 0 0] = w5 at *
   have hf10 := ZB.fit 1 4 (by omega)
   have hg1 : aggOk 4 (.agg #[.int .i64 0, .int .i64 0, .string ⟨#[]⟩, .slice none 0 0]) = true := agg_ok (zeroOpr_is S w).len (zeroOpr_is S w).one
   have ZB1 := ZB.set_a
   go_upto_region 26 with fail
   clear hf10 hg1
   have ZB := ZB1
   clear ZB1
   have KW := ZB.1
   have BA := ZB.2.2.2.1
   generalize midSet (w5) gz 1 #[.int .i64 0, .int .i64 0, .string ⟨#[]⟩, .slice none 0 0] = w6 at *
   obtain ⟨u00, hu00⟩ := ZB.cell 0 (by omega)
   have hr00 := ZB.free 0
   have ZB1 := ZB.set_kind 0
   go_upto_region 27 with fail
   any_goals try (rename_i hfz; simp [hr00] at hfz; done)
   clear hu00 hr00
   have ZB := ZB1
   clear ZB1
   have KW := ZB.1
   have BA := ZB.2.2.2.1
   generalize World.setCell (w6) ⟨gz, 0, none⟩ (.int .i64 0) = wf at *
   have hno : Shut (¬ X) := shut (fun h => by have h2 := (HQ.out.1 h).1; omega)
   clear HQ
   obtain ⟨-, -, -, -, cz, BZ, hvz⟩ := ZB
   have agz := agg_ok hvz.len hvz.one
   have hszz : cz.toArray.size = 15 := by simpa using hvz.len
   obtain ⟨y1, y2⟩ := tblk_mid BZ hszz
   clear hvz
   generalize cz.toArray = CZ at *
   repeat (first | go_values | go_skip | go_guarded | go_step | go_upon | go_back)
   go_ret
   exact tells_f hno.out KW
  by_cases h4 : a_op ≤ 4
  rotate_left
  ·have hb : decide (a_op ≤ 4) = false := decide_eq_false h4
   obtain ⟨u90, hu90⟩ := ZB.cell 9 (by omega)
   have hr90 := ZB.free 9
   have ZB1 := ZB.set_op 0
   have hf50 := ZB.fit 5 4 (by omega)
   have hf51 := ZB1.fit 5 4 (by omega)
   have hg5 : aggOk 4 (.agg #[.int .i64 0, .int .i64 0, .string ⟨#[]⟩, .slice none 0 0]) = true := agg_ok (zeroOpr_is S w).len (zeroOpr_is S w).one
   have ZB2 := ZB1.set_b
   go_upto_region 23 with fail
   any_goals try (rename_i hfz; simp [hr90] at hfz; done)
   clear hu90 hr90 hf50 hf51 hg5
   clear ZB1
   have ZB := ZB2
   clear ZB2
   have KW := ZB.1
   have BA := ZB.2.2.2.1
   generalize midSet (World.setCell (wc) ⟨gz, 9, none⟩ (.int .i64 0)) gz 5 #[.int .i64 0, .int .i64 0, .string ⟨#[]⟩, .slice none 0 0] = w5 at *
   have hf10 := ZB.fit 1 4 (by omega)
   have hg1 : aggOk 4 (.agg #[.int .i64 0, .int .i64 0, .string ⟨#[]⟩, .slice none 0 0]) = true := agg_ok (zeroOpr_is S w).len (zeroOpr_is S w).one
   have ZB1 := ZB.set_a
   go_upto_region 26 with fail
   clear hf10 hg1
   have ZB := ZB1
   clear ZB1
   have KW := ZB.1
   have BA := ZB.2.2.2.1
   generalize midSet (w5) gz 1 #[.int .i64 0, .int .i64 0, .string ⟨#[]⟩, .slice none 0 0] = w6 at *
   obtain ⟨u00, hu00⟩ := ZB.cell 0 (by omega)
   have hr00 := ZB.free 0
   have ZB1 := ZB.set_kind 0
   go_upto_region 27 with fail
   any_goals try (rename_i hfz; simp [hr00] at hfz; done)
   clear hu00 hr00
   have ZB := ZB1
   clear ZB1
   have KW := ZB.1
   have BA := ZB.2.2.2.1
   generalize World.setCell (w6) ⟨gz, 0, none⟩ (.int .i64 0) = wf at *
   have hno : Shut (¬ X) := shut (fun h => by have h2 := (HQ.out.1 h).2.1; omega)
   clear HQ
   obtain ⟨-, -, -, -, cz, BZ, hvz⟩ := ZB
   have agz := agg_ok hvz.len hvz.one
   have hszz : cz.toArray.size = 15 := by simpa using hvz.len
   obtain ⟨y1, y2⟩ := tblk_mid BZ hszz
   clear hvz
   generalize cz.toArray = CZ at *
   repeat (first | go_values | go_skip | go_guarded | go_step | go_upon | go_back)
   go_ret
   exact tells_f hno.out KW
  obtain ⟨-, -, ⟨ae5, af5⟩, -, -, -, -, -⟩ := ValB al_a al_b al_place GCA.out BA
  have hc := oper_any a_b wc s5 (ah_b.keeps KW (fun _ _ h => h) (fun _ h => h))
  try dsimp only
  repeat (first | go_values | go_skip | go_guarded | go_step | go_upon | go_back)
  refine hc.mono ?_
  rintro e w2 ⟨⟨z2, rfl, hz2⟩, k2⟩
  have KW := KW.trans k2 (fun _ h _ => h)
  have BA := k2.blk BA (fun h => h)
  have ZB := ZB.keeps k2
  clear hc k2 ae0 ae9 ae5 af5
  obtain ⟨u90, hu90⟩ := ZB.cell 9 (by omega)
  have hr90 := ZB.free 9
  have ZB1 := ZB.set_op 0
  have hf50 := ZB.fit 5 4 (by omega)
  have hf51 := ZB1.fit 5 4 (by omega)
  have hg5 : aggOk 4 (.agg #[.int .i64 0, .int .i64 0, .string ⟨#[]⟩, .slice none 0 0]) = true := agg_ok (zeroOpr_is S w).len (zeroOpr_is S w).one
  have ZB2 := ZB1.set_b
  go_upto_region 23 with fail
  any_goals try (rename_i hfz; simp [hr90] at hfz; done)
  clear hu90 hr90 hf50 hf51 hg5
  clear ZB1
  have ZB := ZB2
  clear ZB2
  have KW := ZB.1
  have BA := ZB.2.2.2.1
  generalize midSet (World.setCell (w2) ⟨gz, 9, none⟩ (.int .i64 0)) gz 5 #[.int .i64 0, .int .i64 0, .string ⟨#[]⟩, .slice none 0 0] = w5 at *
  cases z2 with
  | false =>
   have hf10 := ZB.fit 1 4 (by omega)
   have hg1 : aggOk 4 (.agg #[.int .i64 0, .int .i64 0, .string ⟨#[]⟩, .slice none 0 0]) = true := agg_ok (zeroOpr_is S w).len (zeroOpr_is S w).one
   have ZB1 := ZB.set_a
   go_upto_region 26 with fail
   clear hf10 hg1
   have ZB := ZB1
   clear ZB1
   have KW := ZB.1
   have BA := ZB.2.2.2.1
   generalize midSet (w5) gz 1 #[.int .i64 0, .int .i64 0, .string ⟨#[]⟩, .slice none 0 0] = w6 at *
   obtain ⟨u00, hu00⟩ := ZB.cell 0 (by omega)
   have hr00 := ZB.free 0
   have ZB1 := ZB.set_kind 0
   go_upto_region 27 with fail
   any_goals try (rename_i hfz; simp [hr00] at hfz; done)
   clear hu00 hr00
   have ZB := ZB1
   clear ZB1
   have KW := ZB.1
   have BA := ZB.2.2.2.1
   generalize World.setCell (w6) ⟨gz, 0, none⟩ (.int .i64 0) = wf at *
   have hno : Shut (¬ X) := shut (fun h => by have h2 := hz2.2 (HQ.out.1 h).2.2.1; cases h2)
   clear HQ
   obtain ⟨-, -, -, -, cz, BZ, hvz⟩ := ZB
   have agz := agg_ok hvz.len hvz.one
   have hszz : cz.toArray.size = 15 := by simpa using hvz.len
   obtain ⟨y1, y2⟩ := tblk_mid BZ hszz
   clear hvz
   generalize cz.toArray = CZ at *
   repeat (first | go_values | go_skip | go_guarded | go_step | go_upon | go_back)
   go_ret
   exact tells_f hno.out KW
  | true =>
   obtain ⟨-, ⟨ae1, af1⟩, -, -, -, -, -, -⟩ := ValB al_a al_b al_place GCA.out BA
   have hc := oper_any a_a w5 s1 (ah_a.keeps KW (fun _ _ h => h) (fun _ h => h))
   try dsimp only
   repeat (first | go_values | go_skip | go_guarded | go_step | go_upon | go_back)
   refine hc.mono ?_
   rintro e w3 ⟨⟨z3, rfl, hz3⟩, k3⟩
   have KW := KW.trans k3 (fun _ h _ => h)
   have BA := k3.blk BA (fun h => h)
   have ZB := ZB.keeps k3
   clear hc k3 ae1 af1
   try dsimp only
   cases z3 with
   | false =>
    have hf10 := ZB.fit 1 4 (by omega)
    have hg1 : aggOk 4 (.agg #[.int .i64 0, .int .i64 0, .string ⟨#[]⟩, .slice none 0 0]) = true := agg_ok (zeroOpr_is S w).len (zeroOpr_is S w).one
    have ZB1 := ZB.set_a
    go_upto_region 26 with fail
    clear hf10 hg1
    have ZB := ZB1
    clear ZB1
    have KW := ZB.1
    have BA := ZB.2.2.2.1
    generalize midSet (w3) gz 1 #[.int .i64 0, .int .i64 0, .string ⟨#[]⟩, .slice none 0 0] = w4 at *
    obtain ⟨u00, hu00⟩ := ZB.cell 0 (by omega)
    have hr00 := ZB.free 0
    have ZB1 := ZB.set_kind 0
    go_upto_region 27 with fail
    any_goals try (rename_i hfz; simp [hr00] at hfz; done)
    clear hu00 hr00
    have ZB := ZB1
    clear ZB1
    have KW := ZB.1
    have BA := ZB.2.2.2.1
    generalize World.setCell (w4) ⟨gz, 0, none⟩ (.int .i64 0) = wf at *
    have hno : Shut (¬ X) := shut (fun h => by have h2 := hz3.2 ((HQ.out.1 h).2.2.2.1); cases h2)
    clear HQ
    obtain ⟨-, -, -, -, cz, BZ, hvz⟩ := ZB
    have agz := agg_ok hvz.len hvz.one
    have hszz : cz.toArray.size = 15 := by simpa using hvz.len
    obtain ⟨y1, y2⟩ := tblk_mid BZ hszz
    clear hvz
    generalize cz.toArray = CZ at *
    repeat (first | go_values | go_skip | go_guarded | go_step | go_upon | go_back)
    go_ret
    exact tells_f hno.out KW
   | true =>
    have hf10 := ZB.fit 1 4 (by omega)
    have hg1 : aggOk 4 (.agg #[.int .i64 0, .int .i64 0, .string ⟨#[]⟩, .slice none 0 0]) = true := agg_ok (zeroOpr_is S w).len (zeroOpr_is S w).one
    have ZB1 := ZB.set_a
    go_upto_region 26 with fail
    clear hf10 hg1
    have ZB := ZB1
    clear ZB1
    have KW := ZB.1
    have BA := ZB.2.2.2.1
    generalize midSet (w3) gz 1 #[.int .i64 0, .int .i64 0, .string ⟨#[]⟩, .slice none 0 0] = w4 at *
    obtain ⟨u00, hu00⟩ := ZB.cell 0 (by omega)
    have hr00 := ZB.free 0
    have ZB1 := ZB.set_kind 0
    go_upto_region 27 with fail
    any_goals try (rename_i hfz; simp [hr00] at hfz; done)
    clear hu00 hr00
    have ZB := ZB1
    clear ZB1
    have KW := ZB.1
    have BA := ZB.2.2.2.1
    generalize World.setCell (w4) ⟨gz, 0, none⟩ (.int .i64 0) = wf at *
    obtain ⟨K, hg, hn, BA2, cz, BZ, hvz⟩ := ZB
    have agz := agg_ok hvz.len hvz.one
    have hszz : cz.toArray.size = 15 := by simpa using hvz.len
    obtain ⟨y1, y2⟩ := tblk_mid BZ hszz
    have hc0 := sameValue_any _ zeroVal wf cz valC (hvz.keeps K (fun _ _ h => h) (fun _ h => h)) (zeroVal_is S wf)
    have hc : Calls Tryz.prog 132 #[.agg cz.toArray, .agg #[.int .i64 0, .int .i64 0, .int .i64 0, .string ⟨#[]⟩, .slice none 0 0, .int .i64 0, .int .i64 0, .string ⟨#[]⟩, .slice none 0 0, .int .i64 0, .string ⟨#[]⟩, .slice none 0 0, .string ⟨#[]⟩, .slice none 0 0, .slice none 0 0]] wf (Tells wf _) := hc0
    clear hc0 hvz BA2 hg hn
    generalize cz.toArray = CZ at *
    repeat (first | go_values | go_skip | go_guarded | go_step | go_upon | go_back)
    refine hc.mono ?_
    rintro e w9 ⟨⟨z, rfl, hz⟩, k9⟩
    have HZ : Shut (z = true ↔ X) := shut (by rw [hz, HQ.out]; exact ⟨fun h => ⟨h1, h4, hz2.1 rfl, hz3.1 rfl, h⟩, fun h => h.2.2.2.2⟩)
    clear hc hz HQ y1 y2
    dsimp only
    repeat (first | go_values | go_skip | go_guarded | go_step | go_upon | go_back)
    go_ret
    exact tells_z HZ.out (K.trans k9 (fun _ h _ => h))
 by_cases k6 : a_kind = 6
 ·subst k6
  have HQ : Shut (X ↔ DoubleP a_name ∧ OprsP a_args ∧ (⟨0, a_a, a_b, a_op, a_place, [], a_names, []⟩ : ValD) = zeroVal) := shut (by rw [HP.out]; simp [V6])
  clear HP
  obtain ⟨ae0, -, -, -, -, -, -, -⟩ := ValB al_a al_b al_place GCA.out BA
  obtain ⟨-, -, -, -, -, ae12, -, -⟩ := ValB al_a al_b al_place GCA.out BA
  unfold txV at *
  have hc := double_any wc (HM.out.keeps KW) a_name ah_name
  try dsimp only
  repeat (first | go_values | go_skip | go_guarded | go_step | go_upon | go_back)
  refine hc.mono ?_
  rintro e w5 ⟨⟨z5, rfl, hz5⟩, k5⟩
  have KW := KW.trans k5 (fun _ h _ => h)
  have BA := k5.blk BA (fun h => h)
  have ZB := ZB.keeps k5
  clear hc k5 ae12
  cases z5 with
  | false =>
   obtain ⟨u120, hu120⟩ := ZB.cell 12 (by omega)
   have hr120 := ZB.free 12
   have ZB1 := ZB.set_name
   obtain ⟨u140, hu140⟩ := ZB.cell 14 (by omega)
   have hr140 := ZB.free 14
   obtain ⟨u141, hu141⟩ := ZB1.cell 14 (by omega)
   have hr141 := ZB1.free 14
   have ZB2 := ZB1.set_args
   go_upto_region 26 with fail
   any_goals try (rename_i hfz; simp [hr120, hr140, hr141] at hfz; done)
   clear hu120 hr120 hu140 hr140 hu141 hr141
   clear ZB1
   have ZB := ZB2
   clear ZB2
   have KW := ZB.1
   have BA := ZB.2.2.2.1
   generalize World.setCell (World.setCell (w5) ⟨gz, 12, none⟩ (.string ⟨#[]⟩)) ⟨gz, 14, none⟩ (.slice none 0 0) = w6 at *
   obtain ⟨u00, hu00⟩ := ZB.cell 0 (by omega)
   have hr00 := ZB.free 0
   have ZB1 := ZB.set_kind 0
   go_upto_region 27 with fail
   any_goals try (rename_i hfz; simp [hr00] at hfz; done)
   clear hu00 hr00
   have ZB := ZB1
   clear ZB1
   have KW := ZB.1
   have BA := ZB.2.2.2.1
   generalize World.setCell (w6) ⟨gz, 0, none⟩ (.int .i64 0) = wf at *
   have hno : Shut (¬ X) := shut (fun h => by have h2 := hz5.2 ((HQ.out.1 h).1); cases h2)
   clear HQ
   obtain ⟨-, -, -, -, cz, BZ, hvz⟩ := ZB
   have agz := agg_ok hvz.len hvz.one
   have hszz : cz.toArray.size = 15 := by simpa using hvz.len
   obtain ⟨y1, y2⟩ := tblk_mid BZ hszz
   clear hvz
   generalize cz.toArray = CZ at *
   repeat (first | go_values | go_skip | go_guarded | go_step | go_upon | go_back)
   go_ret
   exact tells_f hno.out KW
  | true =>
   obtain ⟨-, -, -, -, -, -, -, ae14⟩ := ValB al_a al_b al_place GCA.out BA
   have hc := opers_any w5 q14 (ah_args.keeps KW (fun _ _ h => h) (fun _ h => h) (fun _ _ _ h => h.keeps KW (fun _ _ h => h) (fun _ h => h)))
   try dsimp only
   repeat (first | go_values | go_skip | go_guarded | go_step | go_upon | go_back)
   refine hc.mono ?_
   rintro e w6 ⟨⟨z6, rfl, hz6⟩, k6⟩
   have KW := KW.trans k6 (fun _ h _ => h)
   have BA := k6.blk BA (fun h => h)
   have ZB := ZB.keeps k6
   clear hc k6 ae14
   try dsimp only
   cases z6 with
   | false =>
    obtain ⟨u120, hu120⟩ := ZB.cell 12 (by omega)
    have hr120 := ZB.free 12
    have ZB1 := ZB.set_name
    obtain ⟨u140, hu140⟩ := ZB.cell 14 (by omega)
    have hr140 := ZB.free 14
    obtain ⟨u141, hu141⟩ := ZB1.cell 14 (by omega)
    have hr141 := ZB1.free 14
    have ZB2 := ZB1.set_args
    go_upto_region 26 with fail
    any_goals try (rename_i hfz; simp [hr120, hr140, hr141] at hfz; done)
    clear hu120 hr120 hu140 hr140 hu141 hr141
    clear ZB1
    have ZB := ZB2
    clear ZB2
    have KW := ZB.1
    have BA := ZB.2.2.2.1
    generalize World.setCell (World.setCell (w6) ⟨gz, 12, none⟩ (.string ⟨#[]⟩)) ⟨gz, 14, none⟩ (.slice none 0 0) = w7 at *
    obtain ⟨u00, hu00⟩ := ZB.cell 0 (by omega)
    have hr00 := ZB.free 0
    have ZB1 := ZB.set_kind 0
    go_upto_region 27 with fail
    any_goals try (rename_i hfz; simp [hr00] at hfz; done)
    clear hu00 hr00
    have ZB := ZB1
    clear ZB1
    have KW := ZB.1
    have BA := ZB.2.2.2.1
    generalize World.setCell (w7) ⟨gz, 0, none⟩ (.int .i64 0) = wf at *
    have hno : Shut (¬ X) := shut (fun h => by have h2 := hz6.2 ((HQ.out.1 h).2.1); cases h2)
    clear HQ
    obtain ⟨-, -, -, -, cz, BZ, hvz⟩ := ZB
    have agz := agg_ok hvz.len hvz.one
    have hszz : cz.toArray.size = 15 := by simpa using hvz.len
    obtain ⟨y1, y2⟩ := tblk_mid BZ hszz
    clear hvz
    generalize cz.toArray = CZ at *
    repeat (first | go_values | go_skip | go_guarded | go_step | go_upon | go_back)
    go_ret
    exact tells_f hno.out KW
   | true =>
    obtain ⟨u120, hu120⟩ := ZB.cell 12 (by omega)
    have hr120 := ZB.free 12
    have ZB1 := ZB.set_name
    obtain ⟨u140, hu140⟩ := ZB.cell 14 (by omega)
    have hr140 := ZB.free 14
    obtain ⟨u141, hu141⟩ := ZB1.cell 14 (by omega)
    have hr141 := ZB1.free 14
    have ZB2 := ZB1.set_args
    go_upto_region 26 with fail
    any_goals try (rename_i hfz; simp [hr120, hr140, hr141] at hfz; done)
    clear hu120 hr120 hu140 hr140 hu141 hr141
    clear ZB1
    have ZB := ZB2
    clear ZB2
    have KW := ZB.1
    have BA := ZB.2.2.2.1
    generalize World.setCell (World.setCell (w6) ⟨gz, 12, none⟩ (.string ⟨#[]⟩)) ⟨gz, 14, none⟩ (.slice none 0 0) = w7 at *
    obtain ⟨u00, hu00⟩ := ZB.cell 0 (by omega)
    have hr00 := ZB.free 0
    have ZB1 := ZB.set_kind 0
    go_upto_region 27 with fail
    any_goals try (rename_i hfz; simp [hr00] at hfz; done)
    clear hu00 hr00
    have ZB := ZB1
    clear ZB1
    have KW := ZB.1
    have BA := ZB.2.2.2.1
    generalize World.setCell (w7) ⟨gz, 0, none⟩ (.int .i64 0) = wf at *
    obtain ⟨K, hg, hn, BA2, cz, BZ, hvz⟩ := ZB
    have agz := agg_ok hvz.len hvz.one
    have hszz : cz.toArray.size = 15 := by simpa using hvz.len
    obtain ⟨y1, y2⟩ := tblk_mid BZ hszz
    have hc0 := sameValue_any _ zeroVal wf cz valC (hvz.keeps K (fun _ _ h => h) (fun _ h => h)) (zeroVal_is S wf)
    have hc : Calls Tryz.prog 132 #[.agg cz.toArray, .agg #[.int .i64 0, .int .i64 0, .int .i64 0, .string ⟨#[]⟩, .slice none 0 0, .int .i64 0, .int .i64 0, .string ⟨#[]⟩, .slice none 0 0, .int .i64 0, .string ⟨#[]⟩, .slice none 0 0, .string ⟨#[]⟩, .slice none 0 0, .slice none 0 0]] wf (Tells wf _) := hc0
    clear hc0 hvz BA2 hg hn
    generalize cz.toArray = CZ at *
    repeat (first | go_values | go_skip | go_guarded | go_step | go_upon | go_back)
    refine hc.mono ?_
    rintro e w9 ⟨⟨z, rfl, hz⟩, k9⟩
    have HZ : Shut (z = true ↔ X) := shut (by rw [hz, HQ.out]; exact ⟨fun h => ⟨hz5.1 rfl, hz6.1 rfl, h⟩, fun h => h.2.2⟩)
    clear hc hz HQ y1 y2
    dsimp only
    repeat (first | go_values | go_skip | go_guarded | go_step | go_upon | go_back)
    go_ret
    exact tells_z HZ.out (K.trans k9 (fun _ h _ => h))
 by_cases k7 : a_kind = 7
 ·subst k7
  have HQ : Shut (X ↔ (∀ n ∈ a_names, isName n = true) ∧ a_names.length = a_args.length ∧ DoubleP a_name ∧ OprsP a_args ∧ (⟨0, a_a, a_b, a_op, a_place, [], [], []⟩ : ValD) = zeroVal) := shut (by rw [HP.out]; simp [V7])
  clear HP
  obtain ⟨n, hn⟩ : ∃ n, a_names.length = n := ⟨_, rfl⟩
  have hnb : n ≤ bigN := by rw [← hn]; exact ah_names.1
  unfold bigN at hnb
  rw [hn] at GCA HQ
  have HN := shut hn
  clear hn
  obtain ⟨ae0, -, -, -, -, -, ae13, -⟩ := ValB al_a al_b al_place GCA.out BA
  go_upto_region 13 with fail
  clear ae0 ae13
  go_loopw [3, 6, 30] (fun s3 s6 s30 wx => ∃ (t : Nat) (ok : Bool), s30 = .int .i64 t ∧ s3 = .bool ok ∧ t ≤ n ∧ Keeps Nothing wc wx ∧ Shut (ok = true ↔ ∀ s ∈ a_names.take t, isName s = true)) (fun _ _ s30 _ => n - (intOf s30).toNat)
  case atStart => exact ⟨0, true, rfl, rfl, Nat.zero_le _, Keeps.refl _ _, shut (by simp)⟩
  case round =>
   obtain ⟨t, ok, rfl, rfl, ht, KL, HT⟩ := hrel
   have BA := KL.blk BA (fun h => h)
   have ZB := ZB.keeps KL
   have KW := KW.trans KL (fun _ h _ => h)
   by_cases hlt : t < n
   ·obtain ⟨a, ha⟩ : ∃ a, a_names[t]? = some a := ⟨_, List.getElem?_eq_getElem (by rw [HN.out]; exact hlt)⟩
    obtain ⟨g1, o1, rfl, e1, hal⟩ := tx_cell (ah_names.keeps KW (fun _ _ h => h) (fun _ h => h) (fun _ _ _ h => h)) ha
    have hc := fun W => lname_any W a (by unfold bigN at hal; omega)
    have HA := shut ha
    clear ha hal
    have m0 : (0 : Int) ≤ t := by omega
    have m1 : (t : Int) < n := by omega
    obtain ⟨z, hz⟩ : ∃ z, isName a = z := ⟨_, rfl⟩
    rw [hz] at hc
    have HT2 : Shut ((ok && z) = true ↔ ∀ s ∈ a_names.take (t + 1), isName s = true) := shut (by
     rw [Bool.and_eq_true, HT.out, ← hz]
     exact ⟨fun h => all_take (P := fun s => isName s = true) HA.out h.1 h.2, fun h => ⟨fun s hs => h s (List.mem_of_mem_take (by rw [List.take_take, Nat.min_eq_left (Nat.le_succ t)]; exact hs)), h a (List.mem_of_getElem? (i := t) (by rw [List.getElem?_take, if_pos (Nat.lt_succ_self t)]; exact HA.out))⟩⟩)
    clear hz HT
    cases ok with
    | false =>
     clear hc
     go_wp2_with fail
     go_roundw
     case rel => exact ⟨t + 1, false, by go_num, rfl, by omega, KL, HT2⟩
     case measure => simp [intOf]; omega
    | true =>
     go_wp2_with fail
     refine (hc _).mono ?_
     rintro e w1 ⟨rfl, rfl⟩
     clear hc e1
     go_wp2_with fail
     go_roundw
     case rel => exact ⟨t + 1, z, by go_num, rfl, by omega, KL, shut (by simpa using HT2.out)⟩
     case measure => simp [intOf]; omega
   ·obtain rfl : t = n := by omega
    have m1 : ¬ (t : Int) < t := by omega
    have HALL : Shut (ok = true ↔ ∀ s ∈ a_names, isName s = true) := shut (by rw [HT.out, List.take_of_length_le (Nat.le_of_eq HN.out)])
    clear HT
    cases ok with
    | false =>
     obtain ⟨u130, hu130⟩ := ZB.cell 13 (by omega)
     have hr130 := ZB.free 13
     have ZB1 := ZB.set_names
     go_upto_region 19 with fail
     any_goals try (rename_i hfz; simp [hr130] at hfz; done)
     clear hu130 hr130
     have ZB := ZB1
     clear ZB1
     have KW := ZB.1
     have BA := ZB.2.2.2.1
     generalize World.setCell (wr) ⟨gz, 13, none⟩ (.slice none 0 0) = w4 at *
     obtain ⟨u120, hu120⟩ := ZB.cell 12 (by omega)
     have hr120 := ZB.free 12
     have ZB1 := ZB.set_name
     obtain ⟨u140, hu140⟩ := ZB.cell 14 (by omega)
     have hr140 := ZB.free 14
     obtain ⟨u141, hu141⟩ := ZB1.cell 14 (by omega)
     have hr141 := ZB1.free 14
     have ZB2 := ZB1.set_args
     go_upto_region 26 with fail
     any_goals try (rename_i hfz; simp [hr120, hr140, hr141] at hfz; done)
     clear hu120 hr120 hu140 hr140 hu141 hr141
     clear ZB1
     have ZB := ZB2
     clear ZB2
     have KW := ZB.1
     have BA := ZB.2.2.2.1
     generalize World.setCell (World.setCell (w4) ⟨gz, 12, none⟩ (.string ⟨#[]⟩)) ⟨gz, 14, none⟩ (.slice none 0 0) = w6 at *
     obtain ⟨u00, hu00⟩ := ZB.cell 0 (by omega)
     have hr00 := ZB.free 0
     have ZB1 := ZB.set_kind 0
     go_upto_region 27 with fail
     any_goals try (rename_i hfz; simp [hr00] at hfz; done)
     clear hu00 hr00
     have ZB := ZB1
     clear ZB1
     have KW := ZB.1
     have BA := ZB.2.2.2.1
     generalize World.setCell (w6) ⟨gz, 0, none⟩ (.int .i64 0) = wf at *
     have hno : Shut (¬ X) := shut (fun h => by have h2 := HALL.out.2 (HQ.out.1 h).1; cases h2)
     clear HQ
     obtain ⟨-, -, -, -, cz, BZ, hvz⟩ := ZB
     have agz := agg_ok hvz.len hvz.one
     have hszz : cz.toArray.size = 15 := by simpa using hvz.len
     obtain ⟨y1, y2⟩ := tblk_mid BZ hszz
     clear hvz
     generalize cz.toArray = CZ at *
     repeat (first | go_values | go_skip | go_guarded | go_step | go_upon | go_back)
     go_ret
     exact tells_f hno.out KW
    | true =>
     obtain ⟨m, hm⟩ : ∃ m, a_args.length = m := ⟨_, rfl⟩
     rw [hm] at GCA HQ
     have HM2 := shut hm
     clear hm
     by_cases hnm : t = m
     rotate_left
     ·have hne : ¬ (t : Int) = m := by omega
      have hqb : ((t : Int) == m) = false := by rw [beq_eq_false_iff_ne]; exact hne
      obtain ⟨-, -, -, -, -, -, ae13, ae14⟩ := ValB al_a al_b al_place GCA.out BA
      obtain ⟨u130, hu130⟩ := ZB.cell 13 (by omega)
      have hr130 := ZB.free 13
      have ZB1 := ZB.set_names
      go_upto_region 19 with fail
      any_goals try (rename_i hfz; simp [hr130] at hfz; done)
      clear hu130 hr130
      have ZB := ZB1
      clear ZB1
      have KW := ZB.1
      have BA := ZB.2.2.2.1
      generalize World.setCell (wr) ⟨gz, 13, none⟩ (.slice none 0 0) = w4 at *
      obtain ⟨u120, hu120⟩ := ZB.cell 12 (by omega)
      have hr120 := ZB.free 12
      have ZB1 := ZB.set_name
      obtain ⟨u140, hu140⟩ := ZB.cell 14 (by omega)
      have hr140 := ZB.free 14
      obtain ⟨u141, hu141⟩ := ZB1.cell 14 (by omega)
      have hr141 := ZB1.free 14
      have ZB2 := ZB1.set_args
      go_upto_region 26 with fail
      any_goals try (rename_i hfz; simp [hr120, hr140, hr141] at hfz; done)
      clear hu120 hr120 hu140 hr140 hu141 hr141
      clear ZB1
      have ZB := ZB2
      clear ZB2
      have KW := ZB.1
      have BA := ZB.2.2.2.1
      generalize World.setCell (World.setCell (w4) ⟨gz, 12, none⟩ (.string ⟨#[]⟩)) ⟨gz, 14, none⟩ (.slice none 0 0) = w6 at *
      obtain ⟨u00, hu00⟩ := ZB.cell 0 (by omega)
      have hr00 := ZB.free 0
      have ZB1 := ZB.set_kind 0
      go_upto_region 27 with fail
      any_goals try (rename_i hfz; simp [hr00] at hfz; done)
      clear hu00 hr00
      have ZB := ZB1
      clear ZB1
      have KW := ZB.1
      have BA := ZB.2.2.2.1
      generalize World.setCell (w6) ⟨gz, 0, none⟩ (.int .i64 0) = wf at *
      have hno : Shut (¬ X) := shut (fun h => by exact hnm (HQ.out.1 h).2.1)
      clear HQ
      obtain ⟨-, -, -, -, cz, BZ, hvz⟩ := ZB
      have agz := agg_ok hvz.len hvz.one
      have hszz : cz.toArray.size = 15 := by simpa using hvz.len
      obtain ⟨y1, y2⟩ := tblk_mid BZ hszz
      clear hvz
      generalize cz.toArray = CZ at *
      repeat (first | go_values | go_skip | go_guarded | go_step | go_upon | go_back)
      go_ret
      exact tells_f hno.out KW
     subst hnm
     obtain ⟨-, -, -, -, -, -, ae13, ae14⟩ := ValB al_a al_b al_place GCA.out BA
     obtain ⟨u130, hu130⟩ := ZB.cell 13 (by omega)
     have hr130 := ZB.free 13
     have ZB1 := ZB.set_names
     go_upto_region 19 with fail
     any_goals try (rename_i hfz; simp [hr130] at hfz; done)
     clear hu130 hr130
     have ZB := ZB1
     clear ZB1
     have KW := ZB.1
     have BA := ZB.2.2.2.1
     generalize World.setCell (wr) ⟨gz, 13, none⟩ (.slice none 0 0) = w4 at *
     clear ae13 ae14
     rw [← HM2.out] at GCA
     obtain ⟨-, -, -, -, -, ae12, -, -⟩ := ValB al_a al_b al_place GCA.out BA
     unfold txV at *
     have hc := double_any w4 (HM.out.keeps KW) a_name ah_name
     try dsimp only
     repeat (first | go_values | go_skip | go_guarded | go_step | go_upon | go_back)
     refine hc.mono ?_
     rintro e w5 ⟨⟨z5, rfl, hz5⟩, k5⟩
     have KW := KW.trans k5 (fun _ h _ => h)
     have BA := k5.blk BA (fun h => h)
     have ZB := ZB.keeps k5
     clear hc k5 ae12
     cases z5 with
     | false =>
      obtain ⟨u120, hu120⟩ := ZB.cell 12 (by omega)
      have hr120 := ZB.free 12
      have ZB1 := ZB.set_name
      obtain ⟨u140, hu140⟩ := ZB.cell 14 (by omega)
      have hr140 := ZB.free 14
      obtain ⟨u141, hu141⟩ := ZB1.cell 14 (by omega)
      have hr141 := ZB1.free 14
      have ZB2 := ZB1.set_args
      go_upto_region 26 with fail
      any_goals try (rename_i hfz; simp [hr120, hr140, hr141] at hfz; done)
      clear hu120 hr120 hu140 hr140 hu141 hr141
      clear ZB1
      have ZB := ZB2
      clear ZB2
      have KW := ZB.1
      have BA := ZB.2.2.2.1
      generalize World.setCell (World.setCell (w5) ⟨gz, 12, none⟩ (.string ⟨#[]⟩)) ⟨gz, 14, none⟩ (.slice none 0 0) = w6 at *
      obtain ⟨u00, hu00⟩ := ZB.cell 0 (by omega)
      have hr00 := ZB.free 0
      have ZB1 := ZB.set_kind 0
      go_upto_region 27 with fail
      any_goals try (rename_i hfz; simp [hr00] at hfz; done)
      clear hu00 hr00
      have ZB := ZB1
      clear ZB1
      have KW := ZB.1
      have BA := ZB.2.2.2.1
      generalize World.setCell (w6) ⟨gz, 0, none⟩ (.int .i64 0) = wf at *
      have hno : Shut (¬ X) := shut (fun h => by have h2 := hz5.2 ((HQ.out.1 h).2.2.1); cases h2)
      clear HQ
      obtain ⟨-, -, -, -, cz, BZ, hvz⟩ := ZB
      have agz := agg_ok hvz.len hvz.one
      have hszz : cz.toArray.size = 15 := by simpa using hvz.len
      obtain ⟨y1, y2⟩ := tblk_mid BZ hszz
      clear hvz
      generalize cz.toArray = CZ at *
      repeat (first | go_values | go_skip | go_guarded | go_step | go_upon | go_back)
      go_ret
      exact tells_f hno.out KW
     | true =>
      obtain ⟨-, -, -, -, -, -, -, ae14⟩ := ValB al_a al_b al_place GCA.out BA
      have hc := opers_any w5 q14 (ah_args.keeps KW (fun _ _ h => h) (fun _ h => h) (fun _ _ _ h => h.keeps KW (fun _ _ h => h) (fun _ h => h)))
      try dsimp only
      repeat (first | go_values | go_skip | go_guarded | go_step | go_upon | go_back)
      refine hc.mono ?_
      rintro e w6 ⟨⟨z6, rfl, hz6⟩, k6⟩
      have KW := KW.trans k6 (fun _ h _ => h)
      have BA := k6.blk BA (fun h => h)
      have ZB := ZB.keeps k6
      clear hc k6 ae14
      try dsimp only
      cases z6 with
      | false =>
       obtain ⟨u120, hu120⟩ := ZB.cell 12 (by omega)
       have hr120 := ZB.free 12
       have ZB1 := ZB.set_name
       obtain ⟨u140, hu140⟩ := ZB.cell 14 (by omega)
       have hr140 := ZB.free 14
       obtain ⟨u141, hu141⟩ := ZB1.cell 14 (by omega)
       have hr141 := ZB1.free 14
       have ZB2 := ZB1.set_args
       go_upto_region 26 with fail
       any_goals try (rename_i hfz; simp [hr120, hr140, hr141] at hfz; done)
       clear hu120 hr120 hu140 hr140 hu141 hr141
       clear ZB1
       have ZB := ZB2
       clear ZB2
       have KW := ZB.1
       have BA := ZB.2.2.2.1
       generalize World.setCell (World.setCell (w6) ⟨gz, 12, none⟩ (.string ⟨#[]⟩)) ⟨gz, 14, none⟩ (.slice none 0 0) = w7 at *
       obtain ⟨u00, hu00⟩ := ZB.cell 0 (by omega)
       have hr00 := ZB.free 0
       have ZB1 := ZB.set_kind 0
       go_upto_region 27 with fail
       any_goals try (rename_i hfz; simp [hr00] at hfz; done)
       clear hu00 hr00
       have ZB := ZB1
       clear ZB1
       have KW := ZB.1
       have BA := ZB.2.2.2.1
       generalize World.setCell (w7) ⟨gz, 0, none⟩ (.int .i64 0) = wf at *
       have hno : Shut (¬ X) := shut (fun h => by have h2 := hz6.2 ((HQ.out.1 h).2.2.2.1); cases h2)
       clear HQ
       obtain ⟨-, -, -, -, cz, BZ, hvz⟩ := ZB
       have agz := agg_ok hvz.len hvz.one
       have hszz : cz.toArray.size = 15 := by simpa using hvz.len
       obtain ⟨y1, y2⟩ := tblk_mid BZ hszz
       clear hvz
       generalize cz.toArray = CZ at *
       repeat (first | go_values | go_skip | go_guarded | go_step | go_upon | go_back)
       go_ret
       exact tells_f hno.out KW
      | true =>
       obtain ⟨u120, hu120⟩ := ZB.cell 12 (by omega)
       have hr120 := ZB.free 12
       have ZB1 := ZB.set_name
       obtain ⟨u140, hu140⟩ := ZB.cell 14 (by omega)
       have hr140 := ZB.free 14
       obtain ⟨u141, hu141⟩ := ZB1.cell 14 (by omega)
       have hr141 := ZB1.free 14
       have ZB2 := ZB1.set_args
       go_upto_region 26 with fail
       any_goals try (rename_i hfz; simp [hr120, hr140, hr141] at hfz; done)
       clear hu120 hr120 hu140 hr140 hu141 hr141
       clear ZB1
       have ZB := ZB2
       clear ZB2
       have KW := ZB.1
       have BA := ZB.2.2.2.1
       generalize World.setCell (World.setCell (w6) ⟨gz, 12, none⟩ (.string ⟨#[]⟩)) ⟨gz, 14, none⟩ (.slice none 0 0) = w7 at *
       obtain ⟨u00, hu00⟩ := ZB.cell 0 (by omega)
       have hr00 := ZB.free 0
       have ZB1 := ZB.set_kind 0
       go_upto_region 27 with fail
       any_goals try (rename_i hfz; simp [hr00] at hfz; done)
       clear hu00 hr00
       have ZB := ZB1
       clear ZB1
       have KW := ZB.1
       have BA := ZB.2.2.2.1
       generalize World.setCell (w7) ⟨gz, 0, none⟩ (.int .i64 0) = wf at *
       obtain ⟨K, hg, hn, BA2, cz, BZ, hvz⟩ := ZB
       have agz := agg_ok hvz.len hvz.one
       have hszz : cz.toArray.size = 15 := by simpa using hvz.len
       obtain ⟨y1, y2⟩ := tblk_mid BZ hszz
       have hc0 := sameValue_any _ zeroVal wf cz valC (hvz.keeps K (fun _ _ h => h) (fun _ h => h)) (zeroVal_is S wf)
       have hc : Calls Tryz.prog 132 #[.agg cz.toArray, .agg #[.int .i64 0, .int .i64 0, .int .i64 0, .string ⟨#[]⟩, .slice none 0 0, .int .i64 0, .int .i64 0, .string ⟨#[]⟩, .slice none 0 0, .int .i64 0, .string ⟨#[]⟩, .slice none 0 0, .string ⟨#[]⟩, .slice none 0 0, .slice none 0 0]] wf (Tells wf _) := hc0
       clear hc0 hvz BA2 hg hn
       generalize cz.toArray = CZ at *
       repeat (first | go_values | go_skip | go_guarded | go_step | go_upon | go_back)
       refine hc.mono ?_
       rintro e w9 ⟨⟨z, rfl, hz⟩, k9⟩
       have HZ : Shut (z = true ↔ X) := shut (by rw [hz, HQ.out]; exact ⟨fun h => ⟨HALL.out.1 rfl, rfl, hz5.1 rfl, hz6.1 rfl, h⟩, fun h => h.2.2.2.2⟩)
       clear hc hz HQ y1 y2
       dsimp only
       repeat (first | go_values | go_skip | go_guarded | go_step | go_upon | go_back)
       go_ret
       exact tells_z HZ.out (K.trans k9 (fun _ h _ => h))
 have hno : Shut (¬ X) := shut (fun h => by have h2 := HP.out.1 h; simp [k1, k2, k3, k4, k5, k6, k7] at h2)
 clear HP
 obtain ⟨ae0, -, -, -, -, -, -, -⟩ := ValB al_a al_b al_place GCA.out BA
 go_wp2_with fail
 go_ret
 exact tells_f hno.out KW
end Go.Proofs.YtjbcagbnagefcaaGreat
namespace Go.Proofs.YtjbcagbnagefcaaGreat
open Go.RowKit
attribute [local go_sem ↓] exec_mid_ty exec_store_ty exec_mid_pl exec_store_pl exec_mid_opr exec_store_opr exec_mid_val exec_store_val exec_mid_st exec_store_st exec_mid_fld exec_store_fld exec_mid_str exec_store_str exec_mid_lif exec_store_lif exec_mid_fun exec_store_fun exec_mid_cr exec_store_cr
attribute [local go_sem] rowOk_new World.setRow_alloc_new
def VldP (s : StD) : Prop := s.has = true → ValP s.val
set_option maxRecDepth 100000 in
set_option maxHeartbeats 4000000 in
theorem valued_any {S : Nat → Prop} (a : StD) (w : World) (hM : MaxV w) (cs : List Value) (ha : StIs S w a cs) : Calls Tryz.prog 124 #[.agg cs.toArray] w (Tells w (VldP a)) := by
 obtain ⟨a_kind, a_pos, a_mu, a_name, a_ty, a_has, a_place, a_val, a_cond, a_thn, a_els⟩ := a
 have HP : Shut (VldP (.mk a_kind a_pos a_mu a_name a_ty a_has a_place a_val a_cond a_thn a_els) ↔ (a_has = true → ValP a_val)) := shut Iff.rfl
 obtain ⟨X, hX⟩ : ∃ X, X = VldP (.mk a_kind a_pos a_mu a_name a_ty a_has a_place a_val a_cond a_thn a_els) := ⟨_, rfl⟩
 rw [← hX] at HP ⊢
 clear hX
 have HM := shut hM
 clear hM
 have ag1 := agg_ok ha.len ha.one
 rw [stIs_iff] at ha
 obtain ⟨s4, s9, s11, s26, p30, q30, p31, q31, hcs, ah_name, ah_ty, ah_place, ah_val, ah_cond, ah_thn, ah_els⟩ := ha
 have HCA := shut hcs
 clear hcs
 simp only [StD.kind, StD.pos, StD.mu, StD.name, StD.ty, StD.has, StD.place, StD.val, StD.cond, StD.thn, StD.els] at ah_name ah_ty ah_place ah_val ah_cond ah_thn ah_els HCA
 obtain ⟨CA, hCA⟩ : ∃ C, C = cs.toArray := ⟨_, rfl⟩
 rw [← hCA] at ag1 ⊢
 rw [HCA.out] at hCA
 have GCA := shut hCA
 clear hCA HCA
 have al_ty := ah_ty.len
 have al_place := ah_place.len
 have al_val := ah_val.len
 have al_cond := ah_cond.len
 have KW : Keeps Nothing w (w.alloc (.cells CA 121)) := (Keeps.refl Nothing w).alloc _
 have BA := blk_new w CA 121
 go_enter Tryz.func124, Tryz.ntmps124
 go_upto_region 1 with fail
 clear ag1
 generalize w.heap.size = ga at *
 generalize w.alloc (.cells CA 121) = wb at *
 obtain ⟨-, -, -, -, -, ae8, -, ⟨ae11, af11⟩, -, -, -⟩ := StB al_ty al_place al_val al_cond GCA.out BA
 cases a_has with
 | false =>
  have hy : Shut X := shut (HP.out.2 (fun h => by cases h))
  clear HP
  go_wp2_with fail
  go_ret
  exact tells_t hy.out KW
 | true =>
  have hc := value_any a_val wb (HM.out.keeps KW) s11 (ah_val.keeps KW (fun _ _ h => h) (fun _ h => h))
  go_wp2_with fail
  refine hc.mono ?_
  rintro e w1 ⟨⟨z, rfl, hz⟩, k1⟩
  have KW := KW.trans k1 (fun _ h _ => h)
  have BA := k1.blk BA (fun h => h)
  have HZ : Shut (z = true ↔ X) := shut (by rw [hz, HP.out]; exact ⟨fun h _ => h, fun h => h (by first | rfl | trivial)⟩)
  clear hc hz k1 ae8 ae11 af11 HP
  obtain ⟨-, -, -, -, -, ae8, -, -, -, -, -⟩ := StB al_ty al_place al_val al_cond GCA.out BA
  cases z with
  | false =>
   go_wp2_with fail
   go_ret
   exact tells_f (fun h => by have h2 := HZ.out.2 h; cases h2) KW
  | true =>
   have hy : Shut X := shut (HZ.out.1 rfl)
   clear HZ
   go_wp2_with fail
   go_ret
   exact tells_t hy.out KW
end Go.Proofs.YtjbcagbnagefcaaGreat
namespace Go.Proofs.YtjbcagbnagefcaaGreat
open Go.RowKit
attribute [local go_sem ↓] exec_mid_ty exec_store_ty exec_mid_pl exec_store_pl exec_mid_opr exec_store_opr exec_mid_val exec_store_val exec_mid_st exec_store_st exec_mid_fld exec_store_fld exec_mid_str exec_store_str exec_mid_lif exec_store_lif exec_mid_fun exec_store_fun exec_mid_cr exec_store_cr
attribute [local go_sem] rowOk_new World.setRow_alloc_new
theorem build_valS (ρ : Operand → Value) (dst : Option Tmp) (ty' : TypeId) (pos : String) (af : Array Edge) (gd : Option (Nat × Bool)) (w : World) :
  (execOp ρ ⟨dst, .build 119 #[], ty', pos, af, gd⟩).run Tryz.prog w = .ok (.value (.agg #[.int .i64 0, .int .i64 0, .int .i64 0, .string ⟨#[]⟩, .slice none 0 0, .int .i64 0, .int .i64 0, .string ⟨#[]⟩, .slice none 0 0, .int .i64 0, .string ⟨#[]⟩, .slice none 0 0, .string ⟨#[]⟩, .slice none 0 0, .slice none 0 0])) w := by
 kernel_rfl
theorem build_st (ρ : Operand → Value) (dst : Option Tmp) (ty' : TypeId) (pos : String) (af : Array Edge) (gd : Option (Nat × Bool)) (w : World) :
  (execOp ρ ⟨dst, .build 121 #[], ty', pos, af, gd⟩).run Tryz.prog w = .ok (.value (.agg #[.int .i64 0, .int .i64 0, .bool false, .string ⟨#[]⟩, .int .i64 0, .string ⟨#[]⟩, .slice none 0 0, .slice none 0 0, .bool false, .string ⟨#[]⟩, .slice none 0 0, .int .i64 0, .int .i64 0, .int .i64 0, .string ⟨#[]⟩, .slice none 0 0, .int .i64 0, .int .i64 0, .string ⟨#[]⟩, .slice none 0 0, .int .i64 0, .string ⟨#[]⟩, .slice none 0 0, .string ⟨#[]⟩, .slice none 0 0, .slice none 0 0, .int .i64 0, .int .i64 0, .string ⟨#[]⟩, .slice none 0 0, .slice none 0 0, .slice none 0 0])) w := by
 kernel_rfl
attribute [local go_sem ↓] exec_into_pl exec_into_opr exec_into_ty exec_into_val build_valS build_st
theorem blkr_v {w : World} {gr gz : Nat} {C : Array Value} {t : TypeId} (h : Blk w gr C t) (hn : gr ≠ gz) : Blk (midSet (World.setCell w ⟨gz, 8, none⟩ (.bool false)) gz 11 #[.int .i64 0, .int .i64 0, .int .i64 0, .string ⟨#[]⟩, .slice none 0 0, .int .i64 0, .int .i64 0, .string ⟨#[]⟩, .slice none 0 0, .int .i64 0, .string ⟨#[]⟩, .slice none 0 0, .string ⟨#[]⟩, .slice none 0 0, .slice none 0 0]) gr C t := blk_setRow_other (blk_other h ⟨gz, 8, none⟩ hn _) hn
theorem blkr_e {w : World} {gr gz : Nat} {C : Array Value} {t : TypeId} (h : Blk w gr C t) (hn : gr ≠ gz) : Blk (World.setCell (World.setCell w ⟨gz, 8, none⟩ (.bool false)) ⟨gz, 31, none⟩ (.slice none 0 0)) gr C t := blk_other (blk_other h ⟨gz, 8, none⟩ hn _) ⟨gz, 31, none⟩ hn _
def optD (a z : StD) : StD :=
 if a.has = true then
  (if a.kind = 1 ∨ a.kind = 10 then .mk z.kind z.pos z.mu z.name z.ty false z.place zeroVal z.cond z.thn z.els
   else if a.kind = 4 then .mk z.kind z.pos z.mu z.name z.ty false z.place z.val z.cond z.thn []
   else z)
 else z
set_option maxRecDepth 100000 in
set_option linter.unusedSimpArgs false in
set_option maxHeartbeats 8000000 in
theorem optional_any {S : Nat → Prop} (a z : StD) (w : World) (cs ds : List Value) (ha : StIs S w a cs) (hz : StIs S w z ds) : Calls Tryz.prog 129 #[.agg cs.toArray, .agg ds.toArray] w (fun e w' => Keeps Nothing w w' ∧ ∃ es : List Value, e = .returned (.agg es.toArray) ∧ StIs S w' (optD a z) es) := by
 have HZ0 := shut hz
 have agy := agg_ok hz.len hz.one
 clear hz
 obtain ⟨a_kind, a_pos, a_mu, a_name, a_ty, a_has, a_place, a_val, a_cond, a_thn, a_els⟩ := a
 obtain ⟨z_kind, z_pos, z_mu, z_name, z_ty, z_has, z_place, z_val, z_cond, z_thn, z_els⟩ := z
 have HP : Shut (optD (.mk a_kind a_pos a_mu a_name a_ty a_has a_place a_val a_cond a_thn a_els) (.mk z_kind z_pos z_mu z_name z_ty z_has z_place z_val z_cond z_thn z_els) = if a_has = true then (if a_kind = 1 ∨ a_kind = 10 then .mk z_kind z_pos z_mu z_name z_ty false z_place zeroVal z_cond z_thn z_els else if a_kind = 4 then .mk z_kind z_pos z_mu z_name z_ty false z_place z_val z_cond z_thn [] else .mk z_kind z_pos z_mu z_name z_ty z_has z_place z_val z_cond z_thn z_els) else .mk z_kind z_pos z_mu z_name z_ty z_has z_place z_val z_cond z_thn z_els) := shut rfl
 obtain ⟨X, hX⟩ : ∃ X, X = optD (.mk a_kind a_pos a_mu a_name a_ty a_has a_place a_val a_cond a_thn a_els) (.mk z_kind z_pos z_mu z_name z_ty z_has z_place z_val z_cond z_thn z_els) := ⟨_, rfl⟩
 rw [← hX] at HP ⊢
 clear hX
 have ag1 := agg_ok ha.len ha.one
 rw [stIs_iff] at ha
 obtain ⟨s4, s9, s11, s26, p30, q30, p31, q31, hcs, ah_name, ah_ty, ah_place, ah_val, ah_cond, ah_thn, ah_els⟩ := ha
 have HCA := shut hcs
 clear hcs
 simp only [StD.kind, StD.pos, StD.mu, StD.name, StD.ty, StD.has, StD.place, StD.val, StD.cond, StD.thn, StD.els] at HCA
 have al_ty := ah_ty.len
 have al_place := ah_place.len
 have al_val := ah_val.len
 have al_cond := ah_cond.len
 clear ah_name ah_ty ah_place ah_val ah_cond ah_thn ah_els
 obtain ⟨CA, hCA⟩ : ∃ C, C = cs.toArray := ⟨_, rfl⟩
 rw [← hCA] at ag1 ⊢
 rw [HCA.out] at hCA
 have GCA := shut hCA
 clear hCA HCA
 obtain ⟨CD, hCD⟩ : ∃ C, C = ds.toArray := ⟨_, rfl⟩
 rw [← hCD] at agy ⊢
 have HCD := shut hCD
 clear hCD
 go_enter Tryz.func129, Tryz.ntmps129
 go_upto_region 1 with fail
 clear ag1 agy
 have s1 : (w.alloc (.cells CA 121)).heap.size = w.heap.size + 1 := World.size_alloc _ _
 have BA := blk_alloc (blk_alloc (blk_new w CA 121) (.cells CD 121)) (.cells #[.int .i64 0, .int .i64 0, .bool false, .string ⟨#[]⟩, .int .i64 0, .string ⟨#[]⟩, .slice none 0 0, .slice none 0 0, .bool false, .string ⟨#[]⟩, .slice none 0 0, .int .i64 0, .int .i64 0, .int .i64 0, .string ⟨#[]⟩, .slice none 0 0, .int .i64 0, .int .i64 0, .string ⟨#[]⟩, .slice none 0 0, .int .i64 0, .string ⟨#[]⟩, .slice none 0 0, .string ⟨#[]⟩, .slice none 0 0, .slice none 0 0, .int .i64 0, .int .i64 0, .string ⟨#[]⟩, .slice none 0 0, .slice none 0 0, .slice none 0 0] 121)
 have KW : Keeps Nothing w (((w.alloc (.cells CA 121)).alloc (.cells CD 121)).alloc (.cells #[.int .i64 0, .int .i64 0, .bool false, .string ⟨#[]⟩, .int .i64 0, .string ⟨#[]⟩, .slice none 0 0, .slice none 0 0, .bool false, .string ⟨#[]⟩, .slice none 0 0, .int .i64 0, .int .i64 0, .int .i64 0, .string ⟨#[]⟩, .slice none 0 0, .int .i64 0, .int .i64 0, .string ⟨#[]⟩, .slice none 0 0, .int .i64 0, .string ⟨#[]⟩, .slice none 0 0, .string ⟨#[]⟩, .slice none 0 0, .slice none 0 0, .int .i64 0, .int .i64 0, .string ⟨#[]⟩, .slice none 0 0, .slice none 0 0, .slice none 0 0] 121)) := (((Keeps.refl Nothing w).alloc _).alloc _).alloc _
 have BR := blk_new ((w.alloc (.cells CA 121)).alloc (.cells CD 121)) #[.int .i64 0, .int .i64 0, .bool false, .string ⟨#[]⟩, .int .i64 0, .string ⟨#[]⟩, .slice none 0 0, .slice none 0 0, .bool false, .string ⟨#[]⟩, .slice none 0 0, .int .i64 0, .int .i64 0, .int .i64 0, .string ⟨#[]⟩, .slice none 0 0, .int .i64 0, .int .i64 0, .string ⟨#[]⟩, .slice none 0 0, .int .i64 0, .string ⟨#[]⟩, .slice none 0 0, .string ⟨#[]⟩, .slice none 0 0, .slice none 0 0, .int .i64 0, .int .i64 0, .string ⟨#[]⟩, .slice none 0 0, .slice none 0 0, .slice none 0 0] 121
 have BZ := blk_alloc (blk_new (w.alloc (.cells CA 121)) CD 121) (.cells #[.int .i64 0, .int .i64 0, .bool false, .string ⟨#[]⟩, .int .i64 0, .string ⟨#[]⟩, .slice none 0 0, .slice none 0 0, .bool false, .string ⟨#[]⟩, .slice none 0 0, .int .i64 0, .int .i64 0, .int .i64 0, .string ⟨#[]⟩, .slice none 0 0, .int .i64 0, .int .i64 0, .string ⟨#[]⟩, .slice none 0 0, .int .i64 0, .string ⟨#[]⟩, .slice none 0 0, .string ⟨#[]⟩, .slice none 0 0, .slice none 0 0, .int .i64 0, .int .i64 0, .string ⟨#[]⟩, .slice none 0 0, .slice none 0 0, .slice none 0 0] 121)
 rw [World.size_alloc, World.size_alloc] at BR
 rw [World.size_alloc] at BZ
 have hgr : w.heap.size ≤ w.heap.size + 1 + 1 := by omega
 have hrz : w.heap.size + 1 + 1 ≠ w.heap.size + 1 := by omega
 have ZB : StB2 S w (((w.alloc (.cells CA 121)).alloc (.cells CD 121)).alloc (.cells #[.int .i64 0, .int .i64 0, .bool false, .string ⟨#[]⟩, .int .i64 0, .string ⟨#[]⟩, .slice none 0 0, .slice none 0 0, .bool false, .string ⟨#[]⟩, .slice none 0 0, .int .i64 0, .int .i64 0, .int .i64 0, .string ⟨#[]⟩, .slice none 0 0, .int .i64 0, .int .i64 0, .string ⟨#[]⟩, .slice none 0 0, .int .i64 0, .string ⟨#[]⟩, .slice none 0 0, .string ⟨#[]⟩, .slice none 0 0, .slice none 0 0, .int .i64 0, .int .i64 0, .string ⟨#[]⟩, .slice none 0 0, .slice none 0 0, .slice none 0 0] 121)) w.heap.size CA (w.heap.size + 1) (.mk z_kind z_pos z_mu z_name z_ty z_has z_place z_val z_cond z_thn z_els) := ⟨KW, by omega, by omega, BA, ds, by rw [← HCD.out]; exact BZ, HZ0.out⟩
 clear BZ s1
 generalize ((w.alloc (.cells CA 121)).alloc (.cells CD 121)).alloc (.cells #[.int .i64 0, .int .i64 0, .bool false, .string ⟨#[]⟩, .int .i64 0, .string ⟨#[]⟩, .slice none 0 0, .slice none 0 0, .bool false, .string ⟨#[]⟩, .slice none 0 0, .int .i64 0, .int .i64 0, .int .i64 0, .string ⟨#[]⟩, .slice none 0 0, .int .i64 0, .int .i64 0, .string ⟨#[]⟩, .slice none 0 0, .int .i64 0, .string ⟨#[]⟩, .slice none 0 0, .string ⟨#[]⟩, .slice none 0 0, .slice none 0 0, .int .i64 0, .int .i64 0, .string ⟨#[]⟩, .slice none 0 0, .slice none 0 0, .slice none 0 0] 121) = wc at *
 generalize hgr2 : w.heap.size + 1 + 1 = gr at *
 generalize hgz2 : w.heap.size + 1 = gz at *
 generalize hga2 : w.heap.size = ga at *
 have HGR : Shut (w.heap.size ≤ gr) := shut (by rw [hga2]; exact hgr)
 clear hga2 hgr2 hgz2 hgr
 by_cases hh : a_has = false
 ·subst hh
  have HO : Shut (X = .mk z_kind z_pos z_mu z_name z_ty z_has z_place z_val z_cond z_thn z_els) := shut (by rw [HP.out]; rfl)
  clear HP
  obtain ⟨-, -, -, -, -, ae8, -, -, -, -, -⟩ := StB al_ty al_place al_val al_cond GCA.out BA
  obtain ⟨K, hg, hn, BA2, cz, BZ, hvz⟩ := ZB
  have agz := agg_ok hvz.len hvz.one
  have hszz : cz.toArray.size = 32 := by simpa using hvz.len
  obtain ⟨y1, y2⟩ := tblk_mid BZ hszz
  have y3 := rowOk_blk BR (n := 32) rfl
  have HV := shut hvz
  clear hvz BA2 hg hn
  generalize hCZ : cz.toArray = CZ at *
  repeat (first | go_values | go_skip | go_guarded | go_step | go_upon | go_back)
  refine bodyPost_ret (v := .agg CZ) (results_cell_row rfl _ _ gr _ CZ (0, 0) _ rfl (blk_setRow (cs := CZ) BR) Tryz.underlying121 rfl (by rw [infoSt, hszz])) rfl ?_
  have K2 := K.setRow (g := gr) (fun h => absurd h (Nat.not_lt.2 HGR.out)) CZ
  refine ⟨K2, cz, by rw [hCZ], ?_⟩
  rw [HO.out]
  exact HV.out.keeps K2 (fun _ _ h => h) (fun _ h => h)
 obtain rfl : a_has = true := by cases a_has with | false => exact absurd rfl hh | true => rfl
 clear hh
 by_cases k1 : a_kind = 1
 ·subst k1
  have HO : Shut (X = .mk z_kind z_pos z_mu z_name z_ty false z_place zeroVal z_cond z_thn z_els) := shut (by rw [HP.out]; simp)
  clear HP
  obtain ⟨ae0, -, -, -, -, ae8, -, -, -, -, -⟩ := StB al_ty al_place al_val al_cond GCA.out BA
  obtain ⟨u80, hu80⟩ := ZB.cell 8 (by omega)
  have hr80 := ZB.free 8
  have ZB1 := ZB.set_has false
  have hf110 := ZB.fit 11 15 (by omega)
  have hf111 := ZB1.fit 11 15 (by omega)
  have hg11 : aggOk 15 (.agg #[.int .i64 0, .int .i64 0, .int .i64 0, .string ⟨#[]⟩, .slice none 0 0, .int .i64 0, .int .i64 0, .string ⟨#[]⟩, .slice none 0 0, .int .i64 0, .string ⟨#[]⟩, .slice none 0 0, .string ⟨#[]⟩, .slice none 0 0, .slice none 0 0]) = true := agg_ok (zeroVal_is S w).len (zeroVal_is S w).one
  have ZB2 := ZB1.set_val
  go_upto_region 9 with fail
  any_goals try (rename_i hfz; simp [hr80] at hfz; done)
  clear hu80 hr80 hf110 hf111 hg11
  clear ZB1
  have ZB := ZB2
  clear ZB2
  have KW := ZB.1
  have BA := ZB.2.2.2.1
  have BR := blkr_v BR hrz
  generalize midSet (World.setCell (wc) ⟨gz, 8, none⟩ (.bool false)) gz 11 #[.int .i64 0, .int .i64 0, .int .i64 0, .string ⟨#[]⟩, .slice none 0 0, .int .i64 0, .int .i64 0, .string ⟨#[]⟩, .slice none 0 0, .int .i64 0, .string ⟨#[]⟩, .slice none 0 0, .string ⟨#[]⟩, .slice none 0 0, .slice none 0 0] = wd at *
  clear ae0 ae8
  obtain ⟨K, hg, hn, BA2, cz, BZ, hvz⟩ := ZB
  have agz := agg_ok hvz.len hvz.one
  have hszz : cz.toArray.size = 32 := by simpa using hvz.len
  obtain ⟨y1, y2⟩ := tblk_mid BZ hszz
  have y3 := rowOk_blk BR (n := 32) rfl
  have HV := shut hvz
  clear hvz BA2 hg hn
  generalize hCZ : cz.toArray = CZ at *
  repeat (first | go_values | go_skip | go_guarded | go_step | go_upon | go_back)
  refine bodyPost_ret (v := .agg CZ) (results_cell_row rfl _ _ gr _ CZ (0, 0) _ rfl (blk_setRow (cs := CZ) BR) Tryz.underlying121 rfl (by rw [infoSt, hszz])) rfl ?_
  have K2 := K.setRow (g := gr) (fun h => absurd h (Nat.not_lt.2 HGR.out)) CZ
  refine ⟨K2, cz, by rw [hCZ], ?_⟩
  rw [HO.out]
  exact HV.out.keeps K2 (fun _ _ h => h) (fun _ h => h)
 by_cases k10 : a_kind = 10
 ·subst k10
  have HO : Shut (X = .mk z_kind z_pos z_mu z_name z_ty false z_place zeroVal z_cond z_thn z_els) := shut (by rw [HP.out]; simp)
  clear HP
  obtain ⟨ae0, -, -, -, -, ae8, -, -, -, -, -⟩ := StB al_ty al_place al_val al_cond GCA.out BA
  obtain ⟨u80, hu80⟩ := ZB.cell 8 (by omega)
  have hr80 := ZB.free 8
  have ZB1 := ZB.set_has false
  have hf110 := ZB.fit 11 15 (by omega)
  have hf111 := ZB1.fit 11 15 (by omega)
  have hg11 : aggOk 15 (.agg #[.int .i64 0, .int .i64 0, .int .i64 0, .string ⟨#[]⟩, .slice none 0 0, .int .i64 0, .int .i64 0, .string ⟨#[]⟩, .slice none 0 0, .int .i64 0, .string ⟨#[]⟩, .slice none 0 0, .string ⟨#[]⟩, .slice none 0 0, .slice none 0 0]) = true := agg_ok (zeroVal_is S w).len (zeroVal_is S w).one
  have ZB2 := ZB1.set_val
  go_upto_region 9 with fail
  any_goals try (rename_i hfz; simp [hr80] at hfz; done)
  clear hu80 hr80 hf110 hf111 hg11
  clear ZB1
  have ZB := ZB2
  clear ZB2
  have KW := ZB.1
  have BA := ZB.2.2.2.1
  have BR := blkr_v BR hrz
  generalize midSet (World.setCell (wc) ⟨gz, 8, none⟩ (.bool false)) gz 11 #[.int .i64 0, .int .i64 0, .int .i64 0, .string ⟨#[]⟩, .slice none 0 0, .int .i64 0, .int .i64 0, .string ⟨#[]⟩, .slice none 0 0, .int .i64 0, .string ⟨#[]⟩, .slice none 0 0, .string ⟨#[]⟩, .slice none 0 0, .slice none 0 0] = wd at *
  clear ae0 ae8
  obtain ⟨K, hg, hn, BA2, cz, BZ, hvz⟩ := ZB
  have agz := agg_ok hvz.len hvz.one
  have hszz : cz.toArray.size = 32 := by simpa using hvz.len
  obtain ⟨y1, y2⟩ := tblk_mid BZ hszz
  have y3 := rowOk_blk BR (n := 32) rfl
  have HV := shut hvz
  clear hvz BA2 hg hn
  generalize hCZ : cz.toArray = CZ at *
  repeat (first | go_values | go_skip | go_guarded | go_step | go_upon | go_back)
  refine bodyPost_ret (v := .agg CZ) (results_cell_row rfl _ _ gr _ CZ (0, 0) _ rfl (blk_setRow (cs := CZ) BR) Tryz.underlying121 rfl (by rw [infoSt, hszz])) rfl ?_
  have K2 := K.setRow (g := gr) (fun h => absurd h (Nat.not_lt.2 HGR.out)) CZ
  refine ⟨K2, cz, by rw [hCZ], ?_⟩
  rw [HO.out]
  exact HV.out.keeps K2 (fun _ _ h => h) (fun _ h => h)
 by_cases k4 : a_kind = 4
 ·subst k4
  have HO : Shut (X = .mk z_kind z_pos z_mu z_name z_ty false z_place z_val z_cond z_thn []) := shut (by rw [HP.out]; simp)
  clear HP
  obtain ⟨ae0, -, -, -, -, ae8, -, -, -, -, -⟩ := StB al_ty al_place al_val al_cond GCA.out BA
  obtain ⟨u80, hu80⟩ := ZB.cell 8 (by omega)
  have hr80 := ZB.free 8
  have ZB1 := ZB.set_has false
  obtain ⟨u310, hu310⟩ := ZB.cell 31 (by omega)
  have hr310 := ZB.free 31
  obtain ⟨u311, hu311⟩ := ZB1.cell 31 (by omega)
  have hr311 := ZB1.free 31
  have ZB2 := ZB1.set_els
  go_upto_region 9 with fail
  any_goals try (rename_i hfz; simp [hr80, hr310, hr311] at hfz; done)
  clear hu80 hr80 hu310 hr310 hu311 hr311
  clear ZB1
  have ZB := ZB2
  clear ZB2
  have KW := ZB.1
  have BA := ZB.2.2.2.1
  have BR := blkr_e BR hrz
  generalize World.setCell (World.setCell (wc) ⟨gz, 8, none⟩ (.bool false)) ⟨gz, 31, none⟩ (.slice none 0 0) = wd at *
  clear ae0 ae8
  obtain ⟨K, hg, hn, BA2, cz, BZ, hvz⟩ := ZB
  have agz := agg_ok hvz.len hvz.one
  have hszz : cz.toArray.size = 32 := by simpa using hvz.len
  obtain ⟨y1, y2⟩ := tblk_mid BZ hszz
  have y3 := rowOk_blk BR (n := 32) rfl
  have HV := shut hvz
  clear hvz BA2 hg hn
  generalize hCZ : cz.toArray = CZ at *
  repeat (first | go_values | go_skip | go_guarded | go_step | go_upon | go_back)
  refine bodyPost_ret (v := .agg CZ) (results_cell_row rfl _ _ gr _ CZ (0, 0) _ rfl (blk_setRow (cs := CZ) BR) Tryz.underlying121 rfl (by rw [infoSt, hszz])) rfl ?_
  have K2 := K.setRow (g := gr) (fun h => absurd h (Nat.not_lt.2 HGR.out)) CZ
  refine ⟨K2, cz, by rw [hCZ], ?_⟩
  rw [HO.out]
  exact HV.out.keeps K2 (fun _ _ h => h) (fun _ h => h)
 have HO : Shut (X = .mk z_kind z_pos z_mu z_name z_ty z_has z_place z_val z_cond z_thn z_els) := shut (by rw [HP.out, if_pos rfl, if_neg (by rintro (h | h); exact k1 h; exact k10 h), if_neg k4])
 clear HP
 obtain ⟨ae0, -, -, -, -, ae8, -, -, -, -, -⟩ := StB al_ty al_place al_val al_cond GCA.out BA
 obtain ⟨K, hg, hn, BA2, cz, BZ, hvz⟩ := ZB
 have agz := agg_ok hvz.len hvz.one
 have hszz : cz.toArray.size = 32 := by simpa using hvz.len
 obtain ⟨y1, y2⟩ := tblk_mid BZ hszz
 have y3 := rowOk_blk BR (n := 32) rfl
 have HV := shut hvz
 clear hvz BA2 hg hn
 generalize hCZ : cz.toArray = CZ at *
 repeat (first | go_values | go_skip | go_guarded | go_step | go_upon | go_back)
 refine bodyPost_ret (v := .agg CZ) (results_cell_row rfl _ _ gr _ CZ (0, 0) _ rfl (blk_setRow (cs := CZ) BR) Tryz.underlying121 rfl (by rw [infoSt, hszz])) rfl ?_
 have K2 := K.setRow (g := gr) (fun h => absurd h (Nat.not_lt.2 HGR.out)) CZ
 refine ⟨K2, cz, by rw [hCZ], ?_⟩
 rw [HO.out]
 exact HV.out.keeps K2 (fun _ _ h => h) (fun _ h => h)
end Go.Proofs.YtjbcagbnagefcaaGreat
