/- Package tree: which statements' values may be. Package tree: what is taken out by Has. -/
import Derived.Test.YtjbcagbnagefcaaTree14
namespace Go.Proofs.Ytjbcagbnagefcaa
open Go.RowKit

attribute [local go_sem ↓] exec_mid_ty exec_store_ty exec_mid_pl exec_store_pl exec_mid_opr exec_store_opr exec_mid_val exec_store_val exec_mid_st exec_store_st exec_mid_fld exec_store_fld exec_mid_str exec_store_str exec_mid_lif exec_store_lif exec_mid_fun exec_store_fun exec_mid_cr exec_store_cr
attribute [local go_sem] rowOk_new World.setRow_alloc_new

/-- A value that is there may be. -/
def VldP (s : StD) : Prop := s.has = true → ValP s.val

set_option maxRecDepth 100000 in
set_option maxHeartbeats 4000000 in
theorem valued_any {S : Nat → Prop} (a : StD) (w : World) (hM : MaxV w) (cs : List Value) (ha : StIs S w a cs) : Calls Try.prog 93 #[.agg cs.toArray] w (Tells w (VldP a)) := by
  obtain ⟨a_kind, a_pos, a_mu, a_name, a_ty, a_has, a_place, a_val, a_cond, a_thn, a_els⟩ := a
  have HP : Shut (VldP (.mk a_kind a_pos a_mu a_name a_ty a_has a_place a_val a_cond a_thn a_els) ↔ (a_has = true → ValP a_val)) := shut Iff.rfl
  obtain ⟨X, hX⟩ : ∃ X, X = VldP (.mk a_kind a_pos a_mu a_name a_ty a_has a_place a_val a_cond a_thn a_els) := ⟨_, rfl⟩
  rw [← hX] at HP ⊢
  clear hX
  have HM := shut hM
  clear hM
  have ag1 := agg_ok ha.len ha.one
  rw [stIs_iff] at ha
  obtain ⟨s4, s9, s11, s26, p30, q30, p31, q31, hcs, ah_name, ah_ty, ah_place, ah_val, ah_cond, ah_thn, ah_els⟩ := ha
  have HCA := shut hcs
  clear hcs
  simp only [StD.kind, StD.pos, StD.mu, StD.name, StD.ty, StD.has, StD.place, StD.val, StD.cond, StD.thn, StD.els] at ah_name ah_ty ah_place ah_val ah_cond ah_thn ah_els HCA
  obtain ⟨CA, hCA⟩ : ∃ C, C = cs.toArray := ⟨_, rfl⟩
  rw [← hCA] at ag1 ⊢
  rw [HCA.out] at hCA
  have GCA := shut hCA
  clear hCA HCA
  have al_ty := ah_ty.len
  have al_place := ah_place.len
  have al_val := ah_val.len
  have al_cond := ah_cond.len
  have KW : Keeps Nothing w (w.alloc (.cells CA 46)) := (Keeps.refl Nothing w).alloc _
  have BA := blk_new w CA 46
  go_enter Try.func93, Try.ntmps93
  go_upto_region 1 with fail
  clear ag1
  generalize w.heap.size = ga at *
  generalize w.alloc (.cells CA 46) = wb at *
  obtain ⟨-, -, -, -, -, ae8, -, ⟨ae11, af11⟩, -, -, -⟩ := StB al_ty al_place al_val al_cond GCA.out BA
  cases a_has with
  | false =>
    have hy : Shut X := shut (HP.out.2 (fun h => by cases h))
    clear HP
    go_wp2_with fail
    go_ret
    exact tells_t hy.out KW
  | true =>
    have hc := value_any a_val wb (HM.out.keeps KW) s11 (ah_val.keeps KW (fun _ _ h => h) (fun _ h => h))
    go_wp2_with fail
    refine hc.mono ?_
    rintro e w1 ⟨⟨z, rfl, hz⟩, k1⟩
    have KW := KW.trans k1 (fun _ h _ => h)
    have BA := k1.blk BA (fun h => h)
    have HZ : Shut (z = true ↔ X) := shut (by rw [hz, HP.out]; exact ⟨fun h _ => h, fun h => h (by first | rfl | trivial)⟩)
    clear hc hz k1 ae8 ae11 af11 HP
    obtain ⟨-, -, -, -, -, ae8, -, -, -, -, -⟩ := StB al_ty al_place al_val al_cond GCA.out BA
    cases z with
    | false =>
      go_wp2_with fail
      go_ret
      exact tells_f (fun h => by have h2 := HZ.out.2 h; cases h2) KW
    | true =>
      have hy : Shut X := shut (HZ.out.1 rfl)
      clear HZ
      go_wp2_with fail
      go_ret
      exact tells_t hy.out KW

end Go.Proofs.Ytjbcagbnagefcaa

namespace Go.Proofs.Ytjbcagbnagefcaa
open Go.RowKit

attribute [local go_sem ↓] exec_mid_ty exec_store_ty exec_mid_pl exec_store_pl exec_mid_opr exec_store_opr exec_mid_val exec_store_val exec_mid_st exec_store_st exec_mid_fld exec_store_fld exec_mid_str exec_store_str exec_mid_lif exec_store_lif exec_mid_fun exec_store_fun exec_mid_cr exec_store_cr
attribute [local go_sem] rowOk_new World.setRow_alloc_new

theorem build_valS (ρ : Operand → Value) (dst : Option Tmp) (ty' : TypeId) (pos : String) (af : Array Edge) (gd : Option (Nat × Bool)) (w : World) :
    (execOp ρ ⟨dst, .build 44 #[], ty', pos, af, gd⟩).run Try.prog w = .ok (.value (.agg #[.int .i64 0, .int .i64 0, .int .i64 0, .string ⟨#[]⟩, .slice none 0 0, .int .i64 0, .int .i64 0, .string ⟨#[]⟩, .slice none 0 0, .int .i64 0, .string ⟨#[]⟩, .slice none 0 0, .string ⟨#[]⟩, .slice none 0 0, .slice none 0 0])) w := by
  kernel_rfl
theorem build_st (ρ : Operand → Value) (dst : Option Tmp) (ty' : TypeId) (pos : String) (af : Array Edge) (gd : Option (Nat × Bool)) (w : World) :
    (execOp ρ ⟨dst, .build 46 #[], ty', pos, af, gd⟩).run Try.prog w = .ok (.value (.agg #[.int .i64 0, .int .i64 0, .bool false, .string ⟨#[]⟩, .int .i64 0, .string ⟨#[]⟩, .slice none 0 0, .slice none 0 0, .bool false, .string ⟨#[]⟩, .slice none 0 0, .int .i64 0, .int .i64 0, .int .i64 0, .string ⟨#[]⟩, .slice none 0 0, .int .i64 0, .int .i64 0, .string ⟨#[]⟩, .slice none 0 0, .int .i64 0, .string ⟨#[]⟩, .slice none 0 0, .string ⟨#[]⟩, .slice none 0 0, .slice none 0 0, .int .i64 0, .int .i64 0, .string ⟨#[]⟩, .slice none 0 0, .slice none 0 0, .slice none 0 0])) w := by
  kernel_rfl
attribute [local go_sem ↓] exec_into_pl exec_into_opr exec_into_ty exec_into_val build_valS build_st

theorem blkr_v {w : World} {gr gz : Nat} {C : Array Value} {t : TypeId} (h : Blk w gr C t) (hn : gr ≠ gz) : Blk (midSet (World.setCell w ⟨gz, 8, none⟩ (.bool false)) gz 11 #[.int .i64 0, .int .i64 0, .int .i64 0, .string ⟨#[]⟩, .slice none 0 0, .int .i64 0, .int .i64 0, .string ⟨#[]⟩, .slice none 0 0, .int .i64 0, .string ⟨#[]⟩, .slice none 0 0, .string ⟨#[]⟩, .slice none 0 0, .slice none 0 0]) gr C t := blk_setRow_other (blk_other h ⟨gz, 8, none⟩ hn _) hn
theorem blkr_e {w : World} {gr gz : Nat} {C : Array Value} {t : TypeId} (h : Blk w gr C t) (hn : gr ≠ gz) : Blk (World.setCell (World.setCell w ⟨gz, 8, none⟩ (.bool false)) ⟨gz, 31, none⟩ (.slice none 0 0)) gr C t := blk_other (blk_other h ⟨gz, 8, none⟩ hn _) ⟨gz, 31, none⟩ hn _

/-- What is there by Has is taken out. -/
def optD (a z : StD) : StD :=
  if a.has = true then
    (if a.kind = 1 ∨ a.kind = 10 then .mk z.kind z.pos z.mu z.name z.ty false z.place zeroVal z.cond z.thn z.els
     else if a.kind = 4 then .mk z.kind z.pos z.mu z.name z.ty false z.place z.val z.cond z.thn []
     else z)
  else z

set_option maxRecDepth 100000 in
set_option linter.unusedSimpArgs false in
set_option maxHeartbeats 8000000 in
theorem optional_any {S : Nat → Prop} (a z : StD) (w : World) (cs ds : List Value) (ha : StIs S w a cs) (hz : StIs S w z ds) : Calls Try.prog 97 #[.agg cs.toArray, .agg ds.toArray] w (fun e w' => Keeps Nothing w w' ∧ ∃ es : List Value, e = .returned (.agg es.toArray) ∧ StIs S w' (optD a z) es) := by
  have HZ0 := shut hz
  have agy := agg_ok hz.len hz.one
  clear hz
  obtain ⟨a_kind, a_pos, a_mu, a_name, a_ty, a_has, a_place, a_val, a_cond, a_thn, a_els⟩ := a
  obtain ⟨z_kind, z_pos, z_mu, z_name, z_ty, z_has, z_place, z_val, z_cond, z_thn, z_els⟩ := z
  have HP : Shut (optD (.mk a_kind a_pos a_mu a_name a_ty a_has a_place a_val a_cond a_thn a_els) (.mk z_kind z_pos z_mu z_name z_ty z_has z_place z_val z_cond z_thn z_els) = if a_has = true then (if a_kind = 1 ∨ a_kind = 10 then .mk z_kind z_pos z_mu z_name z_ty false z_place zeroVal z_cond z_thn z_els else if a_kind = 4 then .mk z_kind z_pos z_mu z_name z_ty false z_place z_val z_cond z_thn [] else .mk z_kind z_pos z_mu z_name z_ty z_has z_place z_val z_cond z_thn z_els) else .mk z_kind z_pos z_mu z_name z_ty z_has z_place z_val z_cond z_thn z_els) := shut rfl
  obtain ⟨X, hX⟩ : ∃ X, X = optD (.mk a_kind a_pos a_mu a_name a_ty a_has a_place a_val a_cond a_thn a_els) (.mk z_kind z_pos z_mu z_name z_ty z_has z_place z_val z_cond z_thn z_els) := ⟨_, rfl⟩
  rw [← hX] at HP ⊢
  clear hX
  have ag1 := agg_ok ha.len ha.one
  rw [stIs_iff] at ha
  obtain ⟨s4, s9, s11, s26, p30, q30, p31, q31, hcs, ah_name, ah_ty, ah_place, ah_val, ah_cond, ah_thn, ah_els⟩ := ha
  have HCA := shut hcs
  clear hcs
  simp only [StD.kind, StD.pos, StD.mu, StD.name, StD.ty, StD.has, StD.place, StD.val, StD.cond, StD.thn, StD.els] at HCA
  have al_ty := ah_ty.len
  have al_place := ah_place.len
  have al_val := ah_val.len
  have al_cond := ah_cond.len
  clear ah_name ah_ty ah_place ah_val ah_cond ah_thn ah_els
  obtain ⟨CA, hCA⟩ : ∃ C, C = cs.toArray := ⟨_, rfl⟩
  rw [← hCA] at ag1 ⊢
  rw [HCA.out] at hCA
  have GCA := shut hCA
  clear hCA HCA
  obtain ⟨CD, hCD⟩ : ∃ C, C = ds.toArray := ⟨_, rfl⟩
  rw [← hCD] at agy ⊢
  have HCD := shut hCD
  clear hCD
  go_enter Try.func97, Try.ntmps97
  go_upto_region 1 with fail
  clear ag1 agy
  have s1 : (w.alloc (.cells CA 46)).heap.size = w.heap.size + 1 := World.size_alloc _ _
  have BA := blk_alloc (blk_alloc (blk_new w CA 46) (.cells CD 46)) (.cells #[.int .i64 0, .int .i64 0, .bool false, .string ⟨#[]⟩, .int .i64 0, .string ⟨#[]⟩, .slice none 0 0, .slice none 0 0, .bool false, .string ⟨#[]⟩, .slice none 0 0, .int .i64 0, .int .i64 0, .int .i64 0, .string ⟨#[]⟩, .slice none 0 0, .int .i64 0, .int .i64 0, .string ⟨#[]⟩, .slice none 0 0, .int .i64 0, .string ⟨#[]⟩, .slice none 0 0, .string ⟨#[]⟩, .slice none 0 0, .slice none 0 0, .int .i64 0, .int .i64 0, .string ⟨#[]⟩, .slice none 0 0, .slice none 0 0, .slice none 0 0] 46)
  have KW : Keeps Nothing w (((w.alloc (.cells CA 46)).alloc (.cells CD 46)).alloc (.cells #[.int .i64 0, .int .i64 0, .bool false, .string ⟨#[]⟩, .int .i64 0, .string ⟨#[]⟩, .slice none 0 0, .slice none 0 0, .bool false, .string ⟨#[]⟩, .slice none 0 0, .int .i64 0, .int .i64 0, .int .i64 0, .string ⟨#[]⟩, .slice none 0 0, .int .i64 0, .int .i64 0, .string ⟨#[]⟩, .slice none 0 0, .int .i64 0, .string ⟨#[]⟩, .slice none 0 0, .string ⟨#[]⟩, .slice none 0 0, .slice none 0 0, .int .i64 0, .int .i64 0, .string ⟨#[]⟩, .slice none 0 0, .slice none 0 0, .slice none 0 0] 46)) := (((Keeps.refl Nothing w).alloc _).alloc _).alloc _
  have BR := blk_new ((w.alloc (.cells CA 46)).alloc (.cells CD 46)) #[.int .i64 0, .int .i64 0, .bool false, .string ⟨#[]⟩, .int .i64 0, .string ⟨#[]⟩, .slice none 0 0, .slice none 0 0, .bool false, .string ⟨#[]⟩, .slice none 0 0, .int .i64 0, .int .i64 0, .int .i64 0, .string ⟨#[]⟩, .slice none 0 0, .int .i64 0, .int .i64 0, .string ⟨#[]⟩, .slice none 0 0, .int .i64 0, .string ⟨#[]⟩, .slice none 0 0, .string ⟨#[]⟩, .slice none 0 0, .slice none 0 0, .int .i64 0, .int .i64 0, .string ⟨#[]⟩, .slice none 0 0, .slice none 0 0, .slice none 0 0] 46
  have BZ := blk_alloc (blk_new (w.alloc (.cells CA 46)) CD 46) (.cells #[.int .i64 0, .int .i64 0, .bool false, .string ⟨#[]⟩, .int .i64 0, .string ⟨#[]⟩, .slice none 0 0, .slice none 0 0, .bool false, .string ⟨#[]⟩, .slice none 0 0, .int .i64 0, .int .i64 0, .int .i64 0, .string ⟨#[]⟩, .slice none 0 0, .int .i64 0, .int .i64 0, .string ⟨#[]⟩, .slice none 0 0, .int .i64 0, .string ⟨#[]⟩, .slice none 0 0, .string ⟨#[]⟩, .slice none 0 0, .slice none 0 0, .int .i64 0, .int .i64 0, .string ⟨#[]⟩, .slice none 0 0, .slice none 0 0, .slice none 0 0] 46)
  rw [World.size_alloc, World.size_alloc] at BR
  rw [World.size_alloc] at BZ
  have hgr : w.heap.size ≤ w.heap.size + 1 + 1 := by omega
  have hrz : w.heap.size + 1 + 1 ≠ w.heap.size + 1 := by omega
  have ZB : StB2 S w (((w.alloc (.cells CA 46)).alloc (.cells CD 46)).alloc (.cells #[.int .i64 0, .int .i64 0, .bool false, .string ⟨#[]⟩, .int .i64 0, .string ⟨#[]⟩, .slice none 0 0, .slice none 0 0, .bool false, .string ⟨#[]⟩, .slice none 0 0, .int .i64 0, .int .i64 0, .int .i64 0, .string ⟨#[]⟩, .slice none 0 0, .int .i64 0, .int .i64 0, .string ⟨#[]⟩, .slice none 0 0, .int .i64 0, .string ⟨#[]⟩, .slice none 0 0, .string ⟨#[]⟩, .slice none 0 0, .slice none 0 0, .int .i64 0, .int .i64 0, .string ⟨#[]⟩, .slice none 0 0, .slice none 0 0, .slice none 0 0] 46)) w.heap.size CA (w.heap.size + 1) (.mk z_kind z_pos z_mu z_name z_ty z_has z_place z_val z_cond z_thn z_els) := ⟨KW, by omega, by omega, BA, ds, by rw [← HCD.out]; exact BZ, HZ0.out⟩
  clear BZ s1
  generalize ((w.alloc (.cells CA 46)).alloc (.cells CD 46)).alloc (.cells #[.int .i64 0, .int .i64 0, .bool false, .string ⟨#[]⟩, .int .i64 0, .string ⟨#[]⟩, .slice none 0 0, .slice none 0 0, .bool false, .string ⟨#[]⟩, .slice none 0 0, .int .i64 0, .int .i64 0, .int .i64 0, .string ⟨#[]⟩, .slice none 0 0, .int .i64 0, .int .i64 0, .string ⟨#[]⟩, .slice none 0 0, .int .i64 0, .string ⟨#[]⟩, .slice none 0 0, .string ⟨#[]⟩, .slice none 0 0, .slice none 0 0, .int .i64 0, .int .i64 0, .string ⟨#[]⟩, .slice none 0 0, .slice none 0 0, .slice none 0 0] 46) = wc at *
  generalize hgr2 : w.heap.size + 1 + 1 = gr at *
  generalize hgz2 : w.heap.size + 1 = gz at *
  generalize hga2 : w.heap.size = ga at *
  have HGR : Shut (w.heap.size ≤ gr) := shut (by rw [hga2]; exact hgr)
  clear hga2 hgr2 hgz2 hgr
  by_cases hh : a_has = false
  · subst hh
    have HO : Shut (X = .mk z_kind z_pos z_mu z_name z_ty z_has z_place z_val z_cond z_thn z_els) := shut (by rw [HP.out]; rfl)
    clear HP
    obtain ⟨-, -, -, -, -, ae8, -, -, -, -, -⟩ := StB al_ty al_place al_val al_cond GCA.out BA
    obtain ⟨K, hg, hn, BA2, cz, BZ, hvz⟩ := ZB
    have agz := agg_ok hvz.len hvz.one
    have hszz : cz.toArray.size = 32 := by simpa using hvz.len
    obtain ⟨y1, y2⟩ := tblk_mid BZ hszz
    have y3 := rowOk_blk BR (n := 32) rfl
    have HV := shut hvz
    clear hvz BA2 hg hn
    generalize hCZ : cz.toArray = CZ at *
    repeat (first | go_values | go_skip | go_guarded | go_step | go_upon | go_back)
    refine bodyPost_ret (v := .agg CZ) (results_cell_row rfl _ _ gr _ CZ (0, 0) _ rfl (blk_setRow (cs := CZ) BR) Try.underlying46 rfl (by rw [infoSt, hszz])) rfl ?_
    have K2 := K.setRow (g := gr) (fun h => absurd h (Nat.not_lt.2 HGR.out)) CZ
    refine ⟨K2, cz, by rw [hCZ], ?_⟩
    rw [HO.out]
    exact HV.out.keeps K2 (fun _ _ h => h) (fun _ h => h)
  obtain rfl : a_has = true := by cases a_has with | false => exact absurd rfl hh | true => rfl
  clear hh
  by_cases k1 : a_kind = 1
  · subst k1
    have HO : Shut (X = .mk z_kind z_pos z_mu z_name z_ty false z_place zeroVal z_cond z_thn z_els) := shut (by rw [HP.out]; simp)
    clear HP
    obtain ⟨ae0, -, -, -, -, ae8, -, -, -, -, -⟩ := StB al_ty al_place al_val al_cond GCA.out BA
    obtain ⟨u80, hu80⟩ := ZB.cell 8 (by omega)
    have hr80 := ZB.free 8
    have ZB1 := ZB.set_has false
    have hf110 := ZB.fit 11 15 (by omega)
    have hf111 := ZB1.fit 11 15 (by omega)
    have hg11 : aggOk 15 (.agg #[.int .i64 0, .int .i64 0, .int .i64 0, .string ⟨#[]⟩, .slice none 0 0, .int .i64 0, .int .i64 0, .string ⟨#[]⟩, .slice none 0 0, .int .i64 0, .string ⟨#[]⟩, .slice none 0 0, .string ⟨#[]⟩, .slice none 0 0, .slice none 0 0]) = true := agg_ok (zeroVal_is S w).len (zeroVal_is S w).one
    have ZB2 := ZB1.set_val
    go_upto_region 9 with fail
    any_goals try (rename_i hfz; simp [hr80] at hfz; done)
    clear hu80 hr80 hf110 hf111 hg11
    clear ZB1
    have ZB := ZB2
    clear ZB2
    have KW := ZB.1
    have BA := ZB.2.2.2.1
    have BR := blkr_v BR hrz
    generalize midSet (World.setCell (wc) ⟨gz, 8, none⟩ (.bool false)) gz 11 #[.int .i64 0, .int .i64 0, .int .i64 0, .string ⟨#[]⟩, .slice none 0 0, .int .i64 0, .int .i64 0, .string ⟨#[]⟩, .slice none 0 0, .int .i64 0, .string ⟨#[]⟩, .slice none 0 0, .string ⟨#[]⟩, .slice none 0 0, .slice none 0 0] = wd at *
    clear ae0 ae8
    obtain ⟨K, hg, hn, BA2, cz, BZ, hvz⟩ := ZB
    have agz := agg_ok hvz.len hvz.one
    have hszz : cz.toArray.size = 32 := by simpa using hvz.len
    obtain ⟨y1, y2⟩ := tblk_mid BZ hszz
    have y3 := rowOk_blk BR (n := 32) rfl
    have HV := shut hvz
    clear hvz BA2 hg hn
    generalize hCZ : cz.toArray = CZ at *
    repeat (first | go_values | go_skip | go_guarded | go_step | go_upon | go_back)
    refine bodyPost_ret (v := .agg CZ) (results_cell_row rfl _ _ gr _ CZ (0, 0) _ rfl (blk_setRow (cs := CZ) BR) Try.underlying46 rfl (by rw [infoSt, hszz])) rfl ?_
    have K2 := K.setRow (g := gr) (fun h => absurd h (Nat.not_lt.2 HGR.out)) CZ
    refine ⟨K2, cz, by rw [hCZ], ?_⟩
    rw [HO.out]
    exact HV.out.keeps K2 (fun _ _ h => h) (fun _ h => h)
  by_cases k10 : a_kind = 10
  · subst k10
    have HO : Shut (X = .mk z_kind z_pos z_mu z_name z_ty false z_place zeroVal z_cond z_thn z_els) := shut (by rw [HP.out]; simp)
    clear HP
    obtain ⟨ae0, -, -, -, -, ae8, -, -, -, -, -⟩ := StB al_ty al_place al_val al_cond GCA.out BA
    obtain ⟨u80, hu80⟩ := ZB.cell 8 (by omega)
    have hr80 := ZB.free 8
    have ZB1 := ZB.set_has false
    have hf110 := ZB.fit 11 15 (by omega)
    have hf111 := ZB1.fit 11 15 (by omega)
    have hg11 : aggOk 15 (.agg #[.int .i64 0, .int .i64 0, .int .i64 0, .string ⟨#[]⟩, .slice none 0 0, .int .i64 0, .int .i64 0, .string ⟨#[]⟩, .slice none 0 0, .int .i64 0, .string ⟨#[]⟩, .slice none 0 0, .string ⟨#[]⟩, .slice none 0 0, .slice none 0 0]) = true := agg_ok (zeroVal_is S w).len (zeroVal_is S w).one
    have ZB2 := ZB1.set_val
    go_upto_region 9 with fail
    any_goals try (rename_i hfz; simp [hr80] at hfz; done)
    clear hu80 hr80 hf110 hf111 hg11
    clear ZB1
    have ZB := ZB2
    clear ZB2
    have KW := ZB.1
    have BA := ZB.2.2.2.1
    have BR := blkr_v BR hrz
    generalize midSet (World.setCell (wc) ⟨gz, 8, none⟩ (.bool false)) gz 11 #[.int .i64 0, .int .i64 0, .int .i64 0, .string ⟨#[]⟩, .slice none 0 0, .int .i64 0, .int .i64 0, .string ⟨#[]⟩, .slice none 0 0, .int .i64 0, .string ⟨#[]⟩, .slice none 0 0, .string ⟨#[]⟩, .slice none 0 0, .slice none 0 0] = wd at *
    clear ae0 ae8
    obtain ⟨K, hg, hn, BA2, cz, BZ, hvz⟩ := ZB
    have agz := agg_ok hvz.len hvz.one
    have hszz : cz.toArray.size = 32 := by simpa using hvz.len
    obtain ⟨y1, y2⟩ := tblk_mid BZ hszz
    have y3 := rowOk_blk BR (n := 32) rfl
    have HV := shut hvz
    clear hvz BA2 hg hn
    generalize hCZ : cz.toArray = CZ at *
    repeat (first | go_values | go_skip | go_guarded | go_step | go_upon | go_back)
    refine bodyPost_ret (v := .agg CZ) (results_cell_row rfl _ _ gr _ CZ (0, 0) _ rfl (blk_setRow (cs := CZ) BR) Try.underlying46 rfl (by rw [infoSt, hszz])) rfl ?_
    have K2 := K.setRow (g := gr) (fun h => absurd h (Nat.not_lt.2 HGR.out)) CZ
    refine ⟨K2, cz, by rw [hCZ], ?_⟩
    rw [HO.out]
    exact HV.out.keeps K2 (fun _ _ h => h) (fun _ h => h)
  by_cases k4 : a_kind = 4
  · subst k4
    have HO : Shut (X = .mk z_kind z_pos z_mu z_name z_ty false z_place z_val z_cond z_thn []) := shut (by rw [HP.out]; simp)
    clear HP
    obtain ⟨ae0, -, -, -, -, ae8, -, -, -, -, -⟩ := StB al_ty al_place al_val al_cond GCA.out BA
    obtain ⟨u80, hu80⟩ := ZB.cell 8 (by omega)
    have hr80 := ZB.free 8
    have ZB1 := ZB.set_has false
    obtain ⟨u310, hu310⟩ := ZB.cell 31 (by omega)
    have hr310 := ZB.free 31
    obtain ⟨u311, hu311⟩ := ZB1.cell 31 (by omega)
    have hr311 := ZB1.free 31
    have ZB2 := ZB1.set_els
    go_upto_region 9 with fail
    any_goals try (rename_i hfz; simp [hr80, hr310, hr311] at hfz; done)
    clear hu80 hr80 hu310 hr310 hu311 hr311
    clear ZB1
    have ZB := ZB2
    clear ZB2
    have KW := ZB.1
    have BA := ZB.2.2.2.1
    have BR := blkr_e BR hrz
    generalize World.setCell (World.setCell (wc) ⟨gz, 8, none⟩ (.bool false)) ⟨gz, 31, none⟩ (.slice none 0 0) = wd at *
    clear ae0 ae8
    obtain ⟨K, hg, hn, BA2, cz, BZ, hvz⟩ := ZB
    have agz := agg_ok hvz.len hvz.one
    have hszz : cz.toArray.size = 32 := by simpa using hvz.len
    obtain ⟨y1, y2⟩ := tblk_mid BZ hszz
    have y3 := rowOk_blk BR (n := 32) rfl
    have HV := shut hvz
    clear hvz BA2 hg hn
    generalize hCZ : cz.toArray = CZ at *
    repeat (first | go_values | go_skip | go_guarded | go_step | go_upon | go_back)
    refine bodyPost_ret (v := .agg CZ) (results_cell_row rfl _ _ gr _ CZ (0, 0) _ rfl (blk_setRow (cs := CZ) BR) Try.underlying46 rfl (by rw [infoSt, hszz])) rfl ?_
    have K2 := K.setRow (g := gr) (fun h => absurd h (Nat.not_lt.2 HGR.out)) CZ
    refine ⟨K2, cz, by rw [hCZ], ?_⟩
    rw [HO.out]
    exact HV.out.keeps K2 (fun _ _ h => h) (fun _ h => h)
  have HO : Shut (X = .mk z_kind z_pos z_mu z_name z_ty z_has z_place z_val z_cond z_thn z_els) := shut (by rw [HP.out, if_pos rfl, if_neg (by rintro (h | h); exact k1 h; exact k10 h), if_neg k4])
  clear HP
  obtain ⟨ae0, -, -, -, -, ae8, -, -, -, -, -⟩ := StB al_ty al_place al_val al_cond GCA.out BA
  obtain ⟨K, hg, hn, BA2, cz, BZ, hvz⟩ := ZB
  have agz := agg_ok hvz.len hvz.one
  have hszz : cz.toArray.size = 32 := by simpa using hvz.len
  obtain ⟨y1, y2⟩ := tblk_mid BZ hszz
  have y3 := rowOk_blk BR (n := 32) rfl
  have HV := shut hvz
  clear hvz BA2 hg hn
  generalize hCZ : cz.toArray = CZ at *
  repeat (first | go_values | go_skip | go_guarded | go_step | go_upon | go_back)
  refine bodyPost_ret (v := .agg CZ) (results_cell_row rfl _ _ gr _ CZ (0, 0) _ rfl (blk_setRow (cs := CZ) BR) Try.underlying46 rfl (by rw [infoSt, hszz])) rfl ?_
  have K2 := K.setRow (g := gr) (fun h => absurd h (Nat.not_lt.2 HGR.out)) CZ
  refine ⟨K2, cz, by rw [hCZ], ?_⟩
  rw [HO.out]
  exact HV.out.keeps K2 (fun _ _ h => h) (fun _ h => h)

end Go.Proofs.Ytjbcagbnagefcaa
