/- Tree4 -/
import Derived.Test.YtjbcagbnagefcaaGreatZb2
namespace Go.Proofs.YtjbcagbnagefcaaGreat
open Go.RowKit
attribute [local go_sem ↓] exec_mid_ty exec_store_ty exec_mid_pl exec_store_pl exec_mid_opr exec_store_opr exec_mid_val exec_store_val exec_mid_st exec_store_st exec_mid_fld exec_store_fld exec_mid_str exec_store_str exec_mid_lif exec_store_lif exec_mid_fun exec_store_fun exec_mid_cr exec_store_cr
attribute [local go_sem] rowOk_new World.setRow_alloc_new
theorem ent_sameStmt : Entered 128 := entered_of Tryz.func128 (by kernel_rfl) (by kernel_rfl)
set_option maxRecDepth 100000 in
set_option maxHeartbeats 4000000 in
theorem eqf_st (f : FuncId) (hcf : Entered f) {S S' : Nat → Prop} {l m : List StD} (hf : ∀ a ∈ l, ∀ b ∈ m, ∀ (W : World) (cs ds : List Value), StIs S W a cs → StIs S' W b ds → Calls Tryz.prog f #[.agg cs.toArray, .agg ds.toArray] W (Tells W (a = b)))
  (w : World) {ax ay : Option Addr} (cx cy : Nat) (hx : SlIs S w 32 (StIs S w) ax l) (hy : SlIs S' w 32 (StIs S' w) ay m) :
  Calls Tryz.prog 143 #[.slice ax l.length cx, .slice ay m.length cy, .func (.func f) #[] #[]] w (Tells w (l = m)) := by
 have hlx := hx.1
 have hly := hy.1
 unfold bigN at hlx hly
 have HX := shut hx
 have HY := shut hy
 have HF := shut hf
 clear hx hy hf
 by_cases hne : l.length = m.length
 ·obtain ⟨n, hn⟩ : ∃ n, l.length = n := ⟨_, rfl⟩
  have hm : m.length = n := by omega
  rw [hn, hm]
  rw [hn] at hlx
  clear hne hly
  have HN := shut hn
  have HM := shut hm
  clear hn hm
  go_enter Tryz.func143, Tryz.ntmps143
  go_wp2_with fail
  go_loopw [7, 8, 9, 17] (fun s7 s8 s9 s17 wx => ∃ t : Nat, s17 = .int .i64 t ∧ t ≤ n ∧ Keeps Nothing w wx ∧ Shut (l.take t = m.take t)) (fun _ _ _ s17 _ => n - (intOf s17).toNat)
  case atStart => exact ⟨0, rfl, Nat.zero_le _, Keeps.refl _ _, shut (by simp)⟩
  case round =>
   obtain ⟨t, rfl, ht, K, HT⟩ := hrel
   by_cases hlt : t < n
   ·obtain ⟨a, ha⟩ : ∃ a, l[t]? = some a := ⟨_, List.getElem?_eq_getElem (by rw [HN.out]; exact hlt)⟩
    obtain ⟨b, hb⟩ : ∃ b, m[t]? = some b := ⟨_, List.getElem?_eq_getElem (by rw [HM.out]; exact hlt)⟩
    have HA := shut ha
    have HB := shut hb
    obtain ⟨g1, o1, rfl, -, cs, l1, r1, i1⟩ := (HX.out.keeps K (fun _ _ h => h) (fun _ h => h) (fun _ _ _ h => h.keeps K (fun _ _ h => h) (fun _ h => h))).get ha
    obtain ⟨g2, o2, rfl, -, ds, l2, r2, i2⟩ := (HY.out.keeps K (fun _ _ h => h) (fun _ h => h) (fun _ _ _ h => h.keeps K (fun _ _ h => h) (fun _ h => h))).get hb
    have ag1 := agg_ok l1 i1.one
    have ag2 := agg_ok l2 i2.one
    have hcm := List.mem_of_getElem? ha
    have hdm := List.mem_of_getElem? hb
    clear ha hb
    have m0 : (0 : Int) ≤ t := by omega
    have m1 : (t : Int) < n := by omega
    have hk := midOk_range r1
    have ho := midOf_range r1
    rw [l1] at hk ho
    have hz : cs.toArray.size = 32 := by simpa using l1
    obtain ⟨C, hC⟩ : ∃ C, C = cs.toArray := ⟨_, rfl⟩
    rw [← hC] at ag1 ho hz
    have HC := shut hC
    clear hC
    go_upto_region 6 with fail
    have kb1 : Keeps Nothing wr (wr.alloc (.cells C 121)) := (Keeps.refl Nothing wr).alloc _
    have bx1 := blk_new wr C 121
    have r2' := rangeAt_keeps r2 kb1 (fun h => h)
    clear hk ho r2
    generalize hgx1 : wr.heap.size = gx1 at *
    clear hgx1
    have hk := midOk_range r2'
    have ho := midOf_range r2'
    rw [l2] at hk ho
    have hz2 : ds.toArray.size = 32 := by simpa using l2
    obtain ⟨D, hD⟩ : ∃ D, D = ds.toArray := ⟨_, rfl⟩
    rw [← hD] at ag2 ho hz2
    have HD := shut hD
    clear hD
    have KB := K.trans kb1 (fun _ h _ => h)
    have j1 := i1.keeps kb1 (fun _ _ h => h) (fun _ h => h)
    have j2 := i2.keeps kb1 (fun _ _ h => h) (fun _ h => h)
    clear i1 i2 kb1 K r1
    generalize wr.alloc (.cells C 121) = w1 at *
    go_upto_region 7 with fail
    have kb2 : Keeps Nothing w1 (w1.alloc (.cells D 121)) := (Keeps.refl Nothing w1).alloc _
    have bx2 := blk_new w1 D 121
    have bx1 := kb2.blk bx1 (fun h => h)
    have KC := KB.trans kb2 (fun _ h _ => h)
    have q1 := j1.keeps kb2 (fun _ _ h => h) (fun _ h => h)
    have q2 := j2.keeps kb2 (fun _ _ h => h) (fun _ h => h)
    clear hk ho r2' j1 j2 kb2 KB
    generalize hgx2 : w1.heap.size = gx2 at *
    clear hgx2
    generalize w1.alloc (.cells D 121) = w2 at *
    obtain ⟨y1, y2⟩ := tblk_mid bx1 hz
    obtain ⟨y3, y4⟩ := tblk_mid bx2 hz2
    have hcall := HF.out a hcm b hdm w2 cs ds q1 q2
    rw [← HC.out, ← HD.out] at hcall
    clear q1 q2 bx1 bx2
    have hcf2 := hcf #[.agg C, .agg D] w2
    go_wp2_with fail
    clear hcf2
    refine hcall.mono ?_
    rintro e w3 ⟨⟨z, rfl, hzz⟩, k3⟩
    have KD := KC.trans k3 (fun _ h _ => h)
    have HZ := shut hzz
    clear hcall y1 y2 y3 y4 KC k3 hzz
    cases z with
    | true =>
     have HAB := shut (HZ.out.1 rfl)
     clear HZ
     go_wp2_with fail
     go_roundw
     case rel => exact ⟨t + 1, by go_num, by omega, KD, shut (take_eq HA.out HB.out HT.out HAB.out)⟩
     case measure => simp [intOf]; omega
    | false =>
     have HAB : Shut (a ≠ b) := shut (fun h => by have h2 := HZ.out.2 h; cases h2)
     clear HZ
     go_wp2_with fail
     go_ret
     exact tells_f (ne_at HA.out HB.out HAB.out) KD
   ·obtain rfl : t = n := by omega
    have m1 : ¬ (t : Int) < t := by omega
    go_wp2_with fail
    go_ret
    refine tells_t ?_ K
    have h := HT.out
    rwa [List.take_of_length_le (Nat.le_of_eq HN.out), List.take_of_length_le (Nat.le_of_eq HM.out)] at h
 ·have hne' : ¬ (l.length : Int) = m.length := by omega
  have hl : l ≠ m := fun h => hne (by rw [h])
  go_enter Tryz.func143, Tryz.ntmps143
  go_wp2_with fail
  go_ret
  exact tells_f hl (Keeps.refl _ _)
set_option maxHeartbeats 1000000 in
theorem each_st (f : FuncId) (hcf : Entered f) {S S' : Nat → Prop} {l m : List StD} (hf : ∀ a ∈ l, ∀ b ∈ m, ∀ (W : World) (cs ds : List Value), StIs S W a cs → StIs S' W b ds → Calls Tryz.prog f #[.agg cs.toArray, .agg ds.toArray] W (Tells W (a = b)))
  (w : World) {ax ay : Option Addr} (cx cy : Nat) (hx : SlIs S w 32 (StIs S w) ax l) (hy : SlIs S' w 32 (StIs S' w) ay m) :
  Calls Tryz.prog 136 #[.slice ax l.length cx, .slice ay m.length cy, .func (.func f) #[] #[]] w (Tells w (l = m)) := by
 have h := eqf_st f hcf hf w cx cy hx hy
 clear hf hcf hx hy
 go_enter Tryz.func136, Tryz.ntmps136
 go_wp2_with fail
 refine h.mono ?_
 rintro e w1 ⟨⟨z, rfl, hz⟩, k⟩
 have HZ := shut hz
 clear hz h
 go_wp2_with fail
 go_ret
 exact tells_z HZ.out k
set_option maxRecDepth 100000 in
set_option maxHeartbeats 4000000 in
theorem sameStmt_any {S S' : Nat → Prop} : ∀ (a b : StD) (w : World) (cs ds : List Value), StIs S w a cs → StIs S' w b ds → Calls Tryz.prog 128 #[.agg cs.toArray, .agg ds.toArray] w (Tells w (a = b)) := by
 refine StD.ind ?_
 intro a_kind a_pos a_mu a_name a_ty a_has a_place a_val a_cond a_thn a_els ih_thn ih_els b w cs ds ha hb
 obtain ⟨b_kind, b_pos, b_mu, b_name, b_ty, b_has, b_place, b_val, b_cond, b_thn, b_els⟩ := b
 have hih_thn : ∀ a ∈ a_thn, ∀ b ∈ b_thn, ∀ (W : World) (cs ds : List Value), StIs S W a cs → StIs S' W b ds → Calls Tryz.prog 128 #[.agg cs.toArray, .agg ds.toArray] W (Tells W (a = b)) := fun a h b _ W cs ds => ih_thn a h b W cs ds
 have HI_thn := shut hih_thn
 clear hih_thn ih_thn
 have hih_els : ∀ a ∈ a_els, ∀ b ∈ b_els, ∀ (W : World) (cs ds : List Value), StIs S W a cs → StIs S' W b ds → Calls Tryz.prog 128 #[.agg cs.toArray, .agg ds.toArray] W (Tells W (a = b)) := fun a h b _ W cs ds => ih_els a h b W cs ds
 have HI_els := shut hih_els
 clear hih_els ih_els
 have ag1 := agg_ok ha.len ha.one
 have ag2 := agg_ok hb.len hb.one
 rw [stIs_iff] at ha hb
 obtain ⟨s4, s9, s11, s26, p30, q30, p31, q31, hcs, ah_name, ah_ty, ah_place, ah_val, ah_cond, ah_thn, ah_els⟩ := ha
 have HCA := shut hcs
 clear hcs
 obtain ⟨t4, t9, t11, t26, x30, y30, x31, y31, hcs, bh_name, bh_ty, bh_place, bh_val, bh_cond, bh_thn, bh_els⟩ := hb
 have HCB := shut hcs
 clear hcs
 simp only [StD.kind, StD.pos, StD.mu, StD.name, StD.ty, StD.has, StD.place, StD.val, StD.cond, StD.thn, StD.els] at ah_name bh_name ah_ty bh_ty ah_place bh_place ah_val bh_val ah_cond bh_cond ah_thn bh_thn ah_els bh_els HCA HCB
 have HE : Shut ((StD.mk a_kind a_pos a_mu a_name a_ty a_has a_place a_val a_cond a_thn a_els) = (StD.mk b_kind b_pos b_mu b_name b_ty b_has b_place b_val b_cond b_thn b_els) ↔ a_kind = b_kind ∧ a_pos = b_pos ∧ a_mu = b_mu ∧ a_name = b_name ∧ a_ty = b_ty ∧ a_has = b_has ∧ a_place = b_place ∧ a_val = b_val ∧ a_cond = b_cond ∧ a_thn = b_thn ∧ a_els = b_els) := shut (by rw [StD.mk.injEq])
 obtain ⟨XA, hXA⟩ : ∃ X, X = StD.mk a_kind a_pos a_mu a_name a_ty a_has a_place a_val a_cond a_thn a_els := ⟨_, rfl⟩
 obtain ⟨XB, hXB⟩ : ∃ X, X = StD.mk b_kind b_pos b_mu b_name b_ty b_has b_place b_val b_cond b_thn b_els := ⟨_, rfl⟩
 rw [← hXA, ← hXB] at HE ⊢
 clear hXA hXB
 obtain ⟨CA, hCA⟩ : ∃ C, C = cs.toArray := ⟨_, rfl⟩
 obtain ⟨CB, hCB⟩ : ∃ C, C = ds.toArray := ⟨_, rfl⟩
 rw [← hCA] at ag1 ⊢
 rw [← hCB] at ag2 ⊢
 rw [HCA.out] at hCA
 rw [HCB.out] at hCB
 have GCA := shut hCA
 have GCB := shut hCB
 clear hCA hCB HCA HCB
 have KW : Keeps Nothing w ((w.alloc (.cells CA 121)).alloc (.cells CB 121)) := ((Keeps.refl Nothing w).alloc _).alloc _
 have BA : Blk ((w.alloc (.cells CA 121)).alloc (.cells CB 121)) w.heap.size CA 121 := blk_alloc (blk_new w CA 121) _
 have BB : Blk ((w.alloc (.cells CA 121)).alloc (.cells CB 121)) (w.heap.size + 1) CB 121 := by have h := blk_new (w.alloc (.cells CA 121)) CB 121; rwa [World.size_alloc] at h
 have al_ty := ah_ty.len
 have bl_ty := bh_ty.len
 have al_place := ah_place.len
 have bl_place := bh_place.len
 have al_val := ah_val.len
 have bl_val := bh_val.len
 have al_cond := ah_cond.len
 have bl_cond := bh_cond.len
 go_enter Tryz.func128, Tryz.ntmps128
 obtain ⟨ae0, ae1, ae2, ae3, ⟨ae4, af4⟩, ae8, -, -, -, -, -⟩ := StB al_ty al_place al_val al_cond GCA.out BA
 obtain ⟨be0, be1, be2, be3, ⟨be4, bf4⟩, be8, -, -, -, -, -⟩ := StB bl_ty bl_place bl_val bl_cond GCB.out BB
 have ac0 := blk_inv BA ae0
 have bc0 := blk_inv BB be0
 have ac1 := blk_inv BA ae1
 have bc1 := blk_inv BB be1
 have ac2 := blk_inv BA ae2
 have bc2 := blk_inv BB be2
 have ac3 := blk_inv BA ae3
 have bc3 := blk_inv BB be3
 have ac8 := blk_inv BA ae8
 have bc8 := blk_inv BB be8
 by_cases e_kind : a_kind = b_kind
 rotate_left
 ·have hno : Shut (¬ XA = XB) := shut (fun h => e_kind ((HE.out.1 h).1))
  clear HE GCA GCB BA BB
  unfold txV at *
  go_wp2_with fail
  go_ret
  exact tells_f hno.out KW
 subst e_kind
 by_cases e_pos : a_pos = b_pos
 rotate_left
 ·have hno : Shut (¬ XA = XB) := shut (fun h => e_pos ((HE.out.1 h).2.1))
  clear HE GCA GCB BA BB
  unfold txV at *
  go_wp2_with fail
  go_ret
  exact tells_f hno.out KW
 subst e_pos
 by_cases e_mu : a_mu = b_mu
 rotate_left
 ·have hno : Shut (¬ XA = XB) := shut (fun h => e_mu ((HE.out.1 h).2.2.1))
  clear HE GCA GCB BA BB
  unfold txV at *
  have hq : (a_mu == b_mu) = false := by rw [beq_eq_false_iff_ne]; exact e_mu
  go_wp2_with fail
  go_ret
  exact tells_f hno.out KW
 subst e_mu
 by_cases e_name : a_name = b_name
 rotate_left
 ·have hno : Shut (¬ XA = XB) := shut (fun h => e_name ((HE.out.1 h).2.2.2.1))
  clear HE GCA GCB BA BB
  have hq : (a_name == b_name) = false := by rw [beq_eq_false_iff_ne]; exact e_name
  unfold txV at *
  go_wp2_with fail
  go_ret
  exact tells_f hno.out KW
 subst e_name
 have hq_name : (a_name == a_name) = true := beq_self_eq_true _
 by_cases e_has : a_has = b_has
 rotate_left
 ·have hno : Shut (¬ XA = XB) := shut (fun h => e_has ((HE.out.1 h).2.2.2.2.2.1))
  clear HE GCA GCB BA BB
  unfold txV at *
  have hq : (a_has == b_has) = false := by rw [beq_eq_false_iff_ne]; exact e_has
  go_wp2_with fail
  go_ret
  exact tells_f hno.out KW
 subst e_has
 have hc := sameType_any _ _ ((w.alloc (.cells CA 121)).alloc (.cells CB 121)) _ _ (ah_ty.keeps KW (fun _ _ h => h) (fun _ h => h)) (bh_ty.keeps KW (fun _ _ h => h) (fun _ h => h))
 generalize hsa : s4.toArray = sa at *
 generalize hsb : t4.toArray = sb at *
 clear hsa hsb
 unfold txV at *
 go_wp2_with fail
 refine hc.mono ?_
 rintro e w1 ⟨⟨z, rfl, hz⟩, k1⟩
 have KW := KW.trans k1 (fun _ h _ => h)
 have BA := k1.blk BA (fun h => h)
 have BB := k1.blk BB (fun h => h)
 clear hc k1 ae0 ac0 be0 bc0 ae1 ac1 be1 bc1 ae2 ac2 be2 bc2 ae3 ac3 be3 bc3 ae4 af4 be4 bf4 ae8 ac8 be8 bc8 hq_name
 cases z
 ·have hno : Shut (¬ XA = XB) := shut (fun h => by have h2 := hz.2 ((HE.out.1 h).2.2.2.2.1); cases h2)
  clear HE GCA GCB BA BB hz
  go_wp2_with fail
  go_ret
  exact tells_f hno.out KW
 have E_ty := shut (hz.1 rfl)
 clear hz
 obtain ⟨-, -, -, -, -, -, ⟨ae9, af9⟩, -, -, -, -⟩ := StB al_ty al_place al_val al_cond GCA.out BA
 obtain ⟨-, -, -, -, -, -, ⟨be9, bf9⟩, -, -, -, -⟩ := StB bl_ty bl_place bl_val bl_cond GCB.out BB
 have hc := samePlace_any _ _ w1 _ _ (ah_place.keeps KW (fun _ _ h => h) (fun _ h => h)) (bh_place.keeps KW (fun _ _ h => h) (fun _ h => h))
 generalize hsa : s9.toArray = sa at *
 generalize hsb : t9.toArray = sb at *
 clear hsa hsb
 skip
 go_wp2_with fail
 refine hc.mono ?_
 rintro e w2 ⟨⟨z, rfl, hz⟩, k2⟩
 have KW := KW.trans k2 (fun _ h _ => h)
 have BA := k2.blk BA (fun h => h)
 have BB := k2.blk BB (fun h => h)
 clear hc k2 ae9 af9 be9 bf9
 cases z
 ·have hno : Shut (¬ XA = XB) := shut (fun h => by have h2 := hz.2 ((HE.out.1 h).2.2.2.2.2.2.1); cases h2)
  clear HE GCA GCB BA BB hz
  go_wp2_with fail
  go_ret
  exact tells_f hno.out KW
 have E_place := shut (hz.1 rfl)
 clear hz
 obtain ⟨-, -, -, -, -, -, -, ⟨ae11, af11⟩, -, -, -⟩ := StB al_ty al_place al_val al_cond GCA.out BA
 obtain ⟨-, -, -, -, -, -, -, ⟨be11, bf11⟩, -, -, -⟩ := StB bl_ty bl_place bl_val bl_cond GCB.out BB
 have hc := sameValue_any _ _ w2 _ _ (ah_val.keeps KW (fun _ _ h => h) (fun _ h => h)) (bh_val.keeps KW (fun _ _ h => h) (fun _ h => h))
 generalize hsa : s11.toArray = sa at *
 generalize hsb : t11.toArray = sb at *
 clear hsa hsb
 skip
 go_wp2_with fail
 refine hc.mono ?_
 rintro e w3 ⟨⟨z, rfl, hz⟩, k3⟩
 have KW := KW.trans k3 (fun _ h _ => h)
 have BA := k3.blk BA (fun h => h)
 have BB := k3.blk BB (fun h => h)
 clear hc k3 ae11 af11 be11 bf11
 cases z
 ·have hno : Shut (¬ XA = XB) := shut (fun h => by have h2 := hz.2 ((HE.out.1 h).2.2.2.2.2.2.2.1); cases h2)
  clear HE GCA GCB BA BB hz
  go_wp2_with fail
  go_ret
  exact tells_f hno.out KW
 have E_val := shut (hz.1 rfl)
 clear hz
 obtain ⟨-, -, -, -, -, -, -, -, ⟨ae26, af26⟩, -, -⟩ := StB al_ty al_place al_val al_cond GCA.out BA
 obtain ⟨-, -, -, -, -, -, -, -, ⟨be26, bf26⟩, -, -⟩ := StB bl_ty bl_place bl_val bl_cond GCB.out BB
 have hc := sameOper_any _ _ w3 _ _ (ah_cond.keeps KW (fun _ _ h => h) (fun _ h => h)) (bh_cond.keeps KW (fun _ _ h => h) (fun _ h => h))
 generalize hsa : s26.toArray = sa at *
 generalize hsb : t26.toArray = sb at *
 clear hsa hsb
 skip
 go_wp2_with fail
 refine hc.mono ?_
 rintro e w4 ⟨⟨z, rfl, hz⟩, k4⟩
 have KW := KW.trans k4 (fun _ h _ => h)
 have BA := k4.blk BA (fun h => h)
 have BB := k4.blk BB (fun h => h)
 clear hc k4 ae26 af26 be26 bf26
 cases z
 ·have hno : Shut (¬ XA = XB) := shut (fun h => by have h2 := hz.2 ((HE.out.1 h).2.2.2.2.2.2.2.2.1); cases h2)
  clear HE GCA GCB BA BB hz
  go_wp2_with fail
  go_ret
  exact tells_f hno.out KW
 have E_cond := shut (hz.1 rfl)
 clear hz
 obtain ⟨-, -, -, -, -, -, -, -, -, ae30, -⟩ := StB al_ty al_place al_val al_cond GCA.out BA
 obtain ⟨-, -, -, -, -, -, -, -, -, be30, -⟩ := StB bl_ty bl_place bl_val bl_cond GCB.out BB
 have hc := each_st _ ent_sameStmt HI_thn.out w4 q30 y30 (ah_thn.keeps KW (fun _ _ h => h) (fun _ h => h) (fun _ _ _ h => h.keeps KW (fun _ _ h => h) (fun _ h => h))) (bh_thn.keeps KW (fun _ _ h => h) (fun _ h => h) (fun _ _ _ h => h.keeps KW (fun _ _ h => h) (fun _ h => h)))
 skip
 go_wp2_with fail
 refine hc.mono ?_
 rintro e w5 ⟨⟨z, rfl, hz⟩, k5⟩
 have KW := KW.trans k5 (fun _ h _ => h)
 have BA := k5.blk BA (fun h => h)
 have BB := k5.blk BB (fun h => h)
 clear hc k5 ae30 be30
 cases z
 ·have hno : Shut (¬ XA = XB) := shut (fun h => by have h2 := hz.2 ((HE.out.1 h).2.2.2.2.2.2.2.2.2.1); cases h2)
  clear HE GCA GCB BA BB hz
  go_wp2_with fail
  go_ret
  exact tells_f hno.out KW
 have E_thn := shut (hz.1 rfl)
 clear hz
 obtain ⟨-, -, -, -, -, -, -, -, -, -, ae31⟩ := StB al_ty al_place al_val al_cond GCA.out BA
 obtain ⟨-, -, -, -, -, -, -, -, -, -, be31⟩ := StB bl_ty bl_place bl_val bl_cond GCB.out BB
 have hc := each_st _ ent_sameStmt HI_els.out w5 q31 y31 (ah_els.keeps KW (fun _ _ h => h) (fun _ h => h) (fun _ _ _ h => h.keeps KW (fun _ _ h => h) (fun _ h => h))) (bh_els.keeps KW (fun _ _ h => h) (fun _ h => h) (fun _ _ _ h => h.keeps KW (fun _ _ h => h) (fun _ h => h)))
 skip
 go_wp2_with fail
 refine hc.mono ?_
 rintro e w6 ⟨⟨z, rfl, hz⟩, k6⟩
 have KW := KW.trans k6 (fun _ h _ => h)
 have BA := k6.blk BA (fun h => h)
 have BB := k6.blk BB (fun h => h)
 clear hc k6 ae31 be31
 cases z
 ·have hno : Shut (¬ XA = XB) := shut (fun h => by have h2 := hz.2 ((HE.out.1 h).2.2.2.2.2.2.2.2.2.2); cases h2)
  clear HE GCA GCB BA BB hz
  go_wp2_with fail
  go_ret
  exact tells_f hno.out KW
 have E_els := shut (hz.1 rfl)
 clear hz
 go_wp2_with fail
 go_ret
 exact tells_t (HE.out.2 ⟨(by first | rfl | trivial), (by first | rfl | trivial), (by first | rfl | trivial), (by first | rfl | trivial), E_ty.out, (by first | rfl | trivial), E_place.out, E_val.out, E_cond.out, E_thn.out, E_els.out⟩) KW
end Go.Proofs.YtjbcagbnagefcaaGreat
