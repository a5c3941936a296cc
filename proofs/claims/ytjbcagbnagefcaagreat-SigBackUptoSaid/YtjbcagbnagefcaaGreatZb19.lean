/- TrQ Sig16 Sig17 SigA -/
import Derived.Test.YtjbcagbnagefcaaGreatZb12
import Derived.Test.YtjbcagbnagefcaaGreatZb1
import Derived.Test.YtjbcagbnagefcaaGreatZb13
import Derived.Test.YtjbcagbnagefcaaGreatZb11
import Derived.Test.YtjbcagbnagefcaaGreatZb7
namespace Go.Proofs.YtjbcagbnagefcaaGreat
open Go.RowKit
attribute [local irreducible] wpMix wpList
attribute [local go_sem ↓] exec_mid_ty exec_store_ty exec_mid_pl exec_store_pl exec_mid_opr exec_store_opr exec_mid_val exec_store_val exec_mid_st exec_store_st exec_mid_fld exec_store_fld exec_mid_str exec_store_str exec_mid_lif exec_store_lif exec_mid_fun exec_store_fun exec_mid_cr exec_store_cr
attribute [local go_sem] rowOk_new World.setRow_alloc_new
set_option maxRecDepth 100000 in
set_option linter.unusedSimpArgs false in
set_option maxHeartbeats 4000000 in
theorem rfields_any {S S' : Nat → Prop} (l m : List FldD) (w : World) {ax ay : Option Addr} (cx cy : Nat) (hx : SlIs S w 6 (FldIs S w) ax l) (hy : SlIs S' w 6 (FldIs S' w) ay m) :
  Calls Tryz.prog 94 #[.slice ax l.length cx, .slice ay m.length cy] w (Tells w (l = m)) := by
 have hlx := hx.1
 have hly := hy.1
 unfold bigN at hlx hly
 have HX := shut hx
 have HY := shut hy
 clear hx hy
 by_cases hne : l.length = m.length
 rotate_left
 ·have hne' : ¬ (l.length : Int) = m.length := by omega
  have hl : l ≠ m := fun h => hne (by rw [h])
  go_enter Tryz.func94, Tryz.ntmps94
  go_wp2_with fail
  go_ret
  exact tells_f hl (Keeps.refl _ _)
 obtain ⟨n, hn⟩ : ∃ n, l.length = n := ⟨_, rfl⟩
 have hm : m.length = n := by omega
 rw [hn, hm]
 rw [hn] at hlx
 clear hne hly
 have HN := shut hn
 have HM := shut hm
 clear hn hm
 go_enter Tryz.func94, Tryz.ntmps94
 go_wp2_with fail
 go_loopw [5] (fun s5 wx => ∃ t : Nat, s5 = .int .i64 t ∧ t ≤ n ∧ Keeps Nothing w wx ∧ Shut (l.take t = m.take t)) (fun s5 _ => n - (intOf s5).toNat)
 case atStart => exact ⟨0, rfl, Nat.zero_le _, Keeps.refl _ _, shut (by simp)⟩
 case round =>
  obtain ⟨t, rfl, ht, KL, HT⟩ := hrel
  by_cases hlt : t < n
  rotate_left
  ·obtain rfl : t = n := by omega
   have m1 : ¬ (t : Int) < t := by omega
   go_wp2_with fail
   go_ret
   refine tells_t ?_ KL
   have h := HT.out
   rwa [List.take_of_length_le (Nat.le_of_eq HN.out), List.take_of_length_le (Nat.le_of_eq HM.out)] at h
  obtain ⟨a, ha⟩ : ∃ a, l[t]? = some a := ⟨_, List.getElem?_eq_getElem (by rw [HN.out]; exact hlt)⟩
  obtain ⟨b, hb⟩ : ∃ b, m[t]? = some b := ⟨_, List.getElem?_eq_getElem (by rw [HM.out]; exact hlt)⟩
  obtain ⟨g1, o1, rfl, -, cs1, l1, r1, i1⟩ := (HX.out.keeps KL (fun _ _ h => h) (fun _ h => h) (fun _ _ _ h => h.keeps KL (fun _ _ h => h) (fun _ h => h))).get ha
  obtain ⟨g2, o2, rfl, -, cs2, l2, r2, i2⟩ := (HY.out.keeps KL (fun _ _ h => h) (fun _ h => h) (fun _ _ _ h => h.keeps KL (fun _ _ h => h) (fun _ h => h))).get hb
  have HA := shut ha
  have HB := shut hb
  clear ha hb
  have m0 : (0 : Int) ≤ t := by omega
  have m1 : (t : Int) < n := by omega
  obtain ⟨a_mu, a_name, a_ty⟩ := a
  obtain ⟨b_mu, b_name, b_ty⟩ := b
  obtain ⟨s2, hcs, ah_name, ah_ty⟩ := i1
  obtain ⟨t2, hds, bh_name, bh_ty⟩ := i2
  rw [hcs] at r1
  rw [hds] at r2
  simp only at ah_ty bh_ty r1 r2
  have al := ah_ty.len
  have bl := bh_ty.len
  have R1 := shut r1
  have R2 := shut r2
  clear r1 r2 hcs hds l1 l2 ah_name bh_name
  have HE : Shut ((⟨a_mu, a_name, a_ty⟩ : FldD) = ⟨b_mu, b_name, b_ty⟩ ↔ a_mu = b_mu ∧ a_name = b_name ∧ a_ty = b_ty) := shut (by simp)
  obtain ⟨XA, hXA⟩ : ∃ X, X = (⟨a_mu, a_name, a_ty⟩ : FldD) := ⟨_, rfl⟩
  obtain ⟨XB, hXB⟩ : ∃ X, X = (⟨b_mu, b_name, b_ty⟩ : FldD) := ⟨_, rfl⟩
  rw [← hXA, ← hXB] at HE
  rw [← hXA] at HA
  rw [← hXB] at HB
  clear hXA hXB
  have hout : Shut (¬ XA = XB → ¬ l = m) := shut (fun h => ne_at HA.out HB.out h)
  go_wp2_with fail
  refine wp_region_mix (fun V => Keeps Nothing wr V) [(true, 0), (true, 1), (true, 2), (true, 3), (true, 4), (true, 5), (true, 6), (true, 7), (true, 8), (true, 9), (true, 10), (true, 11), (true, 12), (true, 13), (true, 14), (true, 15), (true, 16), (true, 17), (true, 18), (true, 19), (true, 20), (true, 21), (true, 22), (true, 23), (true, 24), (true, 25), (true, 26), (true, 27), (true, 28), (true, 29), (true, 30), (true, 31), (true, 32), (true, 33), (true, 34), (false, 35), (true, 36), (true, 37)] (by kernel_rfl) (by kernel_rfl) (Keeps.refl _ _).drew ?_
  simp only [mixItems, List.map_cons, List.map_nil, List.getD_cons_zero, List.getD_cons_succ]
  have kk : Keeps Nothing wr wr.drew := (Keeps.refl Nothing wr).drew
  repeat (refine wpMix_free (fun K hK => ?_); go_simp; refine hK _ ?_; clear hK K)
  refine wpMix_yield (v := .bool a_mu) (fun V hV => ?_) (fun K hK => ?_)
  ·obtain ⟨z0, z1, z2, z3⟩ := FldR al (rangeAt_keeps R1.out hV (fun h => h))
   unfold txV at z1
   go_simp
  go_simp
  refine hK _ ?_
  clear hK K
  repeat (refine wpMix_free (fun K hK => ?_); go_simp; refine hK _ ?_; clear hK K)
  refine wpMix_yield (v := .bool b_mu) (fun V hV => ?_) (fun K hK => ?_)
  ·obtain ⟨z0, z1, z2, z3⟩ := FldR bl (rangeAt_keeps R2.out hV (fun h => h))
   unfold txV at z1
   go_simp
  go_simp
  refine hK _ ?_
  clear hK K
  by_cases hmu : a_mu = b_mu
  rotate_left
  ·have hno := shut (hout.out (fun h => hmu (HE.out.1 h).1))
   have hq : (a_mu == b_mu) = false := by rw [beq_eq_false_iff_ne]; exact hmu
   clear HE hout hmu
   refine wpMix_free (fun K hK => ?_); go_simp; refine hK _ ?_; clear hK K
   refine wpMix_free (fun K hK => ?_); go_simp; refine hK _ ?_; clear hK K
   iterate 11 refine wpMix_unwK (by kernel_rfl) ?_
   refine wpMix_free (fun K hK => ?_); go_simp; refine hK _ ?_; clear hK K
   refine wpMix_free (fun K hK => ?_); go_simp; refine hK _ ?_; clear hK K
   iterate 10 refine wpMix_unwK (by kernel_rfl) ?_
   refine wpMix_unwK1 (by kernel_rfl) kk ?_
   iterate 1 refine wpMix_unwK (by kernel_rfl) ?_
   refine wpMix_free (fun K hK => ?_); go_simp; refine hK _ ?_; clear hK K
   refine wpMix_nil ?_
   repeat (first | go_values | go_skip | go_guarded | go_step | go_upon | go_back)
   go_ret
   exact tells_f hno.out (KL.trans kk (fun _ h _ => h))
  subst hmu
  have hq : (a_mu == a_mu) = true := beq_self_eq_true _
  repeat (refine wpMix_free (fun K hK => ?_); go_simp; refine hK _ ?_; clear hK K)
  refine wpMix_yield (v := .string ⟨a_name.toArray⟩) (fun V hV => ?_) (fun K hK => ?_)
  ·obtain ⟨z0, z1, z2, z3⟩ := FldR al (rangeAt_keeps R1.out hV (fun h => h))
   unfold txV at z1
   go_simp
  go_simp
  refine hK _ ?_
  clear hK K
  repeat (refine wpMix_free (fun K hK => ?_); go_simp; refine hK _ ?_; clear hK K)
  refine wpMix_yield (v := .string ⟨b_name.toArray⟩) (fun V hV => ?_) (fun K hK => ?_)
  ·obtain ⟨z0, z1, z2, z3⟩ := FldR bl (rangeAt_keeps R2.out hV (fun h => h))
   unfold txV at z1
   go_simp
  go_simp
  refine hK _ ?_
  clear hK K
  by_cases hnm : a_name = b_name
  rotate_left
  ·have hno := shut (hout.out (fun h => hnm (HE.out.1 h).2.1))
   have hb1 : (a_name == b_name) = false := by rw [beq_eq_false_iff_ne]; exact hnm
   clear HE hout hnm
   refine wpMix_free (fun K hK => ?_); go_simp; refine hK _ ?_; clear hK K
   refine wpMix_free (fun K hK => ?_); go_simp; refine hK _ ?_; clear hK K
   refine wpMix_free (fun K hK => ?_); go_simp; refine hK _ ?_; clear hK K
   iterate 10 refine wpMix_unwK (by kernel_rfl) ?_
   refine wpMix_unwK1 (by kernel_rfl) kk ?_
   iterate 1 refine wpMix_unwK (by kernel_rfl) ?_
   refine wpMix_free (fun K hK => ?_); go_simp; refine hK _ ?_; clear hK K
   refine wpMix_nil ?_
   repeat (first | go_values | go_skip | go_guarded | go_step | go_upon | go_back)
   go_ret
   exact tells_f hno.out (KL.trans kk (fun _ h _ => h))
  subst hnm
  have hb1 : (a_name == a_name) = true := beq_self_eq_true _
  repeat (refine wpMix_free (fun K hK => ?_); go_simp; refine hK _ ?_; clear hK K)
  refine wpMix_yield (v := .agg s2.toArray) (fun V hV => ?_) (fun K hK => ?_)
  ·obtain ⟨z0, z1, z2, z3⟩ := FldR al (rangeAt_keeps R1.out hV (fun h => h))
   unfold txV at z1
   go_simp
  go_simp
  refine hK _ ?_
  clear hK K
  repeat (refine wpMix_free (fun K hK => ?_); go_simp; refine hK _ ?_; clear hK K)
  refine wpMix_yield (v := .agg t2.toArray) (fun V hV => ?_) (fun K hK => ?_)
  ·obtain ⟨z0, z1, z2, z3⟩ := FldR bl (rangeAt_keeps R2.out hV (fun h => h))
   unfold txV at z1
   go_simp
  go_simp
  refine hK _ ?_
  clear hK K
  repeat (refine wpMix_free (fun K hK => ?_); go_simp; refine hK _ ?_; clear hK K)
  have hc := rsameType_any a_ty b_ty wr.drew s2 t2 (ah_ty.keeps kk (fun _ _ h => h) (fun _ h => h)) (bh_ty.keeps kk (fun _ _ h => h) (fun _ h => h))
  refine wpMix_one (fun K hK => ?_)
  go_wp2_with fail
  refine hc.mono ?_
  rintro e w1 ⟨⟨z, rfl, hz⟩, k1⟩
  have kk := kk.trans k1 (fun _ h _ => h)
  have HZ := shut hz
  clear hc k1 hz
  go_wp2_with fail
  refine hK _ _ kk ?_
  clear hK K
  cases z with
  | false =>
   have hno := shut (hout.out (fun h => by have h2 := HZ.out.2 (HE.out.1 h).2.2; cases h2))
   clear HE hout HZ
   repeat (refine wpMix_free (fun K hK => ?_); go_simp; refine hK _ ?_; clear hK K)
   refine wpMix_nil ?_
   repeat (first | go_values | go_skip | go_guarded | go_step | go_upon | go_back)
   go_ret
   exact tells_f hno.out (KL.trans kk (fun _ h _ => h))
  | true =>
   have hab := shut (HE.out.2 ⟨by first | rfl | trivial, by first | rfl | trivial, HZ.out.1 rfl⟩)
   have HT2 := shut (take_eq HA.out HB.out HT.out hab.out)
   clear HE hout HZ hab
   repeat (refine wpMix_free (fun K hK => ?_); go_simp; refine hK _ ?_; clear hK K)
   refine wpMix_nil ?_
   go_wp2_with fail
   go_roundw
   case rel => exact ⟨t + 1, by go_num, by omega, KL.trans kk (fun _ h _ => h), HT2⟩
   case measure => simp [intOf]; omega
end Go.Proofs.YtjbcagbnagefcaaGreat
namespace Go.Proofs.YtjbcagbnagefcaaGreat
open Go.RowKit
attribute [local go_sem ↓] exec_mid_ty exec_store_ty exec_mid_pl exec_store_pl exec_mid_opr exec_store_opr exec_mid_val exec_store_val exec_mid_st exec_store_st exec_mid_fld exec_store_fld exec_mid_str exec_store_str exec_mid_lif exec_store_lif exec_mid_fun exec_store_fun exec_mid_cr exec_store_cr
attribute [local go_sem] rowOk_new World.setRow_alloc_new
set_option maxRecDepth 100000 in
set_option maxHeartbeats 4000000 in
theorem rsameStruct_any {S S' : Nat → Prop} (a b : StrD) (w : World) (cs ds : List Value) (ha : StrIs S w a cs) (hb : StrIs S' w b ds) : Calls Tryz.prog 67 #[.agg cs.toArray, .agg ds.toArray] w (Tells w (a = b)) := by
 obtain ⟨a_pub, a_name, a_lives, a_fields, a_pos⟩ := a
 obtain ⟨b_pub, b_name, b_lives, b_fields, b_pos⟩ := b
 have ag1 := agg_ok ha.len ha.one
 have ag2 := agg_ok hb.len hb.one
 obtain ⟨p2, q2, p3, q3, hcs, ah_name, ah_lives, ah_fields⟩ := ha
 have HCA := shut hcs
 clear hcs
 obtain ⟨x2, y2, x3, y3, hcs, bh_name, bh_lives, bh_fields⟩ := hb
 have HCB := shut hcs
 clear hcs
 simp only at HCA HCB ah_name bh_name ah_lives bh_lives ah_fields bh_fields
 have HE : Shut ((StrD.mk a_pub a_name a_lives a_fields a_pos) = (StrD.mk b_pub b_name b_lives b_fields b_pos) ↔ a_pub = b_pub ∧ a_name = b_name ∧ a_lives = b_lives ∧ a_fields = b_fields ∧ a_pos = b_pos) := shut (by rw [StrD.mk.injEq])
 obtain ⟨XA, hXA⟩ : ∃ X, X = StrD.mk a_pub a_name a_lives a_fields a_pos := ⟨_, rfl⟩
 obtain ⟨XB, hXB⟩ : ∃ X, X = StrD.mk b_pub b_name b_lives b_fields b_pos := ⟨_, rfl⟩
 rw [← hXA, ← hXB] at HE ⊢
 clear hXA hXB
 obtain ⟨CA, hCA⟩ : ∃ C, C = cs.toArray := ⟨_, rfl⟩
 obtain ⟨CB, hCB⟩ : ∃ C, C = ds.toArray := ⟨_, rfl⟩
 rw [← hCA] at ag1 ⊢
 rw [← hCB] at ag2 ⊢
 rw [HCA.out] at hCA
 rw [HCB.out] at hCB
 have GCA := shut hCA
 have GCB := shut hCB
 clear hCA hCB HCA HCB
 have KW : Keeps Nothing w ((w.alloc (.cells CA 49)).alloc (.cells CB 49)) := ((Keeps.refl Nothing w).alloc _).alloc _
 have BA : Blk ((w.alloc (.cells CA 49)).alloc (.cells CB 49)) w.heap.size CA 49 := blk_alloc (blk_new w CA 49) _
 have BB : Blk ((w.alloc (.cells CA 49)).alloc (.cells CB 49)) (w.heap.size + 1) CB 49 := by have h := blk_new (w.alloc (.cells CA 49)) CB 49; rwa [World.size_alloc] at h
 go_enter Tryz.func67, Tryz.ntmps67
 obtain ⟨ae0, ae1, ae2, -, ae4⟩ := StrB  GCA.out BA
 obtain ⟨be0, be1, be2, -, be4⟩ := StrB  GCB.out BB
 have ac0 := blk_inv BA ae0
 have bc0 := blk_inv BB be0
 have ac1 := blk_inv BA ae1
 have bc1 := blk_inv BB be1
 have ac2 := blk_inv BA ae2
 have bc2 := blk_inv BB be2
 have ac4 := blk_inv BA ae4
 have bc4 := blk_inv BB be4
 by_cases e_pub : a_pub = b_pub
 rotate_left
 ·have hno : Shut (¬ XA = XB) := shut (fun h => e_pub ((HE.out.1 h).1))
  clear HE GCA GCB BA BB
  unfold txV at *
  have hq : (a_pub == b_pub) = false := by rw [beq_eq_false_iff_ne]; exact e_pub
  go_wp2_with fail
  go_ret
  exact tells_f hno.out KW
 subst e_pub
 by_cases e_name : a_name = b_name
 rotate_left
 ·have hno : Shut (¬ XA = XB) := shut (fun h => e_name ((HE.out.1 h).2.1))
  clear HE GCA GCB BA BB
  have hq : (a_name == b_name) = false := by rw [beq_eq_false_iff_ne]; exact e_name
  unfold txV at *
  go_wp2_with fail
  go_ret
  exact tells_f hno.out KW
 subst e_name
 have hq_name : (a_name == a_name) = true := beq_self_eq_true _
 by_cases e_pos : a_pos = b_pos
 rotate_left
 ·have hno : Shut (¬ XA = XB) := shut (fun h => e_pos ((HE.out.1 h).2.2.2.2))
  clear HE GCA GCB BA BB
  unfold txV at *
  go_wp2_with fail
  go_ret
  exact tells_f hno.out KW
 subst e_pos
 have hc := rtexts_any ((w.alloc (.cells CA 49)).alloc (.cells CB 49)) q2 y2 (ah_lives.keeps KW (fun _ _ h => h) (fun _ h => h) (fun _ _ _ h => h)) (bh_lives.keeps KW (fun _ _ h => h) (fun _ h => h) (fun _ _ _ h => h))
 unfold txV at *
 go_wp2_with fail
 refine hc.mono ?_
 rintro e w1 ⟨⟨z, rfl, hz⟩, k1⟩
 have KW := KW.trans k1 (fun _ h _ => h)
 have BA := k1.blk BA (fun h => h)
 have BB := k1.blk BB (fun h => h)
 clear hc k1 ae0 ac0 be0 bc0 ae1 ac1 be1 bc1 ae2 ac2 be2 bc2 ae4 ac4 be4 bc4 hq_name
 cases z
 ·have hno : Shut (¬ XA = XB) := shut (fun h => by have h2 := hz.2 ((HE.out.1 h).2.2.1); cases h2)
  clear HE GCA GCB BA BB hz
  go_wp2_with fail
  go_ret
  exact tells_f hno.out KW
 have E_lives := shut (hz.1 rfl)
 clear hz
 obtain ⟨-, -, -, ae3, -⟩ := StrB  GCA.out BA
 obtain ⟨-, -, -, be3, -⟩ := StrB  GCB.out BB
 have hc := rfields_any _ _ w1 q3 y3 (ah_fields.keeps KW (fun _ _ h => h) (fun _ h => h) (fun _ _ _ h => h.keeps KW (fun _ _ h => h) (fun _ h => h))) (bh_fields.keeps KW (fun _ _ h => h) (fun _ h => h) (fun _ _ _ h => h.keeps KW (fun _ _ h => h) (fun _ h => h)))
 skip
 go_wp2_with fail
 refine hc.mono ?_
 rintro e w2 ⟨⟨z, rfl, hz⟩, k2⟩
 have KW := KW.trans k2 (fun _ h _ => h)
 have BA := k2.blk BA (fun h => h)
 have BB := k2.blk BB (fun h => h)
 clear hc k2 ae3 be3
 cases z
 ·have hno : Shut (¬ XA = XB) := shut (fun h => by have h2 := hz.2 ((HE.out.1 h).2.2.2.1); cases h2)
  clear HE GCA GCB BA BB hz
  go_wp2_with fail
  go_ret
  exact tells_f hno.out KW
 have E_fields := shut (hz.1 rfl)
 clear hz
 go_wp2_with fail
 go_ret
 exact tells_t (HE.out.2 ⟨(by first | rfl | trivial), (by first | rfl | trivial), E_lives.out, E_fields.out, (by first | rfl | trivial)⟩) KW
end Go.Proofs.YtjbcagbnagefcaaGreat
namespace Go.Proofs.YtjbcagbnagefcaaGreat
open Go.RowKit
attribute [local irreducible] wpMix wpList
attribute [local go_sem ↓] exec_mid_ty exec_store_ty exec_mid_pl exec_store_pl exec_mid_opr exec_store_opr exec_mid_val exec_store_val exec_mid_st exec_store_st exec_mid_fld exec_store_fld exec_mid_str exec_store_str exec_mid_lif exec_store_lif exec_mid_fun exec_store_fun exec_mid_cr exec_store_cr
attribute [local go_sem] rowOk_new World.setRow_alloc_new
set_option maxRecDepth 100000 in
set_option maxHeartbeats 4000000 in
theorem rsameFunc_any {S S' : Nat → Prop} (a b : FunD) (w : World) (cs ds : List Value) (ha : FunIs S w a cs) (hb : FunIs S' w b ds) : Calls Tryz.prog 68 #[.agg cs.toArray, .agg ds.toArray] w (Tells w (a = b)) := by
 obtain ⟨a_pub, a_name, a_lives, a_params, a_result, a_body, a_pos⟩ := a
 obtain ⟨b_pub, b_name, b_lives, b_params, b_result, b_body, b_pos⟩ := b
 have ag1 := agg_ok ha.len ha.one
 have ag2 := agg_ok hb.len hb.one
 obtain ⟨p2, q2, p3, q3, s4, p8, q8, hcs, ah_name, ah_lives, ah_params, ah_result, ah_body⟩ := ha
 have HCA := shut hcs
 clear hcs
 obtain ⟨x2, y2, x3, y3, t4, x8, y8, hcs, bh_name, bh_lives, bh_params, bh_result, bh_body⟩ := hb
 have HCB := shut hcs
 clear hcs
 simp only at HCA HCB ah_name bh_name ah_lives bh_lives ah_params bh_params ah_result bh_result ah_body bh_body
 have HE : Shut ((FunD.mk a_pub a_name a_lives a_params a_result a_body a_pos) = (FunD.mk b_pub b_name b_lives b_params b_result b_body b_pos) ↔ a_pub = b_pub ∧ a_name = b_name ∧ a_lives = b_lives ∧ a_params = b_params ∧ a_result = b_result ∧ a_body = b_body ∧ a_pos = b_pos) := shut (by rw [FunD.mk.injEq])
 obtain ⟨XA, hXA⟩ : ∃ X, X = FunD.mk a_pub a_name a_lives a_params a_result a_body a_pos := ⟨_, rfl⟩
 obtain ⟨XB, hXB⟩ : ∃ X, X = FunD.mk b_pub b_name b_lives b_params b_result b_body b_pos := ⟨_, rfl⟩
 rw [← hXA, ← hXB] at HE ⊢
 clear hXA hXB
 obtain ⟨CA, hCA⟩ : ∃ C, C = cs.toArray := ⟨_, rfl⟩
 obtain ⟨CB, hCB⟩ : ∃ C, C = ds.toArray := ⟨_, rfl⟩
 rw [← hCA] at ag1 ⊢
 rw [← hCB] at ag2 ⊢
 rw [HCA.out] at hCA
 rw [HCB.out] at hCB
 have GCA := shut hCA
 have GCB := shut hCB
 clear hCA hCB HCA HCB
 have KW : Keeps Nothing w ((w.alloc (.cells CA 56)).alloc (.cells CB 56)) := ((Keeps.refl Nothing w).alloc _).alloc _
 have BA : Blk ((w.alloc (.cells CA 56)).alloc (.cells CB 56)) w.heap.size CA 56 := blk_alloc (blk_new w CA 56) _
 have BB : Blk ((w.alloc (.cells CA 56)).alloc (.cells CB 56)) (w.heap.size + 1) CB 56 := by have h := blk_new (w.alloc (.cells CA 56)) CB 56; rwa [World.size_alloc] at h
 have al_result := ah_result.len
 have bl_result := bh_result.len
 go_enter Tryz.func68, Tryz.ntmps68
 obtain ⟨ae0, ae1, ae2, ae3, -, -, ae9⟩ := FunB al_result GCA.out BA
 obtain ⟨be0, be1, be2, be3, -, -, be9⟩ := FunB bl_result GCB.out BB
 have ac0 := blk_inv BA ae0
 have bc0 := blk_inv BB be0
 have ac1 := blk_inv BA ae1
 have bc1 := blk_inv BB be1
 have ac2 := blk_inv BA ae2
 have bc2 := blk_inv BB be2
 have ac3 := blk_inv BA ae3
 have bc3 := blk_inv BB be3
 have ac9 := blk_inv BA ae9
 have bc9 := blk_inv BB be9
 by_cases e_pub : a_pub = b_pub
 rotate_left
 ·have hno : Shut (¬ XA = XB) := shut (fun h => e_pub ((HE.out.1 h).1))
  clear HE GCA GCB BA BB
  unfold txV at *
  have hq : (a_pub == b_pub) = false := by rw [beq_eq_false_iff_ne]; exact e_pub
  go_wp2_with fail
  go_ret
  exact tells_f hno.out KW
 subst e_pub
 by_cases e_name : a_name = b_name
 rotate_left
 ·have hno : Shut (¬ XA = XB) := shut (fun h => e_name ((HE.out.1 h).2.1))
  clear HE GCA GCB BA BB
  have hq : (a_name == b_name) = false := by rw [beq_eq_false_iff_ne]; exact e_name
  unfold txV at *
  go_wp2_with fail
  go_ret
  exact tells_f hno.out KW
 subst e_name
 have hq_name : (a_name == a_name) = true := beq_self_eq_true _
 by_cases e_pos : a_pos = b_pos
 rotate_left
 ·have hno : Shut (¬ XA = XB) := shut (fun h => e_pos ((HE.out.1 h).2.2.2.2.2.2))
  clear HE GCA GCB BA BB
  unfold txV at *
  go_wp2_with fail
  go_ret
  exact tells_f hno.out KW
 subst e_pos
 by_cases e_lives : a_lives.length = b_lives.length
 rotate_left
 ·have hno : Shut (¬ XA = XB) := shut (fun h => e_lives (congrArg List.length ((HE.out.1 h).2.2.1)))
  have hlq : ¬ (a_lives.length : Int) = b_lives.length := by omega
  clear HE GCA GCB BA BB
  unfold txV at *
  go_wp2_with fail
  go_ret
  exact tells_f hno.out KW
 have el_lives : (a_lives.length : Int) = b_lives.length := by omega
 have hc := rfields_any _ _ ((w.alloc (.cells CA 56)).alloc (.cells CB 56)) q3 y3 (ah_params.keeps KW (fun _ _ h => h) (fun _ h => h) (fun _ _ _ h => h.keeps KW (fun _ _ h => h) (fun _ h => h))) (bh_params.keeps KW (fun _ _ h => h) (fun _ h => h) (fun _ _ _ h => h.keeps KW (fun _ _ h => h) (fun _ h => h)))
 unfold txV at *
 go_wp2_with fail
 refine hc.mono ?_
 rintro e w1 ⟨⟨z, rfl, hz⟩, k1⟩
 have KW := KW.trans k1 (fun _ h _ => h)
 have BA := k1.blk BA (fun h => h)
 have BB := k1.blk BB (fun h => h)
 clear hc k1 ae0 ac0 be0 bc0 ae1 ac1 be1 bc1 ae2 ac2 be2 bc2 ae3 ac3 be3 bc3 ae9 ac9 be9 bc9 hq_name
 cases z
 ·have hno : Shut (¬ XA = XB) := shut (fun h => by have h2 := hz.2 ((HE.out.1 h).2.2.2.1); cases h2)
  clear HE GCA GCB BA BB hz
  go_wp2_with fail
  go_ret
  exact tells_f hno.out KW
 have E_params := shut (hz.1 rfl)
 clear hz
 obtain ⟨-, -, -, -, ⟨ae4, af4⟩, -, -⟩ := FunB al_result GCA.out BA
 obtain ⟨-, -, -, -, ⟨be4, bf4⟩, -, -⟩ := FunB bl_result GCB.out BB
 have hc := rsameType_any _ _ w1 _ _ (ah_result.keeps KW (fun _ _ h => h) (fun _ h => h)) (bh_result.keeps KW (fun _ _ h => h) (fun _ h => h))
 generalize hsa : s4.toArray = sa at *
 generalize hsb : t4.toArray = sb at *
 clear hsa hsb
 skip
 go_wp2_with fail
 refine hc.mono ?_
 rintro e w2 ⟨⟨z, rfl, hz⟩, k2⟩
 have KW := KW.trans k2 (fun _ h _ => h)
 have BA := k2.blk BA (fun h => h)
 have BB := k2.blk BB (fun h => h)
 clear hc k2 ae4 af4 be4 bf4
 cases z
 ·have hno : Shut (¬ XA = XB) := shut (fun h => by have h2 := hz.2 ((HE.out.1 h).2.2.2.2.1); cases h2)
  clear HE GCA GCB BA BB hz
  go_wp2_with fail
  go_ret
  exact tells_f hno.out KW
 have E_result := shut (hz.1 rfl)
 clear hz
 obtain ⟨-, -, -, -, -, ae8, -⟩ := FunB al_result GCA.out BA
 obtain ⟨-, -, -, -, -, be8, -⟩ := FunB bl_result GCB.out BB
 have hc := rs_all _ _ w2 _ _ q8 y8 (ah_body.keeps KW (fun _ _ h => h) (fun _ h => h) (fun _ _ _ h => h.keeps KW (fun _ _ h => h) (fun _ h => h))) (bh_body.keeps KW (fun _ _ h => h) (fun _ h => h) (fun _ _ _ h => h.keeps KW (fun _ _ h => h) (fun _ h => h)))
 skip
 go_wp2_with fail
 refine hc.mono ?_
 rintro e w3 ⟨⟨z, rfl, hz⟩, k3⟩
 have KW := KW.trans k3 (fun _ h _ => h)
 have BA := k3.blk BA (fun h => h)
 have BB := k3.blk BB (fun h => h)
 clear hc k3 ae8 be8
 cases z
 ·have hno : Shut (¬ XA = XB) := shut (fun h => by have h2 := hz.2 ((HE.out.1 h).2.2.2.2.2.1); cases h2)
  clear HE GCA GCB BA BB hz
  go_wp2_with fail
  go_ret
  exact tells_f hno.out KW
 have E_body := shut (hz.1 rfl)
 clear hz
 obtain ⟨n, hn⟩ : ∃ n, a_lives.length = n := ⟨_, rfl⟩
 have hm : b_lives.length = n := by omega
 have hnb : n ≤ bigN := by rw [← hn]; exact ah_lives.1
 unfold bigN at hnb
 go_wp2_with fail
 try clear ae8
 try clear be8
 try clear el_lives
 rw [hn] at GCA
 rw [hm] at GCB
 try rw [hn]
 try rw [hm]
 have HN := shut hn
 have HM := shut hm
 clear hn hm e_lives
 obtain ⟨wb, hwb⟩ : ∃ W, W = w3 := ⟨_, rfl⟩
 rw [← hwb] at KW BA BB ⊢
 clear hwb
 go_loopw [5] (fun s wx => ∃ t : Nat, s = .int .i64 t ∧ t ≤ n ∧ Keeps Nothing wb wx ∧ Shut (a_lives.take t = b_lives.take t)) (fun s _ => n - (intOf s).toNat)
 case atStart => exact ⟨0, rfl, Nat.zero_le _, Keeps.refl _ _, shut (by simp)⟩
 case round =>
  obtain ⟨t, rfl, ht, KL, HT⟩ := hrel
  have BA2 := KL.blk BA (fun h => h)
  have BB2 := KL.blk BB (fun h => h)
  have KA := KW.trans KL (fun _ h _ => h)
  obtain ⟨-, -, ae2, -, -, -, -⟩ := FunB al_result GCA.out BA2
  obtain ⟨-, -, be2, -, -, -, -⟩ := FunB bl_result GCB.out BB2
  by_cases hlt : t < n
  ·obtain ⟨d, hd⟩ : ∃ d, a_lives[t]? = some d := ⟨_, List.getElem?_eq_getElem (by rw [HN.out]; exact hlt)⟩
   obtain ⟨d2, hd2⟩ : ∃ d, b_lives[t]? = some d := ⟨_, List.getElem?_eq_getElem (by rw [HM.out]; exact hlt)⟩
   obtain ⟨g1, o1, rfl, -, cs1, l1, r1, i1⟩ := (ah_lives.keeps KA (fun _ _ h => h) (fun _ h => h) (fun _ _ _ h => h.keeps KA (fun _ _ h => h) (fun _ h => h))).get hd
   obtain ⟨g2, o2, rfl, -, cs2, l2, r2, i2⟩ := (bh_lives.keeps KA (fun _ _ h => h) (fun _ h => h) (fun _ _ _ h => h.keeps KA (fun _ _ h => h) (fun _ h => h))).get hd2
   have HD := shut hd
   have HD2 := shut hd2
   have hdm := List.mem_of_getElem? hd
   have hdm2 := List.mem_of_getElem? hd2
   clear hd hd2
   have m0 : (0 : Int) ≤ t := by omega
   have m1 : (t : Int) < n := by omega
   obtain ⟨d_name, d_over⟩ := d
   obtain ⟨e_name, e_over⟩ := d2
   obtain ⟨u1, v1, hcs1, ln1, oh1⟩ := i1
   obtain ⟨u2, v2, hcs2, ln2, oh2⟩ := i2
   rw [hcs1] at r1
   rw [hcs2] at r2
   simp only at r1 r2 oh1 oh2
   have R1 := shut r1
   have R2 := shut r2
   clear r1 r2 hcs1 hcs2 ln1 ln2 l1 l2 hdm hdm2
   have HL : Shut ((⟨d_name, d_over⟩ : LifD) = ⟨e_name, e_over⟩ ↔ d_name = e_name ∧ d_over = e_over) := shut (by simp)
   obtain ⟨D1, hD1⟩ : ∃ X, X = (⟨d_name, d_over⟩ : LifD) := ⟨_, rfl⟩
   obtain ⟨D2, hD2⟩ : ∃ X, X = (⟨e_name, e_over⟩ : LifD) := ⟨_, rfl⟩
   rw [← hD1, ← hD2] at HL
   rw [← hD1] at HD
   rw [← hD2] at HD2
   clear hD1 hD2
   have HOUT : Shut (¬ D1 = D2 → ¬ XA = XB) := shut (fun q h => ne_at HD.out HD2.out q ((HE.out.1 h).2.2.1))
   go_upto_region 6 with fail
   refine wp_region_mix (fun V => Keeps Nothing wr V) [(true, 0), (true, 1), (true, 2), (true, 3), (true, 4), (true, 5), (true, 6), (true, 7), (true, 8), (true, 9), (true, 10), (true, 11), (true, 12), (true, 13), (true, 14), (true, 15), (true, 16), (true, 17), (true, 18), (true, 19), (true, 20), (true, 21), (true, 22), (true, 23), (true, 24), (true, 25), (false, 26), (true, 27), (true, 28)] (by kernel_rfl) (by kernel_rfl) (Keeps.refl Nothing wr).drew ?_
   simp only [mixItems, List.map_cons, List.map_nil, List.getD_cons_zero, List.getD_cons_succ]
   have kd : Keeps Nothing wr wr.drew := (Keeps.refl Nothing wr).drew
   repeat (refine wpMix_free (fun K hK => ?_); go_simp; refine hK _ ?_; clear hK K)
   refine wpMix_yield (v := .slice (some ⟨g1, o1, none⟩) n q2) (fun V hV => ?_) (fun K hK => ?_)
   ·have zz := hV.cell ae2 (fun h => h)
    go_simp
   go_simp
   refine hK _ ?_
   clear hK K
   repeat (refine wpMix_free (fun K hK => ?_); go_simp; refine hK _ ?_; clear hK K)
   refine wpMix_yield (v := .string ⟨d_name.toArray⟩) (fun V hV => ?_) (fun K hK => ?_)
   ·obtain ⟨z0, z1⟩ := LifR (rangeAt_keeps R1.out hV (fun h => h))
    unfold txV at z0
    go_simp
   go_simp
   refine hK _ ?_
   clear hK K
   repeat (refine wpMix_free (fun K hK => ?_); go_simp; refine hK _ ?_; clear hK K)
   refine wpMix_yield (v := .slice (some ⟨g2, o2, none⟩) n y2) (fun V hV => ?_) (fun K hK => ?_)
   ·have zz := hV.cell be2 (fun h => h)
    go_simp
   go_simp
   refine hK _ ?_
   clear hK K
   repeat (refine wpMix_free (fun K hK => ?_); go_simp; refine hK _ ?_; clear hK K)
   refine wpMix_yield (v := .string ⟨e_name.toArray⟩) (fun V hV => ?_) (fun K hK => ?_)
   ·obtain ⟨z0, z1⟩ := LifR (rangeAt_keeps R2.out hV (fun h => h))
    unfold txV at z0
    go_simp
   go_simp
   refine hK _ ?_
   clear hK K
   by_cases hnm : d_name = e_name
   rotate_left
   ·have hno := shut (HOUT.out (fun h => hnm (HL.out.1 h).1))
    have hq : (d_name == e_name) = false := by rw [beq_eq_false_iff_ne]; exact hnm
    clear HE HOUT HL hnm
    refine wpMix_free (fun K hK => ?_); go_simp; refine hK _ ?_; clear hK K
    refine wpMix_free (fun K hK => ?_); go_simp; refine hK _ ?_; clear hK K
    iterate 12 refine wpMix_unwK (by kernel_rfl) ?_
    refine wpMix_unwK1 (by kernel_rfl) kd ?_
    iterate 1 refine wpMix_unwK (by kernel_rfl) ?_
    refine wpMix_free (fun K hK => ?_); go_simp; refine hK _ ?_; clear hK K
    refine wpMix_nil ?_
    repeat (first | go_values | go_skip | go_guarded | go_step | go_upon | go_back)
    go_ret
    exact tells_f hno.out (KA.trans kd (fun _ h _ => h))
   subst hnm
   have hq : (d_name == d_name) = true := beq_self_eq_true _
   repeat (refine wpMix_free (fun K hK => ?_); go_simp; refine hK _ ?_; clear hK K)
   refine wpMix_yield (v := .slice (some ⟨g1, o1, none⟩) n q2) (fun V hV => ?_) (fun K hK => ?_)
   ·have zz := hV.cell ae2 (fun h => h)
    go_simp
   go_simp
   refine hK _ ?_
   clear hK K
   repeat (refine wpMix_free (fun K hK => ?_); go_simp; refine hK _ ?_; clear hK K)
   refine wpMix_yield (v := .slice u1 d_over.length v1) (fun V hV => ?_) (fun K hK => ?_)
   ·obtain ⟨z0, z1⟩ := LifR (rangeAt_keeps R1.out hV (fun h => h))
    unfold txV at z0
    go_simp
   go_simp
   refine hK _ ?_
   clear hK K
   repeat (refine wpMix_free (fun K hK => ?_); go_simp; refine hK _ ?_; clear hK K)
   refine wpMix_yield (v := .slice (some ⟨g2, o2, none⟩) n y2) (fun V hV => ?_) (fun K hK => ?_)
   ·have zz := hV.cell be2 (fun h => h)
    go_simp
   go_simp
   refine hK _ ?_
   clear hK K
   repeat (refine wpMix_free (fun K hK => ?_); go_simp; refine hK _ ?_; clear hK K)
   refine wpMix_yield (v := .slice u2 e_over.length v2) (fun V hV => ?_) (fun K hK => ?_)
   ·obtain ⟨z0, z1⟩ := LifR (rangeAt_keeps R2.out hV (fun h => h))
    unfold txV at z0
    go_simp
   go_simp
   refine hK _ ?_
   clear hK K
   repeat (refine wpMix_free (fun K hK => ?_); go_simp; refine hK _ ?_; clear hK K)
   have hc := rtexts_any wr.drew v1 v2 (oh1.keeps kd (fun _ _ h => h) (fun _ h => h) (fun _ _ _ h => h)) (oh2.keeps kd (fun _ _ h => h) (fun _ h => h) (fun _ _ _ h => h))
   refine wpMix_one (fun K hK => ?_)
   go_wp2_with fail
   refine hc.mono ?_
   rintro e wz ⟨⟨z, rfl, hz⟩, kz⟩
   have K2 := kd.trans kz (fun _ h _ => h)
   have HZ := shut hz
   clear hz hc kd kz oh1 oh2
   go_wp2_with fail
   refine hK _ _ K2 ?_
   clear hK K
   cases z
   ·have hno := shut (HOUT.out (fun h => by have h2 := HZ.out.2 (HL.out.1 h).2; cases h2))
    clear HE HOUT HL HZ
    repeat (refine wpMix_free (fun K hK => ?_); go_simp; refine hK _ ?_; clear hK K)
    refine wpMix_nil ?_
    repeat (first | go_values | go_skip | go_guarded | go_step | go_upon | go_back)
    go_ret
    exact tells_f hno.out (KA.trans K2 (fun _ h _ => h))
   ·have hab := shut (HL.out.2 ⟨by first | rfl | trivial, HZ.out.1 rfl⟩)
    have HT2 := shut (take_eq HD.out HD2.out HT.out hab.out)
    clear HOUT HL HZ hab HD HD2
    repeat (refine wpMix_free (fun K hK => ?_); go_simp; refine hK _ ?_; clear hK K)
    refine wpMix_nil ?_
    go_wp2_with fail
    go_roundw
    case rel => exact ⟨t + 1, by go_num, by omega, KL.trans K2 (fun _ h _ => h), HT2⟩
    case measure => simp [intOf]; omega
  ·obtain rfl : t = n := by omega
   have m1 : ¬ (t : Int) < t := by omega
   have E_lives : Shut (a_lives = b_lives) := shut (by have h := HT.out; rwa [List.take_of_length_le (Nat.le_of_eq HN.out), List.take_of_length_le (Nat.le_of_eq HM.out)] at h)
   go_wp2_with fail
   go_ret
   exact tells_t (HE.out.2 ⟨(by first | rfl | trivial), (by first | rfl | trivial), E_lives.out, E_params.out, E_result.out, E_body.out, (by first | rfl | trivial)⟩) KA
end Go.Proofs.YtjbcagbnagefcaaGreat
namespace Go.Proofs.YtjbcagbnagefcaaGreat
open Go.RowKit
attribute [local irreducible] wpMix wpList
attribute [local go_sem ↓] exec_mid_ty exec_store_ty exec_mid_pl exec_store_pl exec_mid_opr exec_store_opr exec_mid_val exec_store_val exec_mid_st exec_store_st exec_mid_fld exec_store_fld exec_mid_str exec_store_str exec_mid_lif exec_store_lif exec_mid_fun exec_store_fun exec_mid_cr exec_store_cr
attribute [local go_sem] rowOk_new World.setRow_alloc_new
set_option maxRecDepth 100000 in
set_option maxHeartbeats 4000000 in
theorem rsameCr_any {S S' : Nat → Prop} (a b : CrD) (w : World) (cs ds : List Value) (ha : CrIs S w a cs) (hb : CrIs S' w b ds) : Calls Tryz.prog 43 #[.agg cs.toArray, .agg ds.toArray] w (Tells w (a = b)) := by
 obtain ⟨a_structs, a_funcs⟩ := a
 obtain ⟨b_structs, b_funcs⟩ := b
 have ag1 := agg_ok ha.len ha.one
 have ag2 := agg_ok hb.len hb.one
 obtain ⟨p0, q0, p1, q1, hcs, ah_structs, ah_funcs⟩ := ha
 have HCA := shut hcs
 clear hcs
 obtain ⟨x0, y0, x1, y1, hcs, bh_structs, bh_funcs⟩ := hb
 have HCB := shut hcs
 clear hcs
 simp only at HCA HCB ah_structs bh_structs ah_funcs bh_funcs
 have HE : Shut ((CrD.mk a_structs a_funcs) = (CrD.mk b_structs b_funcs) ↔ a_structs = b_structs ∧ a_funcs = b_funcs) := shut (by rw [CrD.mk.injEq])
 obtain ⟨XA, hXA⟩ : ∃ X, X = CrD.mk a_structs a_funcs := ⟨_, rfl⟩
 obtain ⟨XB, hXB⟩ : ∃ X, X = CrD.mk b_structs b_funcs := ⟨_, rfl⟩
 rw [← hXA, ← hXB] at HE ⊢
 clear hXA hXB
 obtain ⟨CA, hCA⟩ : ∃ C, C = cs.toArray := ⟨_, rfl⟩
 obtain ⟨CB, hCB⟩ : ∃ C, C = ds.toArray := ⟨_, rfl⟩
 rw [← hCA] at ag1 ⊢
 rw [← hCB] at ag2 ⊢
 rw [HCA.out] at hCA
 rw [HCB.out] at hCB
 have GCA := shut hCA
 have GCB := shut hCB
 clear hCA hCB HCA HCB
 have KW : Keeps Nothing w ((w.alloc (.cells CA 26)).alloc (.cells CB 26)) := ((Keeps.refl Nothing w).alloc _).alloc _
 have BA : Blk ((w.alloc (.cells CA 26)).alloc (.cells CB 26)) w.heap.size CA 26 := blk_alloc (blk_new w CA 26) _
 have BB : Blk ((w.alloc (.cells CA 26)).alloc (.cells CB 26)) (w.heap.size + 1) CB 26 := by have h := blk_new (w.alloc (.cells CA 26)) CB 26; rwa [World.size_alloc] at h
 go_enter Tryz.func43, Tryz.ntmps43
 obtain ⟨ae0, ae1⟩ := CrB  GCA.out BA
 obtain ⟨be0, be1⟩ := CrB  GCB.out BB
 have ac0 := blk_inv BA ae0
 have bc0 := blk_inv BB be0
 have ac1 := blk_inv BA ae1
 have bc1 := blk_inv BB be1
 by_cases e_structs : a_structs.length = b_structs.length
 rotate_left
 ·have hno : Shut (¬ XA = XB) := shut (fun h => e_structs (congrArg List.length ((HE.out.1 h).1)))
  have hlq : ¬ (a_structs.length : Int) = b_structs.length := by omega
  clear HE GCA GCB BA BB
  go_wp2_with fail
  go_ret
  exact tells_f hno.out KW
 have el_structs : (a_structs.length : Int) = b_structs.length := by omega
 by_cases e_funcs : a_funcs.length = b_funcs.length
 rotate_left
 ·have hno : Shut (¬ XA = XB) := shut (fun h => e_funcs (congrArg List.length ((HE.out.1 h).2)))
  have hlq : ¬ (a_funcs.length : Int) = b_funcs.length := by omega
  clear HE GCA GCB BA BB
  go_wp2_with fail
  go_ret
  exact tells_f hno.out KW
 have el_funcs : (a_funcs.length : Int) = b_funcs.length := by omega
 obtain ⟨n, hn⟩ : ∃ n, a_structs.length = n := ⟨_, rfl⟩
 have hm : b_structs.length = n := by omega
 have hnb : n ≤ bigN := by rw [← hn]; exact ah_structs.1
 unfold bigN at hnb
 go_wp2_with fail
 try clear ae0
 try clear ac0
 try clear be0
 try clear bc0
 try clear ae1
 try clear ac1
 try clear be1
 try clear bc1
 try clear el_structs
 rw [hn] at GCA
 rw [hm] at GCB
 try rw [hn]
 try rw [hm]
 have HN := shut hn
 have HM := shut hm
 clear hn hm e_structs
 obtain ⟨wb, hwb⟩ : ∃ W, W = ((w.alloc (.cells CA 26)).alloc (.cells CB 26)) := ⟨_, rfl⟩
 rw [← hwb] at KW BA BB ⊢
 clear hwb
 go_loopw [5] (fun s wx => ∃ t : Nat, s = .int .i64 t ∧ t ≤ n ∧ Keeps Nothing wb wx ∧ Shut (a_structs.take t = b_structs.take t)) (fun s _ => n - (intOf s).toNat)
 case atStart => exact ⟨0, rfl, Nat.zero_le _, Keeps.refl _ _, shut (by simp)⟩
 case round =>
  obtain ⟨t, rfl, ht, KL, HT⟩ := hrel
  have BA2 := KL.blk BA (fun h => h)
  have BB2 := KL.blk BB (fun h => h)
  have KA := KW.trans KL (fun _ h _ => h)
  obtain ⟨ae0, -⟩ := CrB  GCA.out BA2
  obtain ⟨be0, -⟩ := CrB  GCB.out BB2
  by_cases hlt : t < n
  ·obtain ⟨d, hd⟩ : ∃ d, a_structs[t]? = some d := ⟨_, List.getElem?_eq_getElem (by rw [HN.out]; exact hlt)⟩
   obtain ⟨d2, hd2⟩ : ∃ d, b_structs[t]? = some d := ⟨_, List.getElem?_eq_getElem (by rw [HM.out]; exact hlt)⟩
   obtain ⟨g1, o1, rfl, -, cs1, l1, r1, i1⟩ := (ah_structs.keeps KA (fun _ _ h => h) (fun _ h => h) (fun _ _ _ h => h.keeps KA (fun _ _ h => h) (fun _ h => h))).get hd
   obtain ⟨g2, o2, rfl, -, cs2, l2, r2, i2⟩ := (bh_structs.keeps KA (fun _ _ h => h) (fun _ h => h) (fun _ _ _ h => h.keeps KA (fun _ _ h => h) (fun _ h => h))).get hd2
   have HD := shut hd
   have HD2 := shut hd2
   have hdm := List.mem_of_getElem? hd
   have hdm2 := List.mem_of_getElem? hd2
   clear hd hd2
   have m0 : (0 : Int) ≤ t := by omega
   have m1 : (t : Int) < n := by omega
   obtain ⟨C1, hC1⟩ : ∃ C, C = cs1.toArray := ⟨_, rfl⟩
   obtain ⟨C2, hC2⟩ : ∃ C, C = cs2.toArray := ⟨_, rfl⟩
   have HC1 := shut hC1
   have HC2 := shut hC2
   clear hC1 hC2
   have f1 := sub_of r1 l1
   have f2 := sub_of r2 l2
   rw [← HC1.out] at f1
   rw [← HC2.out] at f2
   have F1 := shut (fun V (hV : Keeps Nothing wr V) => by have h := sub_of (rangeAt_keeps r1 hV (fun h => h)) l1; rw [← HC1.out] at h; exact h)
   have F2 := shut (fun V (hV : Keeps Nothing wr V) => by have h := sub_of (rangeAt_keeps r2 hV (fun h => h)) l2; rw [← HC2.out] at h; exact h)
   clear f1 f2
   go_wp2_with fail
   refine wp_region_mix (fun V => Keeps Nothing wr V) [(true, 0), (true, 1), (true, 2), (true, 3), (true, 4), (true, 5), (true, 6), (true, 7), (true, 8), (true, 9), (false, 10), (true, 11)] (by kernel_rfl) (by kernel_rfl) (Keeps.refl Nothing wr).drew ?_
   simp only [mixItems, List.map_cons, List.map_nil, List.getD_cons_zero, List.getD_cons_succ]
   repeat (refine wpMix_free (fun K hK => ?_); go_simp; refine hK _ ?_; clear hK K)
   refine wpMix_yield (v := .slice (some ⟨g1, o1, none⟩) n q0) (fun V hV => ?_) (fun K hK => ?_)
   ·have zz := hV.cell ae0 (fun h => h)
    go_simp
   go_simp
   refine hK _ ?_
   clear hK K
   repeat (refine wpMix_free (fun K hK => ?_); go_simp; refine hK _ ?_; clear hK K)
   refine wpMix_yield (v := .agg C1) (fun V hV => ?_) (fun K hK => ?_)
   ·obtain ⟨z1, z2⟩ := F1.out V hV
    go_simp
   go_simp
   refine hK _ ?_
   clear hK K
   repeat (refine wpMix_free (fun K hK => ?_); go_simp; refine hK _ ?_; clear hK K)
   refine wpMix_yield (v := .slice (some ⟨g2, o2, none⟩) n y0) (fun V hV => ?_) (fun K hK => ?_)
   ·have zz := hV.cell be0 (fun h => h)
    go_simp
   go_simp
   refine hK _ ?_
   clear hK K
   repeat (refine wpMix_free (fun K hK => ?_); go_simp; refine hK _ ?_; clear hK K)
   refine wpMix_yield (v := .agg C2) (fun V hV => ?_) (fun K hK => ?_)
   ·obtain ⟨z1, z2⟩ := F2.out V hV
    go_simp
   go_simp
   refine hK _ ?_
   clear hK K
   repeat (refine wpMix_free (fun K hK => ?_); go_simp; refine hK _ ?_; clear hK K)
   have kd : Keeps Nothing wr wr.drew := (Keeps.refl Nothing wr).drew
   have hc := rsameStruct_any d d2 wr.drew cs1 cs2 (i1.keeps kd (fun _ _ h => h) (fun _ h => h)) (i2.keeps kd (fun _ _ h => h) (fun _ h => h))
   rw [← HC1.out, ← HC2.out] at hc
   refine wpMix_one (fun K hK => ?_)
   go_wp2_with fail
   refine hc.mono ?_
   rintro e wz ⟨⟨z, rfl, hz⟩, kz⟩
   have K2 := kd.trans kz (fun _ h _ => h)
   have HZ := shut hz
   clear hz hc kd kz
   go_wp2_with fail
   refine hK _ _ K2 ?_
   clear hK K
   repeat (refine wpMix_free (fun K hK => ?_); go_simp; refine hK _ ?_; clear hK K)
   refine wpMix_nil ?_
   clear F1 F2 ae0 be0 r1 r2 i1 i2
   cases z
   ·have hab : Shut (d ≠ d2) := shut (fun h => by have h2 := HZ.out.2 h; cases h2)
    clear HZ
    have hno : Shut (¬ XA = XB) := shut (fun h => ne_at HD.out HD2.out hab.out ((HE.out.1 h).1))
    go_wp2_with fail
    go_ret
    exact tells_f hno.out (KA.trans K2 (fun _ h _ => h))
   ·have hab := shut (HZ.out.1 rfl)
    clear HZ
    go_wp2_with fail
    go_roundw
    case rel => exact ⟨t + 1, by go_num, by omega, KL.trans K2 (fun _ h _ => h), shut (take_eq HD.out HD2.out HT.out hab.out)⟩
    case measure => simp [intOf]; omega
  ·obtain rfl : t = n := by omega
   have m1 : ¬ (t : Int) < t := by omega
   have E_structs : Shut (a_structs = b_structs) := shut (by have h := HT.out; rwa [List.take_of_length_le (Nat.le_of_eq HN.out), List.take_of_length_le (Nat.le_of_eq HM.out)] at h)
   have KW := KA
   have BA := BA2
   have BB := BB2
   clear BA2 BB2 HN HM HT KA KL
   obtain ⟨n, hn⟩ : ∃ n, a_funcs.length = n := ⟨_, rfl⟩
   have hm : b_funcs.length = n := by omega
   have hnb : n ≤ bigN := by rw [← hn]; exact ah_funcs.1
   unfold bigN at hnb
   go_wp2_with fail
   try clear ae0
   try clear ac0
   try clear be0
   try clear bc0
   try clear ae1
   try clear ac1
   try clear be1
   try clear bc1
   try clear el_funcs
   rw [hn] at GCA
   rw [hm] at GCB
   try rw [hn]
   try rw [hm]
   have HN := shut hn
   have HM := shut hm
   clear hn hm e_funcs
   obtain ⟨wb, hwb⟩ : ∃ W, W = wr := ⟨_, rfl⟩
   rw [← hwb] at KW BA BB ⊢
   clear hwb
   go_loopw [6] (fun s wx => ∃ t : Nat, s = .int .i64 t ∧ t ≤ n ∧ Keeps Nothing wb wx ∧ Shut (a_funcs.take t = b_funcs.take t)) (fun s _ => n - (intOf s).toNat)
   case atStart => exact ⟨0, rfl, Nat.zero_le _, Keeps.refl _ _, shut (by simp)⟩
   case round =>
    obtain ⟨t, rfl, ht, KL, HT⟩ := hrel
    have BA2 := KL.blk BA (fun h => h)
    have BB2 := KL.blk BB (fun h => h)
    have KA := KW.trans KL (fun _ h _ => h)
    obtain ⟨-, ae1⟩ := CrB  GCA.out BA2
    obtain ⟨-, be1⟩ := CrB  GCB.out BB2
    by_cases hlt : t < n
    ·obtain ⟨d, hd⟩ : ∃ d, a_funcs[t]? = some d := ⟨_, List.getElem?_eq_getElem (by rw [HN.out]; exact hlt)⟩
     obtain ⟨d2, hd2⟩ : ∃ d, b_funcs[t]? = some d := ⟨_, List.getElem?_eq_getElem (by rw [HM.out]; exact hlt)⟩
     obtain ⟨g1, o1, rfl, -, cs1, l1, r1, i1⟩ := (ah_funcs.keeps KA (fun _ _ h => h) (fun _ h => h) (fun _ _ _ h => h.keeps KA (fun _ _ h => h) (fun _ h => h))).get hd
     obtain ⟨g2, o2, rfl, -, cs2, l2, r2, i2⟩ := (bh_funcs.keeps KA (fun _ _ h => h) (fun _ h => h) (fun _ _ _ h => h.keeps KA (fun _ _ h => h) (fun _ h => h))).get hd2
     have HD := shut hd
     have HD2 := shut hd2
     have hdm := List.mem_of_getElem? hd
     have hdm2 := List.mem_of_getElem? hd2
     clear hd hd2
     have m0 : (0 : Int) ≤ t := by omega
     have m1 : (t : Int) < n := by omega
     obtain ⟨C1, hC1⟩ : ∃ C, C = cs1.toArray := ⟨_, rfl⟩
     obtain ⟨C2, hC2⟩ : ∃ C, C = cs2.toArray := ⟨_, rfl⟩
     have HC1 := shut hC1
     have HC2 := shut hC2
     clear hC1 hC2
     have f1 := sub_of r1 l1
     have f2 := sub_of r2 l2
     rw [← HC1.out] at f1
     rw [← HC2.out] at f2
     have F1 := shut (fun V (hV : Keeps Nothing wr V) => by have h := sub_of (rangeAt_keeps r1 hV (fun h => h)) l1; rw [← HC1.out] at h; exact h)
     have F2 := shut (fun V (hV : Keeps Nothing wr V) => by have h := sub_of (rangeAt_keeps r2 hV (fun h => h)) l2; rw [← HC2.out] at h; exact h)
     clear f1 f2
     go_wp2_with fail
     refine wp_region_mix (fun V => Keeps Nothing wr V) [(true, 0), (true, 1), (true, 2), (true, 3), (true, 4), (true, 5), (true, 6), (true, 7), (true, 8), (true, 9), (false, 10), (true, 11)] (by kernel_rfl) (by kernel_rfl) (Keeps.refl Nothing wr).drew ?_
     simp only [mixItems, List.map_cons, List.map_nil, List.getD_cons_zero, List.getD_cons_succ]
     repeat (refine wpMix_free (fun K hK => ?_); go_simp; refine hK _ ?_; clear hK K)
     refine wpMix_yield (v := .slice (some ⟨g1, o1, none⟩) n q1) (fun V hV => ?_) (fun K hK => ?_)
     ·have zz := hV.cell ae1 (fun h => h)
      go_simp
     go_simp
     refine hK _ ?_
     clear hK K
     repeat (refine wpMix_free (fun K hK => ?_); go_simp; refine hK _ ?_; clear hK K)
     refine wpMix_yield (v := .agg C1) (fun V hV => ?_) (fun K hK => ?_)
     ·obtain ⟨z1, z2⟩ := F1.out V hV
      go_simp
     go_simp
     refine hK _ ?_
     clear hK K
     repeat (refine wpMix_free (fun K hK => ?_); go_simp; refine hK _ ?_; clear hK K)
     refine wpMix_yield (v := .slice (some ⟨g2, o2, none⟩) n y1) (fun V hV => ?_) (fun K hK => ?_)
     ·have zz := hV.cell be1 (fun h => h)
      go_simp
     go_simp
     refine hK _ ?_
     clear hK K
     repeat (refine wpMix_free (fun K hK => ?_); go_simp; refine hK _ ?_; clear hK K)
     refine wpMix_yield (v := .agg C2) (fun V hV => ?_) (fun K hK => ?_)
     ·obtain ⟨z1, z2⟩ := F2.out V hV
      go_simp
     go_simp
     refine hK _ ?_
     clear hK K
     repeat (refine wpMix_free (fun K hK => ?_); go_simp; refine hK _ ?_; clear hK K)
     have kd : Keeps Nothing wr wr.drew := (Keeps.refl Nothing wr).drew
     have hc := rsameFunc_any d d2 wr.drew cs1 cs2 (i1.keeps kd (fun _ _ h => h) (fun _ h => h)) (i2.keeps kd (fun _ _ h => h) (fun _ h => h))
     rw [← HC1.out, ← HC2.out] at hc
     refine wpMix_one (fun K hK => ?_)
     go_wp2_with fail
     refine hc.mono ?_
     rintro e wz ⟨⟨z, rfl, hz⟩, kz⟩
     have K2 := kd.trans kz (fun _ h _ => h)
     have HZ := shut hz
     clear hz hc kd kz
     go_wp2_with fail
     refine hK _ _ K2 ?_
     clear hK K
     repeat (refine wpMix_free (fun K hK => ?_); go_simp; refine hK _ ?_; clear hK K)
     refine wpMix_nil ?_
     clear F1 F2 ae1 be1 r1 r2 i1 i2
     cases z
     ·have hab : Shut (d ≠ d2) := shut (fun h => by have h2 := HZ.out.2 h; cases h2)
      clear HZ
      have hno : Shut (¬ XA = XB) := shut (fun h => ne_at HD.out HD2.out hab.out ((HE.out.1 h).2))
      go_wp2_with fail
      go_ret
      exact tells_f hno.out (KA.trans K2 (fun _ h _ => h))
     ·have hab := shut (HZ.out.1 rfl)
      clear HZ
      go_wp2_with fail
      go_roundw
      case rel => exact ⟨t + 1, by go_num, by omega, KL.trans K2 (fun _ h _ => h), shut (take_eq HD.out HD2.out HT.out hab.out)⟩
      case measure => simp [intOf]; omega
    ·obtain rfl : t = n := by omega
     have m1 : ¬ (t : Int) < t := by omega
     have E_funcs : Shut (a_funcs = b_funcs) := shut (by have h := HT.out; rwa [List.take_of_length_le (Nat.le_of_eq HN.out), List.take_of_length_le (Nat.le_of_eq HM.out)] at h)
     go_wp2_with fail
     go_ret
     exact tells_t (HE.out.2 ⟨E_structs.out, E_funcs.out⟩) KA
end Go.Proofs.YtjbcagbnagefcaaGreat
namespace Go.Proofs.YtjbcagbnagefcaaGreat
open Go.RowKit
attribute [local go_sem ↓] exec_mid_ty exec_store_ty exec_mid_pl exec_store_pl exec_mid_opr exec_store_opr exec_mid_val exec_store_val exec_mid_st exec_store_st exec_mid_fld exec_store_fld exec_mid_str exec_store_str exec_mid_lif exec_store_lif exec_mid_fun exec_store_fun exec_mid_cr exec_store_cr exec_mid_sig exec_store_sig
attribute [local go_sem] rowOk_new World.setRow_alloc_new
theorem sigD_eq {a b : SigD} : a = b ↔ a.name = b.name ∧ a.cr = b.cr := by
 obtain ⟨a1, a2⟩ := a
 obtain ⟨b1, b2⟩ := b
 simp
set_option maxRecDepth 100000 in
set_option maxHeartbeats 2000000 in
theorem rsame12_any {S S' : Nat → Prop} (a b : SigD) (w : World) (cs ds : List Value) (ha : SigIs S w a cs) (hb : SigIs S' w b ds) : Calls Tryz.prog 14 #[.agg cs.toArray, .agg ds.toArray] w (Tells w (a = b)) := by
 have ag1 := agg_ok ha.len ha.one
 have ag2 := agg_ok hb.len hb.one
 obtain ⟨P, hP⟩ : ∃ P, (a = b) = P := ⟨_, rfl⟩
 have HP : Shut (P ↔ a.name = b.name ∧ a.cr = b.cr) := shut (by rw [← hP]; exact sigD_eq)
 rw [hP]
 obtain ⟨a_name, a_cr⟩ := a
 obtain ⟨b_name, b_cr⟩ := b
 simp only at HP
 obtain ⟨a1, c1, a2, c2, hcs, hn, h1, h2⟩ := ha
 obtain ⟨b1, d1, b2, d2, hds, hm, k1, k2⟩ := hb
 simp only at hcs hn h1 h2 hds hm k1 k2
 obtain ⟨n1, hn1⟩ : ∃ n, a_cr.structs.length = n := ⟨_, rfl⟩
 obtain ⟨n2, hn2⟩ : ∃ n, a_cr.funcs.length = n := ⟨_, rfl⟩
 obtain ⟨m1, hm1⟩ : ∃ n, b_cr.structs.length = n := ⟨_, rfl⟩
 obtain ⟨m2, hm2⟩ : ∃ n, b_cr.funcs.length = n := ⟨_, rfl⟩
 rw [hn1, hn2] at hcs
 rw [hm1, hm2] at hds
 have HA : Shut (CrIs S w a_cr [.slice a1 n1 c1, .slice a2 n2 c2]) := shut ⟨a1, c1, a2, c2, by rw [hn1, hn2], h1, h2⟩
 have HB : Shut (CrIs S' w b_cr [.slice b1 m1 d1, .slice b2 m2 d2]) := shut ⟨b1, d1, b2, d2, by rw [hm1, hm2], k1, k2⟩
 unfold txV at hcs hds
 obtain ⟨CA, hCA⟩ : ∃ C, C = cs.toArray := ⟨_, rfl⟩
 obtain ⟨CB, hCB⟩ : ∃ C, C = ds.toArray := ⟨_, rfl⟩
 rw [← hCA] at ag1 ⊢
 rw [← hCB] at ag2 ⊢
 rw [hcs] at hCA
 rw [hds] at hCB
 have GA := shut hCA
 have GB := shut hCB
 clear hP hCA hCB hcs hds hn1 hn2 hm1 hm2 h1 h2 k1 k2
 have BA := blk_alloc (blk_new w CA 32) (.cells CB 32)
 have BB := blk_new (w.alloc (.cells CA 32)) CB 32
 have KW : Keeps Nothing w ((w.alloc (.cells CA 32)).alloc (.cells CB 32)) := ((Keeps.refl Nothing w).alloc _).alloc _
 rw [World.size_alloc] at BB
 go_enter Tryz.func14, Tryz.ntmps14
 go_upto_region 1 with fail
 clear ag1 ag2
 generalize (w.alloc (.cells CA 32)).alloc (.cells CB 32) = w0 at *
 obtain ⟨g1, hg1⟩ : ∃ g, w.heap.size = g := ⟨_, rfl⟩
 rw [hg1] at BA BB ⊢
 clear hg1
 obtain ⟨e0, e1, e2⟩ := SigB GA.out BA
 obtain ⟨f0, f1, f2⟩ := SigB GB.out BB
 have hc := rsameCr_any a_cr b_cr w0 _ _ (HA.out.keeps KW (fun _ _ h => h) (fun _ h => h)) (HB.out.keeps KW (fun _ _ h => h) (fun _ h => h))
 by_cases hnm : a_name = b_name
 ·subst hnm
  have hq : (a_name == a_name) = true := beq_self_eq_true _
  go_wp2_with fail
  refine hc.mono ?_
  rintro e w1 ⟨⟨z, rfl, hz⟩, k1⟩
  have hF : Shut (Tells w P (.returned (.bool z)) w1) := shut (tells_z (hz.trans ⟨fun h => HP.out.2 (by first | exact ⟨rfl, h⟩ | exact ⟨trivial, h⟩), fun h => (HP.out.1 h).2⟩) (KW.trans k1 (fun _ h _ => h)))
  clear hc hz k1 e0 e1 e2 f0 f1 f2 HP
  go_wp2_with fail
  go_ret
  exact hF.out
 ·have hq : (a_name == b_name) = false := by rw [beq_eq_false_iff_ne]; exact hnm
  have hno : Shut (¬ P) := shut (fun h => hnm (HP.out.1 h).1)
  clear HP hnm hc
  go_wp2_with fail
  go_ret
  exact tells_f hno.out KW
def fD : FunD := ⟨false, [102], [], [], .mk 0 [] [] [], [], 0⟩
def fC : List Value := [.bool false, .string ⟨#[102]⟩, .slice none 0 0, .slice none 0 0, .int .i64 0, .string ⟨#[]⟩, .slice none 0 0, .slice none 0 0, .slice none 0 0, .int .i64 0]
theorem fD_is (S : Nat → Prop) (w : World) : FunIs S w fD fC := ⟨none, 0, none, 0, [.int .i64 0, .string ⟨#[]⟩, .slice none 0 0, .slice none 0 0], none, 0, rfl, by decide, slIs_nil _ _ _ _ _, slIs_nil _ _ _ _ _, by
 rw [tyIs_iff]
 exact ⟨none, 0, none, 0, rfl, Nat.zero_le _, slIs_nil _ _ _ _ _, slIs_nil _ _ _ _ _⟩, slIs_nil _ _ _ _ _⟩
theorem ofD_f : ofD [97] ⟨[], [fD]⟩ = ⟨[97], ⟨[], []⟩⟩ := rfl
theorem may_empty : MayS ⟨[97], ⟨[], []⟩⟩ := ⟨(fun _ h => by cases h), (fun _ h => by cases h), by decide, by decide, (fun _ h => by cases h), (fun _ h => by cases h)⟩
theorem enc_empty : encSig ⟨[97], ⟨[], []⟩⟩ = [4, 85, 83, 73, 71, 1, 97, 0, 0] := by
 unfold encSig encS
 simp only [List.length_cons, List.length_nil, List.map_nil, List.flatten_nil, List.append_nil, usig]
 rw [encU_lt (by decide), encU_lt (by decide), encU_lt (by decide)]
 rfl
theorem no_one (s : SigD) : encSig s ≠ [1] := fun h => by
 have := congrArg List.length h
 unfold encSig encS usig at this
 simp only [List.length_append, List.length_cons, List.length_nil] at this
 omega
theorem wpList_bFn {ops : Array Oper} {rest : List Oper} {a : Act} {w : World} {Q : Exit → Act → World → Prop} {dst : Option Tmp} {ty' : TypeId} {pos : String} {af : Array Edge} {C : Array Value} (hC : C = fC.toArray) (h : wpList Tryz.prog ops Q rest (a.put dst (.agg C)) w) : wpList Tryz.prog ops Q (⟨dst, .build 56 #[(1, .const (.string ⟨#[102]⟩))], ty', pos, af, none⟩ :: rest) a w := by
 subst hC
 exact wpList_v rfl _ (by kernel_rfl) h
set_option maxRecDepth 100000 in
set_option linter.unusedSimpArgs false in
set_option maxHeartbeats 4000000 in
theorem told12_any (w : World) (hM : MaxV w) : Calls Tryz.prog 9 #[] w fun e w' => e = .returned (.bool true) ∧ Keeps Nothing w w' := by
 have HM := shut hM
 clear hM
 obtain ⟨C, hC⟩ : ∃ C, C = fC.toArray := ⟨_, rfl⟩
 have hsC : C.size = 10 := by rw [hC]; rfl
 have HC := shut hC
 clear hC
 have ka : Keeps Nothing w (w.alloc (.cells C 56)) := (Keeps.refl Nothing w).alloc _
 have BF := blk_new w C 56
 have hcr : CrIs (fun b => b < (w.alloc (.cells C 56)).heap.size) (w.alloc (.cells C 56)) ⟨[], [fD]⟩ [.slice none 0 0, .slice (some ⟨w.heap.size, 0, none⟩) 1 1] := ⟨none, 0, some ⟨w.heap.size, 0, none⟩, 1, rfl, slIs_nil _ _ _ _ _, slIs_one HC.out rfl BF (lt_of_block BF) (fD_is _ _)⟩
 have hc := of_any [97] (by decide) ⟨[], [fD]⟩ (w.alloc (.cells C 56)) (fun b hb => hb) _ hcr
 rw [ofD_f] at hc
 clear hcr BF
 go_enter Tryz.func9, Tryz.ntmps9
 go_wp2_with (first | refine wpList_bFn HC.out ?_ | (rw [fillN (n := 10) rfl hsC]; refine hc.mono ?_; rintro e w1 ⟨cs1, rfl, k1, i1⟩))
 have KW1 := ka.trans k1 (fun _ h _ => h)
 have hp := put_any ⟨[97], ⟨[], []⟩⟩ w1 (HM.out.keeps KW1) cs1 (fun b hb => hb.elim (fun h => Nat.lt_of_lt_of_le h k1.size) (fun h => h.2)) i1
 clear hc ka k1 i1
 go_wp2_with fail
 refine hp.mono ?_
 rintro e w2 ⟨k2, hq⟩
 have hq2 : ∃ ao cap, e = .returned (.tuple #[.slice ao 9 cap, .nilIface]) ∧ Own8 w2 5 ao cap [4, 85, 83, 73, 71, 1, 97, 0, 0] := by
  rcases hq with ⟨-, ao, cap, he, hO, -⟩ | ⟨hno, -⟩
  ·rw [enc_empty] at he hO
   exact ⟨ao, cap, he, hO⟩
  ·exact absurd may_empty hno
 obtain ⟨ao, cap, rfl, hO⟩ := hq2
 have KW2 := KW1.trans k2 (fun _ h _ => h)
 clear hp hq k2 KW1
 have kb : Keeps Nothing w2 (w2.alloc (.cells #[.int .u8 1] 5)) := (Keeps.refl Nothing w2).alloc _
 have hBY : BytesAt (w2.alloc (.cells #[.int .u8 1] 5)) (some ⟨w2.heap.size, 0, none⟩) [1] := bytesAt_lit w2 [1] 5
 have KW3 := KW2.trans kb (fun _ h _ => h)
 have hg := get_any _ (HM.out.keeps KW3) 1 (bs := [1]) (nb := 1) rfl hBY (by decide)
 have HO := shut (hO.alloc (.cells #[.int .u8 1] 5))
 clear hO hBY
 go_wp2_with fail
 refine hg.mono ?_
 rintro e w4 ⟨k4, hq⟩
 have hq2 : ∃ ev, e = .returned (.tuple #[.agg #[.string ⟨#[]⟩, .slice none 0 0, .slice none 0 0], ev]) ∧ IsErr 0 w4 ev 4 0 := by
  rcases hq with ⟨s, cs, hs, he, -⟩ | ⟨-, ev, he, hE⟩
  ·exact absurd he (no_one s)
  ·exact ⟨ev, he, hE.mono (Nat.zero_le _)⟩
 obtain ⟨ev, rfl, hE⟩ := hq2
 have KW4 := KW3.trans k4 (fun _ h _ => h)
 have agz : aggOk 3 (.agg #[.string ⟨#[]⟩, .slice none 0 0, .slice none 0 0]) = true := by simp [aggOk, Value.oneCell']
 have k5 : Keeps Nothing w4 (w4.alloc (.cells #[.string ⟨#[]⟩, .slice none 0 0, .slice none 0 0] 32)) := (Keeps.refl Nothing w4).alloc _
 have HO4 := shut (k5.own (k4.own HO.out (fun _ _ h => h)) (fun _ _ h => h))
 have hE := hE.keeps k5 (fun _ h => h.elim)
 have KW5 := KW4.trans k5 (fun _ h _ => h)
 clear KW4
 clear hg hq k4 kb KW2 KW3 HO
 have hconv := run_str (w4.alloc (.cells #[.string ⟨#[]⟩, .slice none 0 0, .slice none 0 0] 32)) cap [4, 85, 83, 73, 71, 1, 97, 0, 0] (l := 9) rfl (own8_at HO4.out)
 have hi := is_any hE 4 0
 clear HO4 hE k5
 go_wp2_with fail
 refine hi.mono ?_
 rintro e w5 ⟨rfl, n, rfl⟩
 go_wp2_with fail
 go_ret
 exact ⟨rfl, KW5.drewN _⟩
end Go.Proofs.YtjbcagbnagefcaaGreat
namespace Go.Proofs.YtjbcagbnagefcaaGreat
open Go.RowKit
def Pre {α : Type} (f : α → List UInt8) (ok : α → Prop) : Prop := ∀ a b r r', ok a → ok b → f a ++ r = f b ++ r' → a = b ∧ r = r'
theorem pre_U : Pre encU (fun n => n ≤ 100000000) := fun a b r r' ha hb h => by
 have h1 := decU_enc a (by omega) r
 have h2 := decU_enc b (by omega) r'
 rw [h, h2] at h1
 simp only [Prod.mk.injEq] at h1
 obtain ⟨-, rfl, -⟩ := h1
 exact ⟨rfl, List.append_cancel_left h⟩
theorem pre_S : Pre encS (fun s => s.length ≤ 1000) := fun a b r r' ha hb h => by
 unfold encS at h
 rw [List.append_assoc, List.append_assoc] at h
 obtain ⟨h1, h2⟩ := pre_U _ _ _ _ (by omega) (by omega) h
 exact List.append_inj h2 h1
theorem pre_row {α : Type} {f : α → List UInt8} {ok : α → Prop} (hf : Pre f ok) : ∀ (a b : List α) (r r' : List UInt8), (∀ x ∈ a, ok x) → (∀ x ∈ b, ok x) → a.length = b.length → (a.map f).flatten ++ r = (b.map f).flatten ++ r' → a = b ∧ r = r'
 | [], [], r, r', _, _, _, h => ⟨rfl, by simpa using h⟩
 | [], _ :: _, _, _, _, _, hl, _ => by simp at hl
 | _ :: _, [], _, _, _, _, hl, _ => by simp at hl
 | x :: a, y :: b, r, r', ha, hb, hl, h => by
  rw [List.map_cons, List.map_cons, List.flatten_cons, List.flatten_cons, List.append_assoc, List.append_assoc] at h
  obtain ⟨h1, h2⟩ := hf _ _ _ _ (ha x (by simp)) (hb y (by simp)) h
  obtain ⟨h3, h4⟩ := pre_row hf a b r r' (fun z hz => ha z (by simp [hz])) (fun z hz => hb z (by simp [hz])) (by simpa using hl) h2
  exact ⟨by rw [h1, h3], h4⟩
theorem pre_rows {α : Type} {f : α → List UInt8} {ok : α → Prop} (hf : Pre f ok) {a b : List α} {r r' : List UInt8} (ha : ∀ x ∈ a, ok x) (hb : ∀ x ∈ b, ok x) (la : a.length ≤ 1000) (lb : b.length ≤ 1000) (h : encU a.length ++ ((a.map f).flatten ++ r) = encU b.length ++ ((b.map f).flatten ++ r')) : a = b ∧ r = r' := by
 obtain ⟨h1, h2⟩ := pre_U _ _ _ _ (by omega) (by omega) h
 exact pre_row hf a b r r' ha hb h1 h2
def TxsOk (l : List (List UInt8)) : Prop := (∀ s ∈ l, s.length ≤ 1000) ∧ l.length ≤ 1000
theorem pre_Ts : Pre encTs TxsOk := fun a b r r' ha hb h => by
 unfold encTs at h
 rw [List.append_assoc, List.append_assoc] at h
 exact pre_rows pre_S ha.1 hb.1 ha.2 hb.2 h
theorem lives_ok {l : List (List UInt8)} (h : LivesP l) : TxsOk l := ⟨fun s hs => by have := life_len (h.1 s hs); omega, by have := h.2; omega⟩
def TyOk (t : TyD) : Prop := (∃ d, TyP t d) ∨ t = .mk 0 [] [] []
theorem tyOk_of {k : Int} {n : List UInt8} {lv : List (List UInt8)} {el : List TyD} (h : TyOk (.mk k n lv el)) : (k = 3 ∧ n.length ≤ 1000 ∧ TxsOk lv ∧ el = []) ∨ ((k = 4 ∨ k = 5) ∧ n = [] ∧ TxsOk lv ∧ ∃ e, el = [e] ∧ TyOk e) ∨ ((k = 0 ∨ k = 1 ∨ k = 2) ∧ n = [] ∧ lv = [] ∧ el = []) := by
 rcases h with ⟨d, h⟩ | h
 ·unfold TyP at h
  rcases h.2 with ⟨h1, h2, h3, h4⟩ | ⟨h1, h2, h3, h4, h5⟩ | ⟨h1, h2, h3, h4⟩
  ·exact .inl ⟨h1, by have := double_len h2; omega, lives_ok h3, h4⟩
  ·refine .inr (.inl ⟨h1, h2, lives_ok h4, ?_⟩)
   match el, h5 with
   | t :: r, h5 =>
    unfold TysP at h5
    obtain ⟨rfl, h5⟩ := h5
    exact ⟨t, rfl, .inl ⟨_, h5⟩⟩
   | [], h5 => unfold TysP at h5; exact h5.elim
  ·exact .inr (.inr ⟨.inr h1, h2, h3, h4⟩)
 ·simp only [TyD.mk.injEq] at h
  obtain ⟨rfl, rfl, rfl, rfl⟩ := h
  exact .inr (.inr ⟨.inl rfl, rfl, rfl, rfl⟩)
theorem pre_T : ∀ (a b : TyD) (r r' : List UInt8), TyOk a → TyOk b → encT a ++ r = encT b ++ r' → a = b ∧ r = r' := by
 refine TyD.ind ?_
 intro k n lv el ih b r r' ha hb h
 obtain ⟨k2, n2, lv2, el2⟩ := b
 have ha := tyOk_of ha
 have hb := tyOk_of hb
 rw [encT_mk, encT_mk, List.append_assoc, List.append_assoc] at h
 have hk : 0 ≤ k ∧ k ≤ 5 := by omega
 have hk2 : 0 ≤ k2 ∧ k2 ≤ 5 := by omega
 obtain ⟨h1, h2⟩ := pre_U _ _ _ _ (by omega) (by omega) h
 obtain rfl : k = k2 := by omega
 rcases ha with ⟨rfl, a1, a2, rfl⟩ | ⟨a0, rfl, a2, e, rfl, a3⟩ | ⟨a0, rfl, rfl, rfl⟩
 ·rcases hb with ⟨-, b1, b2, rfl⟩ | ⟨b0, -⟩ | ⟨b0, -⟩
  ·rw [if_pos rfl, if_pos rfl, List.append_assoc, List.append_assoc] at h2
   obtain ⟨h3, h4⟩ := pre_S _ _ _ _ a1 b1 h2
   obtain ⟨h5, h6⟩ := pre_Ts _ _ _ _ a2 b2 h4
   exact ⟨by rw [h3, h5], h6⟩
  ·omega
  ·omega
 ·rcases hb with ⟨b0, -⟩ | ⟨-, rfl, b2, e2, rfl, b3⟩ | ⟨b0, -⟩
  ·omega
  ·rw [if_neg (by omega), if_pos a0, if_neg (by omega), if_pos a0, encT1_cons, encT1_cons, List.append_assoc, List.append_assoc] at h2
   obtain ⟨h3, h4⟩ := pre_Ts _ _ _ _ a2 b2 h2
   obtain ⟨h5, h6⟩ := ih e (by simp) e2 r r' a3 b3 h4
   exact ⟨by rw [h3, h5], h6⟩
  ·omega
 ·rcases hb with ⟨b0, -⟩ | ⟨b0, -⟩ | ⟨-, rfl, rfl, rfl⟩
  ·omega
  ·omega
  ·rw [if_neg (by omega), if_neg (by omega), List.nil_append, List.nil_append] at h2
   exact ⟨rfl, h2⟩
theorem tyOk1 {t : TyD} (h : TyP t 1) : TyOk t := .inl ⟨_, h⟩
theorem pre_F : Pre encF (FldP false) := fun a b r r' ha hb h => by
 obtain ⟨am, an, at'⟩ := a
 obtain ⟨bm, bn, bt⟩ := b
 obtain ⟨a1, a2, a3⟩ := ha
 obtain ⟨b1, b2, b3⟩ := hb
 unfold encF at h
 simp only at a1 a2 a3 b1 b2 b3 h
 rw [List.append_assoc, List.append_assoc] at h
 obtain ⟨h1, h2⟩ := pre_S _ _ _ _ (by have := name_len a2; omega) (by have := name_len b2; omega) h
 obtain ⟨h3, h4⟩ := pre_T _ _ _ _ (tyOk1 a3) (tyOk1 b3) h2
 have hm : am = bm := by cases am <;> cases bm <;> simp_all
 exact ⟨by rw [h1, h3, hm], h4⟩
theorem pre_Str : Pre encStr ShowP := fun a b r r' ha hb h => by
 obtain ⟨ap, an, al, af, ao⟩ := a
 obtain ⟨bp, bn, bl, bf, bo⟩ := b
 obtain ⟨a1, a2, a3, a4, a5, a6⟩ := ha
 obtain ⟨b1, b2, b3, b4, b5, b6⟩ := hb
 unfold encStr at h
 simp only at a1 a2 a3 a4 a5 a6 b1 b2 b3 b4 b5 b6 h
 simp only [List.append_assoc] at h
 obtain ⟨h1, h2⟩ := pre_S _ _ _ _ (by have := name_len a3; omega) (by have := name_len b3; omega) h
 obtain ⟨h3, h4⟩ := pre_Ts _ _ _ _ (lives_ok a4) (lives_ok b4) h2
 obtain ⟨h5, h6⟩ := pre_rows pre_F a5 b5 (by omega) (by omega) h4
 exact ⟨by rw [h1, h3, h5, a1, b1, a2, b2], h6⟩
theorem pre_L : Pre encL LifP := fun a b r r' ha hb h => by
 obtain ⟨an, ao⟩ := a
 obtain ⟨bn, bo⟩ := b
 obtain ⟨a1, a2⟩ := ha
 obtain ⟨b1, b2⟩ := hb
 unfold encL at h
 simp only at a1 a2 b1 b2 h
 rw [List.append_assoc, List.append_assoc] at h
 obtain ⟨h1, h2⟩ := pre_S _ _ _ _ (by have := life_len a1; omega) (by have := life_len b1; omega) h
 obtain ⟨h3, h4⟩ := pre_Ts _ _ _ _ (lives_ok a2) (lives_ok b2) h2
 exact ⟨by rw [h1, h3], h4⟩
theorem pre_Par : Pre encPar (FldP true) := fun a b r r' ha hb h => by
 obtain ⟨am, an, at'⟩ := a
 obtain ⟨bm, bn, bt⟩ := b
 obtain ⟨-, a2, a3⟩ := ha
 obtain ⟨-, b2, b3⟩ := hb
 unfold encPar at h
 simp only at a2 a3 b2 b3 h
 rw [List.append_assoc, List.append_assoc, List.append_assoc, List.append_assoc, List.singleton_append, List.singleton_append, List.cons.injEq] at h
 obtain ⟨h0, h⟩ := h
 obtain ⟨h1, h2⟩ := pre_S _ _ _ _ (by have := name_len a2; omega) (by have := name_len b2; omega) h
 obtain ⟨h3, h4⟩ := pre_T _ _ _ _ (tyOk1 a3) (tyOk1 b3) h2
 have hm : am = bm := by cases am <;> cases bm <;> simp_all
 exact ⟨by rw [h1, h3, hm], h4⟩
theorem res_ok {t : TyD} (h : ResP t) : TyOk t := by
 rcases h with h | h
 ·obtain ⟨k, n, lv, el⟩ := t
  simp only [TyD.kind, TyD.name, TyD.lives, TyD.elem] at h
  obtain ⟨rfl, rfl, rfl, rfl⟩ := h
  exact .inr rfl
 ·exact tyOk1 h
theorem pre_Fun : Pre encFun HeadP := fun a b r r' ha hb h => by
 obtain ⟨ap, an, al, apr, ar, ab, ao⟩ := a
 obtain ⟨bp, bn, bl, bpr, br, bb, bo⟩ := b
 obtain ⟨a1, a2, a3, a4, a5, a6, ⟨a7, a8⟩, a9, -⟩ := ha
 obtain ⟨b1, b2, b3, b4, b5, b6, ⟨b7, b8⟩, b9, -⟩ := hb
 unfold encFun at h
 simp only at a1 a2 a3 a4 a5 a6 a7 a8 a9 b1 b2 b3 b4 b5 b6 b7 b8 b9 h
 simp only [List.append_assoc] at h
 obtain ⟨h1, h2⟩ := pre_S _ _ _ _ (by have := name_len a5; omega) (by have := name_len b5; omega) h
 obtain ⟨h3, h4⟩ := pre_rows pre_L a4 b4 (by omega) (by omega) h2
 obtain ⟨h5, h6⟩ := pre_rows pre_Par a7 b7 (by omega) (by omega) h4
 obtain ⟨h7, h8⟩ := pre_T _ _ _ _ (res_ok a9) (res_ok b9) h6
 exact ⟨by rw [h1, h3, h5, h7, a1, b1, a2, b2, a3, b3], h8⟩
theorem sig_inj {s t : SigD} (hs : MayS s) (ht : MayS t) (h : encSig s = encSig t) : s = t := by
 obtain ⟨a1, a2, a3, a4, a5⟩ := mayS_show hs
 obtain ⟨b1, b2, b3, b4, b5⟩ := mayS_show ht
 obtain ⟨sn, ss, sf⟩ := s
 obtain ⟨tn, ts, tf⟩ := t
 unfold encSig at h
 simp only at a1 a2 a3 a4 a5 b1 b2 b3 b4 b5 h
 have h0 := List.append_cancel_left h
 obtain ⟨h1, h2⟩ := pre_S _ _ _ _ (by omega) (by omega) h0
 obtain ⟨h3, h4⟩ := pre_rows (r := encU sf.length ++ (sf.map encFun).flatten) (r' := encU tf.length ++ (tf.map encFun).flatten) pre_Str a1 b1 (by omega) (by omega) h2
 obtain ⟨h5, -⟩ := pre_rows (r := []) (r' := []) pre_Fun a2 b2 (by omega) (by omega) (by simpa using h4)
 rw [h1, h3, h5]
end Go.Proofs.YtjbcagbnagefcaaGreat
namespace Go.Proofs.YtjbcagbnagefcaaGreat
open Go.RowKit
attribute [local go_sem ↓] exec_mid_sig exec_store_sig
attribute [local go_sem] rowOk_new World.setRow_alloc_new
section
variable {P : Program} {ops : Array Oper} {a : Act} {w : World} {K : Act → World → Prop} {Q : Exit → Act → World → Prop}
end
section
variable {ops : Array Oper} {a : Act} {w : World} {K : Act → World → Prop} {Q : Exit → Act → World → Prop} {d : Nat} {ty' : TypeId} {pos : String} {af : Array Edge} {C : Array Value} {n m : Nat}
end
end Go.Proofs.YtjbcagbnagefcaaGreat
