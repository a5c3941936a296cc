/- The document's answer: fields compared. The document's answer: structs compared. The document's answer: functions compared. The document's answer: crates compared. -/
import Derived.Test.YtjbcagbnagefcaaTree6
import Derived.Test.YtjbcagbnagefcaaMix
import Derived.Test.YtjbcagbnagefcaaMixU
import Derived.Test.YtjbcagbnagefcaaTree7
namespace Go.Proofs.Ytjbcagbnagefcaa
open Go.RowKit

attribute [local irreducible] wpMix wpList
attribute [local go_sem ↓] exec_mid_ty exec_store_ty exec_mid_pl exec_store_pl exec_mid_opr exec_store_opr exec_mid_val exec_store_val exec_mid_st exec_store_st exec_mid_fld exec_store_fld exec_mid_str exec_store_str exec_mid_lif exec_store_lif exec_mid_fun exec_store_fun exec_mid_cr exec_store_cr
attribute [local go_sem] rowOk_new World.setRow_alloc_new

set_option maxRecDepth 100000 in
set_option linter.unusedSimpArgs false in
set_option maxHeartbeats 4000000 in
theorem rfields_any {S S' : Nat → Prop} (l m : List FldD) (w : World) {ax ay : Option Addr} (cx cy : Nat) (hx : SlIs S w 6 (FldIs S w) ax l) (hy : SlIs S' w 6 (FldIs S' w) ay m) :
    Calls Try.prog 63 #[.slice ax l.length cx, .slice ay m.length cy] w (Tells w (l = m)) := by
  have hlx := hx.1
  have hly := hy.1
  unfold bigN at hlx hly
  have HX := shut hx
  have HY := shut hy
  clear hx hy
  by_cases hne : l.length = m.length
  rotate_left
  · have hne' : ¬ (l.length : Int) = m.length := by omega
    have hl : l ≠ m := fun h => hne (by rw [h])
    go_enter Try.func63, Try.ntmps63
    go_wp2_with fail
    go_ret
    exact tells_f hl (Keeps.refl _ _)
  obtain ⟨n, hn⟩ : ∃ n, l.length = n := ⟨_, rfl⟩
  have hm : m.length = n := by omega
  rw [hn, hm]
  rw [hn] at hlx
  clear hne hly
  have HN := shut hn
  have HM := shut hm
  clear hn hm
  go_enter Try.func63, Try.ntmps63
  go_wp2_with fail
  go_loopw [5] (fun s5 wx => ∃ t : Nat, s5 = .int .i64 t ∧ t ≤ n ∧ Keeps Nothing w wx ∧ Shut (l.take t = m.take t)) (fun s5 _ => n - (intOf s5).toNat)
  case atStart => exact ⟨0, rfl, Nat.zero_le _, Keeps.refl _ _, shut (by simp)⟩
  case round =>
    obtain ⟨t, rfl, ht, KL, HT⟩ := hrel
    by_cases hlt : t < n
    rotate_left
    · obtain rfl : t = n := by omega
      have m1 : ¬ (t : Int) < t := by omega
      go_wp2_with fail
      go_ret
      refine tells_t ?_ KL
      have h := HT.out
      rwa [List.take_of_length_le (Nat.le_of_eq HN.out), List.take_of_length_le (Nat.le_of_eq HM.out)] at h
    obtain ⟨a, ha⟩ : ∃ a, l[t]? = some a := ⟨_, List.getElem?_eq_getElem (by rw [HN.out]; exact hlt)⟩
    obtain ⟨b, hb⟩ : ∃ b, m[t]? = some b := ⟨_, List.getElem?_eq_getElem (by rw [HM.out]; exact hlt)⟩
    obtain ⟨g1, o1, rfl, -, cs1, l1, r1, i1⟩ := (HX.out.keeps KL (fun _ _ h => h) (fun _ h => h) (fun _ _ _ h => h.keeps KL (fun _ _ h => h) (fun _ h => h))).get ha
    obtain ⟨g2, o2, rfl, -, cs2, l2, r2, i2⟩ := (HY.out.keeps KL (fun _ _ h => h) (fun _ h => h) (fun _ _ _ h => h.keeps KL (fun _ _ h => h) (fun _ h => h))).get hb
    have HA := shut ha
    have HB := shut hb
    clear ha hb
    have m0 : (0 : Int) ≤ t := by omega
    have m1 : (t : Int) < n := by omega
    obtain ⟨a_mu, a_name, a_ty⟩ := a
    obtain ⟨b_mu, b_name, b_ty⟩ := b
    obtain ⟨s2, hcs, ah_name, ah_ty⟩ := i1
    obtain ⟨t2, hds, bh_name, bh_ty⟩ := i2
    rw [hcs] at r1
    rw [hds] at r2
    simp only at ah_ty bh_ty r1 r2
    have al := ah_ty.len
    have bl := bh_ty.len
    have R1 := shut r1
    have R2 := shut r2
    clear r1 r2 hcs hds l1 l2 ah_name bh_name
    have HE : Shut ((⟨a_mu, a_name, a_ty⟩ : FldD) = ⟨b_mu, b_name, b_ty⟩ ↔ a_mu = b_mu ∧ a_name = b_name ∧ a_ty = b_ty) := shut (by simp)
    obtain ⟨XA, hXA⟩ : ∃ X, X = (⟨a_mu, a_name, a_ty⟩ : FldD) := ⟨_, rfl⟩
    obtain ⟨XB, hXB⟩ : ∃ X, X = (⟨b_mu, b_name, b_ty⟩ : FldD) := ⟨_, rfl⟩
    rw [← hXA, ← hXB] at HE
    rw [← hXA] at HA
    rw [← hXB] at HB
    clear hXA hXB
    have hout : Shut (¬ XA = XB → ¬ l = m) := shut (fun h => ne_at HA.out HB.out h)
    go_wp2_with fail
    refine wp_region_mix (fun V => Keeps Nothing wr V) [(true, 0), (true, 1), (true, 2), (true, 3), (true, 4), (true, 5), (true, 6), (true, 7), (true, 8), (true, 9), (true, 10), (true, 11), (true, 12), (true, 13), (true, 14), (true, 15), (true, 16), (true, 17), (true, 18), (true, 19), (true, 20), (true, 21), (true, 22), (true, 23), (true, 24), (true, 25), (true, 26), (true, 27), (true, 28), (true, 29), (true, 30), (true, 31), (true, 32), (true, 33), (true, 34), (false, 35), (true, 36), (true, 37)] (by kernel_rfl) (by kernel_rfl) (Keeps.refl _ _).drew ?_
    simp only [mixItems, List.map_cons, List.map_nil, List.getD_cons_zero, List.getD_cons_succ]
    have kk : Keeps Nothing wr wr.drew := (Keeps.refl Nothing wr).drew
    repeat (refine wpMix_free (fun K hK => ?_); go_simp; refine hK _ ?_; clear hK K)
    refine wpMix_yield (v := .bool a_mu) (fun V hV => ?_) (fun K hK => ?_)
    · obtain ⟨z0, z1, z2, z3⟩ := FldR al (rangeAt_keeps R1.out hV (fun h => h))
      unfold txV at z1
      go_simp
    go_simp
    refine hK _ ?_
    clear hK K
    repeat (refine wpMix_free (fun K hK => ?_); go_simp; refine hK _ ?_; clear hK K)
    refine wpMix_yield (v := .bool b_mu) (fun V hV => ?_) (fun K hK => ?_)
    · obtain ⟨z0, z1, z2, z3⟩ := FldR bl (rangeAt_keeps R2.out hV (fun h => h))
      unfold txV at z1
      go_simp
    go_simp
    refine hK _ ?_
    clear hK K
    by_cases hmu : a_mu = b_mu
    rotate_left
    · have hno := shut (hout.out (fun h => hmu (HE.out.1 h).1))
      have hq : (a_mu == b_mu) = false := by rw [beq_eq_false_iff_ne]; exact hmu
      clear HE hout hmu
      refine wpMix_free (fun K hK => ?_); go_simp; refine hK _ ?_; clear hK K
      refine wpMix_free (fun K hK => ?_); go_simp; refine hK _ ?_; clear hK K
      iterate 11 refine wpMix_unwK (by kernel_rfl) ?_
      refine wpMix_free (fun K hK => ?_); go_simp; refine hK _ ?_; clear hK K
      refine wpMix_free (fun K hK => ?_); go_simp; refine hK _ ?_; clear hK K
      iterate 10 refine wpMix_unwK (by kernel_rfl) ?_
      refine wpMix_unwK1 (by kernel_rfl) kk ?_
      iterate 1 refine wpMix_unwK (by kernel_rfl) ?_
      refine wpMix_free (fun K hK => ?_); go_simp; refine hK _ ?_; clear hK K
      refine wpMix_nil ?_
      repeat (first | go_values | go_skip | go_guarded | go_step | go_upon | go_back)
      go_ret
      exact tells_f hno.out (KL.trans kk (fun _ h _ => h))
    subst hmu
    have hq : (a_mu == a_mu) = true := beq_self_eq_true _
    repeat (refine wpMix_free (fun K hK => ?_); go_simp; refine hK _ ?_; clear hK K)
    refine wpMix_yield (v := .string ⟨a_name.toArray⟩) (fun V hV => ?_) (fun K hK => ?_)
    · obtain ⟨z0, z1, z2, z3⟩ := FldR al (rangeAt_keeps R1.out hV (fun h => h))
      unfold txV at z1
      go_simp
    go_simp
    refine hK _ ?_
    clear hK K
    repeat (refine wpMix_free (fun K hK => ?_); go_simp; refine hK _ ?_; clear hK K)
    refine wpMix_yield (v := .string ⟨b_name.toArray⟩) (fun V hV => ?_) (fun K hK => ?_)
    · obtain ⟨z0, z1, z2, z3⟩ := FldR bl (rangeAt_keeps R2.out hV (fun h => h))
      unfold txV at z1
      go_simp
    go_simp
    refine hK _ ?_
    clear hK K
    by_cases hnm : a_name = b_name
    rotate_left
    · have hno := shut (hout.out (fun h => hnm (HE.out.1 h).2.1))
      have hb1 : (a_name == b_name) = false := by rw [beq_eq_false_iff_ne]; exact hnm
      clear HE hout hnm
      refine wpMix_free (fun K hK => ?_); go_simp; refine hK _ ?_; clear hK K
      refine wpMix_free (fun K hK => ?_); go_simp; refine hK _ ?_; clear hK K
      refine wpMix_free (fun K hK => ?_); go_simp; refine hK _ ?_; clear hK K
      iterate 10 refine wpMix_unwK (by kernel_rfl) ?_
      refine wpMix_unwK1 (by kernel_rfl) kk ?_
      iterate 1 refine wpMix_unwK (by kernel_rfl) ?_
      refine wpMix_free (fun K hK => ?_); go_simp; refine hK _ ?_; clear hK K
      refine wpMix_nil ?_
      repeat (first | go_values | go_skip | go_guarded | go_step | go_upon | go_back)
      go_ret
      exact tells_f hno.out (KL.trans kk (fun _ h _ => h))
    subst hnm
    have hb1 : (a_name == a_name) = true := beq_self_eq_true _
    repeat (refine wpMix_free (fun K hK => ?_); go_simp; refine hK _ ?_; clear hK K)
    refine wpMix_yield (v := .agg s2.toArray) (fun V hV => ?_) (fun K hK => ?_)
    · obtain ⟨z0, z1, z2, z3⟩ := FldR al (rangeAt_keeps R1.out hV (fun h => h))
      unfold txV at z1
      go_simp
    go_simp
    refine hK _ ?_
    clear hK K
    repeat (refine wpMix_free (fun K hK => ?_); go_simp; refine hK _ ?_; clear hK K)
    refine wpMix_yield (v := .agg t2.toArray) (fun V hV => ?_) (fun K hK => ?_)
    · obtain ⟨z0, z1, z2, z3⟩ := FldR bl (rangeAt_keeps R2.out hV (fun h => h))
      unfold txV at z1
      go_simp
    go_simp
    refine hK _ ?_
    clear hK K
    repeat (refine wpMix_free (fun K hK => ?_); go_simp; refine hK _ ?_; clear hK K)
    have hc := rsameType_any a_ty b_ty wr.drew s2 t2 (ah_ty.keeps kk (fun _ _ h => h) (fun _ h => h)) (bh_ty.keeps kk (fun _ _ h => h) (fun _ h => h))
    refine wpMix_one (fun K hK => ?_)
    go_wp2_with fail
    refine hc.mono ?_
    rintro e w1 ⟨⟨z, rfl, hz⟩, k1⟩
    have kk := kk.trans k1 (fun _ h _ => h)
    have HZ := shut hz
    clear hc k1 hz
    go_wp2_with fail
    refine hK _ _ kk ?_
    clear hK K
    cases z with
    | false =>
      have hno := shut (hout.out (fun h => by have h2 := HZ.out.2 (HE.out.1 h).2.2; cases h2))
      clear HE hout HZ
      repeat (refine wpMix_free (fun K hK => ?_); go_simp; refine hK _ ?_; clear hK K)
      refine wpMix_nil ?_
      repeat (first | go_values | go_skip | go_guarded | go_step | go_upon | go_back)
      go_ret
      exact tells_f hno.out (KL.trans kk (fun _ h _ => h))
    | true =>
      have hab := shut (HE.out.2 ⟨by first | rfl | trivial, by first | rfl | trivial, HZ.out.1 rfl⟩)
      have HT2 := shut (take_eq HA.out HB.out HT.out hab.out)
      clear HE hout HZ hab
      repeat (refine wpMix_free (fun K hK => ?_); go_simp; refine hK _ ?_; clear hK K)
      refine wpMix_nil ?_
      go_wp2_with fail
      go_roundw
      case rel => exact ⟨t + 1, by go_num, by omega, KL.trans kk (fun _ h _ => h), HT2⟩
      case measure => simp [intOf]; omega

end Go.Proofs.Ytjbcagbnagefcaa

namespace Go.Proofs.Ytjbcagbnagefcaa
open Go.RowKit

attribute [local go_sem ↓] exec_mid_ty exec_store_ty exec_mid_pl exec_store_pl exec_mid_opr exec_store_opr exec_mid_val exec_store_val exec_mid_st exec_store_st exec_mid_fld exec_store_fld exec_mid_str exec_store_str exec_mid_lif exec_store_lif exec_mid_fun exec_store_fun exec_mid_cr exec_store_cr
attribute [local go_sem] rowOk_new World.setRow_alloc_new

set_option maxRecDepth 100000 in
set_option maxHeartbeats 4000000 in
theorem rsameStruct_any {S S' : Nat → Prop} (a b : StrD) (w : World) (cs ds : List Value) (ha : StrIs S w a cs) (hb : StrIs S' w b ds) : Calls Try.prog 34 #[.agg cs.toArray, .agg ds.toArray] w (Tells w (a = b)) := by
  obtain ⟨a_pub, a_name, a_lives, a_fields, a_pos⟩ := a
  obtain ⟨b_pub, b_name, b_lives, b_fields, b_pos⟩ := b
  have ag1 := agg_ok ha.len ha.one
  have ag2 := agg_ok hb.len hb.one
  obtain ⟨p2, q2, p3, q3, hcs, ah_name, ah_lives, ah_fields⟩ := ha
  have HCA := shut hcs
  clear hcs
  obtain ⟨x2, y2, x3, y3, hcs, bh_name, bh_lives, bh_fields⟩ := hb
  have HCB := shut hcs
  clear hcs
  simp only at HCA HCB ah_name bh_name ah_lives bh_lives ah_fields bh_fields
  have HE : Shut ((StrD.mk a_pub a_name a_lives a_fields a_pos) = (StrD.mk b_pub b_name b_lives b_fields b_pos) ↔ a_pub = b_pub ∧ a_name = b_name ∧ a_lives = b_lives ∧ a_fields = b_fields ∧ a_pos = b_pos) := shut (by rw [StrD.mk.injEq])
  obtain ⟨XA, hXA⟩ : ∃ X, X = StrD.mk a_pub a_name a_lives a_fields a_pos := ⟨_, rfl⟩
  obtain ⟨XB, hXB⟩ : ∃ X, X = StrD.mk b_pub b_name b_lives b_fields b_pos := ⟨_, rfl⟩
  rw [← hXA, ← hXB] at HE ⊢
  clear hXA hXB
  obtain ⟨CA, hCA⟩ : ∃ C, C = cs.toArray := ⟨_, rfl⟩
  obtain ⟨CB, hCB⟩ : ∃ C, C = ds.toArray := ⟨_, rfl⟩
  rw [← hCA] at ag1 ⊢
  rw [← hCB] at ag2 ⊢
  rw [HCA.out] at hCA
  rw [HCB.out] at hCB
  have GCA := shut hCA
  have GCB := shut hCB
  clear hCA hCB HCA HCB
  have KW : Keeps Nothing w ((w.alloc (.cells CA 48)).alloc (.cells CB 48)) := ((Keeps.refl Nothing w).alloc _).alloc _
  have BA : Blk ((w.alloc (.cells CA 48)).alloc (.cells CB 48)) w.heap.size CA 48 := blk_alloc (blk_new w CA 48) _
  have BB : Blk ((w.alloc (.cells CA 48)).alloc (.cells CB 48)) (w.heap.size + 1) CB 48 := by have h := blk_new (w.alloc (.cells CA 48)) CB 48; rwa [World.size_alloc] at h
  go_enter Try.func34, Try.ntmps34
  obtain ⟨ae0, ae1, ae2, -, ae4⟩ := StrB  GCA.out BA
  obtain ⟨be0, be1, be2, -, be4⟩ := StrB  GCB.out BB
  have ac0 := blk_inv BA ae0
  have bc0 := blk_inv BB be0
  have ac1 := blk_inv BA ae1
  have bc1 := blk_inv BB be1
  have ac2 := blk_inv BA ae2
  have bc2 := blk_inv BB be2
  have ac4 := blk_inv BA ae4
  have bc4 := blk_inv BB be4
  by_cases e_pub : a_pub = b_pub
  rotate_left
  · have hno : Shut (¬ XA = XB) := shut (fun h => e_pub ((HE.out.1 h).1))
    clear HE GCA GCB BA BB
    unfold txV at *
    have hq : (a_pub == b_pub) = false := by rw [beq_eq_false_iff_ne]; exact e_pub
    go_wp2_with fail
    go_ret
    exact tells_f hno.out KW
  subst e_pub
  by_cases e_name : a_name = b_name
  rotate_left
  · have hno : Shut (¬ XA = XB) := shut (fun h => e_name ((HE.out.1 h).2.1))
    clear HE GCA GCB BA BB
    have hq : (a_name == b_name) = false := by rw [beq_eq_false_iff_ne]; exact e_name
    unfold txV at *
    go_wp2_with fail
    go_ret
    exact tells_f hno.out KW
  subst e_name
  have hq_name : (a_name == a_name) = true := beq_self_eq_true _
  by_cases e_pos : a_pos = b_pos
  rotate_left
  · have hno : Shut (¬ XA = XB) := shut (fun h => e_pos ((HE.out.1 h).2.2.2.2))
    clear HE GCA GCB BA BB
    unfold txV at *
    go_wp2_with fail
    go_ret
    exact tells_f hno.out KW
  subst e_pos
  have hc := rtexts_any ((w.alloc (.cells CA 48)).alloc (.cells CB 48)) q2 y2 (ah_lives.keeps KW (fun _ _ h => h) (fun _ h => h) (fun _ _ _ h => h)) (bh_lives.keeps KW (fun _ _ h => h) (fun _ h => h) (fun _ _ _ h => h))
  unfold txV at *
  go_wp2_with fail
  refine hc.mono ?_
  rintro e w1 ⟨⟨z, rfl, hz⟩, k1⟩
  have KW := KW.trans k1 (fun _ h _ => h)
  have BA := k1.blk BA (fun h => h)
  have BB := k1.blk BB (fun h => h)
  clear hc k1 ae0 ac0 be0 bc0 ae1 ac1 be1 bc1 ae2 ac2 be2 bc2 ae4 ac4 be4 bc4 hq_name
  cases z
  · have hno : Shut (¬ XA = XB) := shut (fun h => by have h2 := hz.2 ((HE.out.1 h).2.2.1); cases h2)
    clear HE GCA GCB BA BB hz
    go_wp2_with fail
    go_ret
    exact tells_f hno.out KW
  have E_lives := shut (hz.1 rfl)
  clear hz
  obtain ⟨-, -, -, ae3, -⟩ := StrB  GCA.out BA
  obtain ⟨-, -, -, be3, -⟩ := StrB  GCB.out BB
  have hc := rfields_any _ _ w1 q3 y3 (ah_fields.keeps KW (fun _ _ h => h) (fun _ h => h) (fun _ _ _ h => h.keeps KW (fun _ _ h => h) (fun _ h => h))) (bh_fields.keeps KW (fun _ _ h => h) (fun _ h => h) (fun _ _ _ h => h.keeps KW (fun _ _ h => h) (fun _ h => h)))
  skip
  go_wp2_with fail
  refine hc.mono ?_
  rintro e w2 ⟨⟨z, rfl, hz⟩, k2⟩
  have KW := KW.trans k2 (fun _ h _ => h)
  have BA := k2.blk BA (fun h => h)
  have BB := k2.blk BB (fun h => h)
  clear hc k2 ae3 be3
  cases z
  · have hno : Shut (¬ XA = XB) := shut (fun h => by have h2 := hz.2 ((HE.out.1 h).2.2.2.1); cases h2)
    clear HE GCA GCB BA BB hz
    go_wp2_with fail
    go_ret
    exact tells_f hno.out KW
  have E_fields := shut (hz.1 rfl)
  clear hz
  go_wp2_with fail
  go_ret
  exact tells_t (HE.out.2 ⟨(by first | rfl | trivial), (by first | rfl | trivial), E_lives.out, E_fields.out, (by first | rfl | trivial)⟩) KW

end Go.Proofs.Ytjbcagbnagefcaa

namespace Go.Proofs.Ytjbcagbnagefcaa
open Go.RowKit

attribute [local irreducible] wpMix wpList
attribute [local go_sem ↓] exec_mid_ty exec_store_ty exec_mid_pl exec_store_pl exec_mid_opr exec_store_opr exec_mid_val exec_store_val exec_mid_st exec_store_st exec_mid_fld exec_store_fld exec_mid_str exec_store_str exec_mid_lif exec_store_lif exec_mid_fun exec_store_fun exec_mid_cr exec_store_cr
attribute [local go_sem] rowOk_new World.setRow_alloc_new

set_option maxRecDepth 100000 in
set_option maxHeartbeats 4000000 in
theorem rsameFunc_any {S S' : Nat → Prop} (a b : FunD) (w : World) (cs ds : List Value) (ha : FunIs S w a cs) (hb : FunIs S' w b ds) : Calls Try.prog 35 #[.agg cs.toArray, .agg ds.toArray] w (Tells w (a = b)) := by
  obtain ⟨a_pub, a_name, a_lives, a_params, a_result, a_body, a_pos⟩ := a
  obtain ⟨b_pub, b_name, b_lives, b_params, b_result, b_body, b_pos⟩ := b
  have ag1 := agg_ok ha.len ha.one
  have ag2 := agg_ok hb.len hb.one
  obtain ⟨p2, q2, p3, q3, s4, p8, q8, hcs, ah_name, ah_lives, ah_params, ah_result, ah_body⟩ := ha
  have HCA := shut hcs
  clear hcs
  obtain ⟨x2, y2, x3, y3, t4, x8, y8, hcs, bh_name, bh_lives, bh_params, bh_result, bh_body⟩ := hb
  have HCB := shut hcs
  clear hcs
  simp only at HCA HCB ah_name bh_name ah_lives bh_lives ah_params bh_params ah_result bh_result ah_body bh_body
  have HE : Shut ((FunD.mk a_pub a_name a_lives a_params a_result a_body a_pos) = (FunD.mk b_pub b_name b_lives b_params b_result b_body b_pos) ↔ a_pub = b_pub ∧ a_name = b_name ∧ a_lives = b_lives ∧ a_params = b_params ∧ a_result = b_result ∧ a_body = b_body ∧ a_pos = b_pos) := shut (by rw [FunD.mk.injEq])
  obtain ⟨XA, hXA⟩ : ∃ X, X = FunD.mk a_pub a_name a_lives a_params a_result a_body a_pos := ⟨_, rfl⟩
  obtain ⟨XB, hXB⟩ : ∃ X, X = FunD.mk b_pub b_name b_lives b_params b_result b_body b_pos := ⟨_, rfl⟩
  rw [← hXA, ← hXB] at HE ⊢
  clear hXA hXB
  obtain ⟨CA, hCA⟩ : ∃ C, C = cs.toArray := ⟨_, rfl⟩
  obtain ⟨CB, hCB⟩ : ∃ C, C = ds.toArray := ⟨_, rfl⟩
  rw [← hCA] at ag1 ⊢
  rw [← hCB] at ag2 ⊢
  rw [HCA.out] at hCA
  rw [HCB.out] at hCB
  have GCA := shut hCA
  have GCB := shut hCB
  clear hCA hCB HCA HCB
  have KW : Keeps Nothing w ((w.alloc (.cells CA 36)).alloc (.cells CB 36)) := ((Keeps.refl Nothing w).alloc _).alloc _
  have BA : Blk ((w.alloc (.cells CA 36)).alloc (.cells CB 36)) w.heap.size CA 36 := blk_alloc (blk_new w CA 36) _
  have BB : Blk ((w.alloc (.cells CA 36)).alloc (.cells CB 36)) (w.heap.size + 1) CB 36 := by have h := blk_new (w.alloc (.cells CA 36)) CB 36; rwa [World.size_alloc] at h
  have al_result := ah_result.len
  have bl_result := bh_result.len
  go_enter Try.func35, Try.ntmps35
  obtain ⟨ae0, ae1, ae2, ae3, -, -, ae9⟩ := FunB al_result GCA.out BA
  obtain ⟨be0, be1, be2, be3, -, -, be9⟩ := FunB bl_result GCB.out BB
  have ac0 := blk_inv BA ae0
  have bc0 := blk_inv BB be0
  have ac1 := blk_inv BA ae1
  have bc1 := blk_inv BB be1
  have ac2 := blk_inv BA ae2
  have bc2 := blk_inv BB be2
  have ac3 := blk_inv BA ae3
  have bc3 := blk_inv BB be3
  have ac9 := blk_inv BA ae9
  have bc9 := blk_inv BB be9
  by_cases e_pub : a_pub = b_pub
  rotate_left
  · have hno : Shut (¬ XA = XB) := shut (fun h => e_pub ((HE.out.1 h).1))
    clear HE GCA GCB BA BB
    unfold txV at *
    have hq : (a_pub == b_pub) = false := by rw [beq_eq_false_iff_ne]; exact e_pub
    go_wp2_with fail
    go_ret
    exact tells_f hno.out KW
  subst e_pub
  by_cases e_name : a_name = b_name
  rotate_left
  · have hno : Shut (¬ XA = XB) := shut (fun h => e_name ((HE.out.1 h).2.1))
    clear HE GCA GCB BA BB
    have hq : (a_name == b_name) = false := by rw [beq_eq_false_iff_ne]; exact e_name
    unfold txV at *
    go_wp2_with fail
    go_ret
    exact tells_f hno.out KW
  subst e_name
  have hq_name : (a_name == a_name) = true := beq_self_eq_true _
  by_cases e_pos : a_pos = b_pos
  rotate_left
  · have hno : Shut (¬ XA = XB) := shut (fun h => e_pos ((HE.out.1 h).2.2.2.2.2.2))
    clear HE GCA GCB BA BB
    unfold txV at *
    go_wp2_with fail
    go_ret
    exact tells_f hno.out KW
  subst e_pos
  by_cases e_lives : a_lives.length = b_lives.length
  rotate_left
  · have hno : Shut (¬ XA = XB) := shut (fun h => e_lives (congrArg List.length ((HE.out.1 h).2.2.1)))
    have hlq : ¬ (a_lives.length : Int) = b_lives.length := by omega
    clear HE GCA GCB BA BB
    unfold txV at *
    go_wp2_with fail
    go_ret
    exact tells_f hno.out KW
  have el_lives : (a_lives.length : Int) = b_lives.length := by omega
  have hc := rfields_any _ _ ((w.alloc (.cells CA 36)).alloc (.cells CB 36)) q3 y3 (ah_params.keeps KW (fun _ _ h => h) (fun _ h => h) (fun _ _ _ h => h.keeps KW (fun _ _ h => h) (fun _ h => h))) (bh_params.keeps KW (fun _ _ h => h) (fun _ h => h) (fun _ _ _ h => h.keeps KW (fun _ _ h => h) (fun _ h => h)))
  unfold txV at *
  go_wp2_with fail
  refine hc.mono ?_
  rintro e w1 ⟨⟨z, rfl, hz⟩, k1⟩
  have KW := KW.trans k1 (fun _ h _ => h)
  have BA := k1.blk BA (fun h => h)
  have BB := k1.blk BB (fun h => h)
  clear hc k1 ae0 ac0 be0 bc0 ae1 ac1 be1 bc1 ae2 ac2 be2 bc2 ae3 ac3 be3 bc3 ae9 ac9 be9 bc9 hq_name
  cases z
  · have hno : Shut (¬ XA = XB) := shut (fun h => by have h2 := hz.2 ((HE.out.1 h).2.2.2.1); cases h2)
    clear HE GCA GCB BA BB hz
    go_wp2_with fail
    go_ret
    exact tells_f hno.out KW
  have E_params := shut (hz.1 rfl)
  clear hz
  obtain ⟨-, -, -, -, ⟨ae4, af4⟩, -, -⟩ := FunB al_result GCA.out BA
  obtain ⟨-, -, -, -, ⟨be4, bf4⟩, -, -⟩ := FunB bl_result GCB.out BB
  have hc := rsameType_any _ _ w1 _ _ (ah_result.keeps KW (fun _ _ h => h) (fun _ h => h)) (bh_result.keeps KW (fun _ _ h => h) (fun _ h => h))
  generalize hsa : s4.toArray = sa at *
  generalize hsb : t4.toArray = sb at *
  clear hsa hsb
  skip
  go_wp2_with fail
  refine hc.mono ?_
  rintro e w2 ⟨⟨z, rfl, hz⟩, k2⟩
  have KW := KW.trans k2 (fun _ h _ => h)
  have BA := k2.blk BA (fun h => h)
  have BB := k2.blk BB (fun h => h)
  clear hc k2 ae4 af4 be4 bf4
  cases z
  · have hno : Shut (¬ XA = XB) := shut (fun h => by have h2 := hz.2 ((HE.out.1 h).2.2.2.2.1); cases h2)
    clear HE GCA GCB BA BB hz
    go_wp2_with fail
    go_ret
    exact tells_f hno.out KW
  have E_result := shut (hz.1 rfl)
  clear hz
  obtain ⟨-, -, -, -, -, ae8, -⟩ := FunB al_result GCA.out BA
  obtain ⟨-, -, -, -, -, be8, -⟩ := FunB bl_result GCB.out BB
  have hc := rs_all _ _ w2 _ _ q8 y8 (ah_body.keeps KW (fun _ _ h => h) (fun _ h => h) (fun _ _ _ h => h.keeps KW (fun _ _ h => h) (fun _ h => h))) (bh_body.keeps KW (fun _ _ h => h) (fun _ h => h) (fun _ _ _ h => h.keeps KW (fun _ _ h => h) (fun _ h => h)))
  skip
  go_wp2_with fail
  refine hc.mono ?_
  rintro e w3 ⟨⟨z, rfl, hz⟩, k3⟩
  have KW := KW.trans k3 (fun _ h _ => h)
  have BA := k3.blk BA (fun h => h)
  have BB := k3.blk BB (fun h => h)
  clear hc k3 ae8 be8
  cases z
  · have hno : Shut (¬ XA = XB) := shut (fun h => by have h2 := hz.2 ((HE.out.1 h).2.2.2.2.2.1); cases h2)
    clear HE GCA GCB BA BB hz
    go_wp2_with fail
    go_ret
    exact tells_f hno.out KW
  have E_body := shut (hz.1 rfl)
  clear hz
  obtain ⟨n, hn⟩ : ∃ n, a_lives.length = n := ⟨_, rfl⟩
  have hm : b_lives.length = n := by omega
  have hnb : n ≤ bigN := by rw [← hn]; exact ah_lives.1
  unfold bigN at hnb
  go_wp2_with fail
  try clear ae8
  try clear be8
  try clear el_lives
  rw [hn] at GCA
  rw [hm] at GCB
  try rw [hn]
  try rw [hm]
  have HN := shut hn
  have HM := shut hm
  clear hn hm e_lives
  obtain ⟨wb, hwb⟩ : ∃ W, W = w3 := ⟨_, rfl⟩
  rw [← hwb] at KW BA BB ⊢
  clear hwb
  go_loopw [5] (fun s wx => ∃ t : Nat, s = .int .i64 t ∧ t ≤ n ∧ Keeps Nothing wb wx ∧ Shut (a_lives.take t = b_lives.take t)) (fun s _ => n - (intOf s).toNat)
  case atStart => exact ⟨0, rfl, Nat.zero_le _, Keeps.refl _ _, shut (by simp)⟩
  case round =>
    obtain ⟨t, rfl, ht, KL, HT⟩ := hrel
    have BA2 := KL.blk BA (fun h => h)
    have BB2 := KL.blk BB (fun h => h)
    have KA := KW.trans KL (fun _ h _ => h)
    obtain ⟨-, -, ae2, -, -, -, -⟩ := FunB al_result GCA.out BA2
    obtain ⟨-, -, be2, -, -, -, -⟩ := FunB bl_result GCB.out BB2
    by_cases hlt : t < n
    · obtain ⟨d, hd⟩ : ∃ d, a_lives[t]? = some d := ⟨_, List.getElem?_eq_getElem (by rw [HN.out]; exact hlt)⟩
      obtain ⟨d2, hd2⟩ : ∃ d, b_lives[t]? = some d := ⟨_, List.getElem?_eq_getElem (by rw [HM.out]; exact hlt)⟩
      obtain ⟨g1, o1, rfl, -, cs1, l1, r1, i1⟩ := (ah_lives.keeps KA (fun _ _ h => h) (fun _ h => h) (fun _ _ _ h => h.keeps KA (fun _ _ h => h) (fun _ h => h))).get hd
      obtain ⟨g2, o2, rfl, -, cs2, l2, r2, i2⟩ := (bh_lives.keeps KA (fun _ _ h => h) (fun _ h => h) (fun _ _ _ h => h.keeps KA (fun _ _ h => h) (fun _ h => h))).get hd2
      have HD := shut hd
      have HD2 := shut hd2
      have hdm := List.mem_of_getElem? hd
      have hdm2 := List.mem_of_getElem? hd2
      clear hd hd2
      have m0 : (0 : Int) ≤ t := by omega
      have m1 : (t : Int) < n := by omega
      obtain ⟨d_name, d_over⟩ := d
      obtain ⟨e_name, e_over⟩ := d2
      obtain ⟨u1, v1, hcs1, ln1, oh1⟩ := i1
      obtain ⟨u2, v2, hcs2, ln2, oh2⟩ := i2
      rw [hcs1] at r1
      rw [hcs2] at r2
      simp only at r1 r2 oh1 oh2
      have R1 := shut r1
      have R2 := shut r2
      clear r1 r2 hcs1 hcs2 ln1 ln2 l1 l2 hdm hdm2
      have HL : Shut ((⟨d_name, d_over⟩ : LifD) = ⟨e_name, e_over⟩ ↔ d_name = e_name ∧ d_over = e_over) := shut (by simp)
      obtain ⟨D1, hD1⟩ : ∃ X, X = (⟨d_name, d_over⟩ : LifD) := ⟨_, rfl⟩
      obtain ⟨D2, hD2⟩ : ∃ X, X = (⟨e_name, e_over⟩ : LifD) := ⟨_, rfl⟩
      rw [← hD1, ← hD2] at HL
      rw [← hD1] at HD
      rw [← hD2] at HD2
      clear hD1 hD2
      have HOUT : Shut (¬ D1 = D2 → ¬ XA = XB) := shut (fun q h => ne_at HD.out HD2.out q ((HE.out.1 h).2.2.1))
      go_upto_region 6 with fail
      refine wp_region_mix (fun V => Keeps Nothing wr V) [(true, 0), (true, 1), (true, 2), (true, 3), (true, 4), (true, 5), (true, 6), (true, 7), (true, 8), (true, 9), (true, 10), (true, 11), (true, 12), (true, 13), (true, 14), (true, 15), (true, 16), (true, 17), (true, 18), (true, 19), (true, 20), (true, 21), (true, 22), (true, 23), (true, 24), (true, 25), (false, 26), (true, 27), (true, 28)] (by kernel_rfl) (by kernel_rfl) (Keeps.refl Nothing wr).drew ?_
      simp only [mixItems, List.map_cons, List.map_nil, List.getD_cons_zero, List.getD_cons_succ]
      have kd : Keeps Nothing wr wr.drew := (Keeps.refl Nothing wr).drew
      repeat (refine wpMix_free (fun K hK => ?_); go_simp; refine hK _ ?_; clear hK K)
      refine wpMix_yield (v := .slice (some ⟨g1, o1, none⟩) n q2) (fun V hV => ?_) (fun K hK => ?_)
      · have zz := hV.cell ae2 (fun h => h)
        go_simp
      go_simp
      refine hK _ ?_
      clear hK K
      repeat (refine wpMix_free (fun K hK => ?_); go_simp; refine hK _ ?_; clear hK K)
      refine wpMix_yield (v := .string ⟨d_name.toArray⟩) (fun V hV => ?_) (fun K hK => ?_)
      · obtain ⟨z0, z1⟩ := LifR (rangeAt_keeps R1.out hV (fun h => h))
        unfold txV at z0
        go_simp
      go_simp
      refine hK _ ?_
      clear hK K
      repeat (refine wpMix_free (fun K hK => ?_); go_simp; refine hK _ ?_; clear hK K)
      refine wpMix_yield (v := .slice (some ⟨g2, o2, none⟩) n y2) (fun V hV => ?_) (fun K hK => ?_)
      · have zz := hV.cell be2 (fun h => h)
        go_simp
      go_simp
      refine hK _ ?_
      clear hK K
      repeat (refine wpMix_free (fun K hK => ?_); go_simp; refine hK _ ?_; clear hK K)
      refine wpMix_yield (v := .string ⟨e_name.toArray⟩) (fun V hV => ?_) (fun K hK => ?_)
      · obtain ⟨z0, z1⟩ := LifR (rangeAt_keeps R2.out hV (fun h => h))
        unfold txV at z0
        go_simp
      go_simp
      refine hK _ ?_
      clear hK K
      by_cases hnm : d_name = e_name
      rotate_left
      · have hno := shut (HOUT.out (fun h => hnm (HL.out.1 h).1))
        have hq : (d_name == e_name) = false := by rw [beq_eq_false_iff_ne]; exact hnm
        clear HE HOUT HL hnm
        refine wpMix_free (fun K hK => ?_); go_simp; refine hK _ ?_; clear hK K
        refine wpMix_free (fun K hK => ?_); go_simp; refine hK _ ?_; clear hK K
        iterate 12 refine wpMix_unwK (by kernel_rfl) ?_
        refine wpMix_unwK1 (by kernel_rfl) kd ?_
        iterate 1 refine wpMix_unwK (by kernel_rfl) ?_
        refine wpMix_free (fun K hK => ?_); go_simp; refine hK _ ?_; clear hK K
        refine wpMix_nil ?_
        repeat (first | go_values | go_skip | go_guarded | go_step | go_upon | go_back)
        go_ret
        exact tells_f hno.out (KA.trans kd (fun _ h _ => h))
      subst hnm
      have hq : (d_name == d_name) = true := beq_self_eq_true _
      repeat (refine wpMix_free (fun K hK => ?_); go_simp; refine hK _ ?_; clear hK K)
      refine wpMix_yield (v := .slice (some ⟨g1, o1, none⟩) n q2) (fun V hV => ?_) (fun K hK => ?_)
      · have zz := hV.cell ae2 (fun h => h)
        go_simp
      go_simp
      refine hK _ ?_
      clear hK K
      repeat (refine wpMix_free (fun K hK => ?_); go_simp; refine hK _ ?_; clear hK K)
      refine wpMix_yield (v := .slice u1 d_over.length v1) (fun V hV => ?_) (fun K hK => ?_)
      · obtain ⟨z0, z1⟩ := LifR (rangeAt_keeps R1.out hV (fun h => h))
        unfold txV at z0
        go_simp
      go_simp
      refine hK _ ?_
      clear hK K
      repeat (refine wpMix_free (fun K hK => ?_); go_simp; refine hK _ ?_; clear hK K)
      refine wpMix_yield (v := .slice (some ⟨g2, o2, none⟩) n y2) (fun V hV => ?_) (fun K hK => ?_)
      · have zz := hV.cell be2 (fun h => h)
        go_simp
      go_simp
      refine hK _ ?_
      clear hK K
      repeat (refine wpMix_free (fun K hK => ?_); go_simp; refine hK _ ?_; clear hK K)
      refine wpMix_yield (v := .slice u2 e_over.length v2) (fun V hV => ?_) (fun K hK => ?_)
      · obtain ⟨z0, z1⟩ := LifR (rangeAt_keeps R2.out hV (fun h => h))
        unfold txV at z0
        go_simp
      go_simp
      refine hK _ ?_
      clear hK K
      repeat (refine wpMix_free (fun K hK => ?_); go_simp; refine hK _ ?_; clear hK K)
      have hc := rtexts_any wr.drew v1 v2 (oh1.keeps kd (fun _ _ h => h) (fun _ h => h) (fun _ _ _ h => h)) (oh2.keeps kd (fun _ _ h => h) (fun _ h => h) (fun _ _ _ h => h))
      refine wpMix_one (fun K hK => ?_)
      go_wp2_with fail
      refine hc.mono ?_
      rintro e wz ⟨⟨z, rfl, hz⟩, kz⟩
      have K2 := kd.trans kz (fun _ h _ => h)
      have HZ := shut hz
      clear hz hc kd kz oh1 oh2
      go_wp2_with fail
      refine hK _ _ K2 ?_
      clear hK K
      cases z
      · have hno := shut (HOUT.out (fun h => by have h2 := HZ.out.2 (HL.out.1 h).2; cases h2))
        clear HE HOUT HL HZ
        repeat (refine wpMix_free (fun K hK => ?_); go_simp; refine hK _ ?_; clear hK K)
        refine wpMix_nil ?_
        repeat (first | go_values | go_skip | go_guarded | go_step | go_upon | go_back)
        go_ret
        exact tells_f hno.out (KA.trans K2 (fun _ h _ => h))
      · have hab := shut (HL.out.2 ⟨by first | rfl | trivial, HZ.out.1 rfl⟩)
        have HT2 := shut (take_eq HD.out HD2.out HT.out hab.out)
        clear HOUT HL HZ hab HD HD2
        repeat (refine wpMix_free (fun K hK => ?_); go_simp; refine hK _ ?_; clear hK K)
        refine wpMix_nil ?_
        go_wp2_with fail
        go_roundw
        case rel => exact ⟨t + 1, by go_num, by omega, KL.trans K2 (fun _ h _ => h), HT2⟩
        case measure => simp [intOf]; omega
    · obtain rfl : t = n := by omega
      have m1 : ¬ (t : Int) < t := by omega
      have E_lives : Shut (a_lives = b_lives) := shut (by have h := HT.out; rwa [List.take_of_length_le (Nat.le_of_eq HN.out), List.take_of_length_le (Nat.le_of_eq HM.out)] at h)
      go_wp2_with fail
      go_ret
      exact tells_t (HE.out.2 ⟨(by first | rfl | trivial), (by first | rfl | trivial), E_lives.out, E_params.out, E_result.out, E_body.out, (by first | rfl | trivial)⟩) KA

end Go.Proofs.Ytjbcagbnagefcaa

namespace Go.Proofs.Ytjbcagbnagefcaa
open Go.RowKit

attribute [local irreducible] wpMix wpList
attribute [local go_sem ↓] exec_mid_ty exec_store_ty exec_mid_pl exec_store_pl exec_mid_opr exec_store_opr exec_mid_val exec_store_val exec_mid_st exec_store_st exec_mid_fld exec_store_fld exec_mid_str exec_store_str exec_mid_lif exec_store_lif exec_mid_fun exec_store_fun exec_mid_cr exec_store_cr
attribute [local go_sem] rowOk_new World.setRow_alloc_new

set_option maxRecDepth 100000 in
set_option maxHeartbeats 4000000 in
theorem rsameCr_any {S S' : Nat → Prop} (a b : CrD) (w : World) (cs ds : List Value) (ha : CrIs S w a cs) (hb : CrIs S' w b ds) : Calls Try.prog 13 #[.agg cs.toArray, .agg ds.toArray] w (Tells w (a = b)) := by
  obtain ⟨a_structs, a_funcs⟩ := a
  obtain ⟨b_structs, b_funcs⟩ := b
  have ag1 := agg_ok ha.len ha.one
  have ag2 := agg_ok hb.len hb.one
  obtain ⟨p0, q0, p1, q1, hcs, ah_structs, ah_funcs⟩ := ha
  have HCA := shut hcs
  clear hcs
  obtain ⟨x0, y0, x1, y1, hcs, bh_structs, bh_funcs⟩ := hb
  have HCB := shut hcs
  clear hcs
  simp only at HCA HCB ah_structs bh_structs ah_funcs bh_funcs
  have HE : Shut ((CrD.mk a_structs a_funcs) = (CrD.mk b_structs b_funcs) ↔ a_structs = b_structs ∧ a_funcs = b_funcs) := shut (by rw [CrD.mk.injEq])
  obtain ⟨XA, hXA⟩ : ∃ X, X = CrD.mk a_structs a_funcs := ⟨_, rfl⟩
  obtain ⟨XB, hXB⟩ : ∃ X, X = CrD.mk b_structs b_funcs := ⟨_, rfl⟩
  rw [← hXA, ← hXB] at HE ⊢
  clear hXA hXB
  obtain ⟨CA, hCA⟩ : ∃ C, C = cs.toArray := ⟨_, rfl⟩
  obtain ⟨CB, hCB⟩ : ∃ C, C = ds.toArray := ⟨_, rfl⟩
  rw [← hCA] at ag1 ⊢
  rw [← hCB] at ag2 ⊢
  rw [HCA.out] at hCA
  rw [HCB.out] at hCB
  have GCA := shut hCA
  have GCB := shut hCB
  clear hCA hCB HCA HCB
  have KW : Keeps Nothing w ((w.alloc (.cells CA 25)).alloc (.cells CB 25)) := ((Keeps.refl Nothing w).alloc _).alloc _
  have BA : Blk ((w.alloc (.cells CA 25)).alloc (.cells CB 25)) w.heap.size CA 25 := blk_alloc (blk_new w CA 25) _
  have BB : Blk ((w.alloc (.cells CA 25)).alloc (.cells CB 25)) (w.heap.size + 1) CB 25 := by have h := blk_new (w.alloc (.cells CA 25)) CB 25; rwa [World.size_alloc] at h
  go_enter Try.func13, Try.ntmps13
  obtain ⟨ae0, ae1⟩ := CrB  GCA.out BA
  obtain ⟨be0, be1⟩ := CrB  GCB.out BB
  have ac0 := blk_inv BA ae0
  have bc0 := blk_inv BB be0
  have ac1 := blk_inv BA ae1
  have bc1 := blk_inv BB be1
  by_cases e_structs : a_structs.length = b_structs.length
  rotate_left
  · have hno : Shut (¬ XA = XB) := shut (fun h => e_structs (congrArg List.length ((HE.out.1 h).1)))
    have hlq : ¬ (a_structs.length : Int) = b_structs.length := by omega
    clear HE GCA GCB BA BB
    go_wp2_with fail
    go_ret
    exact tells_f hno.out KW
  have el_structs : (a_structs.length : Int) = b_structs.length := by omega
  by_cases e_funcs : a_funcs.length = b_funcs.length
  rotate_left
  · have hno : Shut (¬ XA = XB) := shut (fun h => e_funcs (congrArg List.length ((HE.out.1 h).2)))
    have hlq : ¬ (a_funcs.length : Int) = b_funcs.length := by omega
    clear HE GCA GCB BA BB
    go_wp2_with fail
    go_ret
    exact tells_f hno.out KW
  have el_funcs : (a_funcs.length : Int) = b_funcs.length := by omega
  obtain ⟨n, hn⟩ : ∃ n, a_structs.length = n := ⟨_, rfl⟩
  have hm : b_structs.length = n := by omega
  have hnb : n ≤ bigN := by rw [← hn]; exact ah_structs.1
  unfold bigN at hnb
  go_wp2_with fail
  try clear ae0
  try clear ac0
  try clear be0
  try clear bc0
  try clear ae1
  try clear ac1
  try clear be1
  try clear bc1
  try clear el_structs
  rw [hn] at GCA
  rw [hm] at GCB
  try rw [hn]
  try rw [hm]
  have HN := shut hn
  have HM := shut hm
  clear hn hm e_structs
  obtain ⟨wb, hwb⟩ : ∃ W, W = ((w.alloc (.cells CA 25)).alloc (.cells CB 25)) := ⟨_, rfl⟩
  rw [← hwb] at KW BA BB ⊢
  clear hwb
  go_loopw [5] (fun s wx => ∃ t : Nat, s = .int .i64 t ∧ t ≤ n ∧ Keeps Nothing wb wx ∧ Shut (a_structs.take t = b_structs.take t)) (fun s _ => n - (intOf s).toNat)
  case atStart => exact ⟨0, rfl, Nat.zero_le _, Keeps.refl _ _, shut (by simp)⟩
  case round =>
    obtain ⟨t, rfl, ht, KL, HT⟩ := hrel
    have BA2 := KL.blk BA (fun h => h)
    have BB2 := KL.blk BB (fun h => h)
    have KA := KW.trans KL (fun _ h _ => h)
    obtain ⟨ae0, -⟩ := CrB  GCA.out BA2
    obtain ⟨be0, -⟩ := CrB  GCB.out BB2
    by_cases hlt : t < n
    · obtain ⟨d, hd⟩ : ∃ d, a_structs[t]? = some d := ⟨_, List.getElem?_eq_getElem (by rw [HN.out]; exact hlt)⟩
      obtain ⟨d2, hd2⟩ : ∃ d, b_structs[t]? = some d := ⟨_, List.getElem?_eq_getElem (by rw [HM.out]; exact hlt)⟩
      obtain ⟨g1, o1, rfl, -, cs1, l1, r1, i1⟩ := (ah_structs.keeps KA (fun _ _ h => h) (fun _ h => h) (fun _ _ _ h => h.keeps KA (fun _ _ h => h) (fun _ h => h))).get hd
      obtain ⟨g2, o2, rfl, -, cs2, l2, r2, i2⟩ := (bh_structs.keeps KA (fun _ _ h => h) (fun _ h => h) (fun _ _ _ h => h.keeps KA (fun _ _ h => h) (fun _ h => h))).get hd2
      have HD := shut hd
      have HD2 := shut hd2
      have hdm := List.mem_of_getElem? hd
      have hdm2 := List.mem_of_getElem? hd2
      clear hd hd2
      have m0 : (0 : Int) ≤ t := by omega
      have m1 : (t : Int) < n := by omega
      obtain ⟨C1, hC1⟩ : ∃ C, C = cs1.toArray := ⟨_, rfl⟩
      obtain ⟨C2, hC2⟩ : ∃ C, C = cs2.toArray := ⟨_, rfl⟩
      have HC1 := shut hC1
      have HC2 := shut hC2
      clear hC1 hC2
      have f1 := sub_of r1 l1
      have f2 := sub_of r2 l2
      rw [← HC1.out] at f1
      rw [← HC2.out] at f2
      have F1 := shut (fun V (hV : Keeps Nothing wr V) => by have h := sub_of (rangeAt_keeps r1 hV (fun h => h)) l1; rw [← HC1.out] at h; exact h)
      have F2 := shut (fun V (hV : Keeps Nothing wr V) => by have h := sub_of (rangeAt_keeps r2 hV (fun h => h)) l2; rw [← HC2.out] at h; exact h)
      clear f1 f2
      go_wp2_with fail
      refine wp_region_mix (fun V => Keeps Nothing wr V) [(true, 0), (true, 1), (true, 2), (true, 3), (true, 4), (true, 5), (true, 6), (true, 7), (true, 8), (true, 9), (false, 10), (true, 11)] (by kernel_rfl) (by kernel_rfl) (Keeps.refl Nothing wr).drew ?_
      simp only [mixItems, List.map_cons, List.map_nil, List.getD_cons_zero, List.getD_cons_succ]
      repeat (refine wpMix_free (fun K hK => ?_); go_simp; refine hK _ ?_; clear hK K)
      refine wpMix_yield (v := .slice (some ⟨g1, o1, none⟩) n q0) (fun V hV => ?_) (fun K hK => ?_)
      · have zz := hV.cell ae0 (fun h => h)
        go_simp
      go_simp
      refine hK _ ?_
      clear hK K
      repeat (refine wpMix_free (fun K hK => ?_); go_simp; refine hK _ ?_; clear hK K)
      refine wpMix_yield (v := .agg C1) (fun V hV => ?_) (fun K hK => ?_)
      · obtain ⟨z1, z2⟩ := F1.out V hV
        go_simp
      go_simp
      refine hK _ ?_
      clear hK K
      repeat (refine wpMix_free (fun K hK => ?_); go_simp; refine hK _ ?_; clear hK K)
      refine wpMix_yield (v := .slice (some ⟨g2, o2, none⟩) n y0) (fun V hV => ?_) (fun K hK => ?_)
      · have zz := hV.cell be0 (fun h => h)
        go_simp
      go_simp
      refine hK _ ?_
      clear hK K
      repeat (refine wpMix_free (fun K hK => ?_); go_simp; refine hK _ ?_; clear hK K)
      refine wpMix_yield (v := .agg C2) (fun V hV => ?_) (fun K hK => ?_)
      · obtain ⟨z1, z2⟩ := F2.out V hV
        go_simp
      go_simp
      refine hK _ ?_
      clear hK K
      repeat (refine wpMix_free (fun K hK => ?_); go_simp; refine hK _ ?_; clear hK K)
      have kd : Keeps Nothing wr wr.drew := (Keeps.refl Nothing wr).drew
      have hc := rsameStruct_any d d2 wr.drew cs1 cs2 (i1.keeps kd (fun _ _ h => h) (fun _ h => h)) (i2.keeps kd (fun _ _ h => h) (fun _ h => h))
      rw [← HC1.out, ← HC2.out] at hc
      refine wpMix_one (fun K hK => ?_)
      go_wp2_with fail
      refine hc.mono ?_
      rintro e wz ⟨⟨z, rfl, hz⟩, kz⟩
      have K2 := kd.trans kz (fun _ h _ => h)
      have HZ := shut hz
      clear hz hc kd kz
      go_wp2_with fail
      refine hK _ _ K2 ?_
      clear hK K
      repeat (refine wpMix_free (fun K hK => ?_); go_simp; refine hK _ ?_; clear hK K)
      refine wpMix_nil ?_
      clear F1 F2 ae0 be0 r1 r2 i1 i2
      cases z
      · have hab : Shut (d ≠ d2) := shut (fun h => by have h2 := HZ.out.2 h; cases h2)
        clear HZ
        have hno : Shut (¬ XA = XB) := shut (fun h => ne_at HD.out HD2.out hab.out ((HE.out.1 h).1))
        go_wp2_with fail
        go_ret
        exact tells_f hno.out (KA.trans K2 (fun _ h _ => h))
      · have hab := shut (HZ.out.1 rfl)
        clear HZ
        go_wp2_with fail
        go_roundw
        case rel => exact ⟨t + 1, by go_num, by omega, KL.trans K2 (fun _ h _ => h), shut (take_eq HD.out HD2.out HT.out hab.out)⟩
        case measure => simp [intOf]; omega
    · obtain rfl : t = n := by omega
      have m1 : ¬ (t : Int) < t := by omega
      have E_structs : Shut (a_structs = b_structs) := shut (by have h := HT.out; rwa [List.take_of_length_le (Nat.le_of_eq HN.out), List.take_of_length_le (Nat.le_of_eq HM.out)] at h)
      have KW := KA
      have BA := BA2
      have BB := BB2
      clear BA2 BB2 HN HM HT KA KL
      obtain ⟨n, hn⟩ : ∃ n, a_funcs.length = n := ⟨_, rfl⟩
      have hm : b_funcs.length = n := by omega
      have hnb : n ≤ bigN := by rw [← hn]; exact ah_funcs.1
      unfold bigN at hnb
      go_wp2_with fail
      try clear ae0
      try clear ac0
      try clear be0
      try clear bc0
      try clear ae1
      try clear ac1
      try clear be1
      try clear bc1
      try clear el_funcs
      rw [hn] at GCA
      rw [hm] at GCB
      try rw [hn]
      try rw [hm]
      have HN := shut hn
      have HM := shut hm
      clear hn hm e_funcs
      obtain ⟨wb, hwb⟩ : ∃ W, W = wr := ⟨_, rfl⟩
      rw [← hwb] at KW BA BB ⊢
      clear hwb
      go_loopw [6] (fun s wx => ∃ t : Nat, s = .int .i64 t ∧ t ≤ n ∧ Keeps Nothing wb wx ∧ Shut (a_funcs.take t = b_funcs.take t)) (fun s _ => n - (intOf s).toNat)
      case atStart => exact ⟨0, rfl, Nat.zero_le _, Keeps.refl _ _, shut (by simp)⟩
      case round =>
        obtain ⟨t, rfl, ht, KL, HT⟩ := hrel
        have BA2 := KL.blk BA (fun h => h)
        have BB2 := KL.blk BB (fun h => h)
        have KA := KW.trans KL (fun _ h _ => h)
        obtain ⟨-, ae1⟩ := CrB  GCA.out BA2
        obtain ⟨-, be1⟩ := CrB  GCB.out BB2
        by_cases hlt : t < n
        · obtain ⟨d, hd⟩ : ∃ d, a_funcs[t]? = some d := ⟨_, List.getElem?_eq_getElem (by rw [HN.out]; exact hlt)⟩
          obtain ⟨d2, hd2⟩ : ∃ d, b_funcs[t]? = some d := ⟨_, List.getElem?_eq_getElem (by rw [HM.out]; exact hlt)⟩
          obtain ⟨g1, o1, rfl, -, cs1, l1, r1, i1⟩ := (ah_funcs.keeps KA (fun _ _ h => h) (fun _ h => h) (fun _ _ _ h => h.keeps KA (fun _ _ h => h) (fun _ h => h))).get hd
          obtain ⟨g2, o2, rfl, -, cs2, l2, r2, i2⟩ := (bh_funcs.keeps KA (fun _ _ h => h) (fun _ h => h) (fun _ _ _ h => h.keeps KA (fun _ _ h => h) (fun _ h => h))).get hd2
          have HD := shut hd
          have HD2 := shut hd2
          have hdm := List.mem_of_getElem? hd
          have hdm2 := List.mem_of_getElem? hd2
          clear hd hd2
          have m0 : (0 : Int) ≤ t := by omega
          have m1 : (t : Int) < n := by omega
          obtain ⟨C1, hC1⟩ : ∃ C, C = cs1.toArray := ⟨_, rfl⟩
          obtain ⟨C2, hC2⟩ : ∃ C, C = cs2.toArray := ⟨_, rfl⟩
          have HC1 := shut hC1
          have HC2 := shut hC2
          clear hC1 hC2
          have f1 := sub_of r1 l1
          have f2 := sub_of r2 l2
          rw [← HC1.out] at f1
          rw [← HC2.out] at f2
          have F1 := shut (fun V (hV : Keeps Nothing wr V) => by have h := sub_of (rangeAt_keeps r1 hV (fun h => h)) l1; rw [← HC1.out] at h; exact h)
          have F2 := shut (fun V (hV : Keeps Nothing wr V) => by have h := sub_of (rangeAt_keeps r2 hV (fun h => h)) l2; rw [← HC2.out] at h; exact h)
          clear f1 f2
          go_wp2_with fail
          refine wp_region_mix (fun V => Keeps Nothing wr V) [(true, 0), (true, 1), (true, 2), (true, 3), (true, 4), (true, 5), (true, 6), (true, 7), (true, 8), (true, 9), (false, 10), (true, 11)] (by kernel_rfl) (by kernel_rfl) (Keeps.refl Nothing wr).drew ?_
          simp only [mixItems, List.map_cons, List.map_nil, List.getD_cons_zero, List.getD_cons_succ]
          repeat (refine wpMix_free (fun K hK => ?_); go_simp; refine hK _ ?_; clear hK K)
          refine wpMix_yield (v := .slice (some ⟨g1, o1, none⟩) n q1) (fun V hV => ?_) (fun K hK => ?_)
          · have zz := hV.cell ae1 (fun h => h)
            go_simp
          go_simp
          refine hK _ ?_
          clear hK K
          repeat (refine wpMix_free (fun K hK => ?_); go_simp; refine hK _ ?_; clear hK K)
          refine wpMix_yield (v := .agg C1) (fun V hV => ?_) (fun K hK => ?_)
          · obtain ⟨z1, z2⟩ := F1.out V hV
            go_simp
          go_simp
          refine hK _ ?_
          clear hK K
          repeat (refine wpMix_free (fun K hK => ?_); go_simp; refine hK _ ?_; clear hK K)
          refine wpMix_yield (v := .slice (some ⟨g2, o2, none⟩) n y1) (fun V hV => ?_) (fun K hK => ?_)
          · have zz := hV.cell be1 (fun h => h)
            go_simp
          go_simp
          refine hK _ ?_
          clear hK K
          repeat (refine wpMix_free (fun K hK => ?_); go_simp; refine hK _ ?_; clear hK K)
          refine wpMix_yield (v := .agg C2) (fun V hV => ?_) (fun K hK => ?_)
          · obtain ⟨z1, z2⟩ := F2.out V hV
            go_simp
          go_simp
          refine hK _ ?_
          clear hK K
          repeat (refine wpMix_free (fun K hK => ?_); go_simp; refine hK _ ?_; clear hK K)
          have kd : Keeps Nothing wr wr.drew := (Keeps.refl Nothing wr).drew
          have hc := rsameFunc_any d d2 wr.drew cs1 cs2 (i1.keeps kd (fun _ _ h => h) (fun _ h => h)) (i2.keeps kd (fun _ _ h => h) (fun _ h => h))
          rw [← HC1.out, ← HC2.out] at hc
          refine wpMix_one (fun K hK => ?_)
          go_wp2_with fail
          refine hc.mono ?_
          rintro e wz ⟨⟨z, rfl, hz⟩, kz⟩
          have K2 := kd.trans kz (fun _ h _ => h)
          have HZ := shut hz
          clear hz hc kd kz
          go_wp2_with fail
          refine hK _ _ K2 ?_
          clear hK K
          repeat (refine wpMix_free (fun K hK => ?_); go_simp; refine hK _ ?_; clear hK K)
          refine wpMix_nil ?_
          clear F1 F2 ae1 be1 r1 r2 i1 i2
          cases z
          · have hab : Shut (d ≠ d2) := shut (fun h => by have h2 := HZ.out.2 h; cases h2)
            clear HZ
            have hno : Shut (¬ XA = XB) := shut (fun h => ne_at HD.out HD2.out hab.out ((HE.out.1 h).2))
            go_wp2_with fail
            go_ret
            exact tells_f hno.out (KA.trans K2 (fun _ h _ => h))
          · have hab := shut (HZ.out.1 rfl)
            clear HZ
            go_wp2_with fail
            go_roundw
            case rel => exact ⟨t + 1, by go_num, by omega, KL.trans K2 (fun _ h _ => h), shut (take_eq HD.out HD2.out HT.out hab.out)⟩
            case measure => simp [intOf]; omega
        · obtain rfl : t = n := by omega
          have m1 : ¬ (t : Int) < t := by omega
          have E_funcs : Shut (a_funcs = b_funcs) := shut (by have h := HT.out; rwa [List.take_of_length_le (Nat.le_of_eq HN.out), List.take_of_length_le (Nat.le_of_eq HM.out)] at h)
          go_wp2_with fail
          go_ret
          exact tells_t (HE.out.2 ⟨E_structs.out, E_funcs.out⟩) KA

end Go.Proofs.Ytjbcagbnagefcaa
