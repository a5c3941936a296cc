/- Tree6 -/
import Derived.Test.YtjbcagbnagefcaaGreatZb2
namespace Go.Proofs.YtjbcagbnagefcaaGreat
open Go.RowKit
attribute [local go_sem ↓] exec_mid_ty exec_store_ty exec_mid_pl exec_store_pl exec_mid_opr exec_store_opr exec_mid_val exec_store_val exec_mid_st exec_store_st exec_mid_fld exec_store_fld exec_mid_str exec_store_str exec_mid_lif exec_store_lif exec_mid_fun exec_store_fun exec_mid_cr exec_store_cr
attribute [local go_sem] rowOk_new World.setRow_alloc_new
set_option maxRecDepth 100000 in
set_option maxHeartbeats 2000000 in
theorem rtexts_any (w : World) {S S' : Nat → Prop} {ax ay : Option Addr} {l m : List (List UInt8)} (cx cy : Nat) (hx : SlIs S w 1 TxIs ax l) (hy : SlIs S' w 1 TxIs ay m) :
  Calls Tryz.prog 93 #[.slice ax l.length cx, .slice ay m.length cy] w (Tells w (l = m)) := by
 have hlx := hx.1
 have hly := hy.1
 unfold bigN at hlx hly
 have HX := shut hx
 have HY := shut hy
 clear hx hy
 by_cases hne : l.length = m.length
 ·obtain ⟨n, hn⟩ : ∃ n, l.length = n := ⟨_, rfl⟩
  have hm : m.length = n := by omega
  rw [hn, hm]
  rw [hn] at hlx
  clear hne hly
  have HN := shut hn
  have HM := shut hm
  clear hn hm
  go_enter Tryz.func93, Tryz.ntmps93
  go_wp2_with fail
  go_loopw [5] (fun s13 wx => ∃ t : Nat, s13 = .int .i64 t ∧ t ≤ n ∧ Keeps Nothing w wx ∧ Shut (l.take t = m.take t)) (fun s13 _ => n - (intOf s13).toNat)
  case atStart => exact ⟨0, rfl, Nat.zero_le _, Keeps.refl _ _, shut (by simp)⟩
  case round =>
   obtain ⟨t, rfl, ht, K, HT⟩ := hrel
   by_cases hlt : t < n
   ·obtain ⟨a, ha⟩ : ∃ a, l[t]? = some a := ⟨_, List.getElem?_eq_getElem (by rw [HN.out]; exact hlt)⟩
    obtain ⟨b, hb⟩ : ∃ b, m[t]? = some b := ⟨_, List.getElem?_eq_getElem (by rw [HM.out]; exact hlt)⟩
    obtain ⟨g1, o1, rfl, e1, -⟩ := tx_cell (HX.out.keeps K (fun _ _ h => h) (fun _ h => h) (fun _ _ _ h => h)) ha
    obtain ⟨g2, o2, rfl, e2, -⟩ := tx_cell (HY.out.keeps K (fun _ _ h => h) (fun _ h => h) (fun _ _ _ h => h)) hb
    have HA := shut ha
    have HB := shut hb
    clear ha hb
    have m0 : (0 : Int) ≤ t := by omega
    have m1 : (t : Int) < n := by omega
    by_cases hab : a = b
    ·subst hab
     have hbq : (a == a) = true := beq_self_eq_true _
     go_wp2_with fail
     go_quiet (fail)
     go_wp2_with fail
     go_roundw
     case rel => exact ⟨t + 1, by go_num, by omega, K.drewN _, shut (take_eq HA.out HB.out HT.out rfl)⟩
     case measure => simp [intOf]; omega
    ·have hbq : (a == b) = false := by rw [beq_eq_false_iff_ne]; exact hab
     have HAB := shut hab
     clear hab
     go_wp2_with fail
     go_quiet (fail)
     go_wp2_with fail
     go_ret
     exact tells_f (ne_at HA.out HB.out HAB.out) (K.drewN _)
   ·obtain rfl : t = n := by omega
    have m1 : ¬ (t : Int) < t := by omega
    go_wp2_with fail
    go_ret
    refine tells_t ?_ K
    have h := HT.out
    rwa [List.take_of_length_le (Nat.le_of_eq HN.out), List.take_of_length_le (Nat.le_of_eq HM.out)] at h
 ·have hne' : ¬ (l.length : Int) = m.length := by omega
  have hl : l ≠ m := fun h => hne (by rw [h])
  go_enter Tryz.func93, Tryz.ntmps93
  go_wp2_with fail
  go_ret
  exact tells_f hl (Keeps.refl _ _)
set_option maxRecDepth 100000 in
set_option maxHeartbeats 4000000 in
theorem rsameType_any {S S' : Nat → Prop} : ∀ (a b : TyD) (w : World) (cs ds : List Value), TyIs S w a cs → TyIs S' w b ds → Calls Tryz.prog 72 #[.agg cs.toArray, .agg ds.toArray] w (Tells w (a = b)) := by
 refine TyD.ind ?_
 intro a_kind a_name a_lives a_elem ih_elem b w cs ds ha hb
 obtain ⟨b_kind, b_name, b_lives, b_elem⟩ := b
 have hih_elem : ∀ a ∈ a_elem, ∀ b ∈ b_elem, ∀ (W : World) (cs ds : List Value), TyIs S W a cs → TyIs S' W b ds → Calls Tryz.prog 72 #[.agg cs.toArray, .agg ds.toArray] W (Tells W (a = b)) := fun a h b _ W cs ds => ih_elem a h b W cs ds
 have HI_elem := shut hih_elem
 clear hih_elem ih_elem
 have ag1 := agg_ok ha.len ha.one
 have ag2 := agg_ok hb.len hb.one
 rw [tyIs_iff] at ha hb
 obtain ⟨p2, q2, p3, q3, hcs, ah_name, ah_lives, ah_elem⟩ := ha
 have HCA := shut hcs
 clear hcs
 obtain ⟨x2, y2, x3, y3, hcs, bh_name, bh_lives, bh_elem⟩ := hb
 have HCB := shut hcs
 clear hcs
 simp only [TyD.kind, TyD.name, TyD.lives, TyD.elem] at ah_name bh_name ah_lives bh_lives ah_elem bh_elem HCA HCB
 have HE : Shut ((TyD.mk a_kind a_name a_lives a_elem) = (TyD.mk b_kind b_name b_lives b_elem) ↔ a_kind = b_kind ∧ a_name = b_name ∧ a_lives = b_lives ∧ a_elem = b_elem) := shut (by rw [TyD.mk.injEq])
 obtain ⟨XA, hXA⟩ : ∃ X, X = TyD.mk a_kind a_name a_lives a_elem := ⟨_, rfl⟩
 obtain ⟨XB, hXB⟩ : ∃ X, X = TyD.mk b_kind b_name b_lives b_elem := ⟨_, rfl⟩
 rw [← hXA, ← hXB] at HE ⊢
 clear hXA hXB
 obtain ⟨CA, hCA⟩ : ∃ C, C = cs.toArray := ⟨_, rfl⟩
 obtain ⟨CB, hCB⟩ : ∃ C, C = ds.toArray := ⟨_, rfl⟩
 rw [← hCA] at ag1 ⊢
 rw [← hCB] at ag2 ⊢
 rw [HCA.out] at hCA
 rw [HCB.out] at hCB
 have GCA := shut hCA
 have GCB := shut hCB
 clear hCA hCB HCA HCB
 have KW : Keeps Nothing w ((w.alloc (.cells CA 53)).alloc (.cells CB 53)) := ((Keeps.refl Nothing w).alloc _).alloc _
 have BA : Blk ((w.alloc (.cells CA 53)).alloc (.cells CB 53)) w.heap.size CA 53 := blk_alloc (blk_new w CA 53) _
 have BB : Blk ((w.alloc (.cells CA 53)).alloc (.cells CB 53)) (w.heap.size + 1) CB 53 := by have h := blk_new (w.alloc (.cells CA 53)) CB 53; rwa [World.size_alloc] at h
 go_enter Tryz.func72, Tryz.ntmps72
 obtain ⟨ae0, ae1, ae2, -⟩ := TyB  GCA.out BA
 obtain ⟨be0, be1, be2, -⟩ := TyB  GCB.out BB
 have ac0 := blk_inv BA ae0
 have bc0 := blk_inv BB be0
 have ac1 := blk_inv BA ae1
 have bc1 := blk_inv BB be1
 have ac2 := blk_inv BA ae2
 have bc2 := blk_inv BB be2
 by_cases e_kind : a_kind = b_kind
 rotate_left
 ·have hno : Shut (¬ XA = XB) := shut (fun h => e_kind ((HE.out.1 h).1))
  clear HE GCA GCB BA BB
  unfold txV at *
  go_wp2_with fail
  go_ret
  exact tells_f hno.out KW
 subst e_kind
 by_cases e_name : a_name = b_name
 rotate_left
 ·have hno : Shut (¬ XA = XB) := shut (fun h => e_name ((HE.out.1 h).2.1))
  clear HE GCA GCB BA BB
  have hq : (a_name == b_name) = false := by rw [beq_eq_false_iff_ne]; exact e_name
  unfold txV at *
  go_wp2_with fail
  go_ret
  exact tells_f hno.out KW
 subst e_name
 have hq_name : (a_name == a_name) = true := beq_self_eq_true _
 have hc := rtexts_any ((w.alloc (.cells CA 53)).alloc (.cells CB 53)) q2 y2 (ah_lives.keeps KW (fun _ _ h => h) (fun _ h => h) (fun _ _ _ h => h)) (bh_lives.keeps KW (fun _ _ h => h) (fun _ h => h) (fun _ _ _ h => h))
 unfold txV at *
 go_wp2_with fail
 refine hc.mono ?_
 rintro e w1 ⟨⟨z, rfl, hz⟩, k1⟩
 have KW := KW.trans k1 (fun _ h _ => h)
 have BA := k1.blk BA (fun h => h)
 have BB := k1.blk BB (fun h => h)
 clear hc k1 ae0 ac0 be0 bc0 ae1 ac1 be1 bc1 ae2 ac2 be2 bc2 hq_name
 cases z
 ·have hno : Shut (¬ XA = XB) := shut (fun h => by have h2 := hz.2 ((HE.out.1 h).2.2.1); cases h2)
  clear HE GCA GCB BA BB hz
  go_wp2_with fail
  go_ret
  exact tells_f hno.out KW
 have E_lives := shut (hz.1 rfl)
 clear hz
 obtain ⟨-, -, -, ae3⟩ := TyB  GCA.out BA
 obtain ⟨-, -, -, be3⟩ := TyB  GCB.out BB
 by_cases e_elem : a_elem.length = b_elem.length
 rotate_left
 ·have hno : Shut (¬ XA = XB) := shut (fun h => e_elem (congrArg List.length ((HE.out.1 h).2.2.2)))
  have hlq : ¬ (a_elem.length : Int) = b_elem.length := by omega
  clear HE GCA GCB BA BB
  go_wp2_with fail
  go_ret
  exact tells_f hno.out KW
 have el_elem : (a_elem.length : Int) = b_elem.length := by omega
 obtain ⟨n, hn⟩ : ∃ n, a_elem.length = n := ⟨_, rfl⟩
 have hm : b_elem.length = n := by omega
 have hnb : n ≤ bigN := by rw [← hn]; exact ah_elem.1
 unfold bigN at hnb
 go_wp2_with fail
 clear ae3 be3 el_elem
 rw [hn] at GCA
 rw [hm] at GCB
 try rw [hn]
 try rw [hm]
 have HN := shut hn
 have HM := shut hm
 clear hn hm e_elem
 obtain ⟨wb, hwb⟩ : ∃ W, W = w1 := ⟨_, rfl⟩
 rw [← hwb] at KW BA BB ⊢
 clear hwb
 go_loopw [5] (fun s wx => ∃ t : Nat, s = .int .i64 t ∧ t ≤ n ∧ Keeps Nothing wb wx ∧ Shut (a_elem.take t = b_elem.take t)) (fun s _ => n - (intOf s).toNat)
 case atStart => exact ⟨0, rfl, Nat.zero_le _, Keeps.refl _ _, shut (by simp)⟩
 case round =>
  obtain ⟨t, rfl, ht, KL, HT⟩ := hrel
  have BA2 := KL.blk BA (fun h => h)
  have BB2 := KL.blk BB (fun h => h)
  have KA := KW.trans KL (fun _ h _ => h)
  obtain ⟨-, -, -, ae3⟩ := TyB  GCA.out BA2
  obtain ⟨-, -, -, be3⟩ := TyB  GCB.out BB2
  by_cases hlt : t < n
  ·obtain ⟨d, hd⟩ : ∃ d, a_elem[t]? = some d := ⟨_, List.getElem?_eq_getElem (by rw [HN.out]; exact hlt)⟩
   obtain ⟨d2, hd2⟩ : ∃ d, b_elem[t]? = some d := ⟨_, List.getElem?_eq_getElem (by rw [HM.out]; exact hlt)⟩
   obtain ⟨g1, o1, rfl, -, cs1, l1, r1, i1⟩ := (ah_elem.keeps KA (fun _ _ h => h) (fun _ h => h) (fun _ _ _ h => h.keeps KA (fun _ _ h => h) (fun _ h => h))).get hd
   obtain ⟨g2, o2, rfl, -, cs2, l2, r2, i2⟩ := (bh_elem.keeps KA (fun _ _ h => h) (fun _ h => h) (fun _ _ _ h => h.keeps KA (fun _ _ h => h) (fun _ h => h))).get hd2
   have HD := shut hd
   have HD2 := shut hd2
   have hdm := List.mem_of_getElem? hd
   have hdm2 := List.mem_of_getElem? hd2
   clear hd hd2
   have m0 : (0 : Int) ≤ t := by omega
   have m1 : (t : Int) < n := by omega
   obtain ⟨C1, hC1⟩ : ∃ C, C = cs1.toArray := ⟨_, rfl⟩
   obtain ⟨C2, hC2⟩ : ∃ C, C = cs2.toArray := ⟨_, rfl⟩
   have HC1 := shut hC1
   have HC2 := shut hC2
   clear hC1 hC2
   have f1 := sub_of r1 l1
   have f2 := sub_of r2 l2
   rw [← HC1.out] at f1
   rw [← HC2.out] at f2
   have F1 := shut (fun V (hV : Keeps Nothing wr V) => by have h := sub_of (rangeAt_keeps r1 hV (fun h => h)) l1; rw [← HC1.out] at h; exact h)
   have F2 := shut (fun V (hV : Keeps Nothing wr V) => by have h := sub_of (rangeAt_keeps r2 hV (fun h => h)) l2; rw [← HC2.out] at h; exact h)
   clear f1 f2
   go_wp2_with fail
   refine wp_region_mix (fun V => Keeps Nothing wr V) [(true, 0), (true, 1), (true, 2), (true, 3), (true, 4), (true, 5), (true, 6), (true, 7), (true, 8), (true, 9), (false, 10), (true, 11)] (by kernel_rfl) (by kernel_rfl) (Keeps.refl Nothing wr).drew ?_
   simp only [mixItems, List.map_cons, List.map_nil, List.getD_cons_zero, List.getD_cons_succ]
   repeat (refine wpMix_free (fun K hK => ?_); go_simp; refine hK _ ?_; clear hK K)
   refine wpMix_yield (v := .slice (some ⟨g1, o1, none⟩) n q3) (fun V hV => ?_) (fun K hK => ?_)
   ·have zz := hV.cell ae3 (fun h => h)
    go_simp
   go_simp
   refine hK _ ?_
   clear hK K
   repeat (refine wpMix_free (fun K hK => ?_); go_simp; refine hK _ ?_; clear hK K)
   refine wpMix_yield (v := .agg C1) (fun V hV => ?_) (fun K hK => ?_)
   ·obtain ⟨z1, z2⟩ := F1.out V hV
    go_simp
   go_simp
   refine hK _ ?_
   clear hK K
   repeat (refine wpMix_free (fun K hK => ?_); go_simp; refine hK _ ?_; clear hK K)
   refine wpMix_yield (v := .slice (some ⟨g2, o2, none⟩) n y3) (fun V hV => ?_) (fun K hK => ?_)
   ·have zz := hV.cell be3 (fun h => h)
    go_simp
   go_simp
   refine hK _ ?_
   clear hK K
   repeat (refine wpMix_free (fun K hK => ?_); go_simp; refine hK _ ?_; clear hK K)
   refine wpMix_yield (v := .agg C2) (fun V hV => ?_) (fun K hK => ?_)
   ·obtain ⟨z1, z2⟩ := F2.out V hV
    go_simp
   go_simp
   refine hK _ ?_
   clear hK K
   repeat (refine wpMix_free (fun K hK => ?_); go_simp; refine hK _ ?_; clear hK K)
   have kd : Keeps Nothing wr wr.drew := (Keeps.refl Nothing wr).drew
   have hc := HI_elem.out d hdm d2 hdm2 wr.drew cs1 cs2 (i1.keeps kd (fun _ _ h => h) (fun _ h => h)) (i2.keeps kd (fun _ _ h => h) (fun _ h => h))
   rw [← HC1.out, ← HC2.out] at hc
   refine wpMix_one (fun K hK => ?_)
   go_wp2_with fail
   refine hc.mono ?_
   rintro e wz ⟨⟨z, rfl, hz⟩, kz⟩
   have K2 := kd.trans kz (fun _ h _ => h)
   have HZ := shut hz
   clear hz hc kd kz
   go_wp2_with fail
   refine hK _ _ K2 ?_
   clear hK K
   repeat (refine wpMix_free (fun K hK => ?_); go_simp; refine hK _ ?_; clear hK K)
   refine wpMix_nil ?_
   clear F1 F2 ae3 be3 r1 r2 i1 i2
   cases z
   ·have hab : Shut (d ≠ d2) := shut (fun h => by have h2 := HZ.out.2 h; cases h2)
    clear HZ
    have hno : Shut (¬ XA = XB) := shut (fun h => ne_at HD.out HD2.out hab.out ((HE.out.1 h).2.2.2))
    go_wp2_with fail
    go_ret
    exact tells_f hno.out (KA.trans K2 (fun _ h _ => h))
   ·have hab := shut (HZ.out.1 rfl)
    clear HZ
    go_wp2_with fail
    go_roundw
    case rel => exact ⟨t + 1, by go_num, by omega, KL.trans K2 (fun _ h _ => h), shut (take_eq HD.out HD2.out HT.out hab.out)⟩
    case measure => simp [intOf]; omega
  ·obtain rfl : t = n := by omega
   have m1 : ¬ (t : Int) < t := by omega
   have E_elem : Shut (a_elem = b_elem) := shut (by have h := HT.out; rwa [List.take_of_length_le (Nat.le_of_eq HN.out), List.take_of_length_le (Nat.le_of_eq HM.out)] at h)
   go_wp2_with fail
   go_ret
   exact tells_t (HE.out.2 ⟨(by first | rfl | trivial), (by first | rfl | trivial), E_lives.out, E_elem.out⟩) KA
set_option maxRecDepth 100000 in
set_option maxHeartbeats 4000000 in
theorem rplace_any {S S' : Nat → Prop} (a b : PlD) (w : World) (cs ds : List Value) (ha : PlIs S w a cs) (hb : PlIs S' w b ds) : Calls Tryz.prog 115 #[.agg cs.toArray, .agg ds.toArray] w (Tells w (a = b)) := by
 obtain ⟨a_name, a_path⟩ := a
 obtain ⟨b_name, b_path⟩ := b
 have ag1 := agg_ok ha.len ha.one
 have ag2 := agg_ok hb.len hb.one
 obtain ⟨p1, q1, hcs, ah_name, ah_path⟩ := ha
 have HCA := shut hcs
 clear hcs
 obtain ⟨x1, y1, hcs, bh_name, bh_path⟩ := hb
 have HCB := shut hcs
 clear hcs
 simp only at HCA HCB ah_name bh_name ah_path bh_path
 have HE : Shut ((PlD.mk a_name a_path) = (PlD.mk b_name b_path) ↔ a_name = b_name ∧ a_path = b_path) := shut (by rw [PlD.mk.injEq])
 obtain ⟨XA, hXA⟩ : ∃ X, X = PlD.mk a_name a_path := ⟨_, rfl⟩
 obtain ⟨XB, hXB⟩ : ∃ X, X = PlD.mk b_name b_path := ⟨_, rfl⟩
 rw [← hXA, ← hXB] at HE ⊢
 clear hXA hXB
 obtain ⟨CA, hCA⟩ : ∃ C, C = cs.toArray := ⟨_, rfl⟩
 obtain ⟨CB, hCB⟩ : ∃ C, C = ds.toArray := ⟨_, rfl⟩
 rw [← hCA] at ag1 ⊢
 rw [← hCB] at ag2 ⊢
 rw [HCA.out] at hCA
 rw [HCB.out] at hCB
 have GCA := shut hCA
 have GCB := shut hCB
 clear hCA hCB HCA HCB
 have KW : Keeps Nothing w ((w.alloc (.cells CA 114)).alloc (.cells CB 114)) := ((Keeps.refl Nothing w).alloc _).alloc _
 have BA : Blk ((w.alloc (.cells CA 114)).alloc (.cells CB 114)) w.heap.size CA 114 := blk_alloc (blk_new w CA 114) _
 have BB : Blk ((w.alloc (.cells CA 114)).alloc (.cells CB 114)) (w.heap.size + 1) CB 114 := by have h := blk_new (w.alloc (.cells CA 114)) CB 114; rwa [World.size_alloc] at h
 go_enter Tryz.func115, Tryz.ntmps115
 obtain ⟨ae0, ae1⟩ := PlB  GCA.out BA
 obtain ⟨be0, be1⟩ := PlB  GCB.out BB
 have ac0 := blk_inv BA ae0
 have bc0 := blk_inv BB be0
 have ac1 := blk_inv BA ae1
 have bc1 := blk_inv BB be1
 by_cases e_name : a_name = b_name
 rotate_left
 ·have hno : Shut (¬ XA = XB) := shut (fun h => e_name ((HE.out.1 h).1))
  clear HE GCA GCB BA BB
  have hq : (a_name == b_name) = false := by rw [beq_eq_false_iff_ne]; exact e_name
  unfold txV at *
  go_wp2_with fail
  go_ret
  exact tells_f hno.out KW
 subst e_name
 have hq_name : (a_name == a_name) = true := beq_self_eq_true _
 have hc := rtexts_any ((w.alloc (.cells CA 114)).alloc (.cells CB 114)) q1 y1 (ah_path.keeps KW (fun _ _ h => h) (fun _ h => h) (fun _ _ _ h => h)) (bh_path.keeps KW (fun _ _ h => h) (fun _ h => h) (fun _ _ _ h => h))
 unfold txV at *
 go_wp2_with fail
 refine hc.mono ?_
 rintro e w1 ⟨⟨z, rfl, hz⟩, k1⟩
 have KW := KW.trans k1 (fun _ h _ => h)
 have BA := k1.blk BA (fun h => h)
 have BB := k1.blk BB (fun h => h)
 clear hc k1 ae0 ac0 be0 bc0 ae1 ac1 be1 bc1 hq_name
 cases z
 ·have hno : Shut (¬ XA = XB) := shut (fun h => by have h2 := hz.2 ((HE.out.1 h).2); cases h2)
  clear HE GCA GCB BA BB hz
  go_wp2_with fail
  go_ret
  exact tells_f hno.out KW
 have E_path := shut (hz.1 rfl)
 clear hz
 go_wp2_with fail
 go_ret
 exact tells_t (HE.out.2 ⟨(by first | rfl | trivial), E_path.out⟩) KW
set_option maxRecDepth 100000 in
set_option maxHeartbeats 4000000 in
theorem rsameOper_any {S S' : Nat → Prop} (a b : OprD) (w : World) (cs ds : List Value) (ha : OprIs S w a cs) (hb : OprIs S' w b ds) : Calls Tryz.prog 117 #[.agg cs.toArray, .agg ds.toArray] w (Tells w (a = b)) := by
 obtain ⟨a_kind, a_n, a_place⟩ := a
 obtain ⟨b_kind, b_n, b_place⟩ := b
 have ag1 := agg_ok ha.len ha.one
 have ag2 := agg_ok hb.len hb.one
 obtain ⟨s2, hcs, ah_place⟩ := ha
 have HCA := shut hcs
 clear hcs
 obtain ⟨t2, hcs, bh_place⟩ := hb
 have HCB := shut hcs
 clear hcs
 simp only at HCA HCB ah_place bh_place
 have HE : Shut ((OprD.mk a_kind a_n a_place) = (OprD.mk b_kind b_n b_place) ↔ a_kind = b_kind ∧ a_n = b_n ∧ a_place = b_place) := shut (by rw [OprD.mk.injEq])
 obtain ⟨XA, hXA⟩ : ∃ X, X = OprD.mk a_kind a_n a_place := ⟨_, rfl⟩
 obtain ⟨XB, hXB⟩ : ∃ X, X = OprD.mk b_kind b_n b_place := ⟨_, rfl⟩
 rw [← hXA, ← hXB] at HE ⊢
 clear hXA hXB
 obtain ⟨CA, hCA⟩ : ∃ C, C = cs.toArray := ⟨_, rfl⟩
 obtain ⟨CB, hCB⟩ : ∃ C, C = ds.toArray := ⟨_, rfl⟩
 rw [← hCA] at ag1 ⊢
 rw [← hCB] at ag2 ⊢
 rw [HCA.out] at hCA
 rw [HCB.out] at hCB
 have GCA := shut hCA
 have GCB := shut hCB
 clear hCA hCB HCA HCB
 have KW : Keeps Nothing w ((w.alloc (.cells CA 116)).alloc (.cells CB 116)) := ((Keeps.refl Nothing w).alloc _).alloc _
 have BA : Blk ((w.alloc (.cells CA 116)).alloc (.cells CB 116)) w.heap.size CA 116 := blk_alloc (blk_new w CA 116) _
 have BB : Blk ((w.alloc (.cells CA 116)).alloc (.cells CB 116)) (w.heap.size + 1) CB 116 := by have h := blk_new (w.alloc (.cells CA 116)) CB 116; rwa [World.size_alloc] at h
 have al_place := ah_place.len
 have bl_place := bh_place.len
 go_enter Tryz.func117, Tryz.ntmps117
 obtain ⟨ae0, ae1, ⟨ae2, af2⟩⟩ := OprB al_place GCA.out BA
 obtain ⟨be0, be1, ⟨be2, bf2⟩⟩ := OprB bl_place GCB.out BB
 have ac0 := blk_inv BA ae0
 have bc0 := blk_inv BB be0
 have ac1 := blk_inv BA ae1
 have bc1 := blk_inv BB be1
 by_cases e_kind : a_kind = b_kind
 rotate_left
 ·have hno : Shut (¬ XA = XB) := shut (fun h => e_kind ((HE.out.1 h).1))
  clear HE GCA GCB BA BB
  go_wp2_with fail
  go_ret
  exact tells_f hno.out KW
 subst e_kind
 by_cases e_n : a_n = b_n
 rotate_left
 ·have hno : Shut (¬ XA = XB) := shut (fun h => e_n ((HE.out.1 h).2.1))
  clear HE GCA GCB BA BB
  go_wp2_with fail
  go_ret
  exact tells_f hno.out KW
 subst e_n
 have hc := rplace_any _ _ ((w.alloc (.cells CA 116)).alloc (.cells CB 116)) _ _ (ah_place.keeps KW (fun _ _ h => h) (fun _ h => h)) (bh_place.keeps KW (fun _ _ h => h) (fun _ h => h))
 generalize hsa : s2.toArray = sa at *
 generalize hsb : t2.toArray = sb at *
 clear hsa hsb
 skip
 go_wp2_with fail
 refine hc.mono ?_
 rintro e w1 ⟨⟨z, rfl, hz⟩, k1⟩
 have KW := KW.trans k1 (fun _ h _ => h)
 have BA := k1.blk BA (fun h => h)
 have BB := k1.blk BB (fun h => h)
 clear hc k1 ae0 ac0 be0 bc0 ae1 ac1 be1 bc1 ae2 af2 be2 bf2
 cases z
 ·have hno : Shut (¬ XA = XB) := shut (fun h => by have h2 := hz.2 ((HE.out.1 h).2.2); cases h2)
  clear HE GCA GCB BA BB hz
  go_wp2_with fail
  go_ret
  exact tells_f hno.out KW
 have E_place := shut (hz.1 rfl)
 clear hz
 go_wp2_with fail
 go_ret
 exact tells_t (HE.out.2 ⟨(by first | rfl | trivial), (by first | rfl | trivial), E_place.out⟩) KW
set_option maxRecDepth 100000 in
set_option maxHeartbeats 4000000 in
theorem rsameValue_any {S S' : Nat → Prop} (a b : ValD) (w : World) (cs ds : List Value) (ha : ValIs S w a cs) (hb : ValIs S' w b ds) : Calls Tryz.prog 116 #[.agg cs.toArray, .agg ds.toArray] w (Tells w (a = b)) := by
 obtain ⟨a_kind, a_a, a_b, a_op, a_place, a_name, a_names, a_args⟩ := a
 obtain ⟨b_kind, b_a, b_b, b_op, b_place, b_name, b_names, b_args⟩ := b
 have ag1 := agg_ok ha.len ha.one
 have ag2 := agg_ok hb.len hb.one
 obtain ⟨s1, s5, s10, p13, q13, p14, q14, hcs, ah_a, ah_b, ah_place, ah_name, ah_names, ah_args⟩ := ha
 have HCA := shut hcs
 clear hcs
 obtain ⟨t1, t5, t10, x13, y13, x14, y14, hcs, bh_a, bh_b, bh_place, bh_name, bh_names, bh_args⟩ := hb
 have HCB := shut hcs
 clear hcs
 simp only at HCA HCB ah_a bh_a ah_b bh_b ah_place bh_place ah_name bh_name ah_names bh_names ah_args bh_args
 have HE : Shut ((ValD.mk a_kind a_a a_b a_op a_place a_name a_names a_args) = (ValD.mk b_kind b_a b_b b_op b_place b_name b_names b_args) ↔ a_kind = b_kind ∧ a_a = b_a ∧ a_b = b_b ∧ a_op = b_op ∧ a_place = b_place ∧ a_name = b_name ∧ a_names = b_names ∧ a_args = b_args) := shut (by rw [ValD.mk.injEq])
 obtain ⟨XA, hXA⟩ : ∃ X, X = ValD.mk a_kind a_a a_b a_op a_place a_name a_names a_args := ⟨_, rfl⟩
 obtain ⟨XB, hXB⟩ : ∃ X, X = ValD.mk b_kind b_a b_b b_op b_place b_name b_names b_args := ⟨_, rfl⟩
 rw [← hXA, ← hXB] at HE ⊢
 clear hXA hXB
 obtain ⟨CA, hCA⟩ : ∃ C, C = cs.toArray := ⟨_, rfl⟩
 obtain ⟨CB, hCB⟩ : ∃ C, C = ds.toArray := ⟨_, rfl⟩
 rw [← hCA] at ag1 ⊢
 rw [← hCB] at ag2 ⊢
 rw [HCA.out] at hCA
 rw [HCB.out] at hCB
 have GCA := shut hCA
 have GCB := shut hCB
 clear hCA hCB HCA HCB
 have KW : Keeps Nothing w ((w.alloc (.cells CA 119)).alloc (.cells CB 119)) := ((Keeps.refl Nothing w).alloc _).alloc _
 have BA : Blk ((w.alloc (.cells CA 119)).alloc (.cells CB 119)) w.heap.size CA 119 := blk_alloc (blk_new w CA 119) _
 have BB : Blk ((w.alloc (.cells CA 119)).alloc (.cells CB 119)) (w.heap.size + 1) CB 119 := by have h := blk_new (w.alloc (.cells CA 119)) CB 119; rwa [World.size_alloc] at h
 have al_a := ah_a.len
 have bl_a := bh_a.len
 have al_b := ah_b.len
 have bl_b := bh_b.len
 have al_place := ah_place.len
 have bl_place := bh_place.len
 go_enter Tryz.func116, Tryz.ntmps116
 obtain ⟨ae0, ⟨ae1, af1⟩, -, ae9, -, ae12, -, -⟩ := ValB al_a al_b al_place GCA.out BA
 obtain ⟨be0, ⟨be1, bf1⟩, -, be9, -, be12, -, -⟩ := ValB bl_a bl_b bl_place GCB.out BB
 have ac0 := blk_inv BA ae0
 have bc0 := blk_inv BB be0
 have ac9 := blk_inv BA ae9
 have bc9 := blk_inv BB be9
 have ac12 := blk_inv BA ae12
 have bc12 := blk_inv BB be12
 by_cases e_kind : a_kind = b_kind
 rotate_left
 ·have hno : Shut (¬ XA = XB) := shut (fun h => e_kind ((HE.out.1 h).1))
  clear HE GCA GCB BA BB
  unfold txV at *
  go_wp2_with fail
  go_ret
  exact tells_f hno.out KW
 subst e_kind
 by_cases e_op : a_op = b_op
 rotate_left
 ·have hno : Shut (¬ XA = XB) := shut (fun h => e_op ((HE.out.1 h).2.2.2.1))
  clear HE GCA GCB BA BB
  unfold txV at *
  go_wp2_with fail
  go_ret
  exact tells_f hno.out KW
 subst e_op
 by_cases e_name : a_name = b_name
 rotate_left
 ·have hno : Shut (¬ XA = XB) := shut (fun h => e_name ((HE.out.1 h).2.2.2.2.2.1))
  clear HE GCA GCB BA BB
  have hq : (a_name == b_name) = false := by rw [beq_eq_false_iff_ne]; exact e_name
  unfold txV at *
  go_wp2_with fail
  go_ret
  exact tells_f hno.out KW
 subst e_name
 have hq_name : (a_name == a_name) = true := beq_self_eq_true _
 have hc := rsameOper_any _ _ ((w.alloc (.cells CA 119)).alloc (.cells CB 119)) _ _ (ah_a.keeps KW (fun _ _ h => h) (fun _ h => h)) (bh_a.keeps KW (fun _ _ h => h) (fun _ h => h))
 generalize hsa : s1.toArray = sa at *
 generalize hsb : t1.toArray = sb at *
 clear hsa hsb
 unfold txV at *
 go_wp2_with fail
 refine hc.mono ?_
 rintro e w1 ⟨⟨z, rfl, hz⟩, k1⟩
 have KW := KW.trans k1 (fun _ h _ => h)
 have BA := k1.blk BA (fun h => h)
 have BB := k1.blk BB (fun h => h)
 clear hc k1 ae0 ac0 be0 bc0 ae1 af1 be1 bf1 ae9 ac9 be9 bc9 ae12 ac12 be12 bc12 hq_name
 cases z
 ·have hno : Shut (¬ XA = XB) := shut (fun h => by have h2 := hz.2 ((HE.out.1 h).2.1); cases h2)
  clear HE GCA GCB BA BB hz
  go_wp2_with fail
  go_ret
  exact tells_f hno.out KW
 have E_a := shut (hz.1 rfl)
 clear hz
 obtain ⟨-, -, ⟨ae5, af5⟩, -, -, -, -, -⟩ := ValB al_a al_b al_place GCA.out BA
 obtain ⟨-, -, ⟨be5, bf5⟩, -, -, -, -, -⟩ := ValB bl_a bl_b bl_place GCB.out BB
 have hc := rsameOper_any _ _ w1 _ _ (ah_b.keeps KW (fun _ _ h => h) (fun _ h => h)) (bh_b.keeps KW (fun _ _ h => h) (fun _ h => h))
 generalize hsa : s5.toArray = sa at *
 generalize hsb : t5.toArray = sb at *
 clear hsa hsb
 skip
 go_wp2_with fail
 refine hc.mono ?_
 rintro e w2 ⟨⟨z, rfl, hz⟩, k2⟩
 have KW := KW.trans k2 (fun _ h _ => h)
 have BA := k2.blk BA (fun h => h)
 have BB := k2.blk BB (fun h => h)
 clear hc k2 ae5 af5 be5 bf5
 cases z
 ·have hno : Shut (¬ XA = XB) := shut (fun h => by have h2 := hz.2 ((HE.out.1 h).2.2.1); cases h2)
  clear HE GCA GCB BA BB hz
  go_wp2_with fail
  go_ret
  exact tells_f hno.out KW
 have E_b := shut (hz.1 rfl)
 clear hz
 obtain ⟨-, -, -, -, ⟨ae10, af10⟩, -, -, -⟩ := ValB al_a al_b al_place GCA.out BA
 obtain ⟨-, -, -, -, ⟨be10, bf10⟩, -, -, -⟩ := ValB bl_a bl_b bl_place GCB.out BB
 have hc := rplace_any _ _ w2 _ _ (ah_place.keeps KW (fun _ _ h => h) (fun _ h => h)) (bh_place.keeps KW (fun _ _ h => h) (fun _ h => h))
 generalize hsa : s10.toArray = sa at *
 generalize hsb : t10.toArray = sb at *
 clear hsa hsb
 skip
 go_wp2_with fail
 refine hc.mono ?_
 rintro e w3 ⟨⟨z, rfl, hz⟩, k3⟩
 have KW := KW.trans k3 (fun _ h _ => h)
 have BA := k3.blk BA (fun h => h)
 have BB := k3.blk BB (fun h => h)
 clear hc k3 ae10 af10 be10 bf10
 cases z
 ·have hno : Shut (¬ XA = XB) := shut (fun h => by have h2 := hz.2 ((HE.out.1 h).2.2.2.2.1); cases h2)
  clear HE GCA GCB BA BB hz
  go_wp2_with fail
  go_ret
  exact tells_f hno.out KW
 have E_place := shut (hz.1 rfl)
 clear hz
 obtain ⟨-, -, -, -, -, -, ae13, -⟩ := ValB al_a al_b al_place GCA.out BA
 obtain ⟨-, -, -, -, -, -, be13, -⟩ := ValB bl_a bl_b bl_place GCB.out BB
 have hc := rtexts_any w3 q13 y13 (ah_names.keeps KW (fun _ _ h => h) (fun _ h => h) (fun _ _ _ h => h)) (bh_names.keeps KW (fun _ _ h => h) (fun _ h => h) (fun _ _ _ h => h))
 skip
 go_wp2_with fail
 refine hc.mono ?_
 rintro e w4 ⟨⟨z, rfl, hz⟩, k4⟩
 have KW := KW.trans k4 (fun _ h _ => h)
 have BA := k4.blk BA (fun h => h)
 have BB := k4.blk BB (fun h => h)
 clear hc k4 ae13 be13
 cases z
 ·have hno : Shut (¬ XA = XB) := shut (fun h => by have h2 := hz.2 ((HE.out.1 h).2.2.2.2.2.2.1); cases h2)
  clear HE GCA GCB BA BB hz
  go_wp2_with fail
  go_ret
  exact tells_f hno.out KW
 have E_names := shut (hz.1 rfl)
 clear hz
 obtain ⟨-, -, -, -, -, -, -, ae14⟩ := ValB al_a al_b al_place GCA.out BA
 obtain ⟨-, -, -, -, -, -, -, be14⟩ := ValB bl_a bl_b bl_place GCB.out BB
 by_cases e_args : a_args.length = b_args.length
 rotate_left
 ·have hno : Shut (¬ XA = XB) := shut (fun h => e_args (congrArg List.length ((HE.out.1 h).2.2.2.2.2.2.2)))
  have hlq : ¬ (a_args.length : Int) = b_args.length := by omega
  clear HE GCA GCB BA BB
  go_wp2_with fail
  go_ret
  exact tells_f hno.out KW
 have el_args : (a_args.length : Int) = b_args.length := by omega
 obtain ⟨n, hn⟩ : ∃ n, a_args.length = n := ⟨_, rfl⟩
 have hm : b_args.length = n := by omega
 have hnb : n ≤ bigN := by rw [← hn]; exact ah_args.1
 unfold bigN at hnb
 go_wp2_with fail
 clear ae14 be14 el_args
 rw [hn] at GCA
 rw [hm] at GCB
 try rw [hn]
 try rw [hm]
 have HN := shut hn
 have HM := shut hm
 clear hn hm e_args
 obtain ⟨wb, hwb⟩ : ∃ W, W = w4 := ⟨_, rfl⟩
 rw [← hwb] at KW BA BB ⊢
 clear hwb
 go_loopw [5] (fun s wx => ∃ t : Nat, s = .int .i64 t ∧ t ≤ n ∧ Keeps Nothing wb wx ∧ Shut (a_args.take t = b_args.take t)) (fun s _ => n - (intOf s).toNat)
 case atStart => exact ⟨0, rfl, Nat.zero_le _, Keeps.refl _ _, shut (by simp)⟩
 case round =>
  obtain ⟨t, rfl, ht, KL, HT⟩ := hrel
  have BA2 := KL.blk BA (fun h => h)
  have BB2 := KL.blk BB (fun h => h)
  have KA := KW.trans KL (fun _ h _ => h)
  obtain ⟨-, -, -, -, -, -, -, ae14⟩ := ValB al_a al_b al_place GCA.out BA2
  obtain ⟨-, -, -, -, -, -, -, be14⟩ := ValB bl_a bl_b bl_place GCB.out BB2
  by_cases hlt : t < n
  ·obtain ⟨d, hd⟩ : ∃ d, a_args[t]? = some d := ⟨_, List.getElem?_eq_getElem (by rw [HN.out]; exact hlt)⟩
   obtain ⟨d2, hd2⟩ : ∃ d, b_args[t]? = some d := ⟨_, List.getElem?_eq_getElem (by rw [HM.out]; exact hlt)⟩
   obtain ⟨g1, o1, rfl, -, cs1, l1, r1, i1⟩ := (ah_args.keeps KA (fun _ _ h => h) (fun _ h => h) (fun _ _ _ h => h.keeps KA (fun _ _ h => h) (fun _ h => h))).get hd
   obtain ⟨g2, o2, rfl, -, cs2, l2, r2, i2⟩ := (bh_args.keeps KA (fun _ _ h => h) (fun _ h => h) (fun _ _ _ h => h.keeps KA (fun _ _ h => h) (fun _ h => h))).get hd2
   have HD := shut hd
   have HD2 := shut hd2
   have hdm := List.mem_of_getElem? hd
   have hdm2 := List.mem_of_getElem? hd2
   clear hd hd2
   have m0 : (0 : Int) ≤ t := by omega
   have m1 : (t : Int) < n := by omega
   obtain ⟨C1, hC1⟩ : ∃ C, C = cs1.toArray := ⟨_, rfl⟩
   obtain ⟨C2, hC2⟩ : ∃ C, C = cs2.toArray := ⟨_, rfl⟩
   have HC1 := shut hC1
   have HC2 := shut hC2
   clear hC1 hC2
   have f1 := sub_of r1 l1
   have f2 := sub_of r2 l2
   rw [← HC1.out] at f1
   rw [← HC2.out] at f2
   have F1 := shut (fun V (hV : Keeps Nothing wr V) => by have h := sub_of (rangeAt_keeps r1 hV (fun h => h)) l1; rw [← HC1.out] at h; exact h)
   have F2 := shut (fun V (hV : Keeps Nothing wr V) => by have h := sub_of (rangeAt_keeps r2 hV (fun h => h)) l2; rw [← HC2.out] at h; exact h)
   clear f1 f2
   go_wp2_with fail
   refine wp_region_mix (fun V => Keeps Nothing wr V) [(true, 0), (true, 1), (true, 2), (true, 3), (true, 4), (true, 5), (true, 6), (true, 7), (true, 8), (true, 9), (false, 10), (true, 11)] (by kernel_rfl) (by kernel_rfl) (Keeps.refl Nothing wr).drew ?_
   simp only [mixItems, List.map_cons, List.map_nil, List.getD_cons_zero, List.getD_cons_succ]
   repeat (refine wpMix_free (fun K hK => ?_); go_simp; refine hK _ ?_; clear hK K)
   refine wpMix_yield (v := .slice (some ⟨g1, o1, none⟩) n q14) (fun V hV => ?_) (fun K hK => ?_)
   ·have zz := hV.cell ae14 (fun h => h)
    go_simp
   go_simp
   refine hK _ ?_
   clear hK K
   repeat (refine wpMix_free (fun K hK => ?_); go_simp; refine hK _ ?_; clear hK K)
   refine wpMix_yield (v := .agg C1) (fun V hV => ?_) (fun K hK => ?_)
   ·obtain ⟨z1, z2⟩ := F1.out V hV
    go_simp
   go_simp
   refine hK _ ?_
   clear hK K
   repeat (refine wpMix_free (fun K hK => ?_); go_simp; refine hK _ ?_; clear hK K)
   refine wpMix_yield (v := .slice (some ⟨g2, o2, none⟩) n y14) (fun V hV => ?_) (fun K hK => ?_)
   ·have zz := hV.cell be14 (fun h => h)
    go_simp
   go_simp
   refine hK _ ?_
   clear hK K
   repeat (refine wpMix_free (fun K hK => ?_); go_simp; refine hK _ ?_; clear hK K)
   refine wpMix_yield (v := .agg C2) (fun V hV => ?_) (fun K hK => ?_)
   ·obtain ⟨z1, z2⟩ := F2.out V hV
    go_simp
   go_simp
   refine hK _ ?_
   clear hK K
   repeat (refine wpMix_free (fun K hK => ?_); go_simp; refine hK _ ?_; clear hK K)
   have kd : Keeps Nothing wr wr.drew := (Keeps.refl Nothing wr).drew
   have hc := rsameOper_any d d2 wr.drew cs1 cs2 (i1.keeps kd (fun _ _ h => h) (fun _ h => h)) (i2.keeps kd (fun _ _ h => h) (fun _ h => h))
   rw [← HC1.out, ← HC2.out] at hc
   refine wpMix_one (fun K hK => ?_)
   go_wp2_with fail
   refine hc.mono ?_
   rintro e wz ⟨⟨z, rfl, hz⟩, kz⟩
   have K2 := kd.trans kz (fun _ h _ => h)
   have HZ := shut hz
   clear hz hc kd kz
   go_wp2_with fail
   refine hK _ _ K2 ?_
   clear hK K
   repeat (refine wpMix_free (fun K hK => ?_); go_simp; refine hK _ ?_; clear hK K)
   refine wpMix_nil ?_
   clear F1 F2 ae14 be14 r1 r2 i1 i2
   cases z
   ·have hab : Shut (d ≠ d2) := shut (fun h => by have h2 := HZ.out.2 h; cases h2)
    clear HZ
    have hno : Shut (¬ XA = XB) := shut (fun h => ne_at HD.out HD2.out hab.out ((HE.out.1 h).2.2.2.2.2.2.2))
    go_wp2_with fail
    go_ret
    exact tells_f hno.out (KA.trans K2 (fun _ h _ => h))
   ·have hab := shut (HZ.out.1 rfl)
    clear HZ
    go_wp2_with fail
    go_roundw
    case rel => exact ⟨t + 1, by go_num, by omega, KL.trans K2 (fun _ h _ => h), shut (take_eq HD.out HD2.out HT.out hab.out)⟩
    case measure => simp [intOf]; omega
  ·obtain rfl : t = n := by omega
   have m1 : ¬ (t : Int) < t := by omega
   have E_args : Shut (a_args = b_args) := shut (by have h := HT.out; rwa [List.take_of_length_le (Nat.le_of_eq HN.out), List.take_of_length_le (Nat.le_of_eq HM.out)] at h)
   go_wp2_with fail
   go_ret
   exact tells_t (HE.out.2 ⟨(by first | rfl | trivial), E_a.out, E_b.out, (by first | rfl | trivial), E_place.out, (by first | rfl | trivial), E_names.out, E_args.out⟩) KA
end Go.Proofs.YtjbcagbnagefcaaGreat
