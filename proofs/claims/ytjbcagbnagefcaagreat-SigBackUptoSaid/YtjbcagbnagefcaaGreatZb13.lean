/- Tree7 -/
import Derived.Test.YtjbcagbnagefcaaGreatZb12
namespace Go.Proofs.YtjbcagbnagefcaaGreat
open Go.RowKit
attribute [local go_sem ↓] exec_mid_ty exec_store_ty exec_mid_pl exec_store_pl exec_mid_opr exec_store_opr exec_mid_val exec_store_val exec_mid_st exec_store_st exec_mid_fld exec_store_fld exec_mid_str exec_store_str exec_mid_lif exec_store_lif exec_mid_fun exec_store_fun exec_mid_cr exec_store_cr
attribute [local go_sem] rowOk_new World.setRow_alloc_new
def RS (S S' : Nat → Prop) (l : List StD) : Prop := ∀ (m : List StD) (w : World) (ax ay : Option Addr) (cx cy : Nat), SlIs S w 32 (StIs S w) ax l → SlIs S' w 32 (StIs S' w) ay m →
 Calls Tryz.prog 95 #[.slice ax l.length cx, .slice ay m.length cy] w (Tells w (l = m))
set_option maxRecDepth 100000 in
set_option maxHeartbeats 8000000 in
theorem rs_step {S S' : Nat → Prop} {l : List StD} (hr : ∀ d ∈ l, RS S S' d.thn ∧ RS S S' d.els) : RS S S' l := by
 intro m w ax ay cx cy hx hy
 have hlx := hx.1
 have hly := hy.1
 unfold bigN at hlx hly
 have HX := shut hx
 have HY := shut hy
 have HR := shut hr
 clear hx hy hr
 by_cases hne : l.length = m.length
 ·obtain ⟨n, hn⟩ : ∃ n, l.length = n := ⟨_, rfl⟩
  have hm : m.length = n := by omega
  rw [hn, hm]
  rw [hn] at hlx
  clear hne hly
  have HN := shut hn
  have HM := shut hm
  clear hn hm
  go_enter Tryz.func95, Tryz.ntmps95
  go_wp2_with fail
  go_loopw [5, 6, 7] (fun s5 s6 s7 wx => ∃ t : Nat, s5 = .int .i64 t ∧ t ≤ n ∧ Keeps Nothing w wx ∧ Shut (l.take t = m.take t)) (fun s5 _ _ _ => n - (intOf s5).toNat)
  case atStart => exact ⟨0, rfl, Nat.zero_le _, Keeps.refl _ _, shut (by simp)⟩
  case round =>
   obtain ⟨t, rfl, ht, KL, HT⟩ := hrel
   by_cases hlt : t < n
   ·obtain ⟨d, hd⟩ : ∃ d, l[t]? = some d := ⟨_, List.getElem?_eq_getElem (by rw [HN.out]; exact hlt)⟩
    obtain ⟨d2, hd2⟩ : ∃ d, m[t]? = some d := ⟨_, List.getElem?_eq_getElem (by rw [HM.out]; exact hlt)⟩
    obtain ⟨g1, o1, rfl, -, cs, l1, r1, ha⟩ := (HX.out.keeps KL (fun _ _ h => h) (fun _ h => h) (fun _ _ _ h => h.keeps KL (fun _ _ h => h) (fun _ h => h))).get hd
    obtain ⟨g2, o2, rfl, -, ds, l2, r2, hb⟩ := (HY.out.keeps KL (fun _ _ h => h) (fun _ h => h) (fun _ _ _ h => h.keeps KL (fun _ _ h => h) (fun _ h => h))).get hd2
    have HR2 := shut (HR.out d (List.mem_of_getElem? hd))
    have HD := shut hd
    have HD2 := shut hd2
    clear hd hd2
    have m0 : (0 : Int) ≤ t := by omega
    have m1 : (t : Int) < n := by omega
    have ag1 := agg_ok l1 ha.one
    have ag2 := agg_ok l2 hb.one
    obtain ⟨C1, hC1⟩ : ∃ C, C = cs.toArray := ⟨_, rfl⟩
    obtain ⟨C2, hC2⟩ : ∃ C, C = ds.toArray := ⟨_, rfl⟩
    rw [← hC1] at ag1
    rw [← hC2] at ag2
    have GC1 := shut hC1
    have GC2 := shut hC2
    have F1 := shut (fun V (hV : Keeps Nothing wr V) => by have h := sub_of (rangeAt_keeps r1 hV (fun h => h)) l1; rw [← hC1] at h; exact h)
    have F2 := shut (fun V (hV : Keeps Nothing wr V) => by have h := sub_of (rangeAt_keeps r2 hV (fun h => h)) l2; rw [← hC2] at h; exact h)
    clear hC1 hC2 r1 r2
    go_upto_region 6 with fail
    go_cut [6, 7] from 19 to 26 (fun s6 s7 wx => ∃ g6 g7, s6 = .pointer (some ⟨g6, 0, none⟩) ∧ s7 = .pointer (some ⟨g7, 0, none⟩) ∧ Blk wx g6 C1 121 ∧ Blk wx g7 C2 121 ∧ Keeps Nothing wr wx)
    case first =>
     refine wp_region_mixT (fun V => Keeps Nothing wr V) 11 (.take 0 (.take 1 (.take 2 (.take 3 (.take 4 (.take 5 (.take 6 (.take 7 (.two 8 9 (.one 9 (.one 10 (.one 11 .done))) (.one 8 (.one 10 (.one 11 .done)))))))))))) (by kernel_rfl) (by kernel_rfl) (Keeps.refl Nothing wr).drew ?_
     simp only [itemsT, PlanT.map, List.getD_cons_zero, List.getD_cons_succ, Nat.reduceBEq]
     have kd : Keeps Nothing wr wr.drew := (Keeps.refl Nothing wr).drew
     generalize wr.drew = V at *
     repeat (refine wpMixT_free (fun K hK => ?_); go_simp; refine hK _ ?_; clear hK K)
     refine wpMixT_yield (v := .agg C1) (fun V hV => ?_) (fun K hK => ?_)
     ·obtain ⟨z1, z2⟩ := F1.out V hV
      go_simp
     go_simp
     refine hK _ ?_
     clear hK K
     repeat (refine wpMixT_free (fun K hK => ?_); go_simp; refine hK _ ?_; clear hK K)
     refine wpMixT_yield (v := .agg C2) (fun V hV => ?_) (fun K hK => ?_)
     ·obtain ⟨z1, z2⟩ := F2.out V hV
      go_simp
     go_simp
     refine hK _ ?_
     clear hK K
     refine wpMixT_two (fun K hK => ?_) (fun K hK => ?_)
     ·skip
      go_wp2_with fail
      have B6 := blk_new V #[.int .i64 0, .int .i64 0, .bool false, .string ⟨#[]⟩, .int .i64 0, .string ⟨#[]⟩, .slice none 0 0, .slice none 0 0, .bool false, .string ⟨#[]⟩, .slice none 0 0, .int .i64 0, .int .i64 0, .int .i64 0, .string ⟨#[]⟩, .slice none 0 0, .int .i64 0, .int .i64 0, .string ⟨#[]⟩, .slice none 0 0, .int .i64 0, .string ⟨#[]⟩, .slice none 0 0, .string ⟨#[]⟩, .slice none 0 0, .slice none 0 0, .int .i64 0, .int .i64 0, .string ⟨#[]⟩, .slice none 0 0, .slice none 0 0, .slice none 0 0] 121
      have k1 : Keeps Nothing V (V.alloc (.cells #[.int .i64 0, .int .i64 0, .bool false, .string ⟨#[]⟩, .int .i64 0, .string ⟨#[]⟩, .slice none 0 0, .slice none 0 0, .bool false, .string ⟨#[]⟩, .slice none 0 0, .int .i64 0, .int .i64 0, .int .i64 0, .string ⟨#[]⟩, .slice none 0 0, .int .i64 0, .int .i64 0, .string ⟨#[]⟩, .slice none 0 0, .int .i64 0, .string ⟨#[]⟩, .slice none 0 0, .string ⟨#[]⟩, .slice none 0 0, .slice none 0 0, .int .i64 0, .int .i64 0, .string ⟨#[]⟩, .slice none 0 0, .slice none 0 0, .slice none 0 0] 121)) := (Keeps.refl Nothing V).alloc _
      have K1 := kd.trans k1 (fun _ h _ => h)
      refine hK _ _ (.inr K1) ?_
      clear hK K k1
      generalize hg6 : V.heap.size = g6 at *
      have l6 : wr.heap.size ≤ g6 := by have := kd.size; omega
      clear hg6
      generalize V.alloc (.cells #[.int .i64 0, .int .i64 0, .bool false, .string ⟨#[]⟩, .int .i64 0, .string ⟨#[]⟩, .slice none 0 0, .slice none 0 0, .bool false, .string ⟨#[]⟩, .slice none 0 0, .int .i64 0, .int .i64 0, .int .i64 0, .string ⟨#[]⟩, .slice none 0 0, .int .i64 0, .int .i64 0, .string ⟨#[]⟩, .slice none 0 0, .int .i64 0, .string ⟨#[]⟩, .slice none 0 0, .string ⟨#[]⟩, .slice none 0 0, .slice none 0 0, .int .i64 0, .int .i64 0, .string ⟨#[]⟩, .slice none 0 0, .slice none 0 0, .slice none 0 0] 121) = V1 at *
      refine wpMixT_one (fun K hK => ?_)
      go_wp2_with fail
      have lta := lt_of_block B6
      have B7 := blk_new V1 #[.int .i64 0, .int .i64 0, .bool false, .string ⟨#[]⟩, .int .i64 0, .string ⟨#[]⟩, .slice none 0 0, .slice none 0 0, .bool false, .string ⟨#[]⟩, .slice none 0 0, .int .i64 0, .int .i64 0, .int .i64 0, .string ⟨#[]⟩, .slice none 0 0, .int .i64 0, .int .i64 0, .string ⟨#[]⟩, .slice none 0 0, .int .i64 0, .string ⟨#[]⟩, .slice none 0 0, .string ⟨#[]⟩, .slice none 0 0, .slice none 0 0, .int .i64 0, .int .i64 0, .string ⟨#[]⟩, .slice none 0 0, .slice none 0 0, .slice none 0 0] 121
      have k1 : Keeps Nothing V1 (V1.alloc (.cells #[.int .i64 0, .int .i64 0, .bool false, .string ⟨#[]⟩, .int .i64 0, .string ⟨#[]⟩, .slice none 0 0, .slice none 0 0, .bool false, .string ⟨#[]⟩, .slice none 0 0, .int .i64 0, .int .i64 0, .int .i64 0, .string ⟨#[]⟩, .slice none 0 0, .int .i64 0, .int .i64 0, .string ⟨#[]⟩, .slice none 0 0, .int .i64 0, .string ⟨#[]⟩, .slice none 0 0, .string ⟨#[]⟩, .slice none 0 0, .slice none 0 0, .int .i64 0, .int .i64 0, .string ⟨#[]⟩, .slice none 0 0, .slice none 0 0, .slice none 0 0] 121)) := (Keeps.refl Nothing V1).alloc _
      have K2 := K1.trans k1 (fun _ h _ => h)
      have B6 := k1.blk B6 (fun h => h)
      refine hK _ _ (.inr K2) ?_
      clear hK K k1
      have l7 : wr.heap.size ≤ V1.heap.size := K1.size
      generalize V1.heap.size = g7 at *
      clear K1
      generalize V1.alloc (.cells #[.int .i64 0, .int .i64 0, .bool false, .string ⟨#[]⟩, .int .i64 0, .string ⟨#[]⟩, .slice none 0 0, .slice none 0 0, .bool false, .string ⟨#[]⟩, .slice none 0 0, .int .i64 0, .int .i64 0, .int .i64 0, .string ⟨#[]⟩, .slice none 0 0, .int .i64 0, .int .i64 0, .string ⟨#[]⟩, .slice none 0 0, .int .i64 0, .string ⟨#[]⟩, .slice none 0 0, .string ⟨#[]⟩, .slice none 0 0, .slice none 0 0, .int .i64 0, .int .i64 0, .string ⟨#[]⟩, .slice none 0 0, .slice none 0 0, .slice none 0 0] 121) = V2 at *
      have hne : g6 ≠ g7 := by omega
      have ok6 := rowOk_blk B6 (n := 32) rfl
      refine wpMixT_one (fun K hK => ?_)
      go_wp2_with fail
      have D6 := blk_setRow (cs := C1) B6
      have D7 := blk_setRow_other (cs' := C1) B7 hne.symm
      have K3 : Keeps Nothing wr (V2.setRow g6 C1) := Keeps.setRow (S := Nothing) K2 (fun h => by omega) C1
      refine hK _ _ (.inr K3) ?_
      clear hK K ok6 B6 B7 K2
      generalize V2.setRow g6 C1 = V3 at *
      have ok7 := rowOk_blk D7 (n := 32) rfl
      refine wpMixT_one (fun K hK => ?_)
      go_wp2_with fail
      have E7 := blk_setRow (cs := C2) D7
      have E6 := blk_setRow_other (cs' := C2) D6 hne
      have K4 : Keeps Nothing wr (V3.setRow g7 C2) := Keeps.setRow (S := Nothing) K3 (fun h => by omega) C2
      refine hK _ _ (.inl trivial) ?_
      clear hK K ok7 D6 D7 K3
      refine wpMixT_done ?_
      go_wp2_with fail
      go_meet
      exact ⟨g6, g7, rfl, rfl, E6, E7, K4⟩
     ·skip
      go_wp2_with fail
      have B7 := blk_new V #[.int .i64 0, .int .i64 0, .bool false, .string ⟨#[]⟩, .int .i64 0, .string ⟨#[]⟩, .slice none 0 0, .slice none 0 0, .bool false, .string ⟨#[]⟩, .slice none 0 0, .int .i64 0, .int .i64 0, .int .i64 0, .string ⟨#[]⟩, .slice none 0 0, .int .i64 0, .int .i64 0, .string ⟨#[]⟩, .slice none 0 0, .int .i64 0, .string ⟨#[]⟩, .slice none 0 0, .string ⟨#[]⟩, .slice none 0 0, .slice none 0 0, .int .i64 0, .int .i64 0, .string ⟨#[]⟩, .slice none 0 0, .slice none 0 0, .slice none 0 0] 121
      have k1 : Keeps Nothing V (V.alloc (.cells #[.int .i64 0, .int .i64 0, .bool false, .string ⟨#[]⟩, .int .i64 0, .string ⟨#[]⟩, .slice none 0 0, .slice none 0 0, .bool false, .string ⟨#[]⟩, .slice none 0 0, .int .i64 0, .int .i64 0, .int .i64 0, .string ⟨#[]⟩, .slice none 0 0, .int .i64 0, .int .i64 0, .string ⟨#[]⟩, .slice none 0 0, .int .i64 0, .string ⟨#[]⟩, .slice none 0 0, .string ⟨#[]⟩, .slice none 0 0, .slice none 0 0, .int .i64 0, .int .i64 0, .string ⟨#[]⟩, .slice none 0 0, .slice none 0 0, .slice none 0 0] 121)) := (Keeps.refl Nothing V).alloc _
      have K1 := kd.trans k1 (fun _ h _ => h)
      refine hK _ _ (.inr K1) ?_
      clear hK K k1
      generalize hg7 : V.heap.size = g7 at *
      have l7 : wr.heap.size ≤ g7 := by have := kd.size; omega
      clear hg7
      generalize V.alloc (.cells #[.int .i64 0, .int .i64 0, .bool false, .string ⟨#[]⟩, .int .i64 0, .string ⟨#[]⟩, .slice none 0 0, .slice none 0 0, .bool false, .string ⟨#[]⟩, .slice none 0 0, .int .i64 0, .int .i64 0, .int .i64 0, .string ⟨#[]⟩, .slice none 0 0, .int .i64 0, .int .i64 0, .string ⟨#[]⟩, .slice none 0 0, .int .i64 0, .string ⟨#[]⟩, .slice none 0 0, .string ⟨#[]⟩, .slice none 0 0, .slice none 0 0, .int .i64 0, .int .i64 0, .string ⟨#[]⟩, .slice none 0 0, .slice none 0 0, .slice none 0 0] 121) = V1 at *
      refine wpMixT_one (fun K hK => ?_)
      go_wp2_with fail
      have lta := lt_of_block B7
      have B6 := blk_new V1 #[.int .i64 0, .int .i64 0, .bool false, .string ⟨#[]⟩, .int .i64 0, .string ⟨#[]⟩, .slice none 0 0, .slice none 0 0, .bool false, .string ⟨#[]⟩, .slice none 0 0, .int .i64 0, .int .i64 0, .int .i64 0, .string ⟨#[]⟩, .slice none 0 0, .int .i64 0, .int .i64 0, .string ⟨#[]⟩, .slice none 0 0, .int .i64 0, .string ⟨#[]⟩, .slice none 0 0, .string ⟨#[]⟩, .slice none 0 0, .slice none 0 0, .int .i64 0, .int .i64 0, .string ⟨#[]⟩, .slice none 0 0, .slice none 0 0, .slice none 0 0] 121
      have k1 : Keeps Nothing V1 (V1.alloc (.cells #[.int .i64 0, .int .i64 0, .bool false, .string ⟨#[]⟩, .int .i64 0, .string ⟨#[]⟩, .slice none 0 0, .slice none 0 0, .bool false, .string ⟨#[]⟩, .slice none 0 0, .int .i64 0, .int .i64 0, .int .i64 0, .string ⟨#[]⟩, .slice none 0 0, .int .i64 0, .int .i64 0, .string ⟨#[]⟩, .slice none 0 0, .int .i64 0, .string ⟨#[]⟩, .slice none 0 0, .string ⟨#[]⟩, .slice none 0 0, .slice none 0 0, .int .i64 0, .int .i64 0, .string ⟨#[]⟩, .slice none 0 0, .slice none 0 0, .slice none 0 0] 121)) := (Keeps.refl Nothing V1).alloc _
      have K2 := K1.trans k1 (fun _ h _ => h)
      have B7 := k1.blk B7 (fun h => h)
      refine hK _ _ (.inr K2) ?_
      clear hK K k1
      have l6 : wr.heap.size ≤ V1.heap.size := K1.size
      generalize V1.heap.size = g6 at *
      clear K1
      generalize V1.alloc (.cells #[.int .i64 0, .int .i64 0, .bool false, .string ⟨#[]⟩, .int .i64 0, .string ⟨#[]⟩, .slice none 0 0, .slice none 0 0, .bool false, .string ⟨#[]⟩, .slice none 0 0, .int .i64 0, .int .i64 0, .int .i64 0, .string ⟨#[]⟩, .slice none 0 0, .int .i64 0, .int .i64 0, .string ⟨#[]⟩, .slice none 0 0, .int .i64 0, .string ⟨#[]⟩, .slice none 0 0, .string ⟨#[]⟩, .slice none 0 0, .slice none 0 0, .int .i64 0, .int .i64 0, .string ⟨#[]⟩, .slice none 0 0, .slice none 0 0, .slice none 0 0] 121) = V2 at *
      have hne : g6 ≠ g7 := by omega
      have ok6 := rowOk_blk B6 (n := 32) rfl
      refine wpMixT_one (fun K hK => ?_)
      go_wp2_with fail
      have D6 := blk_setRow (cs := C1) B6
      have D7 := blk_setRow_other (cs' := C1) B7 hne.symm
      have K3 : Keeps Nothing wr (V2.setRow g6 C1) := Keeps.setRow (S := Nothing) K2 (fun h => by omega) C1
      refine hK _ _ (.inr K3) ?_
      clear hK K ok6 B6 B7 K2
      generalize V2.setRow g6 C1 = V3 at *
      have ok7 := rowOk_blk D7 (n := 32) rfl
      refine wpMixT_one (fun K hK => ?_)
      go_wp2_with fail
      have E7 := blk_setRow (cs := C2) D7
      have E6 := blk_setRow_other (cs' := C2) D6 hne
      have K4 : Keeps Nothing wr (V3.setRow g7 C2) := Keeps.setRow (S := Nothing) K3 (fun h => by omega) C2
      refine hK _ _ (.inl trivial) ?_
      clear hK K ok7 D6 D7 K3
      refine wpMixT_done ?_
      go_wp2_with fail
      go_meet
      exact ⟨g6, g7, rfl, rfl, E6, E7, K4⟩
    case rest =>
     obtain ⟨g6, g7, rfl, rfl, BA, BB, kc⟩ := hcut
     rename World => wc
     have KW := KL.trans kc (fun _ h _ => h)
     have ha := ha.keeps kc (fun _ _ h => h) (fun _ h => h)
     have hb := hb.keeps kc (fun _ _ h => h) (fun _ h => h)
     clear F1 F2 ag1 ag2 l1 l2
     obtain ⟨a_kind, a_pos, a_mu, a_name, a_ty, a_has, a_place, a_val, a_cond, a_thn, a_els⟩ := d
     obtain ⟨b_kind, b_pos, b_mu, b_name, b_ty, b_has, b_place, b_val, b_cond, b_thn, b_els⟩ := d2
     rw [stIs_iff] at ha hb
     obtain ⟨s4, s9, s11, s26, p30, q30, p31, q31, hcs, ah_name, ah_ty, ah_place, ah_val, ah_cond, ah_thn, ah_els⟩ := ha
     have HCA := shut hcs
     clear hcs
     obtain ⟨t4, t9, t11, t26, x30, y30, x31, y31, hcs, bh_name, bh_ty, bh_place, bh_val, bh_cond, bh_thn, bh_els⟩ := hb
     have HCB := shut hcs
     clear hcs
     simp only [StD.kind, StD.pos, StD.mu, StD.name, StD.ty, StD.has, StD.place, StD.val, StD.cond, StD.thn, StD.els] at ah_name bh_name ah_ty bh_ty ah_place bh_place ah_val bh_val ah_cond bh_cond ah_thn bh_thn ah_els bh_els HCA HCB HR2
     have HE : Shut ((StD.mk a_kind a_pos a_mu a_name a_ty a_has a_place a_val a_cond a_thn a_els) = (StD.mk b_kind b_pos b_mu b_name b_ty b_has b_place b_val b_cond b_thn b_els) ↔ a_kind = b_kind ∧ a_pos = b_pos ∧ a_mu = b_mu ∧ a_name = b_name ∧ a_ty = b_ty ∧ a_has = b_has ∧ a_place = b_place ∧ a_val = b_val ∧ a_cond = b_cond ∧ a_thn = b_thn ∧ a_els = b_els) := shut (by rw [StD.mk.injEq])
     obtain ⟨XA, hXA⟩ : ∃ X, X = StD.mk a_kind a_pos a_mu a_name a_ty a_has a_place a_val a_cond a_thn a_els := ⟨_, rfl⟩
     obtain ⟨XB, hXB⟩ : ∃ X, X = StD.mk b_kind b_pos b_mu b_name b_ty b_has b_place b_val b_cond b_thn b_els := ⟨_, rfl⟩
     rw [← hXA] at HE HD
     rw [← hXB] at HE HD2
     clear hXA hXB
     have GCA := shut (show C1 = _ by rw [GC1.out, HCA.out])
     have GCB := shut (show C2 = _ by rw [GC2.out, HCB.out])
     clear GC1 GC2 HCA HCB
     have al_ty := ah_ty.len
     have bl_ty := bh_ty.len
     have al_place := ah_place.len
     have bl_place := bh_place.len
     have al_val := ah_val.len
     have bl_val := bh_val.len
     have al_cond := ah_cond.len
     have bl_cond := bh_cond.len
     have KO := shut KW
     have KW := Keeps.refl Nothing wc
     obtain ⟨ae0, ae1, ae2, ae3, ⟨ae4, af4⟩, ae8, -, -, -, -, -⟩ := StB al_ty al_place al_val al_cond GCA.out BA
     obtain ⟨be0, be1, be2, be3, ⟨be4, bf4⟩, be8, -, -, -, -, -⟩ := StB bl_ty bl_place bl_val bl_cond GCB.out BB
     by_cases e_kind : a_kind = b_kind
     rotate_left
     ·have hno : Shut (¬ XA = XB) := shut (fun h => e_kind ((HE.out.1 h).1))
      clear HE GCA GCB BA BB
      unfold txV at *
      go_wp2_with fail
      go_ret
      exact tells_f (ne_at HD.out HD2.out hno.out) (KO.out.trans KW (fun _ h _ => h))
     subst e_kind
     by_cases e_pos : a_pos = b_pos
     rotate_left
     ·have hno : Shut (¬ XA = XB) := shut (fun h => e_pos ((HE.out.1 h).2.1))
      clear HE GCA GCB BA BB
      unfold txV at *
      go_wp2_with fail
      go_ret
      exact tells_f (ne_at HD.out HD2.out hno.out) (KO.out.trans KW (fun _ h _ => h))
     subst e_pos
     by_cases e_mu : a_mu = b_mu
     rotate_left
     ·have hno : Shut (¬ XA = XB) := shut (fun h => e_mu ((HE.out.1 h).2.2.1))
      clear HE GCA GCB BA BB
      unfold txV at *
      have hq : (a_mu == b_mu) = false := by rw [beq_eq_false_iff_ne]; exact e_mu
      go_wp2_with fail
      go_ret
      exact tells_f (ne_at HD.out HD2.out hno.out) (KO.out.trans KW (fun _ h _ => h))
     subst e_mu
     by_cases e_name : a_name = b_name
     rotate_left
     ·have hno : Shut (¬ XA = XB) := shut (fun h => e_name ((HE.out.1 h).2.2.2.1))
      clear HE GCA GCB BA BB
      have hq : (a_name == b_name) = false := by rw [beq_eq_false_iff_ne]; exact e_name
      unfold txV at *
      go_wp2_with fail
      go_ret
      exact tells_f (ne_at HD.out HD2.out hno.out) (KO.out.trans KW (fun _ h _ => h))
     subst e_name
     have hq_name : (a_name == a_name) = true := beq_self_eq_true _
     by_cases e_has : a_has = b_has
     rotate_left
     ·have hno : Shut (¬ XA = XB) := shut (fun h => e_has ((HE.out.1 h).2.2.2.2.2.1))
      clear HE GCA GCB BA BB
      unfold txV at *
      have hq : (a_has == b_has) = false := by rw [beq_eq_false_iff_ne]; exact e_has
      go_wp2_with fail
      go_ret
      exact tells_f (ne_at HD.out HD2.out hno.out) (KO.out.trans KW (fun _ h _ => h))
     subst e_has
     have hc := rsameType_any _ _ wc _ _ (ah_ty.keeps KW (fun _ _ h => h) (fun _ h => h)) (bh_ty.keeps KW (fun _ _ h => h) (fun _ h => h))
     generalize hsa : s4.toArray = sa at *
     generalize hsb : t4.toArray = sb at *
     clear hsa hsb
     unfold txV at *
     go_wp2_with fail
     refine hc.mono ?_
     rintro e w1 ⟨⟨z, rfl, hz⟩, k1⟩
     have KW := KW.trans k1 (fun _ h _ => h)
     have BA := k1.blk BA (fun h => h)
     have BB := k1.blk BB (fun h => h)
     clear hc k1 ae0 be0 ae1 be1 ae2 be2 ae3 be3 ae4 af4 be4 bf4 ae8 be8 hq_name
     cases z
     ·have hno : Shut (¬ XA = XB) := shut (fun h => by have h2 := hz.2 ((HE.out.1 h).2.2.2.2.1); cases h2)
      clear HE GCA GCB BA BB hz
      go_wp2_with fail
      go_ret
      exact tells_f (ne_at HD.out HD2.out hno.out) (KO.out.trans KW (fun _ h _ => h))
     have E_ty := shut (hz.1 rfl)
     clear hz
     obtain ⟨-, -, -, -, -, -, ⟨ae9, af9⟩, -, -, -, -⟩ := StB al_ty al_place al_val al_cond GCA.out BA
     obtain ⟨-, -, -, -, -, -, ⟨be9, bf9⟩, -, -, -, -⟩ := StB bl_ty bl_place bl_val bl_cond GCB.out BB
     have hc := rplace_any _ _ w1 _ _ (ah_place.keeps KW (fun _ _ h => h) (fun _ h => h)) (bh_place.keeps KW (fun _ _ h => h) (fun _ h => h))
     generalize hsa : s9.toArray = sa at *
     generalize hsb : t9.toArray = sb at *
     clear hsa hsb
     skip
     go_wp2_with fail
     refine hc.mono ?_
     rintro e w2 ⟨⟨z, rfl, hz⟩, k2⟩
     have KW := KW.trans k2 (fun _ h _ => h)
     have BA := k2.blk BA (fun h => h)
     have BB := k2.blk BB (fun h => h)
     clear hc k2 ae9 af9 be9 bf9
     cases z
     ·have hno : Shut (¬ XA = XB) := shut (fun h => by have h2 := hz.2 ((HE.out.1 h).2.2.2.2.2.2.1); cases h2)
      clear HE GCA GCB BA BB hz
      go_wp2_with fail
      go_ret
      exact tells_f (ne_at HD.out HD2.out hno.out) (KO.out.trans KW (fun _ h _ => h))
     have E_place := shut (hz.1 rfl)
     clear hz
     obtain ⟨-, -, -, -, -, -, -, ⟨ae11, af11⟩, -, -, -⟩ := StB al_ty al_place al_val al_cond GCA.out BA
     obtain ⟨-, -, -, -, -, -, -, ⟨be11, bf11⟩, -, -, -⟩ := StB bl_ty bl_place bl_val bl_cond GCB.out BB
     have hc := rsameValue_any _ _ w2 _ _ (ah_val.keeps KW (fun _ _ h => h) (fun _ h => h)) (bh_val.keeps KW (fun _ _ h => h) (fun _ h => h))
     generalize hsa : s11.toArray = sa at *
     generalize hsb : t11.toArray = sb at *
     clear hsa hsb
     skip
     go_wp2_with fail
     refine hc.mono ?_
     rintro e w3 ⟨⟨z, rfl, hz⟩, k3⟩
     have KW := KW.trans k3 (fun _ h _ => h)
     have BA := k3.blk BA (fun h => h)
     have BB := k3.blk BB (fun h => h)
     clear hc k3 ae11 af11 be11 bf11
     cases z
     ·have hno : Shut (¬ XA = XB) := shut (fun h => by have h2 := hz.2 ((HE.out.1 h).2.2.2.2.2.2.2.1); cases h2)
      clear HE GCA GCB BA BB hz
      go_wp2_with fail
      go_ret
      exact tells_f (ne_at HD.out HD2.out hno.out) (KO.out.trans KW (fun _ h _ => h))
     have E_val := shut (hz.1 rfl)
     clear hz
     obtain ⟨-, -, -, -, -, -, -, -, ⟨ae26, af26⟩, -, -⟩ := StB al_ty al_place al_val al_cond GCA.out BA
     obtain ⟨-, -, -, -, -, -, -, -, ⟨be26, bf26⟩, -, -⟩ := StB bl_ty bl_place bl_val bl_cond GCB.out BB
     have hc := rsameOper_any _ _ w3 _ _ (ah_cond.keeps KW (fun _ _ h => h) (fun _ h => h)) (bh_cond.keeps KW (fun _ _ h => h) (fun _ h => h))
     generalize hsa : s26.toArray = sa at *
     generalize hsb : t26.toArray = sb at *
     clear hsa hsb
     skip
     go_wp2_with fail
     refine hc.mono ?_
     rintro e w4 ⟨⟨z, rfl, hz⟩, k4⟩
     have KW := KW.trans k4 (fun _ h _ => h)
     have BA := k4.blk BA (fun h => h)
     have BB := k4.blk BB (fun h => h)
     clear hc k4 ae26 af26 be26 bf26
     cases z
     ·have hno : Shut (¬ XA = XB) := shut (fun h => by have h2 := hz.2 ((HE.out.1 h).2.2.2.2.2.2.2.2.1); cases h2)
      clear HE GCA GCB BA BB hz
      go_wp2_with fail
      go_ret
      exact tells_f (ne_at HD.out HD2.out hno.out) (KO.out.trans KW (fun _ h _ => h))
     have E_cond := shut (hz.1 rfl)
     clear hz
     obtain ⟨-, -, -, -, -, -, -, -, -, ae30, -⟩ := StB al_ty al_place al_val al_cond GCA.out BA
     obtain ⟨-, -, -, -, -, -, -, -, -, be30, -⟩ := StB bl_ty bl_place bl_val bl_cond GCB.out BB
     have hc := HR2.out.1 _ w4 _ _ q30 y30 (ah_thn.keeps KW (fun _ _ h => h) (fun _ h => h) (fun _ _ _ h => h.keeps KW (fun _ _ h => h) (fun _ h => h))) (bh_thn.keeps KW (fun _ _ h => h) (fun _ h => h) (fun _ _ _ h => h.keeps KW (fun _ _ h => h) (fun _ h => h)))
     skip
     go_wp2_with fail
     refine hc.mono ?_
     rintro e w5 ⟨⟨z, rfl, hz⟩, k5⟩
     have KW := KW.trans k5 (fun _ h _ => h)
     have BA := k5.blk BA (fun h => h)
     have BB := k5.blk BB (fun h => h)
     clear hc k5 ae30 be30
     cases z
     ·have hno : Shut (¬ XA = XB) := shut (fun h => by have h2 := hz.2 ((HE.out.1 h).2.2.2.2.2.2.2.2.2.1); cases h2)
      clear HE GCA GCB BA BB hz
      go_wp2_with fail
      go_ret
      exact tells_f (ne_at HD.out HD2.out hno.out) (KO.out.trans KW (fun _ h _ => h))
     have E_thn := shut (hz.1 rfl)
     clear hz
     obtain ⟨-, -, -, -, -, -, -, -, -, -, ae31⟩ := StB al_ty al_place al_val al_cond GCA.out BA
     obtain ⟨-, -, -, -, -, -, -, -, -, -, be31⟩ := StB bl_ty bl_place bl_val bl_cond GCB.out BB
     have hc := HR2.out.2 _ w5 _ _ q31 y31 (ah_els.keeps KW (fun _ _ h => h) (fun _ h => h) (fun _ _ _ h => h.keeps KW (fun _ _ h => h) (fun _ h => h))) (bh_els.keeps KW (fun _ _ h => h) (fun _ h => h) (fun _ _ _ h => h.keeps KW (fun _ _ h => h) (fun _ h => h)))
     skip
     go_wp2_with fail
     refine hc.mono ?_
     rintro e w6 ⟨⟨z, rfl, hz⟩, k6⟩
     have KW := KW.trans k6 (fun _ h _ => h)
     have BA := k6.blk BA (fun h => h)
     have BB := k6.blk BB (fun h => h)
     clear hc k6 ae31 be31
     cases z
     ·have hno : Shut (¬ XA = XB) := shut (fun h => by have h2 := hz.2 ((HE.out.1 h).2.2.2.2.2.2.2.2.2.2); cases h2)
      clear HE GCA GCB BA BB hz
      go_wp2_with fail
      go_ret
      exact tells_f (ne_at HD.out HD2.out hno.out) (KO.out.trans KW (fun _ h _ => h))
     have E_els := shut (hz.1 rfl)
     clear hz
     have hab : Shut (XA = XB) := shut (HE.out.2 ⟨(by first | rfl | trivial), (by first | rfl | trivial), (by first | rfl | trivial), (by first | rfl | trivial), E_ty.out, (by first | rfl | trivial), E_place.out, E_val.out, E_cond.out, E_thn.out, E_els.out⟩)
     clear HE GCA GCB BA BB
     go_wp2_with fail
     go_roundw
     case rel => exact ⟨t + 1, by go_num, by omega, KO.out.trans KW (fun _ h _ => h), shut (take_eq HD.out HD2.out HT.out hab.out)⟩
     case measure => simp [intOf]; omega
   ·obtain rfl : t = n := by omega
    have m1 : ¬ (t : Int) < t := by omega
    go_wp2_with fail
    go_ret
    refine tells_t ?_ KL
    have h := HT.out
    rwa [List.take_of_length_le (Nat.le_of_eq HN.out), List.take_of_length_le (Nat.le_of_eq HM.out)] at h
 ·have hne' : ¬ (l.length : Int) = m.length := by omega
  have hl : l ≠ m := fun h => hne (by rw [h])
  go_enter Tryz.func95, Tryz.ntmps95
  go_wp2_with fail
  go_ret
  exact tells_f hl (Keeps.refl _ _)
theorem rs_all {S S' : Nat → Prop} (l : List StD) : RS S S' l := by
 refine rs_step fun d _ => ?_
 refine StD.ind (P := fun d => RS S S' d.thn ∧ RS S S' d.els) ?_ d
 intro x_kind x_pos x_mu x_name x_ty x_has x_place x_val x_cond x_thn x_els h1 h2
 exact ⟨rs_step fun e he => h1 e he, rs_step fun e he => h2 e he⟩
end Go.Proofs.YtjbcagbnagefcaaGreat
