/- Package clone: values. Package clone: statements. Package clone: functions. -/
import Derived.Test.YtjbcagbnagefcaaTrM
namespace Go.Proofs.Ytjbcagbnagefcaa
open Go.RowKit

attribute [local irreducible] wpMix wpMixB wpList
attribute [local go_sem ↓] exec_mid_ty exec_store_ty exec_mid_pl exec_store_pl exec_mid_opr exec_store_opr exec_mid_val exec_store_val exec_mid_st exec_store_st exec_mid_fld exec_store_fld exec_mid_str exec_store_str exec_mid_lif exec_store_lif exec_mid_fun exec_store_fun exec_mid_cr exec_store_cr
attribute [local go_sem ↓] exec_into_pl exec_into_opr exec_into_ty exec_into_val
attribute [local go_sem] rowOk_new World.setRow_alloc_new

set_option maxRecDepth 100000 in
set_option linter.unusedSimpArgs false in
set_option maxHeartbeats 8000000 in
theorem cvalue_any {S : Nat → Prop} (d : ValD) (w : World) (cs : List Value) (h : ValIs S w d cs) : Calls Try.prog 78 #[.agg cs.toArray] w (CX ValIs w d) := by
  have ag1 := agg_ok h.len h.one
  obtain ⟨v_kind, v_a, v_b, v_op, v_place, v_name, v_names, v_args⟩ := d
  obtain ⟨s1, s5, s10, a13, c13, a14, c14, hcs, ha, hb, hp, hn, h6, h7⟩ := h
  simp only at hcs ha hb hp hn h6 h7
  unfold txV at hcs
  obtain ⟨nn, hnn⟩ : ∃ nn, v_names.length = nn := ⟨_, rfl⟩
  obtain ⟨n, hln⟩ : ∃ n, v_args.length = n := ⟨_, rfl⟩
  rw [hnn, hln] at hcs
  have HLL := shut hnn
  have HLN := shut hln
  have HNA := shut hn
  have HA := shut ha
  have HB := shut hb
  have HP := shut hp
  have HL6 := shut h6
  have HL := shut h7
  have al_a := ha.len
  have al_b := hb.len
  have al_p := hp.len
  have hnb : n ≤ 100000000 := by have := h7.1; unfold bigN at this; omega
  obtain ⟨C, hC⟩ : ∃ C, C = cs.toArray := ⟨_, rfl⟩
  rw [← hC] at ag1 ⊢
  rw [hcs] at hC
  have GC := shut hC
  clear hC hcs hnn hln hn ha hb hp h6 h7
  have BA := blk_alloc (blk_new w C 44) (.cells #[.int .i64 0, .int .i64 0, .int .i64 0, .string ⟨#[]⟩, .slice none 0 0, .int .i64 0, .int .i64 0, .string ⟨#[]⟩, .slice none 0 0, .int .i64 0, .string ⟨#[]⟩, .slice none 0 0, .string ⟨#[]⟩, .slice none 0 0, .slice none 0 0] 44)
  have BR := blk_new (w.alloc (.cells C 44)) #[.int .i64 0, .int .i64 0, .int .i64 0, .string ⟨#[]⟩, .slice none 0 0, .int .i64 0, .int .i64 0, .string ⟨#[]⟩, .slice none 0 0, .int .i64 0, .string ⟨#[]⟩, .slice none 0 0, .string ⟨#[]⟩, .slice none 0 0, .slice none 0 0] 44
  have KW : Keeps Nothing w ((w.alloc (.cells C 44)).alloc (.cells #[.int .i64 0, .int .i64 0, .int .i64 0, .string ⟨#[]⟩, .slice none 0 0, .int .i64 0, .int .i64 0, .string ⟨#[]⟩, .slice none 0 0, .int .i64 0, .string ⟨#[]⟩, .slice none 0 0, .string ⟨#[]⟩, .slice none 0 0, .slice none 0 0] 44)) := ((Keeps.refl Nothing w).alloc _).alloc _
  have HM0 : ((w.alloc (.cells C 44)).alloc (.cells #[.int .i64 0, .int .i64 0, .int .i64 0, .string ⟨#[]⟩, .slice none 0 0, .int .i64 0, .int .i64 0, .string ⟨#[]⟩, .slice none 0 0, .int .i64 0, .string ⟨#[]⟩, .slice none 0 0, .string ⟨#[]⟩, .slice none 0 0, .slice none 0 0] 44)).heap.size = w.heap.size + 1 + 1 := by rw [World.size_alloc, World.size_alloc]
  rw [World.size_alloc] at BR
  go_enter Try.func78, Try.ntmps78
  go_upto_region 1 with fail
  generalize (w.alloc (.cells C 44)).alloc (.cells #[.int .i64 0, .int .i64 0, .int .i64 0, .string ⟨#[]⟩, .slice none 0 0, .int .i64 0, .int .i64 0, .string ⟨#[]⟩, .slice none 0 0, .int .i64 0, .string ⟨#[]⟩, .slice none 0 0, .string ⟨#[]⟩, .slice none 0 0, .slice none 0 0] 44) = w0 at *
  have HGA : Shut (w.heap.size ≤ w.heap.size) := shut (Nat.le_refl _)
  have HGR : Shut (w.heap.size ≤ w.heap.size + 1) := shut (Nat.le_succ _)
  have hne : w.heap.size ≠ w.heap.size + 1 := by omega
  have hgaM : w.heap.size < w.heap.size + 1 + 1 := by omega
  have hgrM : w.heap.size + 1 < w.heap.size + 1 + 1 := by omega
  have hMb : w.heap.size + 1 + 1 ≤ w0.heap.size := Nat.le_of_eq HM0.symm
  have HNM : Shut (w.heap.size ≤ w.heap.size + 1 + 1) := shut (by omega)
  clear HM0 ag1
  obtain ⟨ga, hga⟩ : ∃ ga, w.heap.size = ga := ⟨_, rfl⟩
  obtain ⟨gr, hgr⟩ : ∃ gr, w.heap.size + 1 = gr := ⟨_, rfl⟩
  obtain ⟨M, hM⟩ : ∃ M, w.heap.size + 1 + 1 = M := ⟨_, rfl⟩
  rw [hM] at hgaM hgrM hMb HNM
  rw [hgr] at BR hne hgrM HGR ⊢
  have HGA2 : Shut (w.heap.size ≤ ga) := shut (Nat.le_of_eq hga)
  clear HGA
  have HGA := HGA2
  clear HGA2 hM hgr
  rw [hga] at BA hne hgaM ⊢
  clear hga
  have kdr : Keeps Nothing w0 w0.drew := (Keeps.refl Nothing w0).drew
  refine wp_region_mixB (fun V => Keeps Nothing w0 V) [(0, 0), (0, 1), (0, 3), (0, 4), (0, 6), (0, 7), (1, 2), (0, 9), (1, 5), (1, 8), (2, 10), (2, 11), (2, 12), (2, 13), (2, 14)] (by kernel_rfl) (by kernel_rfl) kdr ?_
  simp only [itemsB, List.map_cons, List.map_nil, List.getD_cons_zero, List.getD_cons_succ]
  refine wpMixB_free (fun K hK => ?_); go_simp; refine hK _ ?_; clear hK K
  refine wpMixB_yield (v := .agg s1.toArray) (fun V hV => ?_) (fun K hK => ?_)
  · obtain ⟨-, ⟨e1, e1f⟩, -, -, -, -, -, -⟩ := ValB al_a al_b al_p GC.out (hV.blk BA (fun h => h))
    go_simp
  go_simp
  refine hK _ ?_
  clear hK K
  refine wpMixB_free (fun K hK => ?_); go_simp; refine hK _ ?_; clear hK K
  refine wpMixB_yield (v := .agg s5.toArray) (fun V hV => ?_) (fun K hK => ?_)
  · obtain ⟨-, -, ⟨e1, e1f⟩, -, -, -, -, -⟩ := ValB al_a al_b al_p GC.out (hV.blk BA (fun h => h))
    go_simp
  go_simp
  refine hK _ ?_
  clear hK K
  refine wpMixB_free (fun K hK => ?_); go_simp; refine hK _ ?_; clear hK K
  refine wpMixB_yield (v := .agg s10.toArray) (fun V hV => ?_) (fun K hK => ?_)
  · obtain ⟨-, -, -, -, ⟨e1, e1f⟩, -, -, -⟩ := ValB al_a al_b al_p GC.out (hV.blk BA (fun h => h))
    go_simp
  go_simp
  refine hK _ ?_
  clear hK K
  have hc := coper_any v_a w0.drew s1 (HA.out.keeps (KW.trans kdr (fun _ h _ => h)) (fun _ _ h => h) (fun _ h => h))
  refine wpMixB_one (fun K hK => ?_)
  go_wp2_with fail
  refine hc.mono ?_
  rintro e v1 ⟨ra, rfl, k2, hR⟩
  have RA := shut hR
  have kc1 := kdr.trans k2 (fun _ h _ => h)
  have kk1 := k2
  clear hc hR k2
  go_wp2_with fail
  refine hK _ _ kc1 ?_
  clear hK K
  refine wpMixB_free (fun K hK => ?_); go_simp; refine hK _ ?_; clear hK K
  have hc := coper_any v_b v1 s5 (HB.out.keeps (KW.trans kc1 (fun _ h _ => h)) (fun _ _ h => h) (fun _ h => h))
  refine wpMixB_one (fun K hK => ?_)
  go_wp2_with fail
  refine hc.mono ?_
  rintro e v2 ⟨rb, rfl, k2, hR⟩
  have RB := shut hR
  have kc2 := kc1.trans k2 (fun _ h _ => h)
  have kk2 := k2
  clear hc hR k2
  go_wp2_with fail
  refine hK _ _ kc2 ?_
  clear hK K
  have hc := cplace_any v_place v2 s10 (HP.out.keeps (KW.trans kc2 (fun _ h _ => h)) (fun _ _ h => h) (fun _ h => h))
  refine wpMixB_one (fun K hK => ?_)
  go_wp2_with fail
  refine hc.mono ?_
  rintro e v3 ⟨rp, rfl, k2, hR⟩
  have RP := shut hR
  have kc3 := kc2.trans k2 (fun _ h _ => h)
  have kk3 := k2
  clear hc hR k2
  go_wp2_with fail
  refine hK _ _ kc3 ?_
  clear hK K
  have BA2 := kc3.blk BA (fun h => h)
  have BR2 := kc3.blk BR (fun h => h)
  have hCs : C.size = 15 := by rw [GC.out]; simp [al_a, al_b, al_p]
  have bl_a := RA.out.len
  have ag_0 := agg_ok RA.out.len RA.out.one
  have hL1_0 : (([.int .i64 v_kind] : List Value) ++ s1 ++ s5 ++ ([.int .i64 v_op] : List Value) ++ s10 ++ ([.string ⟨v_name.toArray⟩, .slice a13 nn c13, .slice a14 n c14] : List Value) : List Value) = (([.int .i64 v_kind] : List Value)) ++ (s1 ++ (s5 ++ ([.int .i64 v_op] : List Value) ++ s10 ++ ([.string ⟨v_name.toArray⟩, .slice a13 nn c13, .slice a14 n c14] : List Value))) := by simp
  have hL2_0 : (([.int .i64 v_kind] : List Value) ++ ra ++ s5 ++ ([.int .i64 v_op] : List Value) ++ s10 ++ ([.string ⟨v_name.toArray⟩, .slice a13 nn c13, .slice a14 n c14] : List Value) : List Value) = (([.int .i64 v_kind] : List Value)) ++ (ra ++ (s5 ++ ([.int .i64 v_op] : List Value) ++ s10 ++ ([.string ⟨v_name.toArray⟩, .slice a13 nn c13, .slice a14 n c14] : List Value))) := by simp
  have m_0 := midFit_blk BA2 (o := 1) (n := 4) (by rw [hCs]; decide)
  have B_0 : Blk (midSet (v3) ga 1 ra.toArray) ga (([.int .i64 v_kind] : List Value) ++ ra ++ s5 ++ ([.int .i64 v_op] : List Value) ++ s10 ++ ([.string ⟨v_name.toArray⟩, .slice a13 nn c13, .slice a14 n c14] : List Value)).toArray 44 := by
    rw [hL2_0]
    exact box_mid (pre := ([.int .i64 v_kind] : List Value)) (mid := s1) (post := s5 ++ ([.int .i64 v_op] : List Value) ++ s10 ++ ([.string ⟨v_name.toArray⟩, .slice a13 nn c13, .slice a14 n c14] : List Value)) (new := ra) BA2 (by rw [GC.out, hL1_0]) (by simp) (by rw [bl_a, al_a])
  have bl_b := RB.out.len
  have ag_1 := agg_ok RB.out.len RB.out.one
  have hL1_1 : (([.int .i64 v_kind] : List Value) ++ ra ++ s5 ++ ([.int .i64 v_op] : List Value) ++ s10 ++ ([.string ⟨v_name.toArray⟩, .slice a13 nn c13, .slice a14 n c14] : List Value) : List Value) = (([.int .i64 v_kind] : List Value) ++ ra) ++ (s5 ++ (([.int .i64 v_op] : List Value) ++ s10 ++ ([.string ⟨v_name.toArray⟩, .slice a13 nn c13, .slice a14 n c14] : List Value))) := by simp
  have hL2_1 : (([.int .i64 v_kind] : List Value) ++ ra ++ rb ++ ([.int .i64 v_op] : List Value) ++ s10 ++ ([.string ⟨v_name.toArray⟩, .slice a13 nn c13, .slice a14 n c14] : List Value) : List Value) = (([.int .i64 v_kind] : List Value) ++ ra) ++ (rb ++ (([.int .i64 v_op] : List Value) ++ s10 ++ ([.string ⟨v_name.toArray⟩, .slice a13 nn c13, .slice a14 n c14] : List Value))) := by simp
  have m_1 := midFit_blk B_0 (o := 5) (n := 4) (by simp [bl_a, al_b, al_p])
  have B_1 : Blk (midSet (midSet (v3) ga 1 ra.toArray) ga 5 rb.toArray) ga (([.int .i64 v_kind] : List Value) ++ ra ++ rb ++ ([.int .i64 v_op] : List Value) ++ s10 ++ ([.string ⟨v_name.toArray⟩, .slice a13 nn c13, .slice a14 n c14] : List Value)).toArray 44 := by
    rw [hL2_1]
    exact box_mid (pre := ([.int .i64 v_kind] : List Value) ++ ra) (mid := s5) (post := ([.int .i64 v_op] : List Value) ++ s10 ++ ([.string ⟨v_name.toArray⟩, .slice a13 nn c13, .slice a14 n c14] : List Value)) (new := rb) B_0 (by rw [hL1_1]) (by simp [bl_a]) (by rw [bl_b, al_b])
  have bl_p := RP.out.len
  have ag_2 := agg_ok RP.out.len RP.out.one
  have hL1_2 : (([.int .i64 v_kind] : List Value) ++ ra ++ rb ++ ([.int .i64 v_op] : List Value) ++ s10 ++ ([.string ⟨v_name.toArray⟩, .slice a13 nn c13, .slice a14 n c14] : List Value) : List Value) = (([.int .i64 v_kind] : List Value) ++ ra ++ rb ++ ([.int .i64 v_op] : List Value)) ++ (s10 ++ (([.string ⟨v_name.toArray⟩, .slice a13 nn c13, .slice a14 n c14] : List Value))) := by simp
  have hL2_2 : (([.int .i64 v_kind] : List Value) ++ ra ++ rb ++ ([.int .i64 v_op] : List Value) ++ rp ++ ([.string ⟨v_name.toArray⟩, .slice a13 nn c13, .slice a14 n c14] : List Value) : List Value) = (([.int .i64 v_kind] : List Value) ++ ra ++ rb ++ ([.int .i64 v_op] : List Value)) ++ (rp ++ (([.string ⟨v_name.toArray⟩, .slice a13 nn c13, .slice a14 n c14] : List Value))) := by simp
  have m_2 := midFit_blk B_1 (o := 10) (n := 2) (by simp [bl_a, bl_b, al_p])
  have B_2 : Blk (midSet (midSet (midSet (v3) ga 1 ra.toArray) ga 5 rb.toArray) ga 10 rp.toArray) ga (([.int .i64 v_kind] : List Value) ++ ra ++ rb ++ ([.int .i64 v_op] : List Value) ++ rp ++ ([.string ⟨v_name.toArray⟩, .slice a13 nn c13, .slice a14 n c14] : List Value)).toArray 44 := by
    rw [hL2_2]
    exact box_mid (pre := ([.int .i64 v_kind] : List Value) ++ ra ++ rb ++ ([.int .i64 v_op] : List Value)) (mid := s10) (post := ([.string ⟨v_name.toArray⟩, .slice a13 nn c13, .slice a14 n c14] : List Value)) (new := rp) B_1 (by rw [hL1_2]) (by simp [bl_a, bl_b]) (by rw [bl_p, al_p])
  have KS : ∀ T : Nat → Prop, T ga → Keeps T v3 (midSet (midSet (midSet (v3) ga 1 ra.toArray) ga 5 rb.toArray) ga 10 rp.toArray) := fun T hT => (midSet_keeps (midSet_keeps (midSet_keeps (Keeps.refl T v3) (g := ga) (fun _ => hT) _ _) (g := ga) (fun _ => hT) _ _) (g := ga) (fun _ => hT) _ _)
  have BR3 : Blk (midSet (midSet (midSet (v3) ga 1 ra.toArray) ga 5 rb.toArray) ga 10 rp.toArray) gr #[.int .i64 0, .int .i64 0, .int .i64 0, .string ⟨#[]⟩, .slice none 0 0, .int .i64 0, .int .i64 0, .string ⟨#[]⟩, .slice none 0 0, .int .i64 0, .string ⟨#[]⟩, .slice none 0 0, .string ⟨#[]⟩, .slice none 0 0, .slice none 0 0] 44 := (blk_setRow_other (blk_setRow_other (blk_setRow_other BR2 (fun q => hne q.symm)) (fun q => hne q.symm)) (fun q => hne q.symm))
  have KWf : Keeps Nothing w (midSet (midSet (midSet (v3) ga 1 ra.toArray) ga 5 rb.toArray) ga 10 rp.toArray) := (KW.trans kc3 (fun _ h _ => h)).trans (KS (fun b => b = ga) rfl) (fun b hb hlt => by have hb' : b = ga := hb; have := HGA.out; omega)
  have KM := KS (fun b => b < M) hgaM
  have hszf : w0.heap.size ≤ (midSet (midSet (midSet (v3) ga 1 ra.toArray) ga 5 rb.toArray) ga 10 rp.toArray).heap.size := Nat.le_trans kc3.size KM.size
  have kq0 : Keeps Nothing v1 v3 := ((Keeps.refl Nothing v1).trans kk2 (fun _ h _ => h)).trans kk3 (fun _ h _ => h)
  have hq0 : M ≤ w0.drew.heap.size := Nat.le_trans hMb (Nat.le_refl _)
  have KN0 : Keeps (fun b => b < w0.drew.heap.size) v1 (midSet (midSet (midSet (v3) ga 1 ra.toArray) ga 5 rb.toArray) ga 10 rp.toArray) := (kq0.mono (S' := fun b => b < w0.drew.heap.size) (fun _ h _ => h.elim)).trans (KM.mono (S' := fun b => b < w0.drew.heap.size) (fun b hb _ => Nat.lt_of_lt_of_le hb hq0)) (fun _ h _ => h)
  have RA := shut (oprOk.on RA.out KN0 hq0)
  have kq1 : Keeps Nothing v2 v3 := (Keeps.refl Nothing v2).trans kk3 (fun _ h _ => h)
  have hq1 : M ≤ v1.heap.size := Nat.le_trans hMb kc1.size
  have KN1 : Keeps (fun b => b < v1.heap.size) v2 (midSet (midSet (midSet (v3) ga 1 ra.toArray) ga 5 rb.toArray) ga 10 rp.toArray) := (kq1.mono (S' := fun b => b < v1.heap.size) (fun _ h _ => h.elim)).trans (KM.mono (S' := fun b => b < v1.heap.size) (fun b hb _ => Nat.lt_of_lt_of_le hb hq1)) (fun _ h _ => h)
  have RB := shut (oprOk.on RB.out KN1 hq1)
  have kq2 : Keeps Nothing v3 v3 := Keeps.refl Nothing v3
  have hq2 : M ≤ v2.heap.size := Nat.le_trans hMb kc2.size
  have KN2 : Keeps (fun b => b < v2.heap.size) v3 (midSet (midSet (midSet (v3) ga 1 ra.toArray) ga 5 rb.toArray) ga 10 rp.toArray) := (kq2.mono (S' := fun b => b < v2.heap.size) (fun _ h _ => h.elim)).trans (KM.mono (S' := fun b => b < v2.heap.size) (fun b hb _ => Nat.lt_of_lt_of_le hb hq2)) (fun _ h _ => h)
  have RP := shut (plOk.on RP.out KN2 hq2)
  refine wpMixB_late (fun K hK => ?_)
  go_wp2_with fail
  refine wpMixB_late (fun K hK => ?_)
  go_wp2_with fail
  refine wpMixB_late (fun K hK => ?_)
  go_wp2_with fail
  refine wpMixB_late (fun K hK => ?_)
  go_wp2_with fail
  refine wpMixB_late (fun K hK => ?_)
  go_wp2_with fail
  refine wpMixB_nil ?_
  have BAf := B_2
  clear hL1_0 hL2_0 hL1_1 hL2_1 hL1_2 hL2_2 kq0 hq0 KN0 kk1 kc1 kq1 hq1 KN1 kk2 kc2 kq2 hq2 KN2 kk3 kc3 m_0 ag_0 m_1 ag_1 m_2 ag_2 B_0 B_1 B_2 KS KM BA2 kdr hCs BR2
  generalize midSet (midSet (midSet (v3) ga 1 ra.toArray) ga 5 rb.toArray) ga 10 rp.toArray = w5 at *
  have hMb5 : M ≤ w5.heap.size := Nat.le_trans hMb hszf
  clear hMb hszf BA BR GC KW
  have hMb := hMb5
  clear hMb5
  obtain ⟨C, hC⟩ : ∃ C, C = (([.int .i64 v_kind] : List Value) ++ ra ++ rb ++ ([.int .i64 v_op] : List Value) ++ rp ++ ([.string ⟨v_name.toArray⟩, .slice a13 nn c13, .slice a14 n c14] : List Value)).toArray := ⟨_, rfl⟩
  rw [← hC] at BAf
  have GC := shut hC
  have BA := BAf
  have BR := BR3
  have KW := KWf
  clear KWf hC BAf BR3
  go_upto_region 2 with fail
  obtain ⟨-, -, -, -, -, -, e0, -⟩ := ValB bl_a bl_b bl_p GC.out BA
  have hc := ctexts_any v_names w5 c13 (HL6.out.keeps KW (fun _ _ h => h) (fun _ h => h) (fun _ _ _ h => h))
  rw [HLL.out] at hc
  go_wp2_with fail
  refine hc.mono ?_
  rintro e w2 ⟨b13, d13, rfl, k2, hR⟩
  rw [HLL.out]
  have RL := shut hR
  clear hc hR e0
  have BA2 := k2.blk BA (fun h => h)
  have BR2 := k2.blk BR (fun h => h)
  obtain ⟨-, -, -, -, -, -, e1, -⟩ := ValB bl_a bl_b bl_p GC.out BA2
  have f1 := blk_free BA2 13
  have hL1 : (([.int .i64 v_kind] : List Value) ++ ra ++ rb ++ ([.int .i64 v_op] : List Value) ++ rp ++ ([.string ⟨v_name.toArray⟩, .slice a13 nn c13, .slice a14 n c14] : List Value) : List Value) = (([.int .i64 v_kind] : List Value) ++ ra ++ rb ++ ([.int .i64 v_op] : List Value) ++ rp ++ ([.string ⟨v_name.toArray⟩] : List Value)) ++ (.slice a13 nn c13 :: (([.slice a14 n c14] : List Value))) := by simp
  have hL2 : (([.int .i64 v_kind] : List Value) ++ ra ++ rb ++ ([.int .i64 v_op] : List Value) ++ rp ++ ([.string ⟨v_name.toArray⟩, .slice b13 nn d13, .slice a14 n c14] : List Value) : List Value) = (([.int .i64 v_kind] : List Value) ++ ra ++ rb ++ ([.int .i64 v_op] : List Value) ++ rp ++ ([.string ⟨v_name.toArray⟩] : List Value)) ++ (.slice b13 nn d13 :: (([.slice a14 n c14] : List Value))) := by simp
  have BA3 : Blk (w2.setCell ⟨ga, 13, none⟩ (.slice b13 nn d13)) ga (([.int .i64 v_kind] : List Value) ++ ra ++ rb ++ ([.int .i64 v_op] : List Value) ++ rp ++ ([.string ⟨v_name.toArray⟩, .slice b13 nn d13, .slice a14 n c14] : List Value)).toArray 44 := by
    rw [hL2]
    exact box_set (pre := ([.int .i64 v_kind] : List Value) ++ ra ++ rb ++ ([.int .i64 v_op] : List Value) ++ rp ++ ([.string ⟨v_name.toArray⟩] : List Value)) (post := ([.slice a14 n c14] : List Value)) (v := .slice a13 nn c13) (u := .slice b13 nn d13) BA2 (by rw [GC.out, hL1]) (by simp [bl_a, bl_b, bl_p])
  have KS0 : ∀ (T : Nat → Prop), T ga → Keeps T w2 (w2.setCell ⟨ga, 13, none⟩ (.slice b13 nn d13)) := fun T hT => (Keeps.refl T w2).setCell (p := ⟨ga, 13, none⟩) (fun _ => hT) _
  have KW3 : Keeps Nothing w (w2.setCell ⟨ga, 13, none⟩ (.slice b13 nn d13)) := (KW.trans k2 (fun _ h _ => h)).setCell (p := ⟨ga, 13, none⟩) (fun h => absurd h (Nat.not_lt.2 HGA.out)) _
  have BR3 : Blk (w2.setCell ⟨ga, 13, none⟩ (.slice b13 nn d13)) gr #[.int .i64 0, .int .i64 0, .int .i64 0, .string ⟨#[]⟩, .slice none 0 0, .int .i64 0, .int .i64 0, .string ⟨#[]⟩, .slice none 0 0, .int .i64 0, .string ⟨#[]⟩, .slice none 0 0, .string ⟨#[]⟩, .slice none 0 0, .slice none 0 0] 44 := blk_other BR2 ⟨ga, 13, none⟩ (fun q => hne q.symm) _
  have KK : Keeps (fun b => b < M) w5 (w2.setCell ⟨ga, 13, none⟩ (.slice b13 nn d13)) := (k2.mono (S' := fun b => b < M) (fun _ h _ => h.elim)).trans (KS0 (fun b => b < M) hgaM) (fun _ h _ => h)
  have KS2 := KS0 (fun b => b < w5.heap.size) (Nat.lt_of_lt_of_le hgaM hMb)
  have hMb3 : M ≤ (w2.setCell ⟨ga, 13, none⟩ (.slice b13 nn d13)).heap.size := Nat.le_trans hMb KK.size
  have RA := shut (oprOk.on RA.out KK (Nat.le_refl M))
  have RB := shut (oprOk.on RB.out KK (Nat.le_refl M))
  have RP := shut (plOk.on RP.out KK (Nat.le_refl M))
  have RL := shut (txs_on RL.out KS2 hMb)
  go_upto_region 4 with fail
  any_goals try (rename_i hfz; simp [f1] at hfz; done)
  clear e1 f1 BA2 BR2 BR KW k2 BA KS0 KK KS2 hL1 hL2 hMb GC
  generalize w2.setCell ⟨ga, 13, none⟩ (.slice b13 nn d13) = w6 at *
  have KW := KW3
  have hMb := hMb3
  obtain ⟨C, hC⟩ : ∃ C, C = (([.int .i64 v_kind] : List Value) ++ ra ++ rb ++ ([.int .i64 v_op] : List Value) ++ rp ++ ([.string ⟨v_name.toArray⟩, .slice b13 nn d13, .slice a14 n c14] : List Value)).toArray := ⟨_, rfl⟩
  rw [← hC] at BA3
  have GC := shut hC
  have BA := BA3
  have BR := BR3
  clear KW3 hMb3 hC BA3 BR3
  obtain ⟨-, -, -, -, -, -, -, e7⟩ := ValB bl_a bl_b bl_p GC.out BA
  go_wp2_with fail
  go_loopw [3, 25] (fun s3 s25 wx => ∃ (t : Nat) (ao : Option Addr) (cap : Nat), s25 = .int .i64 t ∧ s3 = .slice ao t cap ∧ t ≤ n ∧ Keeps (fun b => w6.heap.size ≤ b) w6 wx ∧ Shut (OutR (NewB w6.heap.size) 41 4 OprIs w6.heap.size wx ao cap (v_args.take t))) (fun _ s25 _ => n - (intOf s25).toNat)
  case atStart => exact ⟨0, none, 0, rfl, rfl, Nat.zero_le _, Keeps.refl _ _, shut (by rw [List.take_zero]; exact outR_nil _ _ _ _ _ _)⟩
  case round =>
    obtain ⟨t, ao, cap, rfl, rfl, ht, KL, HO⟩ := hrel
    by_cases hlt : t < n
    · obtain ⟨x, hx⟩ : ∃ x, v_args[t]? = some x := ⟨_, List.getElem?_eq_getElem (by rw [HLN.out]; exact hlt)⟩
      have KWr := KW.trans (keepsHi KL) (fun _ h _ => h)
      obtain ⟨g1, o1, rfl, -, cs, l1, r1, i1⟩ := (HL.out.keeps (S' := S) (Q := OprIs S wr) KWr (fun _ _ h => h) (fun _ h => h) (fun _ _ _ h => h.keeps KWr (fun _ _ h => h) (fun _ h => h))).get hx
      have HX := shut hx
      have hxm := List.mem_of_getElem? hx
      clear hx
      have m0 : (0 : Int) ≤ t := by omega
      have m1 : (t : Int) < n := by omega
      have hk := midOk_range r1
      have ho := midOf_range r1
      rw [l1] at hk ho
      have ag2 := agg_ok l1 i1.one
      have kx1 : Keeps Nothing wr (wr.alloc (.cells cs.toArray 41)) := (Keeps.refl Nothing wr).alloc _
      have hcl := coper_any x _ cs (i1.keeps kx1 (fun _ _ h => h) (fun _ h => h))
      have BX := blk_new wr cs.toArray 41
      have hszx : cs.toArray.size = 4 := by simpa using l1
      have hw01 : wr.heap.size ≤ (wr.alloc (.cells cs.toArray 41)).heap.size := kx1.size
      obtain ⟨Cx, hCx⟩ : ∃ Cx, cs.toArray = Cx := ⟨_, rfl⟩
      rw [hCx] at hcl BX hszx kx1 ho ag2 hw01
      clear hCx i1 r1 l1
      go_upto_region 7 with fail
      clear hk ho ag2
      generalize wr.alloc (.cells Cx 41) = w1 at *
      have hgx := lt_of_block BX
      obtain ⟨z1, z2⟩ := tblk_mid BX hszx
      go_wp2_with fail
      refine hcl.mono ?_
      rintro e w2 ⟨cs2, rfl, k2, hN⟩
      have HN := shut hN
      have hlc := hN.len
      have agx := agg_ok hN.len hN.one
      have hw12 := k2.size
      have kx := kx1.trans k2 (fun _ h _ => h)
      clear hcl hN z1 z2 BX kx1 k2
      have BB := blk_new w2 (cs2.toArray) 41
      have kb : Keeps Nothing w2 (w2.alloc (.cells (cs2.toArray) 41)) := (Keeps.refl Nothing w2).alloc _
      have kx3 := kx.trans kb (fun _ h _ => h)
      have hW0 : w6.heap.size ≤ w1.heap.size := Nat.le_trans KL.size hw01
      clear kx
      have HO3 := shut (HO.out.keepsN (newB_ok _) oprOk kx3)
      have hlao : ∀ g, blockOf ao = some g → g < wr.heap.size := fun g hg => HO.out.lt hg
      have hel : OprIs (InB (NewB w6.heap.size) (w2.alloc (.cells (cs2.toArray) 41)) ao) (w2.alloc (.cells (cs2.toArray) 41)) x cs2 := oprOk.keep _ _ _ _ _ _ _ HN.out kb (fun _ _ h => h) (fun b hb => ⟨(newB_ok _).keep Nothing w2 (w2.alloc (.cells (cs2.toArray) 41)) b kb (fun h => h) ⟨Nat.le_trans hW0 hb.1, hb.2⟩, fun q => by have := hlao b q; have := hb.1; omega⟩)
      have HEL := shut hel
      have hlt3 : w6.heap.size ≤ (w2.alloc (.cells (cs2.toArray) 41)).heap.size := Nat.le_trans (Nat.le_trans hW0 hw12) kb.size
      have htl : Shut ((v_args.take t).length = t) := shut (by rw [List.length_take, HLN.out]; omega)
      have htb : t ≤ 1000000000 := by omega
      have HNEW := shut HO.out.new
      have HBB := shut BB
      have KX3 : Keeps (fun b => w6.heap.size ≤ b) w6 (w2.alloc (.cells (cs2.toArray) 41)) := KL.trans kx3 (fun _ h _ => h.elim)
      clear hel BB KL HO kx3 kb HN
      go_wp2_with (at_builtin; rw [fill_list (by rw [hlc]; rfl)]; refine wpList_appD _ rfl (.tmp 29) (.tmp 32) 42 rfl Try.underlying42 iaOpr (by decide) (newB_ok _) oprOk t htl.out rfl HO3.out hlt3 _ _ cs2 x rfl rfl HBB.out HEL.out htb ?_)
      intro a4 c4 w4 O4 k4 m4
      have HO4 : Shut (OutR (NewB w6.heap.size) 41 4 OprIs w6.heap.size w4 a4 c4 (v_args.take (t + 1))) := shut (by rw [List.take_add_one, HX.out]; exact O4)
      have KL4 := KX3.trans k4 (fun g hg _ => HNEW.out g hg)
      clear O4 k4 m4 KX3 HO3 HEL HBB HNEW
      go_wp2_with fail
      go_roundw
      case rel => exact ⟨t + 1, a4, c4, by go_num, rfl, by omega, KL4, HO4⟩
      case measure => (simp [intOf]; try omega)
    obtain rfl : t = n := by omega
    have m1 : ¬ (t : Int) < t := by omega
    have HO1 : Shut (OutR (NewB w6.heap.size) 41 4 OprIs w6.heap.size wr ao cap v_args) := shut (by have := HO.out; rwa [List.take_of_length_le (Nat.le_of_eq HLN.out)] at this)
    clear HO
    have kl := keepsHi KL
    have BA := kl.blk BA (fun h => h)
    have BR := kl.blk BR (fun h => h)
    have KW := KW.trans kl (fun _ h _ => h)
    have RA := shut (oprOk.on RA.out (kl.mono (S' := fun b => b < M) (fun _ h _ => h.elim)) (Nat.le_refl M))
    have RB := shut (oprOk.on RB.out (kl.mono (S' := fun b => b < M) (fun _ h _ => h.elim)) (Nat.le_refl M))
    have RP := shut (plOk.on RP.out (kl.mono (S' := fun b => b < M) (fun _ h _ => h.elim)) (Nat.le_refl M))
    have RL := shut (txs_on RL.out (kl.mono (S' := fun b => b < M) (fun _ h _ => h.elim)) (Nat.le_refl M))
    have RE : Shut (SlIs (NewB M wr) wr 4 (OprIs (NewB M wr) wr) ao v_args) := shut (outR_new HO1.out oprOk (by decide) hMb (by rw [HLN.out]; unfold bigN; omega))
    have hMb1 : M ≤ wr.heap.size := Nat.le_trans hMb KL.size
    clear HO1 KL kl hMb
    have hMb := hMb1
    clear hMb1
    obtain ⟨w2, rfl⟩ : ∃ w2, w2 = wr := ⟨_, rfl⟩
    have k2 : Keeps Nothing w2 w2 := Keeps.refl _ _
    have BA2 := BA
    have BR2 := BR
    obtain ⟨-, -, -, -, -, -, -, e1⟩ := ValB bl_a bl_b bl_p GC.out BA2
    have f1 := blk_free BA2 14
    have hL1 : (([.int .i64 v_kind] : List Value) ++ ra ++ rb ++ ([.int .i64 v_op] : List Value) ++ rp ++ ([.string ⟨v_name.toArray⟩, .slice b13 nn d13, .slice a14 t c14] : List Value) : List Value) = (([.int .i64 v_kind] : List Value) ++ ra ++ rb ++ ([.int .i64 v_op] : List Value) ++ rp ++ ([.string ⟨v_name.toArray⟩, .slice b13 nn d13] : List Value)) ++ (.slice a14 t c14 :: (([] : List Value))) := by simp
    have hL2 : (([.int .i64 v_kind] : List Value) ++ ra ++ rb ++ ([.int .i64 v_op] : List Value) ++ rp ++ ([.string ⟨v_name.toArray⟩, .slice b13 nn d13, .slice ao t cap] : List Value) : List Value) = (([.int .i64 v_kind] : List Value) ++ ra ++ rb ++ ([.int .i64 v_op] : List Value) ++ rp ++ ([.string ⟨v_name.toArray⟩, .slice b13 nn d13] : List Value)) ++ (.slice ao t cap :: (([] : List Value))) := by simp
    have BA3 : Blk (w2.setCell ⟨ga, 14, none⟩ (.slice ao t cap)) ga (([.int .i64 v_kind] : List Value) ++ ra ++ rb ++ ([.int .i64 v_op] : List Value) ++ rp ++ ([.string ⟨v_name.toArray⟩, .slice b13 nn d13, .slice ao t cap] : List Value)).toArray 44 := by
      rw [hL2]
      exact box_set (pre := ([.int .i64 v_kind] : List Value) ++ ra ++ rb ++ ([.int .i64 v_op] : List Value) ++ rp ++ ([.string ⟨v_name.toArray⟩, .slice b13 nn d13] : List Value)) (post := ([] : List Value)) (v := .slice a14 t c14) (u := .slice ao t cap) BA2 (by rw [GC.out, hL1]) (by simp [bl_a, bl_b, bl_p])
    have KS0 : ∀ (T : Nat → Prop), T ga → Keeps T w2 (w2.setCell ⟨ga, 14, none⟩ (.slice ao t cap)) := fun T hT => (Keeps.refl T w2).setCell (p := ⟨ga, 14, none⟩) (fun _ => hT) _
    have KW3 : Keeps Nothing w (w2.setCell ⟨ga, 14, none⟩ (.slice ao t cap)) := (KW.trans k2 (fun _ h _ => h)).setCell (p := ⟨ga, 14, none⟩) (fun h => absurd h (Nat.not_lt.2 HGA.out)) _
    have BR3 : Blk (w2.setCell ⟨ga, 14, none⟩ (.slice ao t cap)) gr #[.int .i64 0, .int .i64 0, .int .i64 0, .string ⟨#[]⟩, .slice none 0 0, .int .i64 0, .int .i64 0, .string ⟨#[]⟩, .slice none 0 0, .int .i64 0, .string ⟨#[]⟩, .slice none 0 0, .string ⟨#[]⟩, .slice none 0 0, .slice none 0 0] 44 := blk_other BR2 ⟨ga, 14, none⟩ (fun q => hne q.symm) _
    have KK : Keeps (fun b => b < M) w2 (w2.setCell ⟨ga, 14, none⟩ (.slice ao t cap)) := (k2.mono (S' := fun b => b < M) (fun _ h _ => h.elim)).trans (KS0 (fun b => b < M) hgaM) (fun _ h _ => h)
    have KS2 := KS0 (fun b => b < w2.heap.size) (Nat.lt_of_lt_of_le hgaM hMb)
    have hMb3 : M ≤ (w2.setCell ⟨ga, 14, none⟩ (.slice ao t cap)).heap.size := Nat.le_trans hMb KK.size
    have RA := shut (oprOk.on RA.out KK (Nat.le_refl M))
    have RB := shut (oprOk.on RB.out KK (Nat.le_refl M))
    have RP := shut (plOk.on RP.out KK (Nat.le_refl M))
    have RL := shut (txs_on RL.out KK (Nat.le_refl M))
    have RE := shut (rows_on oprOk RE.out KK (Nat.le_refl M))
    go_upto_region 10 with fail
    any_goals try (rename_i hfz; simp [f1] at hfz; done)
    clear e1 f1 BA2 BR2 BR KW k2 BA KS0 KK KS2 hL1 hL2 hMb GC
    generalize w2.setCell ⟨ga, 14, none⟩ (.slice ao t cap) = w7 at *
    have KW := KW3
    have hMb := hMb3
    obtain ⟨C, hC⟩ : ∃ C, C = (([.int .i64 v_kind] : List Value) ++ ra ++ rb ++ ([.int .i64 v_op] : List Value) ++ rp ++ ([.string ⟨v_name.toArray⟩, .slice b13 nn d13, .slice ao t cap] : List Value)).toArray := ⟨_, rfl⟩
    rw [← hC] at BA3
    have GC := shut hC
    have BA := BA3
    have BR := BR3
    clear KW3 hMb3 hC BA3 BR3
    have hsC : C.size = 15 := (by rw [GC.out]; simp [bl_a, bl_b, bl_p])
    obtain ⟨y1, y2⟩ := tblk_mid BA hsC
    have y3 := rowOk_blk BR (n := 15) rfl
    have KS : Keeps (fun b => b < M) w7 (w7.setRow gr C) := (Keeps.refl (fun b => b < M) w7).setRow (g := gr) (fun _ => hgrM) C
    have KF : Keeps Nothing w (w7.setRow gr C) := KW.setRow (g := gr) (fun h => absurd h (Nat.not_lt.2 HGR.out)) C
    have hP : ValIs (NewB w.heap.size (w7.setRow gr C)) (w7.setRow gr C) ⟨v_kind, v_a, v_b, v_op, v_place, v_name, v_names, v_args⟩ (([.int .i64 v_kind] : List Value) ++ ra ++ rb ++ ([.int .i64 v_op] : List Value) ++ rp ++ ([.string ⟨v_name.toArray⟩, .slice b13 nn d13, .slice ao t cap] : List Value)) := ⟨ra, rb, rp, b13, d13, ao, cap, by simp only [HLL.out, HLN.out]; rfl, oprOk.on RA.out KS HNM.out, oprOk.on RB.out KS HNM.out, plOk.on RP.out KS HNM.out, HNA.out, txs_on RL.out KS HNM.out, rows_on oprOk RE.out KS HNM.out⟩
    have HF : Shut (CX ValIs w ⟨v_kind, v_a, v_b, v_op, v_place, v_name, v_names, v_args⟩ (.returned (.agg C)) (w7.setRow gr C)) := shut ⟨([.int .i64 v_kind] : List Value) ++ ra ++ rb ++ ([.int .i64 v_op] : List Value) ++ rp ++ ([.string ⟨v_name.toArray⟩, .slice b13 nn d13, .slice ao t cap] : List Value), by rw [GC.out], KF, hP⟩
    have agC : aggOk 15 (.agg C) = true := by
      rw [GC.out]
      exact agg_ok (by simp [bl_a, bl_b, bl_p]) hP.one
    have BF := blk_setRow (cs := C) BR
    clear hP KF KS KW BA BR GC hMb
    go_wp2_with fail
    refine bodyPost_ret (v := .agg C) (results_cell_row rfl _ _ gr _ C (0, 0) _ rfl BF Try.underlying44 rfl (by rw [infoVal, hsC])) rfl ?_
    exact HF.out


end Go.Proofs.Ytjbcagbnagefcaa

namespace Go.Proofs.Ytjbcagbnagefcaa
open Go.RowKit

attribute [local irreducible] wpMix wpMixB wpList
attribute [local go_sem ↓] exec_mid_ty exec_store_ty exec_mid_pl exec_store_pl exec_mid_opr exec_store_opr exec_mid_val exec_store_val exec_mid_st exec_store_st exec_mid_fld exec_store_fld exec_mid_str exec_store_str exec_mid_lif exec_store_lif exec_mid_fun exec_store_fun exec_mid_cr exec_store_cr
attribute [local go_sem ↓] exec_into_pl exec_into_opr exec_into_ty exec_into_val
attribute [local go_sem] rowOk_new World.setRow_alloc_new

theorem sl2_on {N M : Nat} {w w' : World} {ao : Option Addr} {l : List StD} (h : Sl2 (NewA M w) w ao l) (K : Keeps (fun b => b < M) w w') (hN : N ≤ M) : Sl2 (NewA N w') w' ao l :=
  h.keeps K (fun _ hb q => by have := hb.1; omega) (fun _ hb => ⟨Nat.le_trans hN hb.1, Nat.lt_of_lt_of_le hb.2 K.size⟩)
theorem LayOk.off {α : Type} {k : Nat} {P : (Nat → Prop) → World → α → List Value → Prop} (hP : LayOk k P) {N : Nat} {w : World} {d : α} {cs : List Value} (h : P (NewB N w) w d cs) : P (offB (NewA N w) w) w d cs :=
  hP.keep _ _ _ _ _ _ _ h (Keeps.refl Nothing w) (fun _ _ h => h) (fun _ hb => ⟨⟨hb.1, hb.2.1⟩, hb.2.1, hb.2.2⟩)
/-- A row of statements is copied. -/
def CS (w : World) (l : List StD) (e : Ending) (w' : World) : Prop := ∃ (a : Option Addr) (c : Nat), e = .returned (.slice a l.length c) ∧ Keeps Nothing w w' ∧ Sl2 (NewA w.heap.size w') w' a l
def StmtsC (l : List StD) : Prop := ∀ {S : Nat → Prop} (w : World) (ar : Option Addr) (c : Nat), SlIs S w 32 (StIs S w) ar l → Calls Try.prog 54 #[.slice ar l.length c] w (CS w l)

set_option maxRecDepth 100000 in
set_option linter.unusedSimpArgs false in
set_option maxHeartbeats 8000000 in
theorem cstmts_of {l : List StD} (H : ∀ e ∈ l, StmtsC e.thn ∧ StmtsC e.els) : StmtsC l := by
  intro S w ar c h
  have HL := shut h
  have HIH := shut H
  have hnb : l.length ≤ 100000000 := by have := h.1; unfold bigN at this; omega
  obtain ⟨n, hln⟩ : ∃ n, l.length = n := ⟨_, rfl⟩
  rw [hln] at hnb ⊢
  have HLN := shut hln
  have KW : Keeps Nothing w w := Keeps.refl _ _
  clear h hln H
  go_enter Try.func54, Try.ntmps54
  go_wp2_with fail
  go_loopw [3, 8] (fun s3 s8 wx => ∃ (t : Nat) (ao : Option Addr) (cap : Nat), s8 = .int .i64 t ∧ s3 = .slice ao t cap ∧ t ≤ n ∧ Keeps (fun b => w.heap.size ≤ b) w wx ∧ Shut (OutR (NewA w.heap.size) 46 32 St2 w.heap.size wx ao cap (l.take t))) (fun _ s8 _ => n - (intOf s8).toNat)
  case atStart => exact ⟨0, none, 0, rfl, rfl, Nat.zero_le _, Keeps.refl _ _, shut (by rw [List.take_zero]; exact outR_nil _ _ _ _ _ _)⟩
  case round =>
    obtain ⟨t, ao, cap, rfl, rfl, ht, KL, HO⟩ := hrel
    by_cases hlt : t < n
    · obtain ⟨x, hx⟩ : ∃ x, l[t]? = some x := ⟨_, List.getElem?_eq_getElem (by rw [HLN.out]; exact hlt)⟩
      have KWr := KW.trans (keepsHi KL) (fun _ h _ => h)
      obtain ⟨g1, o1, rfl, -, cs, l1, r1, i1⟩ := (HL.out.keeps (S' := S) (Q := StIs S wr) KWr (fun _ _ h => h) (fun _ h => h) (fun _ _ _ h => h.keeps KWr (fun _ _ h => h) (fun _ h => h))).get hx
      have HX := shut hx
      have hxm := List.mem_of_getElem? hx
      clear hx
      have m0 : (0 : Int) ≤ t := by omega
      have m1 : (t : Int) < n := by omega
      have hk := midOk_range r1
      have ho := midOf_range r1
      rw [l1] at hk ho
      have ag2 := agg_ok l1 i1.one
      obtain ⟨x_kind, x_pos, x_mu, x_name, x_ty, x_has, x_place, x_val, x_cond, x_thn, x_els⟩ := x
      rw [stIs_iff] at i1
      obtain ⟨s4, s9, s11, s26, a30, c30, a31, c31, hcs, hxn, h1, h2, h3, h4, h5, h6⟩ := i1
      simp only [StD.kind, StD.pos, StD.mu, StD.name, StD.ty, StD.has, StD.place, StD.val, StD.cond, StD.thn, StD.els] at hcs hxn h1 h2 h3 h4 h5 h6
      unfold txV at hcs
      obtain ⟨nt, hnt⟩ : ∃ nt, x_thn.length = nt := ⟨_, rfl⟩
      obtain ⟨ne, hnE⟩ : ∃ ne, x_els.length = ne := ⟨_, rfl⟩
      rw [hnt, hnE] at hcs
      have HNT := shut hnt
      have HNE := shut hnE
      have al_ty := h1.len
      have al_pl := h2.len
      have al_val := h3.len
      have al_cond := h4.len
      have HTy := shut h1
      have HPl := shut h2
      have HVa := shut h3
      have HCo := shut h4
      have HTh := shut h5
      have HEl := shut h6
      have HXN := shut hxn
      have HI1 : Shut (StmtsC x_thn) := shut (HIH.out _ hxm).1
      have HI2 : Shut (StmtsC x_els) := shut (HIH.out _ hxm).2
      have kx1 : Keeps Nothing wr (wr.alloc (.cells cs.toArray 46)) := (Keeps.refl Nothing wr).alloc _
      have BX := blk_new wr cs.toArray 46
      have hsx : cs.toArray.size = 32 := by simpa using l1
      have hw01 : wr.heap.size ≤ (wr.alloc (.cells cs.toArray 46)).heap.size := kx1.size
      obtain ⟨Cx, hCx⟩ : ∃ Cx, cs.toArray = Cx := ⟨_, rfl⟩
      have GX : Shut (Cx = (([.int .i64 x_kind, .int .i64 x_pos, .bool x_mu, .string ⟨x_name.toArray⟩] : List Value) ++ s4 ++ ([.bool x_has] : List Value) ++ s9 ++ s11 ++ s26 ++ ([.slice a30 nt c30, .slice a31 ne c31] : List Value)).toArray) := shut (by rw [← hCx, hcs])
      rw [hCx] at BX hsx kx1 ho ag2 hw01
      clear hCx hcs hxn h1 h2 h3 h4 h5 h6 hnt hnE r1 l1
      go_upto_region 5 with fail
      clear hk ho ag2
      generalize wr.alloc (.cells Cx 46) = w1 at *
      have hgx := lt_of_block BX
      obtain ⟨gx, hgx0⟩ : ∃ gx, wr.heap.size = gx := ⟨_, rfl⟩
      have HGX : Shut (wr.heap.size ≤ gx) := shut (Nat.le_of_eq hgx0)
      rw [hgx0] at BX hgx ⊢
      clear hgx0
      have kdr : Keeps Nothing w1 w1.drew := (Keeps.refl Nothing w1).drew
      refine wp_region_mixB (fun V => Keeps Nothing w1 V) [(0, 0), (0, 1), (0, 3), (0, 4), (0, 6), (0, 7), (0, 9), (0, 10), (1, 2), (0, 12), (1, 5), (1, 8), (1, 11), (2, 13), (2, 14), (2, 15), (2, 16), (2, 17), (2, 18), (2, 19)] (by kernel_rfl) (by kernel_rfl) kdr ?_
      simp only [itemsB, List.map_cons, List.map_nil, List.getD_cons_zero, List.getD_cons_succ]
      refine wpMixB_free (fun K hK => ?_); go_simp; refine hK _ ?_; clear hK K
      refine wpMixB_yield (v := .agg s4.toArray) (fun V hV => ?_) (fun K hK => ?_)
      · obtain ⟨-, -, -, -, ⟨e1, e1f⟩, -, -, -, -, -, -⟩ := StB al_ty al_pl al_val al_cond GX.out (hV.blk BX (fun h => h))
        go_simp
      go_simp
      refine hK _ ?_
      clear hK K
      refine wpMixB_free (fun K hK => ?_); go_simp; refine hK _ ?_; clear hK K
      refine wpMixB_yield (v := .agg s9.toArray) (fun V hV => ?_) (fun K hK => ?_)
      · obtain ⟨-, -, -, -, -, -, ⟨e1, e1f⟩, -, -, -, -⟩ := StB al_ty al_pl al_val al_cond GX.out (hV.blk BX (fun h => h))
        go_simp
      go_simp
      refine hK _ ?_
      clear hK K
      refine wpMixB_free (fun K hK => ?_); go_simp; refine hK _ ?_; clear hK K
      refine wpMixB_yield (v := .agg s11.toArray) (fun V hV => ?_) (fun K hK => ?_)
      · obtain ⟨-, -, -, -, -, -, -, ⟨e1, e1f⟩, -, -, -⟩ := StB al_ty al_pl al_val al_cond GX.out (hV.blk BX (fun h => h))
        go_simp
      go_simp
      refine hK _ ?_
      clear hK K
      refine wpMixB_free (fun K hK => ?_); go_simp; refine hK _ ?_; clear hK K
      refine wpMixB_yield (v := .agg s26.toArray) (fun V hV => ?_) (fun K hK => ?_)
      · obtain ⟨-, -, -, -, -, -, -, -, ⟨e1, e1f⟩, -, -⟩ := StB al_ty al_pl al_val al_cond GX.out (hV.blk BX (fun h => h))
        go_simp
      go_simp
      refine hK _ ?_
      clear hK K
      have hc := ctype_any x_ty w1.drew s4 (HTy.out.keeps (kx1.trans kdr (fun _ h _ => h)) (fun _ _ h => h) (fun _ h => h))
      refine wpMixB_one (fun K hK => ?_)
      go_wp2_with fail
      refine hc.mono ?_
      rintro e v1 ⟨r4, rfl, k2, hR⟩
      have RTy := shut hR
      have kc1 := kdr.trans k2 (fun _ h _ => h)
      have kk1 := k2
      clear hc hR k2
      go_wp2_with fail
      refine hK _ _ kc1 ?_
      clear hK K
      refine wpMixB_free (fun K hK => ?_); go_simp; refine hK _ ?_; clear hK K
      have hc := cplace_any x_place v1 s9 (HPl.out.keeps (kx1.trans kc1 (fun _ h _ => h)) (fun _ _ h => h) (fun _ h => h))
      refine wpMixB_one (fun K hK => ?_)
      go_wp2_with fail
      refine hc.mono ?_
      rintro e v2 ⟨r9, rfl, k2, hR⟩
      have RPl := shut hR
      have kc2 := kc1.trans k2 (fun _ h _ => h)
      have kk2 := k2
      clear hc hR k2
      go_wp2_with fail
      refine hK _ _ kc2 ?_
      clear hK K
      have hc := cvalue_any x_val v2 s11 (HVa.out.keeps (kx1.trans kc2 (fun _ h _ => h)) (fun _ _ h => h) (fun _ h => h))
      refine wpMixB_one (fun K hK => ?_)
      go_wp2_with fail
      refine hc.mono ?_
      rintro e v3 ⟨r11, rfl, k2, hR⟩
      have RVa := shut hR
      have kc3 := kc2.trans k2 (fun _ h _ => h)
      have kk3 := k2
      clear hc hR k2
      go_wp2_with fail
      refine hK _ _ kc3 ?_
      clear hK K
      have hc := coper_any x_cond v3 s26 (HCo.out.keeps (kx1.trans kc3 (fun _ h _ => h)) (fun _ _ h => h) (fun _ h => h))
      refine wpMixB_one (fun K hK => ?_)
      go_wp2_with fail
      refine hc.mono ?_
      rintro e v4 ⟨r26, rfl, k2, hR⟩
      have RCo := shut hR
      have kc4 := kc3.trans k2 (fun _ h _ => h)
      have kk4 := k2
      clear hc hR k2
      go_wp2_with fail
      refine hK _ _ kc4 ?_
      clear hK K
      have BA2 := kc4.blk BX (fun h => h)
      have hCs : Cx.size = 32 := hsx
      have bl_ty := RTy.out.len
      have ag_0 := agg_ok RTy.out.len RTy.out.one
      have hL1_0 : (([.int .i64 x_kind, .int .i64 x_pos, .bool x_mu, .string ⟨x_name.toArray⟩] : List Value) ++ s4 ++ ([.bool x_has] : List Value) ++ s9 ++ s11 ++ s26 ++ ([.slice a30 nt c30, .slice a31 ne c31] : List Value) : List Value) = (([.int .i64 x_kind, .int .i64 x_pos, .bool x_mu, .string ⟨x_name.toArray⟩] : List Value)) ++ (s4 ++ (([.bool x_has] : List Value) ++ s9 ++ s11 ++ s26 ++ ([.slice a30 nt c30, .slice a31 ne c31] : List Value))) := by simp
      have hL2_0 : (([.int .i64 x_kind, .int .i64 x_pos, .bool x_mu, .string ⟨x_name.toArray⟩] : List Value) ++ r4 ++ ([.bool x_has] : List Value) ++ s9 ++ s11 ++ s26 ++ ([.slice a30 nt c30, .slice a31 ne c31] : List Value) : List Value) = (([.int .i64 x_kind, .int .i64 x_pos, .bool x_mu, .string ⟨x_name.toArray⟩] : List Value)) ++ (r4 ++ (([.bool x_has] : List Value) ++ s9 ++ s11 ++ s26 ++ ([.slice a30 nt c30, .slice a31 ne c31] : List Value))) := by simp
      have m_0 := midFit_blk BA2 (o := 4) (n := 4) (by rw [hCs]; decide)
      have B_0 : Blk (midSet (v4) gx 4 r4.toArray) gx (([.int .i64 x_kind, .int .i64 x_pos, .bool x_mu, .string ⟨x_name.toArray⟩] : List Value) ++ r4 ++ ([.bool x_has] : List Value) ++ s9 ++ s11 ++ s26 ++ ([.slice a30 nt c30, .slice a31 ne c31] : List Value)).toArray 46 := by
        rw [hL2_0]
        exact box_mid (pre := ([.int .i64 x_kind, .int .i64 x_pos, .bool x_mu, .string ⟨x_name.toArray⟩] : List Value)) (mid := s4) (post := ([.bool x_has] : List Value) ++ s9 ++ s11 ++ s26 ++ ([.slice a30 nt c30, .slice a31 ne c31] : List Value)) (new := r4) BA2 (by rw [GX.out, hL1_0]) (by simp) (by rw [bl_ty, al_ty])
      have bl_pl := RPl.out.len
      have ag_1 := agg_ok RPl.out.len RPl.out.one
      have hL1_1 : (([.int .i64 x_kind, .int .i64 x_pos, .bool x_mu, .string ⟨x_name.toArray⟩] : List Value) ++ r4 ++ ([.bool x_has] : List Value) ++ s9 ++ s11 ++ s26 ++ ([.slice a30 nt c30, .slice a31 ne c31] : List Value) : List Value) = (([.int .i64 x_kind, .int .i64 x_pos, .bool x_mu, .string ⟨x_name.toArray⟩] : List Value) ++ r4 ++ ([.bool x_has] : List Value)) ++ (s9 ++ (s11 ++ s26 ++ ([.slice a30 nt c30, .slice a31 ne c31] : List Value))) := by simp
      have hL2_1 : (([.int .i64 x_kind, .int .i64 x_pos, .bool x_mu, .string ⟨x_name.toArray⟩] : List Value) ++ r4 ++ ([.bool x_has] : List Value) ++ r9 ++ s11 ++ s26 ++ ([.slice a30 nt c30, .slice a31 ne c31] : List Value) : List Value) = (([.int .i64 x_kind, .int .i64 x_pos, .bool x_mu, .string ⟨x_name.toArray⟩] : List Value) ++ r4 ++ ([.bool x_has] : List Value)) ++ (r9 ++ (s11 ++ s26 ++ ([.slice a30 nt c30, .slice a31 ne c31] : List Value))) := by simp
      have m_1 := midFit_blk B_0 (o := 9) (n := 2) (by simp [bl_ty, al_pl, al_val, al_cond])
      have B_1 : Blk (midSet (midSet (v4) gx 4 r4.toArray) gx 9 r9.toArray) gx (([.int .i64 x_kind, .int .i64 x_pos, .bool x_mu, .string ⟨x_name.toArray⟩] : List Value) ++ r4 ++ ([.bool x_has] : List Value) ++ r9 ++ s11 ++ s26 ++ ([.slice a30 nt c30, .slice a31 ne c31] : List Value)).toArray 46 := by
        rw [hL2_1]
        exact box_mid (pre := ([.int .i64 x_kind, .int .i64 x_pos, .bool x_mu, .string ⟨x_name.toArray⟩] : List Value) ++ r4 ++ ([.bool x_has] : List Value)) (mid := s9) (post := s11 ++ s26 ++ ([.slice a30 nt c30, .slice a31 ne c31] : List Value)) (new := r9) B_0 (by rw [hL1_1]) (by simp [bl_ty]) (by rw [bl_pl, al_pl])
      have bl_val := RVa.out.len
      have ag_2 := agg_ok RVa.out.len RVa.out.one
      have hL1_2 : (([.int .i64 x_kind, .int .i64 x_pos, .bool x_mu, .string ⟨x_name.toArray⟩] : List Value) ++ r4 ++ ([.bool x_has] : List Value) ++ r9 ++ s11 ++ s26 ++ ([.slice a30 nt c30, .slice a31 ne c31] : List Value) : List Value) = (([.int .i64 x_kind, .int .i64 x_pos, .bool x_mu, .string ⟨x_name.toArray⟩] : List Value) ++ r4 ++ ([.bool x_has] : List Value) ++ r9) ++ (s11 ++ (s26 ++ ([.slice a30 nt c30, .slice a31 ne c31] : List Value))) := by simp
      have hL2_2 : (([.int .i64 x_kind, .int .i64 x_pos, .bool x_mu, .string ⟨x_name.toArray⟩] : List Value) ++ r4 ++ ([.bool x_has] : List Value) ++ r9 ++ r11 ++ s26 ++ ([.slice a30 nt c30, .slice a31 ne c31] : List Value) : List Value) = (([.int .i64 x_kind, .int .i64 x_pos, .bool x_mu, .string ⟨x_name.toArray⟩] : List Value) ++ r4 ++ ([.bool x_has] : List Value) ++ r9) ++ (r11 ++ (s26 ++ ([.slice a30 nt c30, .slice a31 ne c31] : List Value))) := by simp
      have m_2 := midFit_blk B_1 (o := 11) (n := 15) (by simp [bl_ty, bl_pl, al_val, al_cond])
      have B_2 : Blk (midSet (midSet (midSet (v4) gx 4 r4.toArray) gx 9 r9.toArray) gx 11 r11.toArray) gx (([.int .i64 x_kind, .int .i64 x_pos, .bool x_mu, .string ⟨x_name.toArray⟩] : List Value) ++ r4 ++ ([.bool x_has] : List Value) ++ r9 ++ r11 ++ s26 ++ ([.slice a30 nt c30, .slice a31 ne c31] : List Value)).toArray 46 := by
        rw [hL2_2]
        exact box_mid (pre := ([.int .i64 x_kind, .int .i64 x_pos, .bool x_mu, .string ⟨x_name.toArray⟩] : List Value) ++ r4 ++ ([.bool x_has] : List Value) ++ r9) (mid := s11) (post := s26 ++ ([.slice a30 nt c30, .slice a31 ne c31] : List Value)) (new := r11) B_1 (by rw [hL1_2]) (by simp [bl_ty, bl_pl]) (by rw [bl_val, al_val])
      have bl_cond := RCo.out.len
      have ag_3 := agg_ok RCo.out.len RCo.out.one
      have hL1_3 : (([.int .i64 x_kind, .int .i64 x_pos, .bool x_mu, .string ⟨x_name.toArray⟩] : List Value) ++ r4 ++ ([.bool x_has] : List Value) ++ r9 ++ r11 ++ s26 ++ ([.slice a30 nt c30, .slice a31 ne c31] : List Value) : List Value) = (([.int .i64 x_kind, .int .i64 x_pos, .bool x_mu, .string ⟨x_name.toArray⟩] : List Value) ++ r4 ++ ([.bool x_has] : List Value) ++ r9 ++ r11) ++ (s26 ++ (([.slice a30 nt c30, .slice a31 ne c31] : List Value))) := by simp
      have hL2_3 : (([.int .i64 x_kind, .int .i64 x_pos, .bool x_mu, .string ⟨x_name.toArray⟩] : List Value) ++ r4 ++ ([.bool x_has] : List Value) ++ r9 ++ r11 ++ r26 ++ ([.slice a30 nt c30, .slice a31 ne c31] : List Value) : List Value) = (([.int .i64 x_kind, .int .i64 x_pos, .bool x_mu, .string ⟨x_name.toArray⟩] : List Value) ++ r4 ++ ([.bool x_has] : List Value) ++ r9 ++ r11) ++ (r26 ++ (([.slice a30 nt c30, .slice a31 ne c31] : List Value))) := by simp
      have m_3 := midFit_blk B_2 (o := 26) (n := 4) (by simp [bl_ty, bl_pl, bl_val, al_cond])
      have B_3 : Blk (midSet (midSet (midSet (midSet (v4) gx 4 r4.toArray) gx 9 r9.toArray) gx 11 r11.toArray) gx 26 r26.toArray) gx (([.int .i64 x_kind, .int .i64 x_pos, .bool x_mu, .string ⟨x_name.toArray⟩] : List Value) ++ r4 ++ ([.bool x_has] : List Value) ++ r9 ++ r11 ++ r26 ++ ([.slice a30 nt c30, .slice a31 ne c31] : List Value)).toArray 46 := by
        rw [hL2_3]
        exact box_mid (pre := ([.int .i64 x_kind, .int .i64 x_pos, .bool x_mu, .string ⟨x_name.toArray⟩] : List Value) ++ r4 ++ ([.bool x_has] : List Value) ++ r9 ++ r11) (mid := s26) (post := ([.slice a30 nt c30, .slice a31 ne c31] : List Value)) (new := r26) B_2 (by rw [hL1_3]) (by simp [bl_ty, bl_pl, bl_val]) (by rw [bl_cond, al_cond])
      have KS : ∀ T : Nat → Prop, T gx → Keeps T v4 (midSet (midSet (midSet (midSet (v4) gx 4 r4.toArray) gx 9 r9.toArray) gx 11 r11.toArray) gx 26 r26.toArray) := fun T hT => (midSet_keeps (midSet_keeps (midSet_keeps (midSet_keeps (Keeps.refl T v4) (g := gx) (fun _ => hT) _ _) (g := gx) (fun _ => hT) _ _) (g := gx) (fun _ => hT) _ _) (g := gx) (fun _ => hT) _ _)
      have KWf : Keeps Nothing wr (midSet (midSet (midSet (midSet (v4) gx 4 r4.toArray) gx 9 r9.toArray) gx 11 r11.toArray) gx 26 r26.toArray) := (kx1.trans kc4 (fun _ h _ => h)).trans (KS (fun b => b = gx) rfl) (fun b hb hlt => by have hb' : b = gx := hb; have := HGX.out; omega)
      have KM := KS (fun b => b < w1.heap.size) hgx
      have hszf : w1.heap.size ≤ (midSet (midSet (midSet (midSet (v4) gx 4 r4.toArray) gx 9 r9.toArray) gx 11 r11.toArray) gx 26 r26.toArray).heap.size := Nat.le_trans kc4.size KM.size
      have kq0 : Keeps Nothing v1 v4 := (((Keeps.refl Nothing v1).trans kk2 (fun _ h _ => h)).trans kk3 (fun _ h _ => h)).trans kk4 (fun _ h _ => h)
      have hq0 : w1.heap.size ≤ w1.drew.heap.size := Nat.le_trans (Nat.le_refl _) (Nat.le_refl _)
      have KN0 : Keeps (fun b => b < w1.drew.heap.size) v1 (midSet (midSet (midSet (midSet (v4) gx 4 r4.toArray) gx 9 r9.toArray) gx 11 r11.toArray) gx 26 r26.toArray) := (kq0.mono (S' := fun b => b < w1.drew.heap.size) (fun _ h _ => h.elim)).trans (KM.mono (S' := fun b => b < w1.drew.heap.size) (fun b hb _ => Nat.lt_of_lt_of_le hb hq0)) (fun _ h _ => h)
      have RTy := shut (tyOk.on RTy.out KN0 hq0)
      have kq1 : Keeps Nothing v2 v4 := ((Keeps.refl Nothing v2).trans kk3 (fun _ h _ => h)).trans kk4 (fun _ h _ => h)
      have hq1 : w1.heap.size ≤ v1.heap.size := Nat.le_trans (Nat.le_refl _) kc1.size
      have KN1 : Keeps (fun b => b < v1.heap.size) v2 (midSet (midSet (midSet (midSet (v4) gx 4 r4.toArray) gx 9 r9.toArray) gx 11 r11.toArray) gx 26 r26.toArray) := (kq1.mono (S' := fun b => b < v1.heap.size) (fun _ h _ => h.elim)).trans (KM.mono (S' := fun b => b < v1.heap.size) (fun b hb _ => Nat.lt_of_lt_of_le hb hq1)) (fun _ h _ => h)
      have RPl := shut (plOk.on RPl.out KN1 hq1)
      have kq2 : Keeps Nothing v3 v4 := (Keeps.refl Nothing v3).trans kk4 (fun _ h _ => h)
      have hq2 : w1.heap.size ≤ v2.heap.size := Nat.le_trans (Nat.le_refl _) kc2.size
      have KN2 : Keeps (fun b => b < v2.heap.size) v3 (midSet (midSet (midSet (midSet (v4) gx 4 r4.toArray) gx 9 r9.toArray) gx 11 r11.toArray) gx 26 r26.toArray) := (kq2.mono (S' := fun b => b < v2.heap.size) (fun _ h _ => h.elim)).trans (KM.mono (S' := fun b => b < v2.heap.size) (fun b hb _ => Nat.lt_of_lt_of_le hb hq2)) (fun _ h _ => h)
      have RVa := shut (valOk.on RVa.out KN2 hq2)
      have kq3 : Keeps Nothing v4 v4 := Keeps.refl Nothing v4
      have hq3 : w1.heap.size ≤ v3.heap.size := Nat.le_trans (Nat.le_refl _) kc3.size
      have KN3 : Keeps (fun b => b < v3.heap.size) v4 (midSet (midSet (midSet (midSet (v4) gx 4 r4.toArray) gx 9 r9.toArray) gx 11 r11.toArray) gx 26 r26.toArray) := (kq3.mono (S' := fun b => b < v3.heap.size) (fun _ h _ => h.elim)).trans (KM.mono (S' := fun b => b < v3.heap.size) (fun b hb _ => Nat.lt_of_lt_of_le hb hq3)) (fun _ h _ => h)
      have RCo := shut (oprOk.on RCo.out KN3 hq3)
      refine wpMixB_late (fun K hK => ?_)
      go_wp2_with fail
      refine wpMixB_late (fun K hK => ?_)
      go_wp2_with fail
      refine wpMixB_late (fun K hK => ?_)
      go_wp2_with fail
      refine wpMixB_late (fun K hK => ?_)
      go_wp2_with fail
      refine wpMixB_late (fun K hK => ?_)
      go_wp2_with fail
      refine wpMixB_late (fun K hK => ?_)
      go_wp2_with fail
      refine wpMixB_late (fun K hK => ?_)
      go_wp2_with fail
      refine wpMixB_nil ?_
      have BAf := B_3
      clear hL1_0 hL2_0 hL1_1 hL2_1 hL1_2 hL2_2 hL1_3 hL2_3 kq0 hq0 KN0 kk1 kc1 kq1 hq1 KN1 kk2 kc2 kq2 hq2 KN2 kk3 kc3 kq3 hq3 KN3 kk4 kc4 m_0 ag_0 m_1 ag_1 m_2 ag_2 m_3 ag_3 B_0 B_1 B_2 B_3 KS KM BA2 kdr hCs
      generalize midSet (midSet (midSet (midSet (v4) gx 4 r4.toArray) gx 9 r9.toArray) gx 11 r11.toArray) gx 26 r26.toArray = wq at *
      have hszq := hszf
      have kxa := KWf
      obtain ⟨C, hC⟩ : ∃ C, C = (([.int .i64 x_kind, .int .i64 x_pos, .bool x_mu, .string ⟨x_name.toArray⟩] : List Value) ++ r4 ++ ([.bool x_has] : List Value) ++ r9 ++ r11 ++ r26 ++ ([.slice a30 nt c30, .slice a31 ne c31] : List Value)).toArray := ⟨_, rfl⟩
      rw [← hC] at BAf
      have GC := shut hC
      have BA := BAf
      clear hC BAf KWf hszf BX GX
      go_upto_region 6 with fail
      have kdr : Keeps Nothing wq wq.drew := (Keeps.refl Nothing wq).drew
      refine wp_region_mixB (fun V => Keeps Nothing wq V) [(0, 0), (0, 1), (0, 3), (0, 4), (1, 2), (0, 6), (1, 5), (2, 7), (2, 8), (2, 9)] (by kernel_rfl) (by kernel_rfl) kdr ?_
      simp only [itemsB, List.map_cons, List.map_nil, List.getD_cons_zero, List.getD_cons_succ]
      refine wpMixB_free (fun K hK => ?_); go_simp; refine hK _ ?_; clear hK K
      refine wpMixB_yield (v := .slice a30 nt c30) (fun V hV => ?_) (fun K hK => ?_)
      · obtain ⟨-, -, -, -, -, -, -, -, -, e1, -⟩ := StB bl_ty bl_pl bl_val bl_cond GC.out (hV.blk BA (fun h => h))
        go_simp
      go_simp
      refine hK _ ?_
      clear hK K
      refine wpMixB_free (fun K hK => ?_); go_simp; refine hK _ ?_; clear hK K
      refine wpMixB_yield (v := .slice a31 ne c31) (fun V hV => ?_) (fun K hK => ?_)
      · obtain ⟨-, -, -, -, -, -, -, -, -, -, e1⟩ := StB bl_ty bl_pl bl_val bl_cond GC.out (hV.blk BA (fun h => h))
        go_simp
      go_simp
      refine hK _ ?_
      clear hK K
      have hc := HI1.out wq.drew a30 c30 (HTh.out.keeps (S' := S) (Q := StIs S wq.drew) (kxa.trans kdr (fun _ h _ => h)) (fun _ _ h => h) (fun _ h => h) (fun _ _ _ h => h.keeps (kxa.trans kdr (fun _ h _ => h)) (fun _ _ h => h) (fun _ h => h)))
      rw [HNT.out] at hc
      refine wpMixB_one (fun K hK => ?_)
      go_wp2_with fail
      refine hc.mono ?_
      rintro e v1 ⟨b30, d30, rfl, k2, hR⟩
      rw [HNT.out]
      have RTh := shut hR
      have kc1 := kdr.trans k2 (fun _ h _ => h)
      have kk1 := k2
      clear hc hR k2
      go_wp2_with fail
      refine hK _ _ kc1 ?_
      clear hK K
      refine wpMixB_free (fun K hK => ?_); go_simp; refine hK _ ?_; clear hK K
      have hc := HI2.out v1 a31 c31 (HEl.out.keeps (S' := S) (Q := StIs S v1) (kxa.trans kc1 (fun _ h _ => h)) (fun _ _ h => h) (fun _ h => h) (fun _ _ _ h => h.keeps (kxa.trans kc1 (fun _ h _ => h)) (fun _ _ h => h) (fun _ h => h)))
      rw [HNE.out] at hc
      refine wpMixB_one (fun K hK => ?_)
      go_wp2_with fail
      refine hc.mono ?_
      rintro e v2 ⟨b31, d31, rfl, k2, hR⟩
      rw [HNE.out]
      have REl := shut hR
      have kc2 := kc1.trans k2 (fun _ h _ => h)
      have kk2 := k2
      clear hc hR k2
      go_wp2_with fail
      refine hK _ _ kc2 ?_
      clear hK K
      have BA2 := kc2.blk BA (fun h => h)
      have hCs : C.size = 32 := by rw [GC.out]; simp [bl_ty, bl_pl, bl_val, bl_cond]
      have hL1_0 : (([.int .i64 x_kind, .int .i64 x_pos, .bool x_mu, .string ⟨x_name.toArray⟩] : List Value) ++ r4 ++ ([.bool x_has] : List Value) ++ r9 ++ r11 ++ r26 ++ ([.slice a30 nt c30, .slice a31 ne c31] : List Value) : List Value) = (([.int .i64 x_kind, .int .i64 x_pos, .bool x_mu, .string ⟨x_name.toArray⟩] : List Value) ++ r4 ++ ([.bool x_has] : List Value) ++ r9 ++ r11 ++ r26) ++ (.slice a30 nt c30 :: (([.slice a31 ne c31] : List Value))) := by simp
      have hL2_0 : (([.int .i64 x_kind, .int .i64 x_pos, .bool x_mu, .string ⟨x_name.toArray⟩] : List Value) ++ r4 ++ ([.bool x_has] : List Value) ++ r9 ++ r11 ++ r26 ++ ([.slice b30 nt d30, .slice a31 ne c31] : List Value) : List Value) = (([.int .i64 x_kind, .int .i64 x_pos, .bool x_mu, .string ⟨x_name.toArray⟩] : List Value) ++ r4 ++ ([.bool x_has] : List Value) ++ r9 ++ r11 ++ r26) ++ (.slice b30 nt d30 :: (([.slice a31 ne c31] : List Value))) := by simp
      obtain ⟨-, -, -, -, -, -, -, -, -, s_0, -⟩ := StB bl_ty bl_pl bl_val bl_cond GC.out BA2
      have f_0 := blk_free BA2 30
      have B_0 : Blk ((v2).setCell ⟨gx, 30, none⟩ (.slice b30 nt d30)) gx (([.int .i64 x_kind, .int .i64 x_pos, .bool x_mu, .string ⟨x_name.toArray⟩] : List Value) ++ r4 ++ ([.bool x_has] : List Value) ++ r9 ++ r11 ++ r26 ++ ([.slice b30 nt d30, .slice a31 ne c31] : List Value)).toArray 46 := by
        rw [hL2_0]
        exact box_set (pre := ([.int .i64 x_kind, .int .i64 x_pos, .bool x_mu, .string ⟨x_name.toArray⟩] : List Value) ++ r4 ++ ([.bool x_has] : List Value) ++ r9 ++ r11 ++ r26) (post := ([.slice a31 ne c31] : List Value)) (v := .slice a30 nt c30) (u := .slice b30 nt d30) BA2 (by rw [GC.out, hL1_0]) (by simp [bl_ty, bl_pl, bl_val, bl_cond])
      have hL1_1 : (([.int .i64 x_kind, .int .i64 x_pos, .bool x_mu, .string ⟨x_name.toArray⟩] : List Value) ++ r4 ++ ([.bool x_has] : List Value) ++ r9 ++ r11 ++ r26 ++ ([.slice b30 nt d30, .slice a31 ne c31] : List Value) : List Value) = (([.int .i64 x_kind, .int .i64 x_pos, .bool x_mu, .string ⟨x_name.toArray⟩] : List Value) ++ r4 ++ ([.bool x_has] : List Value) ++ r9 ++ r11 ++ r26 ++ ([.slice b30 nt d30] : List Value)) ++ (.slice a31 ne c31 :: (([] : List Value))) := by simp
      have hL2_1 : (([.int .i64 x_kind, .int .i64 x_pos, .bool x_mu, .string ⟨x_name.toArray⟩] : List Value) ++ r4 ++ ([.bool x_has] : List Value) ++ r9 ++ r11 ++ r26 ++ ([.slice b30 nt d30, .slice b31 ne d31] : List Value) : List Value) = (([.int .i64 x_kind, .int .i64 x_pos, .bool x_mu, .string ⟨x_name.toArray⟩] : List Value) ++ r4 ++ ([.bool x_has] : List Value) ++ r9 ++ r11 ++ r26 ++ ([.slice b30 nt d30] : List Value)) ++ (.slice b31 ne d31 :: (([] : List Value))) := by simp
      obtain ⟨-, -, -, -, -, -, -, -, -, -, s_1⟩ := StB bl_ty bl_pl bl_val bl_cond rfl B_0
      have f_1 := blk_free B_0 31
      have B_1 : Blk (((v2).setCell ⟨gx, 30, none⟩ (.slice b30 nt d30)).setCell ⟨gx, 31, none⟩ (.slice b31 ne d31)) gx (([.int .i64 x_kind, .int .i64 x_pos, .bool x_mu, .string ⟨x_name.toArray⟩] : List Value) ++ r4 ++ ([.bool x_has] : List Value) ++ r9 ++ r11 ++ r26 ++ ([.slice b30 nt d30, .slice b31 ne d31] : List Value)).toArray 46 := by
        rw [hL2_1]
        exact box_set (pre := ([.int .i64 x_kind, .int .i64 x_pos, .bool x_mu, .string ⟨x_name.toArray⟩] : List Value) ++ r4 ++ ([.bool x_has] : List Value) ++ r9 ++ r11 ++ r26 ++ ([.slice b30 nt d30] : List Value)) (post := ([] : List Value)) (v := .slice a31 ne c31) (u := .slice b31 ne d31) B_0 (by rw [hL1_1]) (by simp [bl_ty, bl_pl, bl_val, bl_cond])
      have KS : ∀ T : Nat → Prop, T gx → Keeps T v2 (((v2).setCell ⟨gx, 30, none⟩ (.slice b30 nt d30)).setCell ⟨gx, 31, none⟩ (.slice b31 ne d31)) := fun T hT => (((Keeps.refl T v2).setCell (p := ⟨gx, 30, none⟩) (fun _ => hT) _).setCell (p := ⟨gx, 31, none⟩) (fun _ => hT) _)
      have KWf : Keeps Nothing wr (((v2).setCell ⟨gx, 30, none⟩ (.slice b30 nt d30)).setCell ⟨gx, 31, none⟩ (.slice b31 ne d31)) := (kxa.trans kc2 (fun _ h _ => h)).trans (KS (fun b => b = gx) rfl) (fun b hb hlt => by have hb' : b = gx := hb; have := HGX.out; omega)
      have KM := KS (fun b => b < w1.heap.size) hgx
      have hszf : wq.heap.size ≤ (((v2).setCell ⟨gx, 30, none⟩ (.slice b30 nt d30)).setCell ⟨gx, 31, none⟩ (.slice b31 ne d31)).heap.size := Nat.le_trans kc2.size KM.size
      have KK : Keeps (fun b => b < w1.heap.size) wq (((v2).setCell ⟨gx, 30, none⟩ (.slice b30 nt d30)).setCell ⟨gx, 31, none⟩ (.slice b31 ne d31)) := (kc2.mono (S' := fun b => b < w1.heap.size) (fun _ h _ => h.elim)).trans KM (fun _ h _ => h)
      have RTy := shut (tyOk.on RTy.out KK (Nat.le_refl w1.heap.size))
      have RPl := shut (plOk.on RPl.out KK (Nat.le_refl w1.heap.size))
      have RVa := shut (valOk.on RVa.out KK (Nat.le_refl w1.heap.size))
      have RCo := shut (oprOk.on RCo.out KK (Nat.le_refl w1.heap.size))
      have kq0 : Keeps Nothing v1 v2 := (Keeps.refl Nothing v1).trans kk2 (fun _ h _ => h)
      have hq0 : w1.heap.size ≤ wq.drew.heap.size := Nat.le_trans hszq (Nat.le_refl _)
      have KN0 : Keeps (fun b => b < wq.drew.heap.size) v1 (((v2).setCell ⟨gx, 30, none⟩ (.slice b30 nt d30)).setCell ⟨gx, 31, none⟩ (.slice b31 ne d31)) := (kq0.mono (S' := fun b => b < wq.drew.heap.size) (fun _ h _ => h.elim)).trans (KM.mono (S' := fun b => b < wq.drew.heap.size) (fun b hb _ => Nat.lt_of_lt_of_le hb hq0)) (fun _ h _ => h)
      have RTh := shut (sl2_on RTh.out KN0 hq0)
      have kq1 : Keeps Nothing v2 v2 := Keeps.refl Nothing v2
      have hq1 : w1.heap.size ≤ v1.heap.size := Nat.le_trans hszq kc1.size
      have KN1 : Keeps (fun b => b < v1.heap.size) v2 (((v2).setCell ⟨gx, 30, none⟩ (.slice b30 nt d30)).setCell ⟨gx, 31, none⟩ (.slice b31 ne d31)) := (kq1.mono (S' := fun b => b < v1.heap.size) (fun _ h _ => h.elim)).trans (KM.mono (S' := fun b => b < v1.heap.size) (fun b hb _ => Nat.lt_of_lt_of_le hb hq1)) (fun _ h _ => h)
      have REl := shut (sl2_on REl.out KN1 hq1)
      refine wpMixB_late (fun K hK => ?_)
      go_wp2_with fail
      any_goals try (rename_i hfz; simp [f_0] at hfz; done)
      refine wpMixB_late (fun K hK => ?_)
      go_wp2_with fail
      refine wpMixB_late (fun K hK => ?_)
      go_wp2_with fail
      any_goals try (rename_i hfz; simp [f_1] at hfz; done)
      refine wpMixB_nil ?_
      have BAf := B_1
      clear hL1_0 hL2_0 hL1_1 hL2_1 kq0 hq0 KN0 kk1 kc1 kq1 hq1 KN1 kk2 kc2 s_0 f_0 s_1 f_1 B_0 B_1 KS KM BA2 kdr hCs KK
      generalize ((v2).setCell ⟨gx, 30, none⟩ (.slice b30 nt d30)).setCell ⟨gx, 31, none⟩ (.slice b31 ne d31) = w2 at *
      have hw12 : w1.heap.size ≤ w2.heap.size := Nat.le_trans hszq hszf
      have kx := KWf
      have hN : St2 (NewA w1.heap.size w2) w2 (StD.mk x_kind x_pos x_mu x_name x_ty x_has x_place x_val x_cond x_thn x_els) (([.int .i64 x_kind, .int .i64 x_pos, .bool x_mu, .string ⟨x_name.toArray⟩] : List Value) ++ r4 ++ ([.bool x_has] : List Value) ++ r9 ++ r11 ++ r26 ++ ([.slice b30 nt d30, .slice b31 ne d31] : List Value)) := by
        rw [st2_iff]
        exact ⟨r4, r9, r11, r26, b30, d30, b31, d31, by simp only [StD.kind, StD.pos, StD.mu, StD.name, StD.has, StD.thn, StD.els, HNT.out, HNE.out]; rfl, HXN.out, tyOk.off RTy.out, plOk.off RPl.out, valOk.off RVa.out, oprOk.off RCo.out, RTh.out, REl.out⟩
      obtain ⟨cs2, hcs2⟩ : ∃ cs2, (([.int .i64 x_kind, .int .i64 x_pos, .bool x_mu, .string ⟨x_name.toArray⟩] : List Value) ++ r4 ++ ([.bool x_has] : List Value) ++ r9 ++ r11 ++ r26 ++ ([.slice b30 nt d30, .slice b31 ne d31] : List Value)) = cs2 := ⟨_, rfl⟩
      rw [hcs2] at hN BAf
      have HN := shut hN
      have hlc := hN.len
      obtain ⟨Cy, hCy⟩ : ∃ Cy, Cy = cs2.toArray := ⟨_, rfl⟩
      rw [← hCy] at BAf
      have hsy : Cy.size = 32 := by rw [hCy]; simpa using hlc
      have GCy := shut hCy
      have agy : aggOk 32 (.agg Cy) = true := by rw [hCy]; exact agg_ok hN.len hN.one
      clear hN hcs2 hCy GC BA KWf hszf hszq kxa RTy RPl RVa RCo RTh REl
      go_upto_region 7 with fail
      obtain ⟨z1, z2⟩ := tblk_mid BAf hsy
      have BB := blk_new w2 (Cy) 46
      have kb : Keeps Nothing w2 (w2.alloc (.cells (Cy) 46)) := (Keeps.refl Nothing w2).alloc _
      have kx3 := kx.trans kb (fun _ h _ => h)
      have hW0 : w.heap.size ≤ w1.heap.size := Nat.le_trans KL.size hw01
      clear kx
      have HO3 := shut (HO.out.keepsN (newA_ok _) st2Ok kx3)
      have hlao : ∀ g, blockOf ao = some g → g < wr.heap.size := fun g hg => HO.out.lt hg
      have hel : St2 (InB (NewA w.heap.size) (w2.alloc (.cells (Cy) 46)) ao) (w2.alloc (.cells (Cy) 46)) (StD.mk x_kind x_pos x_mu x_name x_ty x_has x_place x_val x_cond x_thn x_els) cs2 := st2Ok.keep _ _ _ _ _ _ _ HN.out kb (fun _ _ h => h) (fun b hb => ⟨(newA_ok _).keep Nothing w2 (w2.alloc (.cells (Cy) 46)) b kb (fun h => h) ⟨Nat.le_trans hW0 hb.1, hb.2⟩, fun q => by have := hlao b q; have := hb.1; omega⟩)
      have HEL := shut hel
      have hlt3 : w.heap.size ≤ (w2.alloc (.cells (Cy) 46)).heap.size := Nat.le_trans (Nat.le_trans hW0 hw12) kb.size
      have htl : Shut ((l.take t).length = t) := shut (by rw [List.length_take, HLN.out]; omega)
      have htb : t ≤ 1000000000 := by omega
      have HNEW := shut HO.out.new
      have HBB := shut BB
      have KX3 : Keeps (fun b => w.heap.size ≤ b) w (w2.alloc (.cells (Cy) 46)) := KL.trans kx3 (fun _ h _ => h.elim)
      clear hel BB KL HO kx3 kb HN
      go_wp2_with (at_builtin; rw [fillN (n := 32) rfl hsy]; refine wpList_appD _ rfl (.tmp 36) (.tmp 38) 34 rfl Try.underlying34 iaSt (by decide) (newA_ok _) st2Ok t htl.out rfl HO3.out hlt3 _ _ cs2 (StD.mk x_kind x_pos x_mu x_name x_ty x_has x_place x_val x_cond x_thn x_els) GCy.out rfl HBB.out HEL.out htb ?_)
      intro a4 c4 w4 O4 k4 m4
      have HO4 : Shut (OutR (NewA w.heap.size) 46 32 St2 w.heap.size w4 a4 c4 (l.take (t + 1))) := shut (by rw [List.take_add_one, HX.out]; exact O4)
      have KL4 := KX3.trans k4 (fun g hg _ => HNEW.out g hg)
      clear O4 k4 m4 KX3 HO3 HEL HBB HNEW
      go_wp2_with fail
      go_roundw
      case rel => exact ⟨t + 1, a4, c4, by go_num, rfl, by omega, KL4, HO4⟩
      case measure => (simp [intOf]; try omega)
    obtain rfl : t = n := by omega
    have m1 : ¬ (t : Int) < t := by omega
    have HO1 : Shut (OutR (NewA w.heap.size) 46 32 St2 w.heap.size wr ao cap l) := shut (by have := HO.out; rwa [List.take_of_length_le (Nat.le_of_eq HLN.out)] at this)
    clear HO
    have hfin : CS w l (.returned (.slice ao t cap)) wr := ⟨ao, cap, by rw [HLN.out], keepsHi KL, HO1.out.sl2 (fun _ h => h) (fun g hg => ⟨HO1.out.new g hg, HO1.out.lt hg⟩) (by rw [HLN.out]; unfold bigN; omega)⟩
    have HF := shut hfin
    clear hfin HO1 HL
    go_wp2_with fail
    go_ret
    exact HF.out


/-- clone.Stmts copies. -/
theorem cstmts_any (l : List StD) : StmtsC l := by
  have key : ∀ d : StD, StmtsC d.thn ∧ StmtsC d.els := by
    intro d
    refine StD.ind (P := fun d => StmtsC d.thn ∧ StmtsC d.els) ?_ d
    intro x_kind x_pos x_mu x_name x_ty x_has x_place x_val x_cond x_thn x_els h1 h2
    exact ⟨fun w ar c h => cstmts_of h1 w ar c h, fun w ar c h => cstmts_of h2 w ar c h⟩
  intro S w ar c h
  exact cstmts_of (fun e _ => key e) w ar c h

end Go.Proofs.Ytjbcagbnagefcaa

namespace Go.Proofs.Ytjbcagbnagefcaa
open Go.RowKit

attribute [local irreducible] wpMix wpMixB wpList
attribute [local go_sem ↓] exec_mid_ty exec_store_ty exec_mid_pl exec_store_pl exec_mid_opr exec_store_opr exec_mid_val exec_store_val exec_mid_st exec_store_st exec_mid_fld exec_store_fld exec_mid_str exec_store_str exec_mid_lif exec_store_lif exec_mid_fun exec_store_fun exec_mid_cr exec_store_cr
attribute [local go_sem ↓] exec_into_pl exec_into_opr exec_into_ty exec_into_val
attribute [local go_sem] rowOk_new World.setRow_alloc_new

/-- A function whose parts are new since N, its statements apart. -/
def Fun2 (N : Nat) (w : World) (d : FunD) (cs : List Value) : Prop := ∃ (a2 : Option Addr) (c2 : Nat) (a3 : Option Addr) (c3 : Nat) (s4 : List Value) (a8 : Option Addr) (c8 : Nat), cs = [.bool d.pub, txV d.name, .slice a2 (d.lives).length c2, .slice a3 (d.params).length c3] ++ s4 ++ [.slice a8 (d.body).length c8, .int .i64 d.pos] ∧ (d.name).length ≤ bigN ∧ SlIs (NewB N w) w 2 (LifIs (NewB N w) w) a2 (d.lives) ∧ SlIs (NewB N w) w 6 (FldIs (NewB N w) w) a3 (d.params) ∧ TyIs (NewB N w) w (d.result) s4 ∧ Sl2 (NewA N w) w a8 (d.body) ∧ ∀ g, blockOf a3 = some g → N ≤ g ∧ fldB w g
theorem newB_A {N : Nat} {w : World} : ∀ b, NewB N w b → NewA N w b := fun _ h => ⟨h.1, h.2.1⟩
theorem Fun2.f {N : Nat} {w : World} {d : FunD} {cs : List Value} (h : Fun2 N w d cs) : FunIs (NewA N w) w d cs := by
  obtain ⟨a2, c2, a3, c3, s4, a8, c8, hcs, h0, h1, h2, h3, h4, -⟩ := h
  have K : Keeps Nothing w w := Keeps.refl _ _
  exact ⟨a2, c2, a3, c3, s4, a8, c8, hcs, h0, h1.keeps K (fun _ _ h => h) newB_A (fun _ _ _ h => h.keeps K (fun _ _ h => h) newB_A), h2.keeps K (fun _ _ h => h) newB_A (fun _ _ _ h => h.keeps K (fun _ _ h => h) newB_A), h3.keeps K (fun _ _ h => h) newB_A, h4.sl⟩
theorem Fun2.one {N : Nat} {w : World} {d : FunD} {cs : List Value} (h : Fun2 N w d cs) : ∀ u ∈ cs, u.oneCell' = true := h.f.one
def CFun (w : World) (d : FunD) (e : Ending) (w' : World) : Prop := ∃ cs : List Value, e = .returned (.agg cs.toArray) ∧ Keeps Nothing w w' ∧ Fun2 w.heap.size w' d cs

set_option maxRecDepth 100000 in
set_option linter.unusedSimpArgs false in
set_option maxHeartbeats 8000000 in
theorem cfunc_any {S : Nat → Prop} (d : FunD) (w : World) (cs : List Value) (h : FunIs S w d cs) : Calls Try.prog 28 #[.agg cs.toArray] w (CFun w d) := by
  have ag1 := agg_ok h.len h.one
  obtain ⟨f_pub, f_name, f_lives, f_params, f_result, f_body, f_pos⟩ := d
  obtain ⟨a2, c2, a3, c3, s4, a8, c8, hcs, hn, h2, h3, h4, h8⟩ := h
  simp only at hcs hn h2 h3 h4 h8
  unfold txV at hcs
  obtain ⟨n, hln⟩ : ∃ n, f_lives.length = n := ⟨_, rfl⟩
  obtain ⟨np, hnp⟩ : ∃ np, f_params.length = np := ⟨_, rfl⟩
  obtain ⟨nb, hnb'⟩ : ∃ nb, f_body.length = nb := ⟨_, rfl⟩
  rw [hln, hnp, hnb'] at hcs
  have HLN := shut hln
  have HLP := shut hnp
  have HLB := shut hnb'
  have HNA := shut hn
  have HL := shut h2
  have HL3 := shut h3
  have HTy := shut h4
  have HL8 := shut h8
  have al_ty := h4.len
  have hnb : n ≤ 100000000 := by have := h2.1; unfold bigN at this; omega
  obtain ⟨C, hC⟩ : ∃ C, C = cs.toArray := ⟨_, rfl⟩
  rw [← hC] at ag1 ⊢
  rw [hcs] at hC
  have GC := shut hC
  clear hC hcs hln hnp hnb' hn h2 h3 h4 h8
  have BA := blk_alloc (blk_new w C 36) (.cells #[.bool false, .string ⟨#[]⟩, .slice none 0 0, .slice none 0 0, .int .i64 0, .string ⟨#[]⟩, .slice none 0 0, .slice none 0 0, .slice none 0 0, .int .i64 0] 36)
  have BR := blk_new (w.alloc (.cells C 36)) #[.bool false, .string ⟨#[]⟩, .slice none 0 0, .slice none 0 0, .int .i64 0, .string ⟨#[]⟩, .slice none 0 0, .slice none 0 0, .slice none 0 0, .int .i64 0] 36
  have KW : Keeps Nothing w ((w.alloc (.cells C 36)).alloc (.cells #[.bool false, .string ⟨#[]⟩, .slice none 0 0, .slice none 0 0, .int .i64 0, .string ⟨#[]⟩, .slice none 0 0, .slice none 0 0, .slice none 0 0, .int .i64 0] 36)) := ((Keeps.refl Nothing w).alloc _).alloc _
  have HM0 : ((w.alloc (.cells C 36)).alloc (.cells #[.bool false, .string ⟨#[]⟩, .slice none 0 0, .slice none 0 0, .int .i64 0, .string ⟨#[]⟩, .slice none 0 0, .slice none 0 0, .slice none 0 0, .int .i64 0] 36)).heap.size = w.heap.size + 1 + 1 := by rw [World.size_alloc, World.size_alloc]
  rw [World.size_alloc] at BR
  go_enter Try.func28, Try.ntmps28
  go_upto_region 1 with fail
  generalize (w.alloc (.cells C 36)).alloc (.cells #[.bool false, .string ⟨#[]⟩, .slice none 0 0, .slice none 0 0, .int .i64 0, .string ⟨#[]⟩, .slice none 0 0, .slice none 0 0, .slice none 0 0, .int .i64 0] 36) = w0 at *
  have HGA : Shut (w.heap.size ≤ w.heap.size) := shut (Nat.le_refl _)
  have HGR : Shut (w.heap.size ≤ w.heap.size + 1) := shut (Nat.le_succ _)
  have hne : w.heap.size ≠ w.heap.size + 1 := by omega
  have hgaM : w.heap.size < w.heap.size + 1 + 1 := by omega
  have hgrM : w.heap.size + 1 < w.heap.size + 1 + 1 := by omega
  have hMb : w.heap.size + 1 + 1 ≤ w0.heap.size := Nat.le_of_eq HM0.symm
  have HNM : Shut (w.heap.size ≤ w.heap.size + 1 + 1) := shut (by omega)
  clear HM0 ag1
  obtain ⟨ga, hga⟩ : ∃ ga, w.heap.size = ga := ⟨_, rfl⟩
  obtain ⟨gr, hgr⟩ : ∃ gr, w.heap.size + 1 = gr := ⟨_, rfl⟩
  obtain ⟨M, hM⟩ : ∃ M, w.heap.size + 1 + 1 = M := ⟨_, rfl⟩
  rw [hM] at hgaM hgrM hMb HNM
  rw [hgr] at BR hne hgrM HGR ⊢
  have HGA2 : Shut (w.heap.size ≤ ga) := shut (Nat.le_of_eq hga)
  clear HGA
  have HGA := HGA2
  clear HGA2 hM hgr
  rw [hga] at BA hne hgaM ⊢
  clear hga
  obtain ⟨-, -, e7, -, -, -, -⟩ := FunB al_ty GC.out BA
  go_wp2_with fail
  go_loopw [3, 9] (fun s3 s9 wx => ∃ (t : Nat) (ao : Option Addr) (cap : Nat), s9 = .int .i64 t ∧ s3 = .slice ao t cap ∧ t ≤ n ∧ Keeps (fun b => w0.heap.size ≤ b) w0 wx ∧ Shut (OutR (NewB w0.heap.size) 75 2 LifIs w0.heap.size wx ao cap (f_lives.take t))) (fun _ s9 _ => n - (intOf s9).toNat)
  case atStart => exact ⟨0, none, 0, rfl, rfl, Nat.zero_le _, Keeps.refl _ _, shut (by rw [List.take_zero]; exact outR_nil _ _ _ _ _ _)⟩
  case round =>
    obtain ⟨t, ao, cap, rfl, rfl, ht, KL, HO⟩ := hrel
    by_cases hlt : t < n
    · obtain ⟨x, hx⟩ : ∃ x, f_lives[t]? = some x := ⟨_, List.getElem?_eq_getElem (by rw [HLN.out]; exact hlt)⟩
      have KWr := KW.trans (keepsHi KL) (fun _ h _ => h)
      obtain ⟨g1, o1, rfl, -, cs, l1, r1, i1⟩ := (HL.out.keeps (S' := S) (Q := LifIs S wr) KWr (fun _ _ h => h) (fun _ h => h) (fun _ _ _ h => h.keeps KWr (fun _ _ h => h) (fun _ h => h))).get hx
      have HX := shut hx
      have hxm := List.mem_of_getElem? hx
      clear hx
      have m0 : (0 : Int) ≤ t := by omega
      have m1 : (t : Int) < n := by omega
      have hk := midOk_range r1
      have ho := midOf_range r1
      rw [l1] at hk ho
      have ag2 := agg_ok l1 i1.one
      obtain ⟨x_name, x_over⟩ := x
      obtain ⟨a1, c1, hcs, hxn, hxo⟩ := i1
      simp only at hcs hxn hxo
      unfold txV at hcs
      obtain ⟨no, hno⟩ : ∃ no, x_over.length = no := ⟨_, rfl⟩
      rw [hno] at hcs
      have HNO := shut hno
      have HXN := shut hxn
      have HXO := shut hxo
      have kx1 : Keeps Nothing wr (wr.alloc (.cells cs.toArray 75)) := (Keeps.refl Nothing wr).alloc _
      have BX := blk_new wr cs.toArray 75
      have hw01 : wr.heap.size ≤ (wr.alloc (.cells cs.toArray 75)).heap.size := kx1.size
      obtain ⟨Cx, hCx⟩ : ∃ Cx, cs.toArray = Cx := ⟨_, rfl⟩
      have GX : Shut (Cx = #[.string ⟨x_name.toArray⟩, .slice a1 no c1]) := shut (by rw [← hCx, hcs])
      rw [hCx] at BX kx1 ho ag2 hw01
      clear hCx hcs hxn hxo hno r1 l1
      go_upto_region 5 with fail
      clear hk ho ag2
      generalize wr.alloc (.cells Cx 75) = w1 at *
      have hgx := lt_of_block BX
      obtain ⟨gx, hgx0⟩ : ∃ gx, wr.heap.size = gx := ⟨_, rfl⟩
      have HGX : Shut (wr.heap.size ≤ gx) := shut (Nat.le_of_eq hgx0)
      rw [hgx0] at BX hgx ⊢
      clear hgx0
      have hcell : ∀ V, Keeps Nothing w1 V → V.cell? ⟨gx, 0, none⟩ = some (.string ⟨x_name.toArray⟩) ∧ V.cell? ⟨gx, 1, none⟩ = some (.slice a1 no c1) := fun V hV => ⟨blk_cell (hV.blk BX (fun h => h)) 0 (by rw [GX.out]; rfl), blk_cell (hV.blk BX (fun h => h)) 1 (by rw [GX.out]; rfl)⟩
      have HCE := shut hcell
      clear hcell
      have kdr : Keeps Nothing w1 w1.drew := (Keeps.refl Nothing w1).drew
      refine wp_region_mix (fun V => V.cell? ⟨gx, 0, none⟩ = some (.string ⟨x_name.toArray⟩) ∧ V.cell? ⟨gx, 1, none⟩ = some (.slice a1 no c1)) [(true, 0), (true, 1), (true, 2), (true, 3), (true, 4), (false, 5), (true, 6), (false, 7), (false, 8), (true, 9)] (by kernel_rfl) (by kernel_rfl) (HCE.out _ kdr) ?_
      simp only [mixItems, List.map_cons, List.map_nil, List.getD_cons_zero, List.getD_cons_succ]
      refine wpMix_free (fun K hK => ?_); go_simp; refine hK _ ?_; clear hK K
      refine wpMix_free (fun K hK => ?_); go_simp; refine hK _ ?_; clear hK K
      refine wpMix_yield (v := .string ⟨x_name.toArray⟩) (fun V hV => ?_) (fun K hK => ?_)
      · have hV1 := hV.1
        go_simp
      go_simp
      refine hK _ ?_
      clear hK K
      refine wpMix_free (fun K hK => ?_); go_simp; refine hK _ ?_; clear hK K
      refine wpMix_yield (v := .slice a1 no c1) (fun V hV => ?_) (fun K hK => ?_)
      · have hV1 := hV.2
        go_simp
      go_simp
      refine hK _ ?_
      clear hK K
      have hc := ctexts_any x_over w1.drew c1 (HXO.out.keeps (kx1.trans kdr (fun _ h _ => h)) (fun _ _ h => h) (fun _ h => h) (fun _ _ _ h => h))
      rw [HNO.out] at hc
      refine wpMix_one (fun K hK => ?_)
      go_wp2_with fail
      refine hc.mono ?_
      rintro e w2 ⟨b1, d1, rfl, k2, hR⟩
      rw [HNO.out]
      have k12 := kdr.trans k2 (fun _ h _ => h)
      have hN : LifIs (NewB w1.heap.size w2) w2 ⟨x_name, x_over⟩ ([.string ⟨x_name.toArray⟩, .slice b1 no d1] : List Value) := ⟨b1, d1, by simp only [HNO.out]; rfl, HXN.out, hR⟩
      have HN := shut hN
      clear hc hR hN
      go_wp2_with fail
      refine hK _ _ (HCE.out _ k12) ?_
      clear hK K
      refine wpMix_free (fun K hK => ?_); go_simp; refine hK _ ?_; clear hK K
      have kx := kx1.trans k12 (fun _ h _ => h)
      have hw12 := k12.size
      have BB := blk_new w2 (#[.string ⟨x_name.toArray⟩, .slice b1 no d1]) 75
      have kb : Keeps Nothing w2 (w2.alloc (.cells (#[.string ⟨x_name.toArray⟩, .slice b1 no d1]) 75)) := (Keeps.refl Nothing w2).alloc _
      have kx3 := kx.trans kb (fun _ h _ => h)
      have hW0 : w0.heap.size ≤ w1.heap.size := Nat.le_trans KL.size hw01
      clear kx
      have HO3 := shut (HO.out.keepsN (newB_ok _) lifOk kx3)
      have hlao : ∀ g, blockOf ao = some g → g < wr.heap.size := fun g hg => HO.out.lt hg
      have hel : LifIs (InB (NewB w0.heap.size) (w2.alloc (.cells (#[.string ⟨x_name.toArray⟩, .slice b1 no d1]) 75)) ao) (w2.alloc (.cells (#[.string ⟨x_name.toArray⟩, .slice b1 no d1]) 75)) ⟨x_name, x_over⟩ ([.string ⟨x_name.toArray⟩, .slice b1 no d1] : List Value) := lifOk.keep _ _ _ _ _ _ _ HN.out kb (fun _ _ h => h) (fun b hb => ⟨(newB_ok _).keep Nothing w2 (w2.alloc (.cells (#[.string ⟨x_name.toArray⟩, .slice b1 no d1]) 75)) b kb (fun h => h) ⟨Nat.le_trans hW0 hb.1, hb.2⟩, fun q => by have := hlao b q; have := hb.1; omega⟩)
      have HEL := shut hel
      have hlt3 : w0.heap.size ≤ (w2.alloc (.cells (#[.string ⟨x_name.toArray⟩, .slice b1 no d1]) 75)).heap.size := Nat.le_trans (Nat.le_trans hW0 hw12) kb.size
      have htl : Shut ((f_lives.take t).length = t) := shut (by rw [List.length_take, HLN.out]; omega)
      have htb : t ≤ 1000000000 := by omega
      have HNEW := shut HO.out.new
      have HBB := shut BB
      have KX3 : Keeps (fun b => w0.heap.size ≤ b) w0 (w2.alloc (.cells (#[.string ⟨x_name.toArray⟩, .slice b1 no d1]) 75)) := KL.trans kx3 (fun _ h _ => h.elim)
      clear hel BB KL HO kx3 kb HN
      have S3 := HCE.out _ (k12.trans ((Keeps.refl Nothing w2).alloc (.cells #[.string ⟨x_name.toArray⟩, .slice b1 no d1] 75)) (fun _ h _ => h))
      refine wpMix_one (fun K hK => ?_)
      go_wp2_with fail
      refine hK _ _ S3 ?_
      clear hK K
      refine wpMix_one (fun K hK => ?_)
      go_wp2_with (at_builtin; refine wpList_appD _ rfl (.tmp 13) (.tmp 20) 28 rfl Try.underlying28 iaLif (by decide) (newB_ok _) lifOk t htl.out rfl HO3.out hlt3 _ _ ([.string ⟨x_name.toArray⟩, .slice b1 no d1] : List Value) ⟨x_name, x_over⟩ rfl rfl HBB.out HEL.out htb ?_)
      intro a4 c4 w4 O4 k4 m4
      have HO4 : Shut (OutR (NewB w0.heap.size) 75 2 LifIs w0.heap.size w4 a4 c4 (f_lives.take (t + 1))) := shut (by rw [List.take_add_one, HX.out]; exact O4)
      have KL4 := KX3.trans k4 (fun g hg _ => HNEW.out g hg)
      have S4 : w4.cell? ⟨gx, 0, none⟩ = some (.string ⟨x_name.toArray⟩) ∧ w4.cell? ⟨gx, 1, none⟩ = some (.slice a1 no c1) := ⟨k4.cell S3.1 (fun q => by have h9 : gx < wr.heap.size := hlao gx q; have := HGX.out; omega), k4.cell S3.2 (fun q => by have h9 : gx < wr.heap.size := hlao gx q; have := HGX.out; omega)⟩
      clear O4 k4 m4 KX3 HO3 HEL HBB HNEW S3
      go_wp2_with fail
      refine hK _ _ S4 ?_
      clear hK K
      repeat (refine wpMix_free (fun K hK => ?_); go_simp; refine hK _ ?_; clear hK K)
      refine wpMix_nil ?_
      go_wp2_with fail
      go_roundw
      case rel => exact ⟨t + 1, a4, c4, by go_num, rfl, by omega, KL4, HO4⟩
      case measure => (simp [intOf]; try omega)
    obtain rfl : t = n := by omega
    have m1 : ¬ (t : Int) < t := by omega
    have HO1 : Shut (OutR (NewB w0.heap.size) 75 2 LifIs w0.heap.size wr ao cap f_lives) := shut (by have := HO.out; rwa [List.take_of_length_le (Nat.le_of_eq HLN.out)] at this)
    clear HO
    have kl := keepsHi KL
    have BA := kl.blk BA (fun h => h)
    have BR := kl.blk BR (fun h => h)
    have KW := KW.trans kl (fun _ h _ => h)
    have RLi : Shut (SlIs (NewB M wr) wr 2 (LifIs (NewB M wr) wr) ao f_lives) := shut (outR_new HO1.out lifOk (by decide) hMb (by rw [HLN.out]; unfold bigN; omega))
    have hMb1 : M ≤ wr.heap.size := Nat.le_trans hMb KL.size
    clear HO1 KL kl hMb
    have hMb := hMb1
    clear hMb1
    obtain ⟨w2, rfl⟩ : ∃ w2, w2 = wr := ⟨_, rfl⟩
    have k2 : Keeps Nothing w2 w2 := Keeps.refl _ _
    have BA2 := BA
    have BR2 := BR
    obtain ⟨-, -, e1, -, -, -, -⟩ := FunB al_ty GC.out BA2
    have f1 := blk_free BA2 2
    have hL1 : (([.bool f_pub, .string ⟨f_name.toArray⟩, .slice a2 t c2, .slice a3 np c3] : List Value) ++ s4 ++ ([.slice a8 nb c8, .int .i64 f_pos] : List Value) : List Value) = (([.bool f_pub, .string ⟨f_name.toArray⟩] : List Value)) ++ (.slice a2 t c2 :: (([.slice a3 np c3] : List Value) ++ s4 ++ ([.slice a8 nb c8, .int .i64 f_pos] : List Value))) := by simp
    have hL2 : (([.bool f_pub, .string ⟨f_name.toArray⟩, .slice ao t cap, .slice a3 np c3] : List Value) ++ s4 ++ ([.slice a8 nb c8, .int .i64 f_pos] : List Value) : List Value) = (([.bool f_pub, .string ⟨f_name.toArray⟩] : List Value)) ++ (.slice ao t cap :: (([.slice a3 np c3] : List Value) ++ s4 ++ ([.slice a8 nb c8, .int .i64 f_pos] : List Value))) := by simp
    have BA3 : Blk (w2.setCell ⟨ga, 2, none⟩ (.slice ao t cap)) ga (([.bool f_pub, .string ⟨f_name.toArray⟩, .slice ao t cap, .slice a3 np c3] : List Value) ++ s4 ++ ([.slice a8 nb c8, .int .i64 f_pos] : List Value)).toArray 36 := by
      rw [hL2]
      exact box_set (pre := ([.bool f_pub, .string ⟨f_name.toArray⟩] : List Value)) (post := ([.slice a3 np c3] : List Value) ++ s4 ++ ([.slice a8 nb c8, .int .i64 f_pos] : List Value)) (v := .slice a2 t c2) (u := .slice ao t cap) BA2 (by rw [GC.out, hL1]) (by simp)
    have KS0 : ∀ (T : Nat → Prop), T ga → Keeps T w2 (w2.setCell ⟨ga, 2, none⟩ (.slice ao t cap)) := fun T hT => (Keeps.refl T w2).setCell (p := ⟨ga, 2, none⟩) (fun _ => hT) _
    have KW3 : Keeps Nothing w (w2.setCell ⟨ga, 2, none⟩ (.slice ao t cap)) := (KW.trans k2 (fun _ h _ => h)).setCell (p := ⟨ga, 2, none⟩) (fun h => absurd h (Nat.not_lt.2 HGA.out)) _
    have BR3 : Blk (w2.setCell ⟨ga, 2, none⟩ (.slice ao t cap)) gr #[.bool false, .string ⟨#[]⟩, .slice none 0 0, .slice none 0 0, .int .i64 0, .string ⟨#[]⟩, .slice none 0 0, .slice none 0 0, .slice none 0 0, .int .i64 0] 36 := blk_other BR2 ⟨ga, 2, none⟩ (fun q => hne q.symm) _
    have KK : Keeps (fun b => b < M) w2 (w2.setCell ⟨ga, 2, none⟩ (.slice ao t cap)) := (k2.mono (S' := fun b => b < M) (fun _ h _ => h.elim)).trans (KS0 (fun b => b < M) hgaM) (fun _ h _ => h)
    have KS2 := KS0 (fun b => b < w2.heap.size) (Nat.lt_of_lt_of_le hgaM hMb)
    have hMb3 : M ≤ (w2.setCell ⟨ga, 2, none⟩ (.slice ao t cap)).heap.size := Nat.le_trans hMb KK.size
    have RLi := shut (rows_on lifOk RLi.out KK (Nat.le_refl M))
    go_upto_region 8 with fail
    any_goals try (rename_i hfz; simp [f1] at hfz; done)
    clear e1 f1 BA2 BR2 BR KW k2 BA KS0 KK KS2 hL1 hL2 hMb GC
    generalize w2.setCell ⟨ga, 2, none⟩ (.slice ao t cap) = w5 at *
    have KW := KW3
    have hMb := hMb3
    obtain ⟨C, hC⟩ : ∃ C, C = (([.bool f_pub, .string ⟨f_name.toArray⟩, .slice ao t cap, .slice a3 np c3] : List Value) ++ s4 ++ ([.slice a8 nb c8, .int .i64 f_pos] : List Value)).toArray := ⟨_, rfl⟩
    rw [← hC] at BA3
    have GC := shut hC
    have BA := BA3
    have BR := BR3
    clear KW3 hMb3 hC BA3 BR3
    obtain ⟨-, -, -, e0, -, -, -⟩ := FunB al_ty GC.out BA
    have hc := cfields_typed f_params w5 c3 (HL3.out.keeps KW (fun _ _ h => h) (fun _ h => h) (fun _ _ _ h => h.keeps KW (fun _ _ h => h) (fun _ h => h)))
    rw [HLP.out] at hc
    go_wp2_with fail
    refine hc.mono ?_
    rintro e w2 ⟨b3, d3, rfl, k2, hR, hFb⟩
    rw [HLP.out]
    have RFb := shut hFb
    clear hFb
    have RPa := shut hR
    clear hc hR e0
    have BA2 := k2.blk BA (fun h => h)
    have BR2 := k2.blk BR (fun h => h)
    obtain ⟨-, -, -, e1, -, -, -⟩ := FunB al_ty GC.out BA2
    have f1 := blk_free BA2 3
    have hL1 : (([.bool f_pub, .string ⟨f_name.toArray⟩, .slice ao t cap, .slice a3 np c3] : List Value) ++ s4 ++ ([.slice a8 nb c8, .int .i64 f_pos] : List Value) : List Value) = (([.bool f_pub, .string ⟨f_name.toArray⟩, .slice ao t cap] : List Value)) ++ (.slice a3 np c3 :: (s4 ++ ([.slice a8 nb c8, .int .i64 f_pos] : List Value))) := by simp
    have hL2 : (([.bool f_pub, .string ⟨f_name.toArray⟩, .slice ao t cap, .slice b3 np d3] : List Value) ++ s4 ++ ([.slice a8 nb c8, .int .i64 f_pos] : List Value) : List Value) = (([.bool f_pub, .string ⟨f_name.toArray⟩, .slice ao t cap] : List Value)) ++ (.slice b3 np d3 :: (s4 ++ ([.slice a8 nb c8, .int .i64 f_pos] : List Value))) := by simp
    have BA3 : Blk (w2.setCell ⟨ga, 3, none⟩ (.slice b3 np d3)) ga (([.bool f_pub, .string ⟨f_name.toArray⟩, .slice ao t cap, .slice b3 np d3] : List Value) ++ s4 ++ ([.slice a8 nb c8, .int .i64 f_pos] : List Value)).toArray 36 := by
      rw [hL2]
      exact box_set (pre := ([.bool f_pub, .string ⟨f_name.toArray⟩, .slice ao t cap] : List Value)) (post := s4 ++ ([.slice a8 nb c8, .int .i64 f_pos] : List Value)) (v := .slice a3 np c3) (u := .slice b3 np d3) BA2 (by rw [GC.out, hL1]) (by simp)
    have KS0 : ∀ (T : Nat → Prop), T ga → Keeps T w2 (w2.setCell ⟨ga, 3, none⟩ (.slice b3 np d3)) := fun T hT => (Keeps.refl T w2).setCell (p := ⟨ga, 3, none⟩) (fun _ => hT) _
    have KW3 : Keeps Nothing w (w2.setCell ⟨ga, 3, none⟩ (.slice b3 np d3)) := (KW.trans k2 (fun _ h _ => h)).setCell (p := ⟨ga, 3, none⟩) (fun h => absurd h (Nat.not_lt.2 HGA.out)) _
    have BR3 : Blk (w2.setCell ⟨ga, 3, none⟩ (.slice b3 np d3)) gr #[.bool false, .string ⟨#[]⟩, .slice none 0 0, .slice none 0 0, .int .i64 0, .string ⟨#[]⟩, .slice none 0 0, .slice none 0 0, .slice none 0 0, .int .i64 0] 36 := blk_other BR2 ⟨ga, 3, none⟩ (fun q => hne q.symm) _
    have KK : Keeps (fun b => b < M) w5 (w2.setCell ⟨ga, 3, none⟩ (.slice b3 np d3)) := (k2.mono (S' := fun b => b < M) (fun _ h _ => h.elim)).trans (KS0 (fun b => b < M) hgaM) (fun _ h _ => h)
    have KS2 := KS0 (fun b => b < w5.heap.size) (Nat.lt_of_lt_of_le hgaM hMb)
    have hMb3 : M ≤ (w2.setCell ⟨ga, 3, none⟩ (.slice b3 np d3)).heap.size := Nat.le_trans hMb KK.size
    have RLi := shut (rows_on lifOk RLi.out KK (Nat.le_refl M))
    have RPa := shut (rows_on fldOk RPa.out KS2 hMb)
    have RFb := shut (fb_on RFb.out KS2 hMb)
    go_upto_region 9 with fail
    any_goals try (rename_i hfz; simp [f1] at hfz; done)
    clear e1 f1 BA2 BR2 BR KW k2 BA KS0 KK KS2 hL1 hL2 hMb GC
    generalize w2.setCell ⟨ga, 3, none⟩ (.slice b3 np d3) = w6 at *
    have KW := KW3
    have hMb := hMb3
    obtain ⟨C, hC⟩ : ∃ C, C = (([.bool f_pub, .string ⟨f_name.toArray⟩, .slice ao t cap, .slice b3 np d3] : List Value) ++ s4 ++ ([.slice a8 nb c8, .int .i64 f_pos] : List Value)).toArray := ⟨_, rfl⟩
    rw [← hC] at BA3
    have GC := shut hC
    have BA := BA3
    have BR := BR3
    clear KW3 hMb3 hC BA3 BR3
    obtain ⟨-, -, -, -, ⟨e0, e0f⟩, -, -⟩ := FunB al_ty GC.out BA
    have hc := ctype_any f_result w6 s4 (HTy.out.keeps KW (fun _ _ h => h) (fun _ h => h))
    go_wp2_with fail
    refine hc.mono ?_
    rintro e w2 ⟨r4, rfl, k2, hR⟩
    have RTy := shut hR
    have bl_ty := RTy.out.len
    have agn := agg_ok RTy.out.len RTy.out.one
    clear hc hR e0 e0f
    have BA2 := k2.blk BA (fun h => h)
    have BR2 := k2.blk BR (fun h => h)
    have hCs : C.size = 10 := by rw [GC.out]; simp [al_ty]
    have e1 := midFit_blk BA2 (o := 4) (n := 4) (by rw [hCs]; decide)
    have hL1 : (([.bool f_pub, .string ⟨f_name.toArray⟩, .slice ao t cap, .slice b3 np d3] : List Value) ++ s4 ++ ([.slice a8 nb c8, .int .i64 f_pos] : List Value) : List Value) = (([.bool f_pub, .string ⟨f_name.toArray⟩, .slice ao t cap, .slice b3 np d3] : List Value)) ++ (s4 ++ (([.slice a8 nb c8, .int .i64 f_pos] : List Value))) := by simp
    have hL2 : (([.bool f_pub, .string ⟨f_name.toArray⟩, .slice ao t cap, .slice b3 np d3] : List Value) ++ r4 ++ ([.slice a8 nb c8, .int .i64 f_pos] : List Value) : List Value) = (([.bool f_pub, .string ⟨f_name.toArray⟩, .slice ao t cap, .slice b3 np d3] : List Value)) ++ (r4 ++ (([.slice a8 nb c8, .int .i64 f_pos] : List Value))) := by simp
    have BA3 : Blk (midSet w2 ga 4 r4.toArray) ga (([.bool f_pub, .string ⟨f_name.toArray⟩, .slice ao t cap, .slice b3 np d3] : List Value) ++ r4 ++ ([.slice a8 nb c8, .int .i64 f_pos] : List Value)).toArray 36 := by
      rw [hL2]
      exact box_mid (pre := ([.bool f_pub, .string ⟨f_name.toArray⟩, .slice ao t cap, .slice b3 np d3] : List Value)) (mid := s4) (post := ([.slice a8 nb c8, .int .i64 f_pos] : List Value)) (new := r4) BA2 (by rw [GC.out, hL1]) (by simp) (by rw [bl_ty, al_ty])
    have KS0 : ∀ (T : Nat → Prop), T ga → Keeps T w2 (midSet w2 ga 4 r4.toArray) := fun T hT => midSet_keeps (Keeps.refl T w2) (g := ga) (fun _ => hT) _ _
    have KW3 : Keeps Nothing w (midSet w2 ga 4 r4.toArray) := midSet_keeps (KW.trans k2 (fun _ h _ => h)) (g := ga) (fun h => absurd h (Nat.not_lt.2 HGA.out)) _ _
    have BR3 : Blk (midSet w2 ga 4 r4.toArray) gr #[.bool false, .string ⟨#[]⟩, .slice none 0 0, .slice none 0 0, .int .i64 0, .string ⟨#[]⟩, .slice none 0 0, .slice none 0 0, .slice none 0 0, .int .i64 0] 36 := blk_setRow_other BR2 (fun q => hne q.symm)
    have KK : Keeps (fun b => b < M) w6 (midSet w2 ga 4 r4.toArray) := (k2.mono (S' := fun b => b < M) (fun _ h _ => h.elim)).trans (KS0 (fun b => b < M) hgaM) (fun _ h _ => h)
    have KS2 := KS0 (fun b => b < w6.heap.size) (Nat.lt_of_lt_of_le hgaM hMb)
    have hMb3 : M ≤ (midSet w2 ga 4 r4.toArray).heap.size := Nat.le_trans hMb KK.size
    have RLi := shut (rows_on lifOk RLi.out KK (Nat.le_refl M))
    have RPa := shut (rows_on fldOk RPa.out KK (Nat.le_refl M))
    have RFb := shut (fb_on RFb.out KK (Nat.le_refl M))
    have RTy := shut (tyOk.on RTy.out KS2 hMb)
    go_upto_region 10 with fail
    clear e1 agn hCs BA2 BR2 BR KW k2 BA KS0 KK KS2 hL1 hL2 hMb GC
    generalize midSet w2 ga 4 r4.toArray = w7 at *
    have KW := KW3
    have hMb := hMb3
    obtain ⟨C, hC⟩ : ∃ C, C = (([.bool f_pub, .string ⟨f_name.toArray⟩, .slice ao t cap, .slice b3 np d3] : List Value) ++ r4 ++ ([.slice a8 nb c8, .int .i64 f_pos] : List Value)).toArray := ⟨_, rfl⟩
    rw [← hC] at BA3
    have GC := shut hC
    have BA := BA3
    have BR := BR3
    clear KW3 hMb3 hC BA3 BR3
    obtain ⟨-, -, -, -, -, e0, -⟩ := FunB bl_ty GC.out BA
    have hc := cstmts_any f_body w7 a8 c8 (HL8.out.keeps KW (fun _ _ h => h) (fun _ h => h) (fun _ _ _ h => h.keeps KW (fun _ _ h => h) (fun _ h => h)))
    rw [HLB.out] at hc
    go_wp2_with fail
    refine hc.mono ?_
    rintro e w2 ⟨b8, d8, rfl, k2, hR⟩
    rw [HLB.out]
    have RBo := shut hR
    clear hc hR e0
    have BA2 := k2.blk BA (fun h => h)
    have BR2 := k2.blk BR (fun h => h)
    obtain ⟨-, -, -, -, -, e1, -⟩ := FunB bl_ty GC.out BA2
    have f1 := blk_free BA2 8
    have hL1 : (([.bool f_pub, .string ⟨f_name.toArray⟩, .slice ao t cap, .slice b3 np d3] : List Value) ++ r4 ++ ([.slice a8 nb c8, .int .i64 f_pos] : List Value) : List Value) = (([.bool f_pub, .string ⟨f_name.toArray⟩, .slice ao t cap, .slice b3 np d3] : List Value) ++ r4) ++ (.slice a8 nb c8 :: (([.int .i64 f_pos] : List Value))) := by simp
    have hL2 : (([.bool f_pub, .string ⟨f_name.toArray⟩, .slice ao t cap, .slice b3 np d3] : List Value) ++ r4 ++ ([.slice b8 nb d8, .int .i64 f_pos] : List Value) : List Value) = (([.bool f_pub, .string ⟨f_name.toArray⟩, .slice ao t cap, .slice b3 np d3] : List Value) ++ r4) ++ (.slice b8 nb d8 :: (([.int .i64 f_pos] : List Value))) := by simp
    have BA3 : Blk (w2.setCell ⟨ga, 8, none⟩ (.slice b8 nb d8)) ga (([.bool f_pub, .string ⟨f_name.toArray⟩, .slice ao t cap, .slice b3 np d3] : List Value) ++ r4 ++ ([.slice b8 nb d8, .int .i64 f_pos] : List Value)).toArray 36 := by
      rw [hL2]
      exact box_set (pre := ([.bool f_pub, .string ⟨f_name.toArray⟩, .slice ao t cap, .slice b3 np d3] : List Value) ++ r4) (post := ([.int .i64 f_pos] : List Value)) (v := .slice a8 nb c8) (u := .slice b8 nb d8) BA2 (by rw [GC.out, hL1]) (by simp [bl_ty])
    have KS0 : ∀ (T : Nat → Prop), T ga → Keeps T w2 (w2.setCell ⟨ga, 8, none⟩ (.slice b8 nb d8)) := fun T hT => (Keeps.refl T w2).setCell (p := ⟨ga, 8, none⟩) (fun _ => hT) _
    have KW3 : Keeps Nothing w (w2.setCell ⟨ga, 8, none⟩ (.slice b8 nb d8)) := (KW.trans k2 (fun _ h _ => h)).setCell (p := ⟨ga, 8, none⟩) (fun h => absurd h (Nat.not_lt.2 HGA.out)) _
    have BR3 : Blk (w2.setCell ⟨ga, 8, none⟩ (.slice b8 nb d8)) gr #[.bool false, .string ⟨#[]⟩, .slice none 0 0, .slice none 0 0, .int .i64 0, .string ⟨#[]⟩, .slice none 0 0, .slice none 0 0, .slice none 0 0, .int .i64 0] 36 := blk_other BR2 ⟨ga, 8, none⟩ (fun q => hne q.symm) _
    have KK : Keeps (fun b => b < M) w7 (w2.setCell ⟨ga, 8, none⟩ (.slice b8 nb d8)) := (k2.mono (S' := fun b => b < M) (fun _ h _ => h.elim)).trans (KS0 (fun b => b < M) hgaM) (fun _ h _ => h)
    have KS2 := KS0 (fun b => b < w7.heap.size) (Nat.lt_of_lt_of_le hgaM hMb)
    have hMb3 : M ≤ (w2.setCell ⟨ga, 8, none⟩ (.slice b8 nb d8)).heap.size := Nat.le_trans hMb KK.size
    have RLi := shut (rows_on lifOk RLi.out KK (Nat.le_refl M))
    have RPa := shut (rows_on fldOk RPa.out KK (Nat.le_refl M))
    have RFb := shut (fb_on RFb.out KK (Nat.le_refl M))
    have RTy := shut (tyOk.on RTy.out KK (Nat.le_refl M))
    have RBo := shut (sl2_on RBo.out KS2 hMb)
    go_upto_region 11 with fail
    any_goals try (rename_i hfz; simp [f1] at hfz; done)
    clear e1 f1 BA2 BR2 BR KW k2 BA KS0 KK KS2 hL1 hL2 hMb GC
    generalize w2.setCell ⟨ga, 8, none⟩ (.slice b8 nb d8) = w8 at *
    have KW := KW3
    have hMb := hMb3
    obtain ⟨C, hC⟩ : ∃ C, C = (([.bool f_pub, .string ⟨f_name.toArray⟩, .slice ao t cap, .slice b3 np d3] : List Value) ++ r4 ++ ([.slice b8 nb d8, .int .i64 f_pos] : List Value)).toArray := ⟨_, rfl⟩
    rw [← hC] at BA3
    have GC := shut hC
    have BA := BA3
    have BR := BR3
    clear KW3 hMb3 hC BA3 BR3
    have hsC : C.size = 10 := (by rw [GC.out]; simp [bl_ty])
    obtain ⟨y1, y2⟩ := tblk_mid BA hsC
    have y3 := rowOk_blk BR (n := 10) rfl
    have KS : Keeps (fun b => b < M) w8 (w8.setRow gr C) := (Keeps.refl (fun b => b < M) w8).setRow (g := gr) (fun _ => hgrM) C
    have KF : Keeps Nothing w (w8.setRow gr C) := KW.setRow (g := gr) (fun h => absurd h (Nat.not_lt.2 HGR.out)) C
    have hP : Fun2 w.heap.size (w8.setRow gr C) ⟨f_pub, f_name, f_lives, f_params, f_result, f_body, f_pos⟩ (([.bool f_pub, .string ⟨f_name.toArray⟩, .slice ao t cap, .slice b3 np d3] : List Value) ++ r4 ++ ([.slice b8 nb d8, .int .i64 f_pos] : List Value)) := ⟨ao, cap, b3, d3, r4, b8, d8, by simp only [HLN.out, HLP.out, HLB.out]; rfl, HNA.out, rows_on lifOk RLi.out KS HNM.out, rows_on fldOk RPa.out KS HNM.out, tyOk.on RTy.out KS HNM.out, sl2_on RBo.out KS HNM.out, fb_on RFb.out KS HNM.out⟩
    have HF : Shut (CFun w ⟨f_pub, f_name, f_lives, f_params, f_result, f_body, f_pos⟩ (.returned (.agg C)) (w8.setRow gr C)) := shut ⟨([.bool f_pub, .string ⟨f_name.toArray⟩, .slice ao t cap, .slice b3 np d3] : List Value) ++ r4 ++ ([.slice b8 nb d8, .int .i64 f_pos] : List Value), by rw [GC.out], KF, hP⟩
    have agC : aggOk 10 (.agg C) = true := by
      rw [GC.out]
      exact agg_ok (by simp [bl_ty]) hP.one
    have BF := blk_setRow (cs := C) BR
    clear hP KF KS KW BA BR GC hMb
    go_wp2_with fail
    refine bodyPost_ret (v := .agg C) (results_cell_row rfl _ _ gr _ C (0, 0) _ rfl BF Try.underlying36 rfl (by rw [infoFun, hsC])) rfl ?_
    exact HF.out


end Go.Proofs.Ytjbcagbnagefcaa
