/- TrN Sig7 Writer -/
import Derived.Test.YtjbcagbnagefcaaGreatZb8
import Derived.Test.YtjbcagbnagefcaaGreatZb7
import Derived.Test.YtjbcagbnagefcaaGreatZb1
namespace Go.Proofs.YtjbcagbnagefcaaGreat
open Go.RowKit
attribute [local irreducible] wpMix wpMixB wpList
attribute [local go_sem ↓] exec_mid_ty exec_store_ty exec_mid_pl exec_store_pl exec_mid_opr exec_store_opr exec_mid_val exec_store_val exec_mid_st exec_store_st exec_mid_fld exec_store_fld exec_mid_str exec_store_str exec_mid_lif exec_store_lif exec_mid_fun exec_store_fun exec_mid_cr exec_store_cr
attribute [local go_sem ↓] exec_into_pl exec_into_opr exec_into_ty exec_into_val
attribute [local go_sem] rowOk_new World.setRow_alloc_new
set_option maxRecDepth 100000 in
set_option linter.unusedSimpArgs false in
set_option maxHeartbeats 8000000 in
theorem cvalue_any {S : Nat → Prop} (d : ValD) (w : World) (cs : List Value) (h : ValIs S w d cs) : Calls Tryz.prog 103 #[.agg cs.toArray] w (CX ValIs w d) := by
 have ag1 := agg_ok h.len h.one
 obtain ⟨v_kind, v_a, v_b, v_op, v_place, v_name, v_names, v_args⟩ := d
 obtain ⟨s1, s5, s10, a13, c13, a14, c14, hcs, ha, hb, hp, hn, h6, h7⟩ := h
 simp only at hcs ha hb hp hn h6 h7
 unfold txV at hcs
 obtain ⟨nn, hnn⟩ : ∃ nn, v_names.length = nn := ⟨_, rfl⟩
 obtain ⟨n, hln⟩ : ∃ n, v_args.length = n := ⟨_, rfl⟩
 rw [hnn, hln] at hcs
 have HLL := shut hnn
 have HLN := shut hln
 have HNA := shut hn
 have HA := shut ha
 have HB := shut hb
 have HP := shut hp
 have HL6 := shut h6
 have HL := shut h7
 have al_a := ha.len
 have al_b := hb.len
 have al_p := hp.len
 have hnb : n ≤ 100000000 := by have := h7.1; unfold bigN at this; omega
 obtain ⟨C, hC⟩ : ∃ C, C = cs.toArray := ⟨_, rfl⟩
 rw [← hC] at ag1 ⊢
 rw [hcs] at hC
 have GC := shut hC
 clear hC hcs hnn hln hn ha hb hp h6 h7
 have BA := blk_alloc (blk_new w C 119) (.cells #[.int .i64 0, .int .i64 0, .int .i64 0, .string ⟨#[]⟩, .slice none 0 0, .int .i64 0, .int .i64 0, .string ⟨#[]⟩, .slice none 0 0, .int .i64 0, .string ⟨#[]⟩, .slice none 0 0, .string ⟨#[]⟩, .slice none 0 0, .slice none 0 0] 119)
 have BR := blk_new (w.alloc (.cells C 119)) #[.int .i64 0, .int .i64 0, .int .i64 0, .string ⟨#[]⟩, .slice none 0 0, .int .i64 0, .int .i64 0, .string ⟨#[]⟩, .slice none 0 0, .int .i64 0, .string ⟨#[]⟩, .slice none 0 0, .string ⟨#[]⟩, .slice none 0 0, .slice none 0 0] 119
 have KW : Keeps Nothing w ((w.alloc (.cells C 119)).alloc (.cells #[.int .i64 0, .int .i64 0, .int .i64 0, .string ⟨#[]⟩, .slice none 0 0, .int .i64 0, .int .i64 0, .string ⟨#[]⟩, .slice none 0 0, .int .i64 0, .string ⟨#[]⟩, .slice none 0 0, .string ⟨#[]⟩, .slice none 0 0, .slice none 0 0] 119)) := ((Keeps.refl Nothing w).alloc _).alloc _
 have HM0 : ((w.alloc (.cells C 119)).alloc (.cells #[.int .i64 0, .int .i64 0, .int .i64 0, .string ⟨#[]⟩, .slice none 0 0, .int .i64 0, .int .i64 0, .string ⟨#[]⟩, .slice none 0 0, .int .i64 0, .string ⟨#[]⟩, .slice none 0 0, .string ⟨#[]⟩, .slice none 0 0, .slice none 0 0] 119)).heap.size = w.heap.size + 1 + 1 := by rw [World.size_alloc, World.size_alloc]
 rw [World.size_alloc] at BR
 go_enter Tryz.func103, Tryz.ntmps103
 go_upto_region 1 with fail
 generalize (w.alloc (.cells C 119)).alloc (.cells #[.int .i64 0, .int .i64 0, .int .i64 0, .string ⟨#[]⟩, .slice none 0 0, .int .i64 0, .int .i64 0, .string ⟨#[]⟩, .slice none 0 0, .int .i64 0, .string ⟨#[]⟩, .slice none 0 0, .string ⟨#[]⟩, .slice none 0 0, .slice none 0 0] 119) = w0 at *
 have HGA : Shut (w.heap.size ≤ w.heap.size) := shut (Nat.le_refl _)
 have HGR : Shut (w.heap.size ≤ w.heap.size + 1) := shut (Nat.le_succ _)
 have hne : w.heap.size ≠ w.heap.size + 1 := by omega
 have hgaM : w.heap.size < w.heap.size + 1 + 1 := by omega
 have hgrM : w.heap.size + 1 < w.heap.size + 1 + 1 := by omega
 have hMb : w.heap.size + 1 + 1 ≤ w0.heap.size := Nat.le_of_eq HM0.symm
 have HNM : Shut (w.heap.size ≤ w.heap.size + 1 + 1) := shut (by omega)
 clear HM0 ag1
 obtain ⟨ga, hga⟩ : ∃ ga, w.heap.size = ga := ⟨_, rfl⟩
 obtain ⟨gr, hgr⟩ : ∃ gr, w.heap.size + 1 = gr := ⟨_, rfl⟩
 obtain ⟨M, hM⟩ : ∃ M, w.heap.size + 1 + 1 = M := ⟨_, rfl⟩
 rw [hM] at hgaM hgrM hMb HNM
 rw [hgr] at BR hne hgrM HGR ⊢
 have HGA2 : Shut (w.heap.size ≤ ga) := shut (Nat.le_of_eq hga)
 clear HGA
 have HGA := HGA2
 clear HGA2 hM hgr
 rw [hga] at BA hne hgaM ⊢
 clear hga
 have kdr : Keeps Nothing w0 w0.drew := (Keeps.refl Nothing w0).drew
 refine wp_region_mixB (fun V => Keeps Nothing w0 V) [(0, 0), (0, 1), (0, 3), (0, 4), (0, 6), (0, 7), (1, 2), (0, 9), (1, 5), (1, 8), (2, 10), (2, 11), (2, 12), (2, 13), (2, 14)] (by kernel_rfl) (by kernel_rfl) kdr ?_
 simp only [itemsB, List.map_cons, List.map_nil, List.getD_cons_zero, List.getD_cons_succ]
 refine wpMixB_free (fun K hK => ?_); go_simp; refine hK _ ?_; clear hK K
 refine wpMixB_yield (v := .agg s1.toArray) (fun V hV => ?_) (fun K hK => ?_)
 ·obtain ⟨-, ⟨e1, e1f⟩, -, -, -, -, -, -⟩ := ValB al_a al_b al_p GC.out (hV.blk BA (fun h => h))
  go_simp
 go_simp
 refine hK _ ?_
 clear hK K
 refine wpMixB_free (fun K hK => ?_); go_simp; refine hK _ ?_; clear hK K
 refine wpMixB_yield (v := .agg s5.toArray) (fun V hV => ?_) (fun K hK => ?_)
 ·obtain ⟨-, -, ⟨e1, e1f⟩, -, -, -, -, -⟩ := ValB al_a al_b al_p GC.out (hV.blk BA (fun h => h))
  go_simp
 go_simp
 refine hK _ ?_
 clear hK K
 refine wpMixB_free (fun K hK => ?_); go_simp; refine hK _ ?_; clear hK K
 refine wpMixB_yield (v := .agg s10.toArray) (fun V hV => ?_) (fun K hK => ?_)
 ·obtain ⟨-, -, -, -, ⟨e1, e1f⟩, -, -, -⟩ := ValB al_a al_b al_p GC.out (hV.blk BA (fun h => h))
  go_simp
 go_simp
 refine hK _ ?_
 clear hK K
 have hc := coper_any v_a w0.drew s1 (HA.out.keeps (KW.trans kdr (fun _ h _ => h)) (fun _ _ h => h) (fun _ h => h))
 refine wpMixB_one (fun K hK => ?_)
 go_wp2_with fail
 refine hc.mono ?_
 rintro e v1 ⟨ra, rfl, k2, hR⟩
 have RA := shut hR
 have kc1 := kdr.trans k2 (fun _ h _ => h)
 have kk1 := k2
 clear hc hR k2
 go_wp2_with fail
 refine hK _ _ kc1 ?_
 clear hK K
 refine wpMixB_free (fun K hK => ?_); go_simp; refine hK _ ?_; clear hK K
 have hc := coper_any v_b v1 s5 (HB.out.keeps (KW.trans kc1 (fun _ h _ => h)) (fun _ _ h => h) (fun _ h => h))
 refine wpMixB_one (fun K hK => ?_)
 go_wp2_with fail
 refine hc.mono ?_
 rintro e v2 ⟨rb, rfl, k2, hR⟩
 have RB := shut hR
 have kc2 := kc1.trans k2 (fun _ h _ => h)
 have kk2 := k2
 clear hc hR k2
 go_wp2_with fail
 refine hK _ _ kc2 ?_
 clear hK K
 have hc := cplace_any v_place v2 s10 (HP.out.keeps (KW.trans kc2 (fun _ h _ => h)) (fun _ _ h => h) (fun _ h => h))
 refine wpMixB_one (fun K hK => ?_)
 go_wp2_with fail
 refine hc.mono ?_
 rintro e v3 ⟨rp, rfl, k2, hR⟩
 have RP := shut hR
 have kc3 := kc2.trans k2 (fun _ h _ => h)
 have kk3 := k2
 clear hc hR k2
 go_wp2_with fail
 refine hK _ _ kc3 ?_
 clear hK K
 have BA2 := kc3.blk BA (fun h => h)
 have BR2 := kc3.blk BR (fun h => h)
 have hCs : C.size = 15 := by rw [GC.out]; simp [al_a, al_b, al_p]
 have bl_a := RA.out.len
 have ag_0 := agg_ok RA.out.len RA.out.one
 have hL1_0 : (([.int .i64 v_kind] : List Value) ++ s1 ++ s5 ++ ([.int .i64 v_op] : List Value) ++ s10 ++ ([.string ⟨v_name.toArray⟩, .slice a13 nn c13, .slice a14 n c14] : List Value) : List Value) = (([.int .i64 v_kind] : List Value)) ++ (s1 ++ (s5 ++ ([.int .i64 v_op] : List Value) ++ s10 ++ ([.string ⟨v_name.toArray⟩, .slice a13 nn c13, .slice a14 n c14] : List Value))) := by simp
 have hL2_0 : (([.int .i64 v_kind] : List Value) ++ ra ++ s5 ++ ([.int .i64 v_op] : List Value) ++ s10 ++ ([.string ⟨v_name.toArray⟩, .slice a13 nn c13, .slice a14 n c14] : List Value) : List Value) = (([.int .i64 v_kind] : List Value)) ++ (ra ++ (s5 ++ ([.int .i64 v_op] : List Value) ++ s10 ++ ([.string ⟨v_name.toArray⟩, .slice a13 nn c13, .slice a14 n c14] : List Value))) := by simp
 have m_0 := midFit_blk BA2 (o := 1) (n := 4) (by rw [hCs]; decide)
 have B_0 : Blk (midSet (v3) ga 1 ra.toArray) ga (([.int .i64 v_kind] : List Value) ++ ra ++ s5 ++ ([.int .i64 v_op] : List Value) ++ s10 ++ ([.string ⟨v_name.toArray⟩, .slice a13 nn c13, .slice a14 n c14] : List Value)).toArray 119 := by
  rw [hL2_0]
  exact box_mid (pre := ([.int .i64 v_kind] : List Value)) (mid := s1) (post := s5 ++ ([.int .i64 v_op] : List Value) ++ s10 ++ ([.string ⟨v_name.toArray⟩, .slice a13 nn c13, .slice a14 n c14] : List Value)) (new := ra) BA2 (by rw [GC.out, hL1_0]) (by simp) (by rw [bl_a, al_a])
 have bl_b := RB.out.len
 have ag_1 := agg_ok RB.out.len RB.out.one
 have hL1_1 : (([.int .i64 v_kind] : List Value) ++ ra ++ s5 ++ ([.int .i64 v_op] : List Value) ++ s10 ++ ([.string ⟨v_name.toArray⟩, .slice a13 nn c13, .slice a14 n c14] : List Value) : List Value) = (([.int .i64 v_kind] : List Value) ++ ra) ++ (s5 ++ (([.int .i64 v_op] : List Value) ++ s10 ++ ([.string ⟨v_name.toArray⟩, .slice a13 nn c13, .slice a14 n c14] : List Value))) := by simp
 have hL2_1 : (([.int .i64 v_kind] : List Value) ++ ra ++ rb ++ ([.int .i64 v_op] : List Value) ++ s10 ++ ([.string ⟨v_name.toArray⟩, .slice a13 nn c13, .slice a14 n c14] : List Value) : List Value) = (([.int .i64 v_kind] : List Value) ++ ra) ++ (rb ++ (([.int .i64 v_op] : List Value) ++ s10 ++ ([.string ⟨v_name.toArray⟩, .slice a13 nn c13, .slice a14 n c14] : List Value))) := by simp
 have m_1 := midFit_blk B_0 (o := 5) (n := 4) (by simp [bl_a, al_b, al_p])
 have B_1 : Blk (midSet (midSet (v3) ga 1 ra.toArray) ga 5 rb.toArray) ga (([.int .i64 v_kind] : List Value) ++ ra ++ rb ++ ([.int .i64 v_op] : List Value) ++ s10 ++ ([.string ⟨v_name.toArray⟩, .slice a13 nn c13, .slice a14 n c14] : List Value)).toArray 119 := by
  rw [hL2_1]
  exact box_mid (pre := ([.int .i64 v_kind] : List Value) ++ ra) (mid := s5) (post := ([.int .i64 v_op] : List Value) ++ s10 ++ ([.string ⟨v_name.toArray⟩, .slice a13 nn c13, .slice a14 n c14] : List Value)) (new := rb) B_0 (by rw [hL1_1]) (by simp [bl_a]) (by rw [bl_b, al_b])
 have bl_p := RP.out.len
 have ag_2 := agg_ok RP.out.len RP.out.one
 have hL1_2 : (([.int .i64 v_kind] : List Value) ++ ra ++ rb ++ ([.int .i64 v_op] : List Value) ++ s10 ++ ([.string ⟨v_name.toArray⟩, .slice a13 nn c13, .slice a14 n c14] : List Value) : List Value) = (([.int .i64 v_kind] : List Value) ++ ra ++ rb ++ ([.int .i64 v_op] : List Value)) ++ (s10 ++ (([.string ⟨v_name.toArray⟩, .slice a13 nn c13, .slice a14 n c14] : List Value))) := by simp
 have hL2_2 : (([.int .i64 v_kind] : List Value) ++ ra ++ rb ++ ([.int .i64 v_op] : List Value) ++ rp ++ ([.string ⟨v_name.toArray⟩, .slice a13 nn c13, .slice a14 n c14] : List Value) : List Value) = (([.int .i64 v_kind] : List Value) ++ ra ++ rb ++ ([.int .i64 v_op] : List Value)) ++ (rp ++ (([.string ⟨v_name.toArray⟩, .slice a13 nn c13, .slice a14 n c14] : List Value))) := by simp
 have m_2 := midFit_blk B_1 (o := 10) (n := 2) (by simp [bl_a, bl_b, al_p])
 have B_2 : Blk (midSet (midSet (midSet (v3) ga 1 ra.toArray) ga 5 rb.toArray) ga 10 rp.toArray) ga (([.int .i64 v_kind] : List Value) ++ ra ++ rb ++ ([.int .i64 v_op] : List Value) ++ rp ++ ([.string ⟨v_name.toArray⟩, .slice a13 nn c13, .slice a14 n c14] : List Value)).toArray 119 := by
  rw [hL2_2]
  exact box_mid (pre := ([.int .i64 v_kind] : List Value) ++ ra ++ rb ++ ([.int .i64 v_op] : List Value)) (mid := s10) (post := ([.string ⟨v_name.toArray⟩, .slice a13 nn c13, .slice a14 n c14] : List Value)) (new := rp) B_1 (by rw [hL1_2]) (by simp [bl_a, bl_b]) (by rw [bl_p, al_p])
 have KS : ∀ T : Nat → Prop, T ga → Keeps T v3 (midSet (midSet (midSet (v3) ga 1 ra.toArray) ga 5 rb.toArray) ga 10 rp.toArray) := fun T hT => (midSet_keeps (midSet_keeps (midSet_keeps (Keeps.refl T v3) (g := ga) (fun _ => hT) _ _) (g := ga) (fun _ => hT) _ _) (g := ga) (fun _ => hT) _ _)
 have BR3 : Blk (midSet (midSet (midSet (v3) ga 1 ra.toArray) ga 5 rb.toArray) ga 10 rp.toArray) gr #[.int .i64 0, .int .i64 0, .int .i64 0, .string ⟨#[]⟩, .slice none 0 0, .int .i64 0, .int .i64 0, .string ⟨#[]⟩, .slice none 0 0, .int .i64 0, .string ⟨#[]⟩, .slice none 0 0, .string ⟨#[]⟩, .slice none 0 0, .slice none 0 0] 119 := (blk_setRow_other (blk_setRow_other (blk_setRow_other BR2 (fun q => hne q.symm)) (fun q => hne q.symm)) (fun q => hne q.symm))
 have KWf : Keeps Nothing w (midSet (midSet (midSet (v3) ga 1 ra.toArray) ga 5 rb.toArray) ga 10 rp.toArray) := (KW.trans kc3 (fun _ h _ => h)).trans (KS (fun b => b = ga) rfl) (fun b hb hlt => by have hb' : b = ga := hb; have := HGA.out; omega)
 have KM := KS (fun b => b < M) hgaM
 have hszf : w0.heap.size ≤ (midSet (midSet (midSet (v3) ga 1 ra.toArray) ga 5 rb.toArray) ga 10 rp.toArray).heap.size := Nat.le_trans kc3.size KM.size
 have kq0 : Keeps Nothing v1 v3 := ((Keeps.refl Nothing v1).trans kk2 (fun _ h _ => h)).trans kk3 (fun _ h _ => h)
 have hq0 : M ≤ w0.drew.heap.size := Nat.le_trans hMb (Nat.le_refl _)
 have KN0 : Keeps (fun b => b < w0.drew.heap.size) v1 (midSet (midSet (midSet (v3) ga 1 ra.toArray) ga 5 rb.toArray) ga 10 rp.toArray) := (kq0.mono (S' := fun b => b < w0.drew.heap.size) (fun _ h _ => h.elim)).trans (KM.mono (S' := fun b => b < w0.drew.heap.size) (fun b hb _ => Nat.lt_of_lt_of_le hb hq0)) (fun _ h _ => h)
 have RA := shut (oprOk.on RA.out KN0 hq0)
 have kq1 : Keeps Nothing v2 v3 := (Keeps.refl Nothing v2).trans kk3 (fun _ h _ => h)
 have hq1 : M ≤ v1.heap.size := Nat.le_trans hMb kc1.size
 have KN1 : Keeps (fun b => b < v1.heap.size) v2 (midSet (midSet (midSet (v3) ga 1 ra.toArray) ga 5 rb.toArray) ga 10 rp.toArray) := (kq1.mono (S' := fun b => b < v1.heap.size) (fun _ h _ => h.elim)).trans (KM.mono (S' := fun b => b < v1.heap.size) (fun b hb _ => Nat.lt_of_lt_of_le hb hq1)) (fun _ h _ => h)
 have RB := shut (oprOk.on RB.out KN1 hq1)
 have kq2 : Keeps Nothing v3 v3 := Keeps.refl Nothing v3
 have hq2 : M ≤ v2.heap.size := Nat.le_trans hMb kc2.size
 have KN2 : Keeps (fun b => b < v2.heap.size) v3 (midSet (midSet (midSet (v3) ga 1 ra.toArray) ga 5 rb.toArray) ga 10 rp.toArray) := (kq2.mono (S' := fun b => b < v2.heap.size) (fun _ h _ => h.elim)).trans (KM.mono (S' := fun b => b < v2.heap.size) (fun b hb _ => Nat.lt_of_lt_of_le hb hq2)) (fun _ h _ => h)
 have RP := shut (plOk.on RP.out KN2 hq2)
 refine wpMixB_late (fun K hK => ?_)
 go_wp2_with fail
 refine wpMixB_late (fun K hK => ?_)
 go_wp2_with fail
 refine wpMixB_late (fun K hK => ?_)
 go_wp2_with fail
 refine wpMixB_late (fun K hK => ?_)
 go_wp2_with fail
 refine wpMixB_late (fun K hK => ?_)
 go_wp2_with fail
 refine wpMixB_nil ?_
 have BAf := B_2
 clear hL1_0 hL2_0 hL1_1 hL2_1 hL1_2 hL2_2 kq0 hq0 KN0 kk1 kc1 kq1 hq1 KN1 kk2 kc2 kq2 hq2 KN2 kk3 kc3 m_0 ag_0 m_1 ag_1 m_2 ag_2 B_0 B_1 B_2 KS KM BA2 kdr hCs BR2
 generalize midSet (midSet (midSet (v3) ga 1 ra.toArray) ga 5 rb.toArray) ga 10 rp.toArray = w5 at *
 have hMb5 : M ≤ w5.heap.size := Nat.le_trans hMb hszf
 clear hMb hszf BA BR GC KW
 have hMb := hMb5
 clear hMb5
 obtain ⟨C, hC⟩ : ∃ C, C = (([.int .i64 v_kind] : List Value) ++ ra ++ rb ++ ([.int .i64 v_op] : List Value) ++ rp ++ ([.string ⟨v_name.toArray⟩, .slice a13 nn c13, .slice a14 n c14] : List Value)).toArray := ⟨_, rfl⟩
 rw [← hC] at BAf
 have GC := shut hC
 have BA := BAf
 have BR := BR3
 have KW := KWf
 clear KWf hC BAf BR3
 go_upto_region 2 with fail
 obtain ⟨-, -, -, -, -, -, e0, -⟩ := ValB bl_a bl_b bl_p GC.out BA
 have hc := ctexts_any v_names w5 c13 (HL6.out.keeps KW (fun _ _ h => h) (fun _ h => h) (fun _ _ _ h => h))
 rw [HLL.out] at hc
 go_wp2_with fail
 refine hc.mono ?_
 rintro e w2 ⟨b13, d13, rfl, k2, hR⟩
 rw [HLL.out]
 have RL := shut hR
 clear hc hR e0
 have BA2 := k2.blk BA (fun h => h)
 have BR2 := k2.blk BR (fun h => h)
 obtain ⟨-, -, -, -, -, -, e1, -⟩ := ValB bl_a bl_b bl_p GC.out BA2
 have f1 := blk_free BA2 13
 have hL1 : (([.int .i64 v_kind] : List Value) ++ ra ++ rb ++ ([.int .i64 v_op] : List Value) ++ rp ++ ([.string ⟨v_name.toArray⟩, .slice a13 nn c13, .slice a14 n c14] : List Value) : List Value) = (([.int .i64 v_kind] : List Value) ++ ra ++ rb ++ ([.int .i64 v_op] : List Value) ++ rp ++ ([.string ⟨v_name.toArray⟩] : List Value)) ++ (.slice a13 nn c13 :: (([.slice a14 n c14] : List Value))) := by simp
 have hL2 : (([.int .i64 v_kind] : List Value) ++ ra ++ rb ++ ([.int .i64 v_op] : List Value) ++ rp ++ ([.string ⟨v_name.toArray⟩, .slice b13 nn d13, .slice a14 n c14] : List Value) : List Value) = (([.int .i64 v_kind] : List Value) ++ ra ++ rb ++ ([.int .i64 v_op] : List Value) ++ rp ++ ([.string ⟨v_name.toArray⟩] : List Value)) ++ (.slice b13 nn d13 :: (([.slice a14 n c14] : List Value))) := by simp
 have BA3 : Blk (w2.setCell ⟨ga, 13, none⟩ (.slice b13 nn d13)) ga (([.int .i64 v_kind] : List Value) ++ ra ++ rb ++ ([.int .i64 v_op] : List Value) ++ rp ++ ([.string ⟨v_name.toArray⟩, .slice b13 nn d13, .slice a14 n c14] : List Value)).toArray 119 := by
  rw [hL2]
  exact box_set (pre := ([.int .i64 v_kind] : List Value) ++ ra ++ rb ++ ([.int .i64 v_op] : List Value) ++ rp ++ ([.string ⟨v_name.toArray⟩] : List Value)) (post := ([.slice a14 n c14] : List Value)) (v := .slice a13 nn c13) (u := .slice b13 nn d13) BA2 (by rw [GC.out, hL1]) (by simp [bl_a, bl_b, bl_p])
 have KS0 : ∀ (T : Nat → Prop), T ga → Keeps T w2 (w2.setCell ⟨ga, 13, none⟩ (.slice b13 nn d13)) := fun T hT => (Keeps.refl T w2).setCell (p := ⟨ga, 13, none⟩) (fun _ => hT) _
 have KW3 : Keeps Nothing w (w2.setCell ⟨ga, 13, none⟩ (.slice b13 nn d13)) := (KW.trans k2 (fun _ h _ => h)).setCell (p := ⟨ga, 13, none⟩) (fun h => absurd h (Nat.not_lt.2 HGA.out)) _
 have BR3 : Blk (w2.setCell ⟨ga, 13, none⟩ (.slice b13 nn d13)) gr #[.int .i64 0, .int .i64 0, .int .i64 0, .string ⟨#[]⟩, .slice none 0 0, .int .i64 0, .int .i64 0, .string ⟨#[]⟩, .slice none 0 0, .int .i64 0, .string ⟨#[]⟩, .slice none 0 0, .string ⟨#[]⟩, .slice none 0 0, .slice none 0 0] 119 := blk_other BR2 ⟨ga, 13, none⟩ (fun q => hne q.symm) _
 have KK : Keeps (fun b => b < M) w5 (w2.setCell ⟨ga, 13, none⟩ (.slice b13 nn d13)) := (k2.mono (S' := fun b => b < M) (fun _ h _ => h.elim)).trans (KS0 (fun b => b < M) hgaM) (fun _ h _ => h)
 have KS2 := KS0 (fun b => b < w5.heap.size) (Nat.lt_of_lt_of_le hgaM hMb)
 have hMb3 : M ≤ (w2.setCell ⟨ga, 13, none⟩ (.slice b13 nn d13)).heap.size := Nat.le_trans hMb KK.size
 have RA := shut (oprOk.on RA.out KK (Nat.le_refl M))
 have RB := shut (oprOk.on RB.out KK (Nat.le_refl M))
 have RP := shut (plOk.on RP.out KK (Nat.le_refl M))
 have RL := shut (txs_on RL.out KS2 hMb)
 go_upto_region 4 with fail
 any_goals try (rename_i hfz; simp [f1] at hfz; done)
 clear e1 f1 BA2 BR2 BR KW k2 BA KS0 KK KS2 hL1 hL2 hMb GC
 generalize w2.setCell ⟨ga, 13, none⟩ (.slice b13 nn d13) = w6 at *
 have KW := KW3
 have hMb := hMb3
 obtain ⟨C, hC⟩ : ∃ C, C = (([.int .i64 v_kind] : List Value) ++ ra ++ rb ++ ([.int .i64 v_op] : List Value) ++ rp ++ ([.string ⟨v_name.toArray⟩, .slice b13 nn d13, .slice a14 n c14] : List Value)).toArray := ⟨_, rfl⟩
 rw [← hC] at BA3
 have GC := shut hC
 have BA := BA3
 have BR := BR3
 clear KW3 hMb3 hC BA3 BR3
 obtain ⟨-, -, -, -, -, -, -, e7⟩ := ValB bl_a bl_b bl_p GC.out BA
 go_wp2_with fail
 go_loopw [3, 25] (fun s3 s25 wx => ∃ (t : Nat) (ao : Option Addr) (cap : Nat), s25 = .int .i64 t ∧ s3 = .slice ao t cap ∧ t ≤ n ∧ Keeps (fun b => w6.heap.size ≤ b) w6 wx ∧ Shut (OutR (NewB w6.heap.size) 116 4 OprIs w6.heap.size wx ao cap (v_args.take t))) (fun _ s25 _ => n - (intOf s25).toNat)
 case atStart => exact ⟨0, none, 0, rfl, rfl, Nat.zero_le _, Keeps.refl _ _, shut (by rw [List.take_zero]; exact outR_nil _ _ _ _ _ _)⟩
 case round =>
  obtain ⟨t, ao, cap, rfl, rfl, ht, KL, HO⟩ := hrel
  by_cases hlt : t < n
  ·obtain ⟨x, hx⟩ : ∃ x, v_args[t]? = some x := ⟨_, List.getElem?_eq_getElem (by rw [HLN.out]; exact hlt)⟩
   have KWr := KW.trans (keepsHi KL) (fun _ h _ => h)
   obtain ⟨g1, o1, rfl, -, cs, l1, r1, i1⟩ := (HL.out.keeps (S' := S) (Q := OprIs S wr) KWr (fun _ _ h => h) (fun _ h => h) (fun _ _ _ h => h.keeps KWr (fun _ _ h => h) (fun _ h => h))).get hx
   have HX := shut hx
   have hxm := List.mem_of_getElem? hx
   clear hx
   have m0 : (0 : Int) ≤ t := by omega
   have m1 : (t : Int) < n := by omega
   have hk := midOk_range r1
   have ho := midOf_range r1
   rw [l1] at hk ho
   have ag2 := agg_ok l1 i1.one
   have kx1 : Keeps Nothing wr (wr.alloc (.cells cs.toArray 116)) := (Keeps.refl Nothing wr).alloc _
   have hcl := coper_any x _ cs (i1.keeps kx1 (fun _ _ h => h) (fun _ h => h))
   have BX := blk_new wr cs.toArray 116
   have hszx : cs.toArray.size = 4 := by simpa using l1
   have hw01 : wr.heap.size ≤ (wr.alloc (.cells cs.toArray 116)).heap.size := kx1.size
   obtain ⟨Cx, hCx⟩ : ∃ Cx, cs.toArray = Cx := ⟨_, rfl⟩
   rw [hCx] at hcl BX hszx kx1 ho ag2 hw01
   clear hCx i1 r1 l1
   go_upto_region 7 with fail
   clear hk ho ag2
   generalize wr.alloc (.cells Cx 116) = w1 at *
   have hgx := lt_of_block BX
   obtain ⟨z1, z2⟩ := tblk_mid BX hszx
   go_wp2_with fail
   refine hcl.mono ?_
   rintro e w2 ⟨cs2, rfl, k2, hN⟩
   have HN := shut hN
   have hlc := hN.len
   have agx := agg_ok hN.len hN.one
   have hw12 := k2.size
   have kx := kx1.trans k2 (fun _ h _ => h)
   clear hcl hN z1 z2 BX kx1 k2
   have BB := blk_new w2 (cs2.toArray) 116
   have kb : Keeps Nothing w2 (w2.alloc (.cells (cs2.toArray) 116)) := (Keeps.refl Nothing w2).alloc _
   have kx3 := kx.trans kb (fun _ h _ => h)
   have hW0 : w6.heap.size ≤ w1.heap.size := Nat.le_trans KL.size hw01
   clear kx
   have HO3 := shut (HO.out.keepsN (newB_ok _) oprOk kx3)
   have hlao : ∀ g, blockOf ao = some g → g < wr.heap.size := fun g hg => HO.out.lt hg
   have hel : OprIs (InB (NewB w6.heap.size) (w2.alloc (.cells (cs2.toArray) 116)) ao) (w2.alloc (.cells (cs2.toArray) 116)) x cs2 := oprOk.keep _ _ _ _ _ _ _ HN.out kb (fun _ _ h => h) (fun b hb => ⟨(newB_ok _).keep Nothing w2 (w2.alloc (.cells (cs2.toArray) 116)) b kb (fun h => h) ⟨Nat.le_trans hW0 hb.1, hb.2⟩, fun q => by have := hlao b q; have := hb.1; omega⟩)
   have HEL := shut hel
   have hlt3 : w6.heap.size ≤ (w2.alloc (.cells (cs2.toArray) 116)).heap.size := Nat.le_trans (Nat.le_trans hW0 hw12) kb.size
   have htl : Shut ((v_args.take t).length = t) := shut (by rw [List.length_take, HLN.out]; omega)
   have htb : t ≤ 1000000000 := by omega
   have HNEW := shut HO.out.new
   have HBB := shut BB
   have KX3 : Keeps (fun b => w6.heap.size ≤ b) w6 (w2.alloc (.cells (cs2.toArray) 116)) := KL.trans kx3 (fun _ h _ => h.elim)
   clear hel BB KL HO kx3 kb HN
   go_wp2_with (at_builtin; rw [fill_list (by rw [hlc]; rfl)]; refine wpList_appD _ rfl (.tmp 29) (.tmp 32) 117 rfl Tryz.underlying117 iaOpr (by decide) (newB_ok _) oprOk t htl.out rfl HO3.out hlt3 _ _ cs2 x rfl rfl HBB.out HEL.out htb ?_)
   intro a4 c4 w4 O4 k4 m4
   have HO4 : Shut (OutR (NewB w6.heap.size) 116 4 OprIs w6.heap.size w4 a4 c4 (v_args.take (t + 1))) := shut (by rw [List.take_add_one, HX.out]; exact O4)
   have KL4 := KX3.trans k4 (fun g hg _ => HNEW.out g hg)
   clear O4 k4 m4 KX3 HO3 HEL HBB HNEW
   go_wp2_with fail
   go_roundw
   case rel => exact ⟨t + 1, a4, c4, by go_num, rfl, by omega, KL4, HO4⟩
   case measure => (simp [intOf]; try omega)
  obtain rfl : t = n := by omega
  have m1 : ¬ (t : Int) < t := by omega
  have HO1 : Shut (OutR (NewB w6.heap.size) 116 4 OprIs w6.heap.size wr ao cap v_args) := shut (by have := HO.out; rwa [List.take_of_length_le (Nat.le_of_eq HLN.out)] at this)
  clear HO
  have kl := keepsHi KL
  have BA := kl.blk BA (fun h => h)
  have BR := kl.blk BR (fun h => h)
  have KW := KW.trans kl (fun _ h _ => h)
  have RA := shut (oprOk.on RA.out (kl.mono (S' := fun b => b < M) (fun _ h _ => h.elim)) (Nat.le_refl M))
  have RB := shut (oprOk.on RB.out (kl.mono (S' := fun b => b < M) (fun _ h _ => h.elim)) (Nat.le_refl M))
  have RP := shut (plOk.on RP.out (kl.mono (S' := fun b => b < M) (fun _ h _ => h.elim)) (Nat.le_refl M))
  have RL := shut (txs_on RL.out (kl.mono (S' := fun b => b < M) (fun _ h _ => h.elim)) (Nat.le_refl M))
  have RE : Shut (SlIs (NewB M wr) wr 4 (OprIs (NewB M wr) wr) ao v_args) := shut (outR_new HO1.out oprOk (by decide) hMb (by rw [HLN.out]; unfold bigN; omega))
  have hMb1 : M ≤ wr.heap.size := Nat.le_trans hMb KL.size
  clear HO1 KL kl hMb
  have hMb := hMb1
  clear hMb1
  obtain ⟨w2, rfl⟩ : ∃ w2, w2 = wr := ⟨_, rfl⟩
  have k2 : Keeps Nothing w2 w2 := Keeps.refl _ _
  have BA2 := BA
  have BR2 := BR
  obtain ⟨-, -, -, -, -, -, -, e1⟩ := ValB bl_a bl_b bl_p GC.out BA2
  have f1 := blk_free BA2 14
  have hL1 : (([.int .i64 v_kind] : List Value) ++ ra ++ rb ++ ([.int .i64 v_op] : List Value) ++ rp ++ ([.string ⟨v_name.toArray⟩, .slice b13 nn d13, .slice a14 t c14] : List Value) : List Value) = (([.int .i64 v_kind] : List Value) ++ ra ++ rb ++ ([.int .i64 v_op] : List Value) ++ rp ++ ([.string ⟨v_name.toArray⟩, .slice b13 nn d13] : List Value)) ++ (.slice a14 t c14 :: (([] : List Value))) := by simp
  have hL2 : (([.int .i64 v_kind] : List Value) ++ ra ++ rb ++ ([.int .i64 v_op] : List Value) ++ rp ++ ([.string ⟨v_name.toArray⟩, .slice b13 nn d13, .slice ao t cap] : List Value) : List Value) = (([.int .i64 v_kind] : List Value) ++ ra ++ rb ++ ([.int .i64 v_op] : List Value) ++ rp ++ ([.string ⟨v_name.toArray⟩, .slice b13 nn d13] : List Value)) ++ (.slice ao t cap :: (([] : List Value))) := by simp
  have BA3 : Blk (w2.setCell ⟨ga, 14, none⟩ (.slice ao t cap)) ga (([.int .i64 v_kind] : List Value) ++ ra ++ rb ++ ([.int .i64 v_op] : List Value) ++ rp ++ ([.string ⟨v_name.toArray⟩, .slice b13 nn d13, .slice ao t cap] : List Value)).toArray 119 := by
   rw [hL2]
   exact box_set (pre := ([.int .i64 v_kind] : List Value) ++ ra ++ rb ++ ([.int .i64 v_op] : List Value) ++ rp ++ ([.string ⟨v_name.toArray⟩, .slice b13 nn d13] : List Value)) (post := ([] : List Value)) (v := .slice a14 t c14) (u := .slice ao t cap) BA2 (by rw [GC.out, hL1]) (by simp [bl_a, bl_b, bl_p])
  have KS0 : ∀ (T : Nat → Prop), T ga → Keeps T w2 (w2.setCell ⟨ga, 14, none⟩ (.slice ao t cap)) := fun T hT => (Keeps.refl T w2).setCell (p := ⟨ga, 14, none⟩) (fun _ => hT) _
  have KW3 : Keeps Nothing w (w2.setCell ⟨ga, 14, none⟩ (.slice ao t cap)) := (KW.trans k2 (fun _ h _ => h)).setCell (p := ⟨ga, 14, none⟩) (fun h => absurd h (Nat.not_lt.2 HGA.out)) _
  have BR3 : Blk (w2.setCell ⟨ga, 14, none⟩ (.slice ao t cap)) gr #[.int .i64 0, .int .i64 0, .int .i64 0, .string ⟨#[]⟩, .slice none 0 0, .int .i64 0, .int .i64 0, .string ⟨#[]⟩, .slice none 0 0, .int .i64 0, .string ⟨#[]⟩, .slice none 0 0, .string ⟨#[]⟩, .slice none 0 0, .slice none 0 0] 119 := blk_other BR2 ⟨ga, 14, none⟩ (fun q => hne q.symm) _
  have KK : Keeps (fun b => b < M) w2 (w2.setCell ⟨ga, 14, none⟩ (.slice ao t cap)) := (k2.mono (S' := fun b => b < M) (fun _ h _ => h.elim)).trans (KS0 (fun b => b < M) hgaM) (fun _ h _ => h)
  have KS2 := KS0 (fun b => b < w2.heap.size) (Nat.lt_of_lt_of_le hgaM hMb)
  have hMb3 : M ≤ (w2.setCell ⟨ga, 14, none⟩ (.slice ao t cap)).heap.size := Nat.le_trans hMb KK.size
  have RA := shut (oprOk.on RA.out KK (Nat.le_refl M))
  have RB := shut (oprOk.on RB.out KK (Nat.le_refl M))
  have RP := shut (plOk.on RP.out KK (Nat.le_refl M))
  have RL := shut (txs_on RL.out KK (Nat.le_refl M))
  have RE := shut (rows_on oprOk RE.out KK (Nat.le_refl M))
  go_upto_region 10 with fail
  any_goals try (rename_i hfz; simp [f1] at hfz; done)
  clear e1 f1 BA2 BR2 BR KW k2 BA KS0 KK KS2 hL1 hL2 hMb GC
  generalize w2.setCell ⟨ga, 14, none⟩ (.slice ao t cap) = w7 at *
  have KW := KW3
  have hMb := hMb3
  obtain ⟨C, hC⟩ : ∃ C, C = (([.int .i64 v_kind] : List Value) ++ ra ++ rb ++ ([.int .i64 v_op] : List Value) ++ rp ++ ([.string ⟨v_name.toArray⟩, .slice b13 nn d13, .slice ao t cap] : List Value)).toArray := ⟨_, rfl⟩
  rw [← hC] at BA3
  have GC := shut hC
  have BA := BA3
  have BR := BR3
  clear KW3 hMb3 hC BA3 BR3
  have hsC : C.size = 15 := (by rw [GC.out]; simp [bl_a, bl_b, bl_p])
  obtain ⟨y1, y2⟩ := tblk_mid BA hsC
  have y3 := rowOk_blk BR (n := 15) rfl
  have KS : Keeps (fun b => b < M) w7 (w7.setRow gr C) := (Keeps.refl (fun b => b < M) w7).setRow (g := gr) (fun _ => hgrM) C
  have KF : Keeps Nothing w (w7.setRow gr C) := KW.setRow (g := gr) (fun h => absurd h (Nat.not_lt.2 HGR.out)) C
  have hP : ValIs (NewB w.heap.size (w7.setRow gr C)) (w7.setRow gr C) ⟨v_kind, v_a, v_b, v_op, v_place, v_name, v_names, v_args⟩ (([.int .i64 v_kind] : List Value) ++ ra ++ rb ++ ([.int .i64 v_op] : List Value) ++ rp ++ ([.string ⟨v_name.toArray⟩, .slice b13 nn d13, .slice ao t cap] : List Value)) := ⟨ra, rb, rp, b13, d13, ao, cap, by simp only [HLL.out, HLN.out]; rfl, oprOk.on RA.out KS HNM.out, oprOk.on RB.out KS HNM.out, plOk.on RP.out KS HNM.out, HNA.out, txs_on RL.out KS HNM.out, rows_on oprOk RE.out KS HNM.out⟩
  have HF : Shut (CX ValIs w ⟨v_kind, v_a, v_b, v_op, v_place, v_name, v_names, v_args⟩ (.returned (.agg C)) (w7.setRow gr C)) := shut ⟨([.int .i64 v_kind] : List Value) ++ ra ++ rb ++ ([.int .i64 v_op] : List Value) ++ rp ++ ([.string ⟨v_name.toArray⟩, .slice b13 nn d13, .slice ao t cap] : List Value), by rw [GC.out], KF, hP⟩
  have agC : aggOk 15 (.agg C) = true := by
   rw [GC.out]
   exact agg_ok (by simp [bl_a, bl_b, bl_p]) hP.one
  have BF := blk_setRow (cs := C) BR
  clear hP KF KS KW BA BR GC hMb
  go_wp2_with fail
  refine bodyPost_ret (v := .agg C) (results_cell_row rfl _ _ gr _ C (0, 0) _ rfl BF Tryz.underlying119 rfl (by rw [infoVal, hsC])) rfl ?_
  exact HF.out
end Go.Proofs.YtjbcagbnagefcaaGreat
namespace Go.Proofs.YtjbcagbnagefcaaGreat
open Go.RowKit
attribute [local irreducible] wpMix wpMixB wpList
attribute [local go_sem ↓] exec_mid_ty exec_store_ty exec_mid_pl exec_store_pl exec_mid_opr exec_store_opr exec_mid_val exec_store_val exec_mid_st exec_store_st exec_mid_fld exec_store_fld exec_mid_str exec_store_str exec_mid_lif exec_store_lif exec_mid_fun exec_store_fun exec_mid_cr exec_store_cr
attribute [local go_sem ↓] exec_into_pl exec_into_opr exec_into_ty exec_into_val
attribute [local go_sem] rowOk_new World.setRow_alloc_new
theorem sl2_on {N M : Nat} {w w' : World} {ao : Option Addr} {l : List StD} (h : Sl2 (NewA M w) w ao l) (K : Keeps (fun b => b < M) w w') (hN : N ≤ M) : Sl2 (NewA N w') w' ao l :=
 h.keeps K (fun _ hb q => by have := hb.1; omega) (fun _ hb => ⟨Nat.le_trans hN hb.1, Nat.lt_of_lt_of_le hb.2 K.size⟩)
theorem LayOk.off {α : Type} {k : Nat} {P : (Nat → Prop) → World → α → List Value → Prop} (hP : LayOk k P) {N : Nat} {w : World} {d : α} {cs : List Value} (h : P (NewB N w) w d cs) : P (offB (NewA N w) w) w d cs :=
 hP.keep _ _ _ _ _ _ _ h (Keeps.refl Nothing w) (fun _ _ h => h) (fun _ hb => ⟨⟨hb.1, hb.2.1⟩, hb.2.1, hb.2.2⟩)
def CS (w : World) (l : List StD) (e : Ending) (w' : World) : Prop := ∃ (a : Option Addr) (c : Nat), e = .returned (.slice a l.length c) ∧ Keeps Nothing w w' ∧ Sl2 (NewA w.heap.size w') w' a l
def StmtsC (l : List StD) : Prop := ∀ {S : Nat → Prop} (w : World) (ar : Option Addr) (c : Nat), SlIs S w 32 (StIs S w) ar l → Calls Tryz.prog 77 #[.slice ar l.length c] w (CS w l)
set_option maxRecDepth 100000 in
set_option linter.unusedSimpArgs false in
set_option maxHeartbeats 8000000 in
theorem cstmts_of {l : List StD} (H : ∀ e ∈ l, StmtsC e.thn ∧ StmtsC e.els) : StmtsC l := by
 intro S w ar c h
 have HL := shut h
 have HIH := shut H
 have hnb : l.length ≤ 100000000 := by have := h.1; unfold bigN at this; omega
 obtain ⟨n, hln⟩ : ∃ n, l.length = n := ⟨_, rfl⟩
 rw [hln] at hnb ⊢
 have HLN := shut hln
 have KW : Keeps Nothing w w := Keeps.refl _ _
 clear h hln H
 go_enter Tryz.func77, Tryz.ntmps77
 go_wp2_with fail
 go_loopw [3, 8] (fun s3 s8 wx => ∃ (t : Nat) (ao : Option Addr) (cap : Nat), s8 = .int .i64 t ∧ s3 = .slice ao t cap ∧ t ≤ n ∧ Keeps (fun b => w.heap.size ≤ b) w wx ∧ Shut (OutR (NewA w.heap.size) 121 32 St2 w.heap.size wx ao cap (l.take t))) (fun _ s8 _ => n - (intOf s8).toNat)
 case atStart => exact ⟨0, none, 0, rfl, rfl, Nat.zero_le _, Keeps.refl _ _, shut (by rw [List.take_zero]; exact outR_nil _ _ _ _ _ _)⟩
 case round =>
  obtain ⟨t, ao, cap, rfl, rfl, ht, KL, HO⟩ := hrel
  by_cases hlt : t < n
  ·obtain ⟨x, hx⟩ : ∃ x, l[t]? = some x := ⟨_, List.getElem?_eq_getElem (by rw [HLN.out]; exact hlt)⟩
   have KWr := KW.trans (keepsHi KL) (fun _ h _ => h)
   obtain ⟨g1, o1, rfl, -, cs, l1, r1, i1⟩ := (HL.out.keeps (S' := S) (Q := StIs S wr) KWr (fun _ _ h => h) (fun _ h => h) (fun _ _ _ h => h.keeps KWr (fun _ _ h => h) (fun _ h => h))).get hx
   have HX := shut hx
   have hxm := List.mem_of_getElem? hx
   clear hx
   have m0 : (0 : Int) ≤ t := by omega
   have m1 : (t : Int) < n := by omega
   have hk := midOk_range r1
   have ho := midOf_range r1
   rw [l1] at hk ho
   have ag2 := agg_ok l1 i1.one
   obtain ⟨x_kind, x_pos, x_mu, x_name, x_ty, x_has, x_place, x_val, x_cond, x_thn, x_els⟩ := x
   rw [stIs_iff] at i1
   obtain ⟨s4, s9, s11, s26, a30, c30, a31, c31, hcs, hxn, h1, h2, h3, h4, h5, h6⟩ := i1
   simp only [StD.kind, StD.pos, StD.mu, StD.name, StD.ty, StD.has, StD.place, StD.val, StD.cond, StD.thn, StD.els] at hcs hxn h1 h2 h3 h4 h5 h6
   unfold txV at hcs
   obtain ⟨nt, hnt⟩ : ∃ nt, x_thn.length = nt := ⟨_, rfl⟩
   obtain ⟨ne, hnE⟩ : ∃ ne, x_els.length = ne := ⟨_, rfl⟩
   rw [hnt, hnE] at hcs
   have HNT := shut hnt
   have HNE := shut hnE
   have al_ty := h1.len
   have al_pl := h2.len
   have al_val := h3.len
   have al_cond := h4.len
   have HTy := shut h1
   have HPl := shut h2
   have HVa := shut h3
   have HCo := shut h4
   have HTh := shut h5
   have HEl := shut h6
   have HXN := shut hxn
   have HI1 : Shut (StmtsC x_thn) := shut (HIH.out _ hxm).1
   have HI2 : Shut (StmtsC x_els) := shut (HIH.out _ hxm).2
   have kx1 : Keeps Nothing wr (wr.alloc (.cells cs.toArray 121)) := (Keeps.refl Nothing wr).alloc _
   have BX := blk_new wr cs.toArray 121
   have hsx : cs.toArray.size = 32 := by simpa using l1
   have hw01 : wr.heap.size ≤ (wr.alloc (.cells cs.toArray 121)).heap.size := kx1.size
   obtain ⟨Cx, hCx⟩ : ∃ Cx, cs.toArray = Cx := ⟨_, rfl⟩
   have GX : Shut (Cx = (([.int .i64 x_kind, .int .i64 x_pos, .bool x_mu, .string ⟨x_name.toArray⟩] : List Value) ++ s4 ++ ([.bool x_has] : List Value) ++ s9 ++ s11 ++ s26 ++ ([.slice a30 nt c30, .slice a31 ne c31] : List Value)).toArray) := shut (by rw [← hCx, hcs])
   rw [hCx] at BX hsx kx1 ho ag2 hw01
   clear hCx hcs hxn h1 h2 h3 h4 h5 h6 hnt hnE r1 l1
   go_upto_region 5 with fail
   clear hk ho ag2
   generalize wr.alloc (.cells Cx 121) = w1 at *
   have hgx := lt_of_block BX
   obtain ⟨gx, hgx0⟩ : ∃ gx, wr.heap.size = gx := ⟨_, rfl⟩
   have HGX : Shut (wr.heap.size ≤ gx) := shut (Nat.le_of_eq hgx0)
   rw [hgx0] at BX hgx ⊢
   clear hgx0
   have kdr : Keeps Nothing w1 w1.drew := (Keeps.refl Nothing w1).drew
   refine wp_region_mixB (fun V => Keeps Nothing w1 V) [(0, 0), (0, 1), (0, 3), (0, 4), (0, 6), (0, 7), (0, 9), (0, 10), (1, 2), (0, 12), (1, 5), (1, 8), (1, 11), (2, 13), (2, 14), (2, 15), (2, 16), (2, 17), (2, 18), (2, 19)] (by kernel_rfl) (by kernel_rfl) kdr ?_
   simp only [itemsB, List.map_cons, List.map_nil, List.getD_cons_zero, List.getD_cons_succ]
   refine wpMixB_free (fun K hK => ?_); go_simp; refine hK _ ?_; clear hK K
   refine wpMixB_yield (v := .agg s4.toArray) (fun V hV => ?_) (fun K hK => ?_)
   ·obtain ⟨-, -, -, -, ⟨e1, e1f⟩, -, -, -, -, -, -⟩ := StB al_ty al_pl al_val al_cond GX.out (hV.blk BX (fun h => h))
    go_simp
   go_simp
   refine hK _ ?_
   clear hK K
   refine wpMixB_free (fun K hK => ?_); go_simp; refine hK _ ?_; clear hK K
   refine wpMixB_yield (v := .agg s9.toArray) (fun V hV => ?_) (fun K hK => ?_)
   ·obtain ⟨-, -, -, -, -, -, ⟨e1, e1f⟩, -, -, -, -⟩ := StB al_ty al_pl al_val al_cond GX.out (hV.blk BX (fun h => h))
    go_simp
   go_simp
   refine hK _ ?_
   clear hK K
   refine wpMixB_free (fun K hK => ?_); go_simp; refine hK _ ?_; clear hK K
   refine wpMixB_yield (v := .agg s11.toArray) (fun V hV => ?_) (fun K hK => ?_)
   ·obtain ⟨-, -, -, -, -, -, -, ⟨e1, e1f⟩, -, -, -⟩ := StB al_ty al_pl al_val al_cond GX.out (hV.blk BX (fun h => h))
    go_simp
   go_simp
   refine hK _ ?_
   clear hK K
   refine wpMixB_free (fun K hK => ?_); go_simp; refine hK _ ?_; clear hK K
   refine wpMixB_yield (v := .agg s26.toArray) (fun V hV => ?_) (fun K hK => ?_)
   ·obtain ⟨-, -, -, -, -, -, -, -, ⟨e1, e1f⟩, -, -⟩ := StB al_ty al_pl al_val al_cond GX.out (hV.blk BX (fun h => h))
    go_simp
   go_simp
   refine hK _ ?_
   clear hK K
   have hc := ctype_any x_ty w1.drew s4 (HTy.out.keeps (kx1.trans kdr (fun _ h _ => h)) (fun _ _ h => h) (fun _ h => h))
   refine wpMixB_one (fun K hK => ?_)
   go_wp2_with fail
   refine hc.mono ?_
   rintro e v1 ⟨r4, rfl, k2, hR⟩
   have RTy := shut hR
   have kc1 := kdr.trans k2 (fun _ h _ => h)
   have kk1 := k2
   clear hc hR k2
   go_wp2_with fail
   refine hK _ _ kc1 ?_
   clear hK K
   refine wpMixB_free (fun K hK => ?_); go_simp; refine hK _ ?_; clear hK K
   have hc := cplace_any x_place v1 s9 (HPl.out.keeps (kx1.trans kc1 (fun _ h _ => h)) (fun _ _ h => h) (fun _ h => h))
   refine wpMixB_one (fun K hK => ?_)
   go_wp2_with fail
   refine hc.mono ?_
   rintro e v2 ⟨r9, rfl, k2, hR⟩
   have RPl := shut hR
   have kc2 := kc1.trans k2 (fun _ h _ => h)
   have kk2 := k2
   clear hc hR k2
   go_wp2_with fail
   refine hK _ _ kc2 ?_
   clear hK K
   have hc := cvalue_any x_val v2 s11 (HVa.out.keeps (kx1.trans kc2 (fun _ h _ => h)) (fun _ _ h => h) (fun _ h => h))
   refine wpMixB_one (fun K hK => ?_)
   go_wp2_with fail
   refine hc.mono ?_
   rintro e v3 ⟨r11, rfl, k2, hR⟩
   have RVa := shut hR
   have kc3 := kc2.trans k2 (fun _ h _ => h)
   have kk3 := k2
   clear hc hR k2
   go_wp2_with fail
   refine hK _ _ kc3 ?_
   clear hK K
   have hc := coper_any x_cond v3 s26 (HCo.out.keeps (kx1.trans kc3 (fun _ h _ => h)) (fun _ _ h => h) (fun _ h => h))
   refine wpMixB_one (fun K hK => ?_)
   go_wp2_with fail
   refine hc.mono ?_
   rintro e v4 ⟨r26, rfl, k2, hR⟩
   have RCo := shut hR
   have kc4 := kc3.trans k2 (fun _ h _ => h)
   have kk4 := k2
   clear hc hR k2
   go_wp2_with fail
   refine hK _ _ kc4 ?_
   clear hK K
   have BA2 := kc4.blk BX (fun h => h)
   have hCs : Cx.size = 32 := hsx
   have bl_ty := RTy.out.len
   have ag_0 := agg_ok RTy.out.len RTy.out.one
   have hL1_0 : (([.int .i64 x_kind, .int .i64 x_pos, .bool x_mu, .string ⟨x_name.toArray⟩] : List Value) ++ s4 ++ ([.bool x_has] : List Value) ++ s9 ++ s11 ++ s26 ++ ([.slice a30 nt c30, .slice a31 ne c31] : List Value) : List Value) = (([.int .i64 x_kind, .int .i64 x_pos, .bool x_mu, .string ⟨x_name.toArray⟩] : List Value)) ++ (s4 ++ (([.bool x_has] : List Value) ++ s9 ++ s11 ++ s26 ++ ([.slice a30 nt c30, .slice a31 ne c31] : List Value))) := by simp
   have hL2_0 : (([.int .i64 x_kind, .int .i64 x_pos, .bool x_mu, .string ⟨x_name.toArray⟩] : List Value) ++ r4 ++ ([.bool x_has] : List Value) ++ s9 ++ s11 ++ s26 ++ ([.slice a30 nt c30, .slice a31 ne c31] : List Value) : List Value) = (([.int .i64 x_kind, .int .i64 x_pos, .bool x_mu, .string ⟨x_name.toArray⟩] : List Value)) ++ (r4 ++ (([.bool x_has] : List Value) ++ s9 ++ s11 ++ s26 ++ ([.slice a30 nt c30, .slice a31 ne c31] : List Value))) := by simp
   have m_0 := midFit_blk BA2 (o := 4) (n := 4) (by rw [hCs]; decide)
   have B_0 : Blk (midSet (v4) gx 4 r4.toArray) gx (([.int .i64 x_kind, .int .i64 x_pos, .bool x_mu, .string ⟨x_name.toArray⟩] : List Value) ++ r4 ++ ([.bool x_has] : List Value) ++ s9 ++ s11 ++ s26 ++ ([.slice a30 nt c30, .slice a31 ne c31] : List Value)).toArray 121 := by
    rw [hL2_0]
    exact box_mid (pre := ([.int .i64 x_kind, .int .i64 x_pos, .bool x_mu, .string ⟨x_name.toArray⟩] : List Value)) (mid := s4) (post := ([.bool x_has] : List Value) ++ s9 ++ s11 ++ s26 ++ ([.slice a30 nt c30, .slice a31 ne c31] : List Value)) (new := r4) BA2 (by rw [GX.out, hL1_0]) (by simp) (by rw [bl_ty, al_ty])
   have bl_pl := RPl.out.len
   have ag_1 := agg_ok RPl.out.len RPl.out.one
   have hL1_1 : (([.int .i64 x_kind, .int .i64 x_pos, .bool x_mu, .string ⟨x_name.toArray⟩] : List Value) ++ r4 ++ ([.bool x_has] : List Value) ++ s9 ++ s11 ++ s26 ++ ([.slice a30 nt c30, .slice a31 ne c31] : List Value) : List Value) = (([.int .i64 x_kind, .int .i64 x_pos, .bool x_mu, .string ⟨x_name.toArray⟩] : List Value) ++ r4 ++ ([.bool x_has] : List Value)) ++ (s9 ++ (s11 ++ s26 ++ ([.slice a30 nt c30, .slice a31 ne c31] : List Value))) := by simp
   have hL2_1 : (([.int .i64 x_kind, .int .i64 x_pos, .bool x_mu, .string ⟨x_name.toArray⟩] : List Value) ++ r4 ++ ([.bool x_has] : List Value) ++ r9 ++ s11 ++ s26 ++ ([.slice a30 nt c30, .slice a31 ne c31] : List Value) : List Value) = (([.int .i64 x_kind, .int .i64 x_pos, .bool x_mu, .string ⟨x_name.toArray⟩] : List Value) ++ r4 ++ ([.bool x_has] : List Value)) ++ (r9 ++ (s11 ++ s26 ++ ([.slice a30 nt c30, .slice a31 ne c31] : List Value))) := by simp
   have m_1 := midFit_blk B_0 (o := 9) (n := 2) (by simp [bl_ty, al_pl, al_val, al_cond])
   have B_1 : Blk (midSet (midSet (v4) gx 4 r4.toArray) gx 9 r9.toArray) gx (([.int .i64 x_kind, .int .i64 x_pos, .bool x_mu, .string ⟨x_name.toArray⟩] : List Value) ++ r4 ++ ([.bool x_has] : List Value) ++ r9 ++ s11 ++ s26 ++ ([.slice a30 nt c30, .slice a31 ne c31] : List Value)).toArray 121 := by
    rw [hL2_1]
    exact box_mid (pre := ([.int .i64 x_kind, .int .i64 x_pos, .bool x_mu, .string ⟨x_name.toArray⟩] : List Value) ++ r4 ++ ([.bool x_has] : List Value)) (mid := s9) (post := s11 ++ s26 ++ ([.slice a30 nt c30, .slice a31 ne c31] : List Value)) (new := r9) B_0 (by rw [hL1_1]) (by simp [bl_ty]) (by rw [bl_pl, al_pl])
   have bl_val := RVa.out.len
   have ag_2 := agg_ok RVa.out.len RVa.out.one
   have hL1_2 : (([.int .i64 x_kind, .int .i64 x_pos, .bool x_mu, .string ⟨x_name.toArray⟩] : List Value) ++ r4 ++ ([.bool x_has] : List Value) ++ r9 ++ s11 ++ s26 ++ ([.slice a30 nt c30, .slice a31 ne c31] : List Value) : List Value) = (([.int .i64 x_kind, .int .i64 x_pos, .bool x_mu, .string ⟨x_name.toArray⟩] : List Value) ++ r4 ++ ([.bool x_has] : List Value) ++ r9) ++ (s11 ++ (s26 ++ ([.slice a30 nt c30, .slice a31 ne c31] : List Value))) := by simp
   have hL2_2 : (([.int .i64 x_kind, .int .i64 x_pos, .bool x_mu, .string ⟨x_name.toArray⟩] : List Value) ++ r4 ++ ([.bool x_has] : List Value) ++ r9 ++ r11 ++ s26 ++ ([.slice a30 nt c30, .slice a31 ne c31] : List Value) : List Value) = (([.int .i64 x_kind, .int .i64 x_pos, .bool x_mu, .string ⟨x_name.toArray⟩] : List Value) ++ r4 ++ ([.bool x_has] : List Value) ++ r9) ++ (r11 ++ (s26 ++ ([.slice a30 nt c30, .slice a31 ne c31] : List Value))) := by simp
   have m_2 := midFit_blk B_1 (o := 11) (n := 15) (by simp [bl_ty, bl_pl, al_val, al_cond])
   have B_2 : Blk (midSet (midSet (midSet (v4) gx 4 r4.toArray) gx 9 r9.toArray) gx 11 r11.toArray) gx (([.int .i64 x_kind, .int .i64 x_pos, .bool x_mu, .string ⟨x_name.toArray⟩] : List Value) ++ r4 ++ ([.bool x_has] : List Value) ++ r9 ++ r11 ++ s26 ++ ([.slice a30 nt c30, .slice a31 ne c31] : List Value)).toArray 121 := by
    rw [hL2_2]
    exact box_mid (pre := ([.int .i64 x_kind, .int .i64 x_pos, .bool x_mu, .string ⟨x_name.toArray⟩] : List Value) ++ r4 ++ ([.bool x_has] : List Value) ++ r9) (mid := s11) (post := s26 ++ ([.slice a30 nt c30, .slice a31 ne c31] : List Value)) (new := r11) B_1 (by rw [hL1_2]) (by simp [bl_ty, bl_pl]) (by rw [bl_val, al_val])
   have bl_cond := RCo.out.len
   have ag_3 := agg_ok RCo.out.len RCo.out.one
   have hL1_3 : (([.int .i64 x_kind, .int .i64 x_pos, .bool x_mu, .string ⟨x_name.toArray⟩] : List Value) ++ r4 ++ ([.bool x_has] : List Value) ++ r9 ++ r11 ++ s26 ++ ([.slice a30 nt c30, .slice a31 ne c31] : List Value) : List Value) = (([.int .i64 x_kind, .int .i64 x_pos, .bool x_mu, .string ⟨x_name.toArray⟩] : List Value) ++ r4 ++ ([.bool x_has] : List Value) ++ r9 ++ r11) ++ (s26 ++ (([.slice a30 nt c30, .slice a31 ne c31] : List Value))) := by simp
   have hL2_3 : (([.int .i64 x_kind, .int .i64 x_pos, .bool x_mu, .string ⟨x_name.toArray⟩] : List Value) ++ r4 ++ ([.bool x_has] : List Value) ++ r9 ++ r11 ++ r26 ++ ([.slice a30 nt c30, .slice a31 ne c31] : List Value) : List Value) = (([.int .i64 x_kind, .int .i64 x_pos, .bool x_mu, .string ⟨x_name.toArray⟩] : List Value) ++ r4 ++ ([.bool x_has] : List Value) ++ r9 ++ r11) ++ (r26 ++ (([.slice a30 nt c30, .slice a31 ne c31] : List Value))) := by simp
   have m_3 := midFit_blk B_2 (o := 26) (n := 4) (by simp [bl_ty, bl_pl, bl_val, al_cond])
   have B_3 : Blk (midSet (midSet (midSet (midSet (v4) gx 4 r4.toArray) gx 9 r9.toArray) gx 11 r11.toArray) gx 26 r26.toArray) gx (([.int .i64 x_kind, .int .i64 x_pos, .bool x_mu, .string ⟨x_name.toArray⟩] : List Value) ++ r4 ++ ([.bool x_has] : List Value) ++ r9 ++ r11 ++ r26 ++ ([.slice a30 nt c30, .slice a31 ne c31] : List Value)).toArray 121 := by
    rw [hL2_3]
    exact box_mid (pre := ([.int .i64 x_kind, .int .i64 x_pos, .bool x_mu, .string ⟨x_name.toArray⟩] : List Value) ++ r4 ++ ([.bool x_has] : List Value) ++ r9 ++ r11) (mid := s26) (post := ([.slice a30 nt c30, .slice a31 ne c31] : List Value)) (new := r26) B_2 (by rw [hL1_3]) (by simp [bl_ty, bl_pl, bl_val]) (by rw [bl_cond, al_cond])
   have KS : ∀ T : Nat → Prop, T gx → Keeps T v4 (midSet (midSet (midSet (midSet (v4) gx 4 r4.toArray) gx 9 r9.toArray) gx 11 r11.toArray) gx 26 r26.toArray) := fun T hT => (midSet_keeps (midSet_keeps (midSet_keeps (midSet_keeps (Keeps.refl T v4) (g := gx) (fun _ => hT) _ _) (g := gx) (fun _ => hT) _ _) (g := gx) (fun _ => hT) _ _) (g := gx) (fun _ => hT) _ _)
   have KWf : Keeps Nothing wr (midSet (midSet (midSet (midSet (v4) gx 4 r4.toArray) gx 9 r9.toArray) gx 11 r11.toArray) gx 26 r26.toArray) := (kx1.trans kc4 (fun _ h _ => h)).trans (KS (fun b => b = gx) rfl) (fun b hb hlt => by have hb' : b = gx := hb; have := HGX.out; omega)
   have KM := KS (fun b => b < w1.heap.size) hgx
   have hszf : w1.heap.size ≤ (midSet (midSet (midSet (midSet (v4) gx 4 r4.toArray) gx 9 r9.toArray) gx 11 r11.toArray) gx 26 r26.toArray).heap.size := Nat.le_trans kc4.size KM.size
   have kq0 : Keeps Nothing v1 v4 := (((Keeps.refl Nothing v1).trans kk2 (fun _ h _ => h)).trans kk3 (fun _ h _ => h)).trans kk4 (fun _ h _ => h)
   have hq0 : w1.heap.size ≤ w1.drew.heap.size := Nat.le_trans (Nat.le_refl _) (Nat.le_refl _)
   have KN0 : Keeps (fun b => b < w1.drew.heap.size) v1 (midSet (midSet (midSet (midSet (v4) gx 4 r4.toArray) gx 9 r9.toArray) gx 11 r11.toArray) gx 26 r26.toArray) := (kq0.mono (S' := fun b => b < w1.drew.heap.size) (fun _ h _ => h.elim)).trans (KM.mono (S' := fun b => b < w1.drew.heap.size) (fun b hb _ => Nat.lt_of_lt_of_le hb hq0)) (fun _ h _ => h)
   have RTy := shut (tyOk.on RTy.out KN0 hq0)
   have kq1 : Keeps Nothing v2 v4 := ((Keeps.refl Nothing v2).trans kk3 (fun _ h _ => h)).trans kk4 (fun _ h _ => h)
   have hq1 : w1.heap.size ≤ v1.heap.size := Nat.le_trans (Nat.le_refl _) kc1.size
   have KN1 : Keeps (fun b => b < v1.heap.size) v2 (midSet (midSet (midSet (midSet (v4) gx 4 r4.toArray) gx 9 r9.toArray) gx 11 r11.toArray) gx 26 r26.toArray) := (kq1.mono (S' := fun b => b < v1.heap.size) (fun _ h _ => h.elim)).trans (KM.mono (S' := fun b => b < v1.heap.size) (fun b hb _ => Nat.lt_of_lt_of_le hb hq1)) (fun _ h _ => h)
   have RPl := shut (plOk.on RPl.out KN1 hq1)
   have kq2 : Keeps Nothing v3 v4 := (Keeps.refl Nothing v3).trans kk4 (fun _ h _ => h)
   have hq2 : w1.heap.size ≤ v2.heap.size := Nat.le_trans (Nat.le_refl _) kc2.size
   have KN2 : Keeps (fun b => b < v2.heap.size) v3 (midSet (midSet (midSet (midSet (v4) gx 4 r4.toArray) gx 9 r9.toArray) gx 11 r11.toArray) gx 26 r26.toArray) := (kq2.mono (S' := fun b => b < v2.heap.size) (fun _ h _ => h.elim)).trans (KM.mono (S' := fun b => b < v2.heap.size) (fun b hb _ => Nat.lt_of_lt_of_le hb hq2)) (fun _ h _ => h)
   have RVa := shut (valOk.on RVa.out KN2 hq2)
   have kq3 : Keeps Nothing v4 v4 := Keeps.refl Nothing v4
   have hq3 : w1.heap.size ≤ v3.heap.size := Nat.le_trans (Nat.le_refl _) kc3.size
   have KN3 : Keeps (fun b => b < v3.heap.size) v4 (midSet (midSet (midSet (midSet (v4) gx 4 r4.toArray) gx 9 r9.toArray) gx 11 r11.toArray) gx 26 r26.toArray) := (kq3.mono (S' := fun b => b < v3.heap.size) (fun _ h _ => h.elim)).trans (KM.mono (S' := fun b => b < v3.heap.size) (fun b hb _ => Nat.lt_of_lt_of_le hb hq3)) (fun _ h _ => h)
   have RCo := shut (oprOk.on RCo.out KN3 hq3)
   refine wpMixB_late (fun K hK => ?_)
   go_wp2_with fail
   refine wpMixB_late (fun K hK => ?_)
   go_wp2_with fail
   refine wpMixB_late (fun K hK => ?_)
   go_wp2_with fail
   refine wpMixB_late (fun K hK => ?_)
   go_wp2_with fail
   refine wpMixB_late (fun K hK => ?_)
   go_wp2_with fail
   refine wpMixB_late (fun K hK => ?_)
   go_wp2_with fail
   refine wpMixB_late (fun K hK => ?_)
   go_wp2_with fail
   refine wpMixB_nil ?_
   have BAf := B_3
   clear hL1_0 hL2_0 hL1_1 hL2_1 hL1_2 hL2_2 hL1_3 hL2_3 kq0 hq0 KN0 kk1 kc1 kq1 hq1 KN1 kk2 kc2 kq2 hq2 KN2 kk3 kc3 kq3 hq3 KN3 kk4 kc4 m_0 ag_0 m_1 ag_1 m_2 ag_2 m_3 ag_3 B_0 B_1 B_2 B_3 KS KM BA2 kdr hCs
   generalize midSet (midSet (midSet (midSet (v4) gx 4 r4.toArray) gx 9 r9.toArray) gx 11 r11.toArray) gx 26 r26.toArray = wq at *
   have hszq := hszf
   have kxa := KWf
   obtain ⟨C, hC⟩ : ∃ C, C = (([.int .i64 x_kind, .int .i64 x_pos, .bool x_mu, .string ⟨x_name.toArray⟩] : List Value) ++ r4 ++ ([.bool x_has] : List Value) ++ r9 ++ r11 ++ r26 ++ ([.slice a30 nt c30, .slice a31 ne c31] : List Value)).toArray := ⟨_, rfl⟩
   rw [← hC] at BAf
   have GC := shut hC
   have BA := BAf
   clear hC BAf KWf hszf BX GX
   go_upto_region 6 with fail
   have kdr : Keeps Nothing wq wq.drew := (Keeps.refl Nothing wq).drew
   refine wp_region_mixB (fun V => Keeps Nothing wq V) [(0, 0), (0, 1), (0, 3), (0, 4), (1, 2), (0, 6), (1, 5), (2, 7), (2, 8), (2, 9)] (by kernel_rfl) (by kernel_rfl) kdr ?_
   simp only [itemsB, List.map_cons, List.map_nil, List.getD_cons_zero, List.getD_cons_succ]
   refine wpMixB_free (fun K hK => ?_); go_simp; refine hK _ ?_; clear hK K
   refine wpMixB_yield (v := .slice a30 nt c30) (fun V hV => ?_) (fun K hK => ?_)
   ·obtain ⟨-, -, -, -, -, -, -, -, -, e1, -⟩ := StB bl_ty bl_pl bl_val bl_cond GC.out (hV.blk BA (fun h => h))
    go_simp
   go_simp
   refine hK _ ?_
   clear hK K
   refine wpMixB_free (fun K hK => ?_); go_simp; refine hK _ ?_; clear hK K
   refine wpMixB_yield (v := .slice a31 ne c31) (fun V hV => ?_) (fun K hK => ?_)
   ·obtain ⟨-, -, -, -, -, -, -, -, -, -, e1⟩ := StB bl_ty bl_pl bl_val bl_cond GC.out (hV.blk BA (fun h => h))
    go_simp
   go_simp
   refine hK _ ?_
   clear hK K
   have hc := HI1.out wq.drew a30 c30 (HTh.out.keeps (S' := S) (Q := StIs S wq.drew) (kxa.trans kdr (fun _ h _ => h)) (fun _ _ h => h) (fun _ h => h) (fun _ _ _ h => h.keeps (kxa.trans kdr (fun _ h _ => h)) (fun _ _ h => h) (fun _ h => h)))
   rw [HNT.out] at hc
   refine wpMixB_one (fun K hK => ?_)
   go_wp2_with fail
   refine hc.mono ?_
   rintro e v1 ⟨b30, d30, rfl, k2, hR⟩
   rw [HNT.out]
   have RTh := shut hR
   have kc1 := kdr.trans k2 (fun _ h _ => h)
   have kk1 := k2
   clear hc hR k2
   go_wp2_with fail
   refine hK _ _ kc1 ?_
   clear hK K
   refine wpMixB_free (fun K hK => ?_); go_simp; refine hK _ ?_; clear hK K
   have hc := HI2.out v1 a31 c31 (HEl.out.keeps (S' := S) (Q := StIs S v1) (kxa.trans kc1 (fun _ h _ => h)) (fun _ _ h => h) (fun _ h => h) (fun _ _ _ h => h.keeps (kxa.trans kc1 (fun _ h _ => h)) (fun _ _ h => h) (fun _ h => h)))
   rw [HNE.out] at hc
   refine wpMixB_one (fun K hK => ?_)
   go_wp2_with fail
   refine hc.mono ?_
   rintro e v2 ⟨b31, d31, rfl, k2, hR⟩
   rw [HNE.out]
   have REl := shut hR
   have kc2 := kc1.trans k2 (fun _ h _ => h)
   have kk2 := k2
   clear hc hR k2
   go_wp2_with fail
   refine hK _ _ kc2 ?_
   clear hK K
   have BA2 := kc2.blk BA (fun h => h)
   have hCs : C.size = 32 := by rw [GC.out]; simp [bl_ty, bl_pl, bl_val, bl_cond]
   have hL1_0 : (([.int .i64 x_kind, .int .i64 x_pos, .bool x_mu, .string ⟨x_name.toArray⟩] : List Value) ++ r4 ++ ([.bool x_has] : List Value) ++ r9 ++ r11 ++ r26 ++ ([.slice a30 nt c30, .slice a31 ne c31] : List Value) : List Value) = (([.int .i64 x_kind, .int .i64 x_pos, .bool x_mu, .string ⟨x_name.toArray⟩] : List Value) ++ r4 ++ ([.bool x_has] : List Value) ++ r9 ++ r11 ++ r26) ++ (.slice a30 nt c30 :: (([.slice a31 ne c31] : List Value))) := by simp
   have hL2_0 : (([.int .i64 x_kind, .int .i64 x_pos, .bool x_mu, .string ⟨x_name.toArray⟩] : List Value) ++ r4 ++ ([.bool x_has] : List Value) ++ r9 ++ r11 ++ r26 ++ ([.slice b30 nt d30, .slice a31 ne c31] : List Value) : List Value) = (([.int .i64 x_kind, .int .i64 x_pos, .bool x_mu, .string ⟨x_name.toArray⟩] : List Value) ++ r4 ++ ([.bool x_has] : List Value) ++ r9 ++ r11 ++ r26) ++ (.slice b30 nt d30 :: (([.slice a31 ne c31] : List Value))) := by simp
   obtain ⟨-, -, -, -, -, -, -, -, -, s_0, -⟩ := StB bl_ty bl_pl bl_val bl_cond GC.out BA2
   have f_0 := blk_free BA2 30
   have B_0 : Blk ((v2).setCell ⟨gx, 30, none⟩ (.slice b30 nt d30)) gx (([.int .i64 x_kind, .int .i64 x_pos, .bool x_mu, .string ⟨x_name.toArray⟩] : List Value) ++ r4 ++ ([.bool x_has] : List Value) ++ r9 ++ r11 ++ r26 ++ ([.slice b30 nt d30, .slice a31 ne c31] : List Value)).toArray 121 := by
    rw [hL2_0]
    exact box_set (pre := ([.int .i64 x_kind, .int .i64 x_pos, .bool x_mu, .string ⟨x_name.toArray⟩] : List Value) ++ r4 ++ ([.bool x_has] : List Value) ++ r9 ++ r11 ++ r26) (post := ([.slice a31 ne c31] : List Value)) (v := .slice a30 nt c30) (u := .slice b30 nt d30) BA2 (by rw [GC.out, hL1_0]) (by simp [bl_ty, bl_pl, bl_val, bl_cond])
   have hL1_1 : (([.int .i64 x_kind, .int .i64 x_pos, .bool x_mu, .string ⟨x_name.toArray⟩] : List Value) ++ r4 ++ ([.bool x_has] : List Value) ++ r9 ++ r11 ++ r26 ++ ([.slice b30 nt d30, .slice a31 ne c31] : List Value) : List Value) = (([.int .i64 x_kind, .int .i64 x_pos, .bool x_mu, .string ⟨x_name.toArray⟩] : List Value) ++ r4 ++ ([.bool x_has] : List Value) ++ r9 ++ r11 ++ r26 ++ ([.slice b30 nt d30] : List Value)) ++ (.slice a31 ne c31 :: (([] : List Value))) := by simp
   have hL2_1 : (([.int .i64 x_kind, .int .i64 x_pos, .bool x_mu, .string ⟨x_name.toArray⟩] : List Value) ++ r4 ++ ([.bool x_has] : List Value) ++ r9 ++ r11 ++ r26 ++ ([.slice b30 nt d30, .slice b31 ne d31] : List Value) : List Value) = (([.int .i64 x_kind, .int .i64 x_pos, .bool x_mu, .string ⟨x_name.toArray⟩] : List Value) ++ r4 ++ ([.bool x_has] : List Value) ++ r9 ++ r11 ++ r26 ++ ([.slice b30 nt d30] : List Value)) ++ (.slice b31 ne d31 :: (([] : List Value))) := by simp
   obtain ⟨-, -, -, -, -, -, -, -, -, -, s_1⟩ := StB bl_ty bl_pl bl_val bl_cond rfl B_0
   have f_1 := blk_free B_0 31
   have B_1 : Blk (((v2).setCell ⟨gx, 30, none⟩ (.slice b30 nt d30)).setCell ⟨gx, 31, none⟩ (.slice b31 ne d31)) gx (([.int .i64 x_kind, .int .i64 x_pos, .bool x_mu, .string ⟨x_name.toArray⟩] : List Value) ++ r4 ++ ([.bool x_has] : List Value) ++ r9 ++ r11 ++ r26 ++ ([.slice b30 nt d30, .slice b31 ne d31] : List Value)).toArray 121 := by
    rw [hL2_1]
    exact box_set (pre := ([.int .i64 x_kind, .int .i64 x_pos, .bool x_mu, .string ⟨x_name.toArray⟩] : List Value) ++ r4 ++ ([.bool x_has] : List Value) ++ r9 ++ r11 ++ r26 ++ ([.slice b30 nt d30] : List Value)) (post := ([] : List Value)) (v := .slice a31 ne c31) (u := .slice b31 ne d31) B_0 (by rw [hL1_1]) (by simp [bl_ty, bl_pl, bl_val, bl_cond])
   have KS : ∀ T : Nat → Prop, T gx → Keeps T v2 (((v2).setCell ⟨gx, 30, none⟩ (.slice b30 nt d30)).setCell ⟨gx, 31, none⟩ (.slice b31 ne d31)) := fun T hT => (((Keeps.refl T v2).setCell (p := ⟨gx, 30, none⟩) (fun _ => hT) _).setCell (p := ⟨gx, 31, none⟩) (fun _ => hT) _)
   have KWf : Keeps Nothing wr (((v2).setCell ⟨gx, 30, none⟩ (.slice b30 nt d30)).setCell ⟨gx, 31, none⟩ (.slice b31 ne d31)) := (kxa.trans kc2 (fun _ h _ => h)).trans (KS (fun b => b = gx) rfl) (fun b hb hlt => by have hb' : b = gx := hb; have := HGX.out; omega)
   have KM := KS (fun b => b < w1.heap.size) hgx
   have hszf : wq.heap.size ≤ (((v2).setCell ⟨gx, 30, none⟩ (.slice b30 nt d30)).setCell ⟨gx, 31, none⟩ (.slice b31 ne d31)).heap.size := Nat.le_trans kc2.size KM.size
   have KK : Keeps (fun b => b < w1.heap.size) wq (((v2).setCell ⟨gx, 30, none⟩ (.slice b30 nt d30)).setCell ⟨gx, 31, none⟩ (.slice b31 ne d31)) := (kc2.mono (S' := fun b => b < w1.heap.size) (fun _ h _ => h.elim)).trans KM (fun _ h _ => h)
   have RTy := shut (tyOk.on RTy.out KK (Nat.le_refl w1.heap.size))
   have RPl := shut (plOk.on RPl.out KK (Nat.le_refl w1.heap.size))
   have RVa := shut (valOk.on RVa.out KK (Nat.le_refl w1.heap.size))
   have RCo := shut (oprOk.on RCo.out KK (Nat.le_refl w1.heap.size))
   have kq0 : Keeps Nothing v1 v2 := (Keeps.refl Nothing v1).trans kk2 (fun _ h _ => h)
   have hq0 : w1.heap.size ≤ wq.drew.heap.size := Nat.le_trans hszq (Nat.le_refl _)
   have KN0 : Keeps (fun b => b < wq.drew.heap.size) v1 (((v2).setCell ⟨gx, 30, none⟩ (.slice b30 nt d30)).setCell ⟨gx, 31, none⟩ (.slice b31 ne d31)) := (kq0.mono (S' := fun b => b < wq.drew.heap.size) (fun _ h _ => h.elim)).trans (KM.mono (S' := fun b => b < wq.drew.heap.size) (fun b hb _ => Nat.lt_of_lt_of_le hb hq0)) (fun _ h _ => h)
   have RTh := shut (sl2_on RTh.out KN0 hq0)
   have kq1 : Keeps Nothing v2 v2 := Keeps.refl Nothing v2
   have hq1 : w1.heap.size ≤ v1.heap.size := Nat.le_trans hszq kc1.size
   have KN1 : Keeps (fun b => b < v1.heap.size) v2 (((v2).setCell ⟨gx, 30, none⟩ (.slice b30 nt d30)).setCell ⟨gx, 31, none⟩ (.slice b31 ne d31)) := (kq1.mono (S' := fun b => b < v1.heap.size) (fun _ h _ => h.elim)).trans (KM.mono (S' := fun b => b < v1.heap.size) (fun b hb _ => Nat.lt_of_lt_of_le hb hq1)) (fun _ h _ => h)
   have REl := shut (sl2_on REl.out KN1 hq1)
   refine wpMixB_late (fun K hK => ?_)
   go_wp2_with fail
   any_goals try (rename_i hfz; simp [f_0] at hfz; done)
   refine wpMixB_late (fun K hK => ?_)
   go_wp2_with fail
   refine wpMixB_late (fun K hK => ?_)
   go_wp2_with fail
   any_goals try (rename_i hfz; simp [f_1] at hfz; done)
   refine wpMixB_nil ?_
   have BAf := B_1
   clear hL1_0 hL2_0 hL1_1 hL2_1 kq0 hq0 KN0 kk1 kc1 kq1 hq1 KN1 kk2 kc2 s_0 f_0 s_1 f_1 B_0 B_1 KS KM BA2 kdr hCs KK
   generalize ((v2).setCell ⟨gx, 30, none⟩ (.slice b30 nt d30)).setCell ⟨gx, 31, none⟩ (.slice b31 ne d31) = w2 at *
   have hw12 : w1.heap.size ≤ w2.heap.size := Nat.le_trans hszq hszf
   have kx := KWf
   have hN : St2 (NewA w1.heap.size w2) w2 (StD.mk x_kind x_pos x_mu x_name x_ty x_has x_place x_val x_cond x_thn x_els) (([.int .i64 x_kind, .int .i64 x_pos, .bool x_mu, .string ⟨x_name.toArray⟩] : List Value) ++ r4 ++ ([.bool x_has] : List Value) ++ r9 ++ r11 ++ r26 ++ ([.slice b30 nt d30, .slice b31 ne d31] : List Value)) := by
    rw [st2_iff]
    exact ⟨r4, r9, r11, r26, b30, d30, b31, d31, by simp only [StD.kind, StD.pos, StD.mu, StD.name, StD.has, StD.thn, StD.els, HNT.out, HNE.out]; rfl, HXN.out, tyOk.off RTy.out, plOk.off RPl.out, valOk.off RVa.out, oprOk.off RCo.out, RTh.out, REl.out⟩
   obtain ⟨cs2, hcs2⟩ : ∃ cs2, (([.int .i64 x_kind, .int .i64 x_pos, .bool x_mu, .string ⟨x_name.toArray⟩] : List Value) ++ r4 ++ ([.bool x_has] : List Value) ++ r9 ++ r11 ++ r26 ++ ([.slice b30 nt d30, .slice b31 ne d31] : List Value)) = cs2 := ⟨_, rfl⟩
   rw [hcs2] at hN BAf
   have HN := shut hN
   have hlc := hN.len
   obtain ⟨Cy, hCy⟩ : ∃ Cy, Cy = cs2.toArray := ⟨_, rfl⟩
   rw [← hCy] at BAf
   have hsy : Cy.size = 32 := by rw [hCy]; simpa using hlc
   have GCy := shut hCy
   have agy : aggOk 32 (.agg Cy) = true := by rw [hCy]; exact agg_ok hN.len hN.one
   clear hN hcs2 hCy GC BA KWf hszf hszq kxa RTy RPl RVa RCo RTh REl
   go_upto_region 7 with fail
   obtain ⟨z1, z2⟩ := tblk_mid BAf hsy
   have BB := blk_new w2 (Cy) 121
   have kb : Keeps Nothing w2 (w2.alloc (.cells (Cy) 121)) := (Keeps.refl Nothing w2).alloc _
   have kx3 := kx.trans kb (fun _ h _ => h)
   have hW0 : w.heap.size ≤ w1.heap.size := Nat.le_trans KL.size hw01
   clear kx
   have HO3 := shut (HO.out.keepsN (newA_ok _) st2Ok kx3)
   have hlao : ∀ g, blockOf ao = some g → g < wr.heap.size := fun g hg => HO.out.lt hg
   have hel : St2 (InB (NewA w.heap.size) (w2.alloc (.cells (Cy) 121)) ao) (w2.alloc (.cells (Cy) 121)) (StD.mk x_kind x_pos x_mu x_name x_ty x_has x_place x_val x_cond x_thn x_els) cs2 := st2Ok.keep _ _ _ _ _ _ _ HN.out kb (fun _ _ h => h) (fun b hb => ⟨(newA_ok _).keep Nothing w2 (w2.alloc (.cells (Cy) 121)) b kb (fun h => h) ⟨Nat.le_trans hW0 hb.1, hb.2⟩, fun q => by have := hlao b q; have := hb.1; omega⟩)
   have HEL := shut hel
   have hlt3 : w.heap.size ≤ (w2.alloc (.cells (Cy) 121)).heap.size := Nat.le_trans (Nat.le_trans hW0 hw12) kb.size
   have htl : Shut ((l.take t).length = t) := shut (by rw [List.length_take, HLN.out]; omega)
   have htb : t ≤ 1000000000 := by omega
   have HNEW := shut HO.out.new
   have HBB := shut BB
   have KX3 : Keeps (fun b => w.heap.size ≤ b) w (w2.alloc (.cells (Cy) 121)) := KL.trans kx3 (fun _ h _ => h.elim)
   clear hel BB KL HO kx3 kb HN
   go_wp2_with (at_builtin; rw [fillN (n := 32) rfl hsy]; refine wpList_appD _ rfl (.tmp 36) (.tmp 38) 54 rfl Tryz.underlying54 iaSt (by decide) (newA_ok _) st2Ok t htl.out rfl HO3.out hlt3 _ _ cs2 (StD.mk x_kind x_pos x_mu x_name x_ty x_has x_place x_val x_cond x_thn x_els) GCy.out rfl HBB.out HEL.out htb ?_)
   intro a4 c4 w4 O4 k4 m4
   have HO4 : Shut (OutR (NewA w.heap.size) 121 32 St2 w.heap.size w4 a4 c4 (l.take (t + 1))) := shut (by rw [List.take_add_one, HX.out]; exact O4)
   have KL4 := KX3.trans k4 (fun g hg _ => HNEW.out g hg)
   clear O4 k4 m4 KX3 HO3 HEL HBB HNEW
   go_wp2_with fail
   go_roundw
   case rel => exact ⟨t + 1, a4, c4, by go_num, rfl, by omega, KL4, HO4⟩
   case measure => (simp [intOf]; try omega)
  obtain rfl : t = n := by omega
  have m1 : ¬ (t : Int) < t := by omega
  have HO1 : Shut (OutR (NewA w.heap.size) 121 32 St2 w.heap.size wr ao cap l) := shut (by have := HO.out; rwa [List.take_of_length_le (Nat.le_of_eq HLN.out)] at this)
  clear HO
  have hfin : CS w l (.returned (.slice ao t cap)) wr := ⟨ao, cap, by rw [HLN.out], keepsHi KL, HO1.out.sl2 (fun _ h => h) (fun g hg => ⟨HO1.out.new g hg, HO1.out.lt hg⟩) (by rw [HLN.out]; unfold bigN; omega)⟩
  have HF := shut hfin
  clear hfin HO1 HL
  go_wp2_with fail
  go_ret
  exact HF.out
theorem cstmts_any (l : List StD) : StmtsC l := by
 have key : ∀ d : StD, StmtsC d.thn ∧ StmtsC d.els := by
  intro d
  refine StD.ind (P := fun d => StmtsC d.thn ∧ StmtsC d.els) ?_ d
  intro x_kind x_pos x_mu x_name x_ty x_has x_place x_val x_cond x_thn x_els h1 h2
  exact ⟨fun w ar c h => cstmts_of h1 w ar c h, fun w ar c h => cstmts_of h2 w ar c h⟩
 intro S w ar c h
 exact cstmts_of (fun e _ => key e) w ar c h
end Go.Proofs.YtjbcagbnagefcaaGreat
namespace Go.Proofs.YtjbcagbnagefcaaGreat
open Go.RowKit
attribute [local irreducible] wpMix wpMixB wpList
attribute [local go_sem ↓] exec_mid_ty exec_store_ty exec_mid_pl exec_store_pl exec_mid_opr exec_store_opr exec_mid_val exec_store_val exec_mid_st exec_store_st exec_mid_fld exec_store_fld exec_mid_str exec_store_str exec_mid_lif exec_store_lif exec_mid_fun exec_store_fun exec_mid_cr exec_store_cr
attribute [local go_sem ↓] exec_into_pl exec_into_opr exec_into_ty exec_into_val
attribute [local go_sem] rowOk_new World.setRow_alloc_new
def Fun2 (N : Nat) (w : World) (d : FunD) (cs : List Value) : Prop := ∃ (a2 : Option Addr) (c2 : Nat) (a3 : Option Addr) (c3 : Nat) (s4 : List Value) (a8 : Option Addr) (c8 : Nat), cs = [.bool d.pub, txV d.name, .slice a2 (d.lives).length c2, .slice a3 (d.params).length c3] ++ s4 ++ [.slice a8 (d.body).length c8, .int .i64 d.pos] ∧ (d.name).length ≤ bigN ∧ SlIs (NewB N w) w 2 (LifIs (NewB N w) w) a2 (d.lives) ∧ SlIs (NewB N w) w 6 (FldIs (NewB N w) w) a3 (d.params) ∧ TyIs (NewB N w) w (d.result) s4 ∧ Sl2 (NewA N w) w a8 (d.body) ∧ ∀ g, blockOf a3 = some g → N ≤ g ∧ fldB w g
theorem newB_A {N : Nat} {w : World} : ∀ b, NewB N w b → NewA N w b := fun _ h => ⟨h.1, h.2.1⟩
theorem Fun2.f {N : Nat} {w : World} {d : FunD} {cs : List Value} (h : Fun2 N w d cs) : FunIs (NewA N w) w d cs := by
 obtain ⟨a2, c2, a3, c3, s4, a8, c8, hcs, h0, h1, h2, h3, h4, -⟩ := h
 have K : Keeps Nothing w w := Keeps.refl _ _
 exact ⟨a2, c2, a3, c3, s4, a8, c8, hcs, h0, h1.keeps K (fun _ _ h => h) newB_A (fun _ _ _ h => h.keeps K (fun _ _ h => h) newB_A), h2.keeps K (fun _ _ h => h) newB_A (fun _ _ _ h => h.keeps K (fun _ _ h => h) newB_A), h3.keeps K (fun _ _ h => h) newB_A, h4.sl⟩
theorem Fun2.one {N : Nat} {w : World} {d : FunD} {cs : List Value} (h : Fun2 N w d cs) : ∀ u ∈ cs, u.oneCell' = true := h.f.one
def CFun (w : World) (d : FunD) (e : Ending) (w' : World) : Prop := ∃ cs : List Value, e = .returned (.agg cs.toArray) ∧ Keeps Nothing w w' ∧ Fun2 w.heap.size w' d cs
set_option maxRecDepth 100000 in
set_option linter.unusedSimpArgs false in
set_option maxHeartbeats 8000000 in
theorem cfunc_any {S : Nat → Prop} (d : FunD) (w : World) (cs : List Value) (h : FunIs S w d cs) : Calls Tryz.prog 50 #[.agg cs.toArray] w (CFun w d) := by
 have ag1 := agg_ok h.len h.one
 obtain ⟨f_pub, f_name, f_lives, f_params, f_result, f_body, f_pos⟩ := d
 obtain ⟨a2, c2, a3, c3, s4, a8, c8, hcs, hn, h2, h3, h4, h8⟩ := h
 simp only at hcs hn h2 h3 h4 h8
 unfold txV at hcs
 obtain ⟨n, hln⟩ : ∃ n, f_lives.length = n := ⟨_, rfl⟩
 obtain ⟨np, hnp⟩ : ∃ np, f_params.length = np := ⟨_, rfl⟩
 obtain ⟨nb, hnb'⟩ : ∃ nb, f_body.length = nb := ⟨_, rfl⟩
 rw [hln, hnp, hnb'] at hcs
 have HLN := shut hln
 have HLP := shut hnp
 have HLB := shut hnb'
 have HNA := shut hn
 have HL := shut h2
 have HL3 := shut h3
 have HTy := shut h4
 have HL8 := shut h8
 have al_ty := h4.len
 have hnb : n ≤ 100000000 := by have := h2.1; unfold bigN at this; omega
 obtain ⟨C, hC⟩ : ∃ C, C = cs.toArray := ⟨_, rfl⟩
 rw [← hC] at ag1 ⊢
 rw [hcs] at hC
 have GC := shut hC
 clear hC hcs hln hnp hnb' hn h2 h3 h4 h8
 have BA := blk_alloc (blk_new w C 56) (.cells #[.bool false, .string ⟨#[]⟩, .slice none 0 0, .slice none 0 0, .int .i64 0, .string ⟨#[]⟩, .slice none 0 0, .slice none 0 0, .slice none 0 0, .int .i64 0] 56)
 have BR := blk_new (w.alloc (.cells C 56)) #[.bool false, .string ⟨#[]⟩, .slice none 0 0, .slice none 0 0, .int .i64 0, .string ⟨#[]⟩, .slice none 0 0, .slice none 0 0, .slice none 0 0, .int .i64 0] 56
 have KW : Keeps Nothing w ((w.alloc (.cells C 56)).alloc (.cells #[.bool false, .string ⟨#[]⟩, .slice none 0 0, .slice none 0 0, .int .i64 0, .string ⟨#[]⟩, .slice none 0 0, .slice none 0 0, .slice none 0 0, .int .i64 0] 56)) := ((Keeps.refl Nothing w).alloc _).alloc _
 have HM0 : ((w.alloc (.cells C 56)).alloc (.cells #[.bool false, .string ⟨#[]⟩, .slice none 0 0, .slice none 0 0, .int .i64 0, .string ⟨#[]⟩, .slice none 0 0, .slice none 0 0, .slice none 0 0, .int .i64 0] 56)).heap.size = w.heap.size + 1 + 1 := by rw [World.size_alloc, World.size_alloc]
 rw [World.size_alloc] at BR
 go_enter Tryz.func50, Tryz.ntmps50
 go_upto_region 1 with fail
 generalize (w.alloc (.cells C 56)).alloc (.cells #[.bool false, .string ⟨#[]⟩, .slice none 0 0, .slice none 0 0, .int .i64 0, .string ⟨#[]⟩, .slice none 0 0, .slice none 0 0, .slice none 0 0, .int .i64 0] 56) = w0 at *
 have HGA : Shut (w.heap.size ≤ w.heap.size) := shut (Nat.le_refl _)
 have HGR : Shut (w.heap.size ≤ w.heap.size + 1) := shut (Nat.le_succ _)
 have hne : w.heap.size ≠ w.heap.size + 1 := by omega
 have hgaM : w.heap.size < w.heap.size + 1 + 1 := by omega
 have hgrM : w.heap.size + 1 < w.heap.size + 1 + 1 := by omega
 have hMb : w.heap.size + 1 + 1 ≤ w0.heap.size := Nat.le_of_eq HM0.symm
 have HNM : Shut (w.heap.size ≤ w.heap.size + 1 + 1) := shut (by omega)
 clear HM0 ag1
 obtain ⟨ga, hga⟩ : ∃ ga, w.heap.size = ga := ⟨_, rfl⟩
 obtain ⟨gr, hgr⟩ : ∃ gr, w.heap.size + 1 = gr := ⟨_, rfl⟩
 obtain ⟨M, hM⟩ : ∃ M, w.heap.size + 1 + 1 = M := ⟨_, rfl⟩
 rw [hM] at hgaM hgrM hMb HNM
 rw [hgr] at BR hne hgrM HGR ⊢
 have HGA2 : Shut (w.heap.size ≤ ga) := shut (Nat.le_of_eq hga)
 clear HGA
 have HGA := HGA2
 clear HGA2 hM hgr
 rw [hga] at BA hne hgaM ⊢
 clear hga
 obtain ⟨-, -, e7, -, -, -, -⟩ := FunB al_ty GC.out BA
 go_wp2_with fail
 go_loopw [3, 9] (fun s3 s9 wx => ∃ (t : Nat) (ao : Option Addr) (cap : Nat), s9 = .int .i64 t ∧ s3 = .slice ao t cap ∧ t ≤ n ∧ Keeps (fun b => w0.heap.size ≤ b) w0 wx ∧ Shut (OutR (NewB w0.heap.size) 76 2 LifIs w0.heap.size wx ao cap (f_lives.take t))) (fun _ s9 _ => n - (intOf s9).toNat)
 case atStart => exact ⟨0, none, 0, rfl, rfl, Nat.zero_le _, Keeps.refl _ _, shut (by rw [List.take_zero]; exact outR_nil _ _ _ _ _ _)⟩
 case round =>
  obtain ⟨t, ao, cap, rfl, rfl, ht, KL, HO⟩ := hrel
  by_cases hlt : t < n
  ·obtain ⟨x, hx⟩ : ∃ x, f_lives[t]? = some x := ⟨_, List.getElem?_eq_getElem (by rw [HLN.out]; exact hlt)⟩
   have KWr := KW.trans (keepsHi KL) (fun _ h _ => h)
   obtain ⟨g1, o1, rfl, -, cs, l1, r1, i1⟩ := (HL.out.keeps (S' := S) (Q := LifIs S wr) KWr (fun _ _ h => h) (fun _ h => h) (fun _ _ _ h => h.keeps KWr (fun _ _ h => h) (fun _ h => h))).get hx
   have HX := shut hx
   have hxm := List.mem_of_getElem? hx
   clear hx
   have m0 : (0 : Int) ≤ t := by omega
   have m1 : (t : Int) < n := by omega
   have hk := midOk_range r1
   have ho := midOf_range r1
   rw [l1] at hk ho
   have ag2 := agg_ok l1 i1.one
   obtain ⟨x_name, x_over⟩ := x
   obtain ⟨a1, c1, hcs, hxn, hxo⟩ := i1
   simp only at hcs hxn hxo
   unfold txV at hcs
   obtain ⟨no, hno⟩ : ∃ no, x_over.length = no := ⟨_, rfl⟩
   rw [hno] at hcs
   have HNO := shut hno
   have HXN := shut hxn
   have HXO := shut hxo
   have kx1 : Keeps Nothing wr (wr.alloc (.cells cs.toArray 76)) := (Keeps.refl Nothing wr).alloc _
   have BX := blk_new wr cs.toArray 76
   have hw01 : wr.heap.size ≤ (wr.alloc (.cells cs.toArray 76)).heap.size := kx1.size
   obtain ⟨Cx, hCx⟩ : ∃ Cx, cs.toArray = Cx := ⟨_, rfl⟩
   have GX : Shut (Cx = #[.string ⟨x_name.toArray⟩, .slice a1 no c1]) := shut (by rw [← hCx, hcs])
   rw [hCx] at BX kx1 ho ag2 hw01
   clear hCx hcs hxn hxo hno r1 l1
   go_upto_region 5 with fail
   clear hk ho ag2
   generalize wr.alloc (.cells Cx 76) = w1 at *
   have hgx := lt_of_block BX
   obtain ⟨gx, hgx0⟩ : ∃ gx, wr.heap.size = gx := ⟨_, rfl⟩
   have HGX : Shut (wr.heap.size ≤ gx) := shut (Nat.le_of_eq hgx0)
   rw [hgx0] at BX hgx ⊢
   clear hgx0
   have hcell : ∀ V, Keeps Nothing w1 V → V.cell? ⟨gx, 0, none⟩ = some (.string ⟨x_name.toArray⟩) ∧ V.cell? ⟨gx, 1, none⟩ = some (.slice a1 no c1) := fun V hV => ⟨blk_cell (hV.blk BX (fun h => h)) 0 (by rw [GX.out]; rfl), blk_cell (hV.blk BX (fun h => h)) 1 (by rw [GX.out]; rfl)⟩
   have HCE := shut hcell
   clear hcell
   have kdr : Keeps Nothing w1 w1.drew := (Keeps.refl Nothing w1).drew
   refine wp_region_mix (fun V => V.cell? ⟨gx, 0, none⟩ = some (.string ⟨x_name.toArray⟩) ∧ V.cell? ⟨gx, 1, none⟩ = some (.slice a1 no c1)) [(true, 0), (true, 1), (true, 2), (true, 3), (true, 4), (false, 5), (true, 6), (false, 7), (false, 8), (true, 9)] (by kernel_rfl) (by kernel_rfl) (HCE.out _ kdr) ?_
   simp only [mixItems, List.map_cons, List.map_nil, List.getD_cons_zero, List.getD_cons_succ]
   refine wpMix_free (fun K hK => ?_); go_simp; refine hK _ ?_; clear hK K
   refine wpMix_free (fun K hK => ?_); go_simp; refine hK _ ?_; clear hK K
   refine wpMix_yield (v := .string ⟨x_name.toArray⟩) (fun V hV => ?_) (fun K hK => ?_)
   ·have hV1 := hV.1
    go_simp
   go_simp
   refine hK _ ?_
   clear hK K
   refine wpMix_free (fun K hK => ?_); go_simp; refine hK _ ?_; clear hK K
   refine wpMix_yield (v := .slice a1 no c1) (fun V hV => ?_) (fun K hK => ?_)
   ·have hV1 := hV.2
    go_simp
   go_simp
   refine hK _ ?_
   clear hK K
   have hc := ctexts_any x_over w1.drew c1 (HXO.out.keeps (kx1.trans kdr (fun _ h _ => h)) (fun _ _ h => h) (fun _ h => h) (fun _ _ _ h => h))
   rw [HNO.out] at hc
   refine wpMix_one (fun K hK => ?_)
   go_wp2_with fail
   refine hc.mono ?_
   rintro e w2 ⟨b1, d1, rfl, k2, hR⟩
   rw [HNO.out]
   have k12 := kdr.trans k2 (fun _ h _ => h)
   have hN : LifIs (NewB w1.heap.size w2) w2 ⟨x_name, x_over⟩ ([.string ⟨x_name.toArray⟩, .slice b1 no d1] : List Value) := ⟨b1, d1, by simp only [HNO.out]; rfl, HXN.out, hR⟩
   have HN := shut hN
   clear hc hR hN
   go_wp2_with fail
   refine hK _ _ (HCE.out _ k12) ?_
   clear hK K
   refine wpMix_free (fun K hK => ?_); go_simp; refine hK _ ?_; clear hK K
   have kx := kx1.trans k12 (fun _ h _ => h)
   have hw12 := k12.size
   have BB := blk_new w2 (#[.string ⟨x_name.toArray⟩, .slice b1 no d1]) 76
   have kb : Keeps Nothing w2 (w2.alloc (.cells (#[.string ⟨x_name.toArray⟩, .slice b1 no d1]) 76)) := (Keeps.refl Nothing w2).alloc _
   have kx3 := kx.trans kb (fun _ h _ => h)
   have hW0 : w0.heap.size ≤ w1.heap.size := Nat.le_trans KL.size hw01
   clear kx
   have HO3 := shut (HO.out.keepsN (newB_ok _) lifOk kx3)
   have hlao : ∀ g, blockOf ao = some g → g < wr.heap.size := fun g hg => HO.out.lt hg
   have hel : LifIs (InB (NewB w0.heap.size) (w2.alloc (.cells (#[.string ⟨x_name.toArray⟩, .slice b1 no d1]) 76)) ao) (w2.alloc (.cells (#[.string ⟨x_name.toArray⟩, .slice b1 no d1]) 76)) ⟨x_name, x_over⟩ ([.string ⟨x_name.toArray⟩, .slice b1 no d1] : List Value) := lifOk.keep _ _ _ _ _ _ _ HN.out kb (fun _ _ h => h) (fun b hb => ⟨(newB_ok _).keep Nothing w2 (w2.alloc (.cells (#[.string ⟨x_name.toArray⟩, .slice b1 no d1]) 76)) b kb (fun h => h) ⟨Nat.le_trans hW0 hb.1, hb.2⟩, fun q => by have := hlao b q; have := hb.1; omega⟩)
   have HEL := shut hel
   have hlt3 : w0.heap.size ≤ (w2.alloc (.cells (#[.string ⟨x_name.toArray⟩, .slice b1 no d1]) 76)).heap.size := Nat.le_trans (Nat.le_trans hW0 hw12) kb.size
   have htl : Shut ((f_lives.take t).length = t) := shut (by rw [List.length_take, HLN.out]; omega)
   have htb : t ≤ 1000000000 := by omega
   have HNEW := shut HO.out.new
   have HBB := shut BB
   have KX3 : Keeps (fun b => w0.heap.size ≤ b) w0 (w2.alloc (.cells (#[.string ⟨x_name.toArray⟩, .slice b1 no d1]) 76)) := KL.trans kx3 (fun _ h _ => h.elim)
   clear hel BB KL HO kx3 kb HN
   have S3 := HCE.out _ (k12.trans ((Keeps.refl Nothing w2).alloc (.cells #[.string ⟨x_name.toArray⟩, .slice b1 no d1] 76)) (fun _ h _ => h))
   refine wpMix_one (fun K hK => ?_)
   go_wp2_with fail
   refine hK _ _ S3 ?_
   clear hK K
   refine wpMix_one (fun K hK => ?_)
   go_wp2_with (at_builtin; refine wpList_appD _ rfl (.tmp 13) (.tmp 20) 50 rfl Tryz.underlying50 iaLif (by decide) (newB_ok _) lifOk t htl.out rfl HO3.out hlt3 _ _ ([.string ⟨x_name.toArray⟩, .slice b1 no d1] : List Value) ⟨x_name, x_over⟩ rfl rfl HBB.out HEL.out htb ?_)
   intro a4 c4 w4 O4 k4 m4
   have HO4 : Shut (OutR (NewB w0.heap.size) 76 2 LifIs w0.heap.size w4 a4 c4 (f_lives.take (t + 1))) := shut (by rw [List.take_add_one, HX.out]; exact O4)
   have KL4 := KX3.trans k4 (fun g hg _ => HNEW.out g hg)
   have S4 : w4.cell? ⟨gx, 0, none⟩ = some (.string ⟨x_name.toArray⟩) ∧ w4.cell? ⟨gx, 1, none⟩ = some (.slice a1 no c1) := ⟨k4.cell S3.1 (fun q => by have h9 : gx < wr.heap.size := hlao gx q; have := HGX.out; omega), k4.cell S3.2 (fun q => by have h9 : gx < wr.heap.size := hlao gx q; have := HGX.out; omega)⟩
   clear O4 k4 m4 KX3 HO3 HEL HBB HNEW S3
   go_wp2_with fail
   refine hK _ _ S4 ?_
   clear hK K
   repeat (refine wpMix_free (fun K hK => ?_); go_simp; refine hK _ ?_; clear hK K)
   refine wpMix_nil ?_
   go_wp2_with fail
   go_roundw
   case rel => exact ⟨t + 1, a4, c4, by go_num, rfl, by omega, KL4, HO4⟩
   case measure => (simp [intOf]; try omega)
  obtain rfl : t = n := by omega
  have m1 : ¬ (t : Int) < t := by omega
  have HO1 : Shut (OutR (NewB w0.heap.size) 76 2 LifIs w0.heap.size wr ao cap f_lives) := shut (by have := HO.out; rwa [List.take_of_length_le (Nat.le_of_eq HLN.out)] at this)
  clear HO
  have kl := keepsHi KL
  have BA := kl.blk BA (fun h => h)
  have BR := kl.blk BR (fun h => h)
  have KW := KW.trans kl (fun _ h _ => h)
  have RLi : Shut (SlIs (NewB M wr) wr 2 (LifIs (NewB M wr) wr) ao f_lives) := shut (outR_new HO1.out lifOk (by decide) hMb (by rw [HLN.out]; unfold bigN; omega))
  have hMb1 : M ≤ wr.heap.size := Nat.le_trans hMb KL.size
  clear HO1 KL kl hMb
  have hMb := hMb1
  clear hMb1
  obtain ⟨w2, rfl⟩ : ∃ w2, w2 = wr := ⟨_, rfl⟩
  have k2 : Keeps Nothing w2 w2 := Keeps.refl _ _
  have BA2 := BA
  have BR2 := BR
  obtain ⟨-, -, e1, -, -, -, -⟩ := FunB al_ty GC.out BA2
  have f1 := blk_free BA2 2
  have hL1 : (([.bool f_pub, .string ⟨f_name.toArray⟩, .slice a2 t c2, .slice a3 np c3] : List Value) ++ s4 ++ ([.slice a8 nb c8, .int .i64 f_pos] : List Value) : List Value) = (([.bool f_pub, .string ⟨f_name.toArray⟩] : List Value)) ++ (.slice a2 t c2 :: (([.slice a3 np c3] : List Value) ++ s4 ++ ([.slice a8 nb c8, .int .i64 f_pos] : List Value))) := by simp
  have hL2 : (([.bool f_pub, .string ⟨f_name.toArray⟩, .slice ao t cap, .slice a3 np c3] : List Value) ++ s4 ++ ([.slice a8 nb c8, .int .i64 f_pos] : List Value) : List Value) = (([.bool f_pub, .string ⟨f_name.toArray⟩] : List Value)) ++ (.slice ao t cap :: (([.slice a3 np c3] : List Value) ++ s4 ++ ([.slice a8 nb c8, .int .i64 f_pos] : List Value))) := by simp
  have BA3 : Blk (w2.setCell ⟨ga, 2, none⟩ (.slice ao t cap)) ga (([.bool f_pub, .string ⟨f_name.toArray⟩, .slice ao t cap, .slice a3 np c3] : List Value) ++ s4 ++ ([.slice a8 nb c8, .int .i64 f_pos] : List Value)).toArray 56 := by
   rw [hL2]
   exact box_set (pre := ([.bool f_pub, .string ⟨f_name.toArray⟩] : List Value)) (post := ([.slice a3 np c3] : List Value) ++ s4 ++ ([.slice a8 nb c8, .int .i64 f_pos] : List Value)) (v := .slice a2 t c2) (u := .slice ao t cap) BA2 (by rw [GC.out, hL1]) (by simp)
  have KS0 : ∀ (T : Nat → Prop), T ga → Keeps T w2 (w2.setCell ⟨ga, 2, none⟩ (.slice ao t cap)) := fun T hT => (Keeps.refl T w2).setCell (p := ⟨ga, 2, none⟩) (fun _ => hT) _
  have KW3 : Keeps Nothing w (w2.setCell ⟨ga, 2, none⟩ (.slice ao t cap)) := (KW.trans k2 (fun _ h _ => h)).setCell (p := ⟨ga, 2, none⟩) (fun h => absurd h (Nat.not_lt.2 HGA.out)) _
  have BR3 : Blk (w2.setCell ⟨ga, 2, none⟩ (.slice ao t cap)) gr #[.bool false, .string ⟨#[]⟩, .slice none 0 0, .slice none 0 0, .int .i64 0, .string ⟨#[]⟩, .slice none 0 0, .slice none 0 0, .slice none 0 0, .int .i64 0] 56 := blk_other BR2 ⟨ga, 2, none⟩ (fun q => hne q.symm) _
  have KK : Keeps (fun b => b < M) w2 (w2.setCell ⟨ga, 2, none⟩ (.slice ao t cap)) := (k2.mono (S' := fun b => b < M) (fun _ h _ => h.elim)).trans (KS0 (fun b => b < M) hgaM) (fun _ h _ => h)
  have KS2 := KS0 (fun b => b < w2.heap.size) (Nat.lt_of_lt_of_le hgaM hMb)
  have hMb3 : M ≤ (w2.setCell ⟨ga, 2, none⟩ (.slice ao t cap)).heap.size := Nat.le_trans hMb KK.size
  have RLi := shut (rows_on lifOk RLi.out KK (Nat.le_refl M))
  go_upto_region 8 with fail
  any_goals try (rename_i hfz; simp [f1] at hfz; done)
  clear e1 f1 BA2 BR2 BR KW k2 BA KS0 KK KS2 hL1 hL2 hMb GC
  generalize w2.setCell ⟨ga, 2, none⟩ (.slice ao t cap) = w5 at *
  have KW := KW3
  have hMb := hMb3
  obtain ⟨C, hC⟩ : ∃ C, C = (([.bool f_pub, .string ⟨f_name.toArray⟩, .slice ao t cap, .slice a3 np c3] : List Value) ++ s4 ++ ([.slice a8 nb c8, .int .i64 f_pos] : List Value)).toArray := ⟨_, rfl⟩
  rw [← hC] at BA3
  have GC := shut hC
  have BA := BA3
  have BR := BR3
  clear KW3 hMb3 hC BA3 BR3
  obtain ⟨-, -, -, e0, -, -, -⟩ := FunB al_ty GC.out BA
  have hc := cfields_typed f_params w5 c3 (HL3.out.keeps KW (fun _ _ h => h) (fun _ h => h) (fun _ _ _ h => h.keeps KW (fun _ _ h => h) (fun _ h => h)))
  rw [HLP.out] at hc
  go_wp2_with fail
  refine hc.mono ?_
  rintro e w2 ⟨b3, d3, rfl, k2, hR, hFb⟩
  rw [HLP.out]
  have RFb := shut hFb
  clear hFb
  have RPa := shut hR
  clear hc hR e0
  have BA2 := k2.blk BA (fun h => h)
  have BR2 := k2.blk BR (fun h => h)
  obtain ⟨-, -, -, e1, -, -, -⟩ := FunB al_ty GC.out BA2
  have f1 := blk_free BA2 3
  have hL1 : (([.bool f_pub, .string ⟨f_name.toArray⟩, .slice ao t cap, .slice a3 np c3] : List Value) ++ s4 ++ ([.slice a8 nb c8, .int .i64 f_pos] : List Value) : List Value) = (([.bool f_pub, .string ⟨f_name.toArray⟩, .slice ao t cap] : List Value)) ++ (.slice a3 np c3 :: (s4 ++ ([.slice a8 nb c8, .int .i64 f_pos] : List Value))) := by simp
  have hL2 : (([.bool f_pub, .string ⟨f_name.toArray⟩, .slice ao t cap, .slice b3 np d3] : List Value) ++ s4 ++ ([.slice a8 nb c8, .int .i64 f_pos] : List Value) : List Value) = (([.bool f_pub, .string ⟨f_name.toArray⟩, .slice ao t cap] : List Value)) ++ (.slice b3 np d3 :: (s4 ++ ([.slice a8 nb c8, .int .i64 f_pos] : List Value))) := by simp
  have BA3 : Blk (w2.setCell ⟨ga, 3, none⟩ (.slice b3 np d3)) ga (([.bool f_pub, .string ⟨f_name.toArray⟩, .slice ao t cap, .slice b3 np d3] : List Value) ++ s4 ++ ([.slice a8 nb c8, .int .i64 f_pos] : List Value)).toArray 56 := by
   rw [hL2]
   exact box_set (pre := ([.bool f_pub, .string ⟨f_name.toArray⟩, .slice ao t cap] : List Value)) (post := s4 ++ ([.slice a8 nb c8, .int .i64 f_pos] : List Value)) (v := .slice a3 np c3) (u := .slice b3 np d3) BA2 (by rw [GC.out, hL1]) (by simp)
  have KS0 : ∀ (T : Nat → Prop), T ga → Keeps T w2 (w2.setCell ⟨ga, 3, none⟩ (.slice b3 np d3)) := fun T hT => (Keeps.refl T w2).setCell (p := ⟨ga, 3, none⟩) (fun _ => hT) _
  have KW3 : Keeps Nothing w (w2.setCell ⟨ga, 3, none⟩ (.slice b3 np d3)) := (KW.trans k2 (fun _ h _ => h)).setCell (p := ⟨ga, 3, none⟩) (fun h => absurd h (Nat.not_lt.2 HGA.out)) _
  have BR3 : Blk (w2.setCell ⟨ga, 3, none⟩ (.slice b3 np d3)) gr #[.bool false, .string ⟨#[]⟩, .slice none 0 0, .slice none 0 0, .int .i64 0, .string ⟨#[]⟩, .slice none 0 0, .slice none 0 0, .slice none 0 0, .int .i64 0] 56 := blk_other BR2 ⟨ga, 3, none⟩ (fun q => hne q.symm) _
  have KK : Keeps (fun b => b < M) w5 (w2.setCell ⟨ga, 3, none⟩ (.slice b3 np d3)) := (k2.mono (S' := fun b => b < M) (fun _ h _ => h.elim)).trans (KS0 (fun b => b < M) hgaM) (fun _ h _ => h)
  have KS2 := KS0 (fun b => b < w5.heap.size) (Nat.lt_of_lt_of_le hgaM hMb)
  have hMb3 : M ≤ (w2.setCell ⟨ga, 3, none⟩ (.slice b3 np d3)).heap.size := Nat.le_trans hMb KK.size
  have RLi := shut (rows_on lifOk RLi.out KK (Nat.le_refl M))
  have RPa := shut (rows_on fldOk RPa.out KS2 hMb)
  have RFb := shut (fb_on RFb.out KS2 hMb)
  go_upto_region 9 with fail
  any_goals try (rename_i hfz; simp [f1] at hfz; done)
  clear e1 f1 BA2 BR2 BR KW k2 BA KS0 KK KS2 hL1 hL2 hMb GC
  generalize w2.setCell ⟨ga, 3, none⟩ (.slice b3 np d3) = w6 at *
  have KW := KW3
  have hMb := hMb3
  obtain ⟨C, hC⟩ : ∃ C, C = (([.bool f_pub, .string ⟨f_name.toArray⟩, .slice ao t cap, .slice b3 np d3] : List Value) ++ s4 ++ ([.slice a8 nb c8, .int .i64 f_pos] : List Value)).toArray := ⟨_, rfl⟩
  rw [← hC] at BA3
  have GC := shut hC
  have BA := BA3
  have BR := BR3
  clear KW3 hMb3 hC BA3 BR3
  obtain ⟨-, -, -, -, ⟨e0, e0f⟩, -, -⟩ := FunB al_ty GC.out BA
  have hc := ctype_any f_result w6 s4 (HTy.out.keeps KW (fun _ _ h => h) (fun _ h => h))
  go_wp2_with fail
  refine hc.mono ?_
  rintro e w2 ⟨r4, rfl, k2, hR⟩
  have RTy := shut hR
  have bl_ty := RTy.out.len
  have agn := agg_ok RTy.out.len RTy.out.one
  clear hc hR e0 e0f
  have BA2 := k2.blk BA (fun h => h)
  have BR2 := k2.blk BR (fun h => h)
  have hCs : C.size = 10 := by rw [GC.out]; simp [al_ty]
  have e1 := midFit_blk BA2 (o := 4) (n := 4) (by rw [hCs]; decide)
  have hL1 : (([.bool f_pub, .string ⟨f_name.toArray⟩, .slice ao t cap, .slice b3 np d3] : List Value) ++ s4 ++ ([.slice a8 nb c8, .int .i64 f_pos] : List Value) : List Value) = (([.bool f_pub, .string ⟨f_name.toArray⟩, .slice ao t cap, .slice b3 np d3] : List Value)) ++ (s4 ++ (([.slice a8 nb c8, .int .i64 f_pos] : List Value))) := by simp
  have hL2 : (([.bool f_pub, .string ⟨f_name.toArray⟩, .slice ao t cap, .slice b3 np d3] : List Value) ++ r4 ++ ([.slice a8 nb c8, .int .i64 f_pos] : List Value) : List Value) = (([.bool f_pub, .string ⟨f_name.toArray⟩, .slice ao t cap, .slice b3 np d3] : List Value)) ++ (r4 ++ (([.slice a8 nb c8, .int .i64 f_pos] : List Value))) := by simp
  have BA3 : Blk (midSet w2 ga 4 r4.toArray) ga (([.bool f_pub, .string ⟨f_name.toArray⟩, .slice ao t cap, .slice b3 np d3] : List Value) ++ r4 ++ ([.slice a8 nb c8, .int .i64 f_pos] : List Value)).toArray 56 := by
   rw [hL2]
   exact box_mid (pre := ([.bool f_pub, .string ⟨f_name.toArray⟩, .slice ao t cap, .slice b3 np d3] : List Value)) (mid := s4) (post := ([.slice a8 nb c8, .int .i64 f_pos] : List Value)) (new := r4) BA2 (by rw [GC.out, hL1]) (by simp) (by rw [bl_ty, al_ty])
  have KS0 : ∀ (T : Nat → Prop), T ga → Keeps T w2 (midSet w2 ga 4 r4.toArray) := fun T hT => midSet_keeps (Keeps.refl T w2) (g := ga) (fun _ => hT) _ _
  have KW3 : Keeps Nothing w (midSet w2 ga 4 r4.toArray) := midSet_keeps (KW.trans k2 (fun _ h _ => h)) (g := ga) (fun h => absurd h (Nat.not_lt.2 HGA.out)) _ _
  have BR3 : Blk (midSet w2 ga 4 r4.toArray) gr #[.bool false, .string ⟨#[]⟩, .slice none 0 0, .slice none 0 0, .int .i64 0, .string ⟨#[]⟩, .slice none 0 0, .slice none 0 0, .slice none 0 0, .int .i64 0] 56 := blk_setRow_other BR2 (fun q => hne q.symm)
  have KK : Keeps (fun b => b < M) w6 (midSet w2 ga 4 r4.toArray) := (k2.mono (S' := fun b => b < M) (fun _ h _ => h.elim)).trans (KS0 (fun b => b < M) hgaM) (fun _ h _ => h)
  have KS2 := KS0 (fun b => b < w6.heap.size) (Nat.lt_of_lt_of_le hgaM hMb)
  have hMb3 : M ≤ (midSet w2 ga 4 r4.toArray).heap.size := Nat.le_trans hMb KK.size
  have RLi := shut (rows_on lifOk RLi.out KK (Nat.le_refl M))
  have RPa := shut (rows_on fldOk RPa.out KK (Nat.le_refl M))
  have RFb := shut (fb_on RFb.out KK (Nat.le_refl M))
  have RTy := shut (tyOk.on RTy.out KS2 hMb)
  go_upto_region 10 with fail
  clear e1 agn hCs BA2 BR2 BR KW k2 BA KS0 KK KS2 hL1 hL2 hMb GC
  generalize midSet w2 ga 4 r4.toArray = w7 at *
  have KW := KW3
  have hMb := hMb3
  obtain ⟨C, hC⟩ : ∃ C, C = (([.bool f_pub, .string ⟨f_name.toArray⟩, .slice ao t cap, .slice b3 np d3] : List Value) ++ r4 ++ ([.slice a8 nb c8, .int .i64 f_pos] : List Value)).toArray := ⟨_, rfl⟩
  rw [← hC] at BA3
  have GC := shut hC
  have BA := BA3
  have BR := BR3
  clear KW3 hMb3 hC BA3 BR3
  obtain ⟨-, -, -, -, -, e0, -⟩ := FunB bl_ty GC.out BA
  have hc := cstmts_any f_body w7 a8 c8 (HL8.out.keeps KW (fun _ _ h => h) (fun _ h => h) (fun _ _ _ h => h.keeps KW (fun _ _ h => h) (fun _ h => h)))
  rw [HLB.out] at hc
  go_wp2_with fail
  refine hc.mono ?_
  rintro e w2 ⟨b8, d8, rfl, k2, hR⟩
  rw [HLB.out]
  have RBo := shut hR
  clear hc hR e0
  have BA2 := k2.blk BA (fun h => h)
  have BR2 := k2.blk BR (fun h => h)
  obtain ⟨-, -, -, -, -, e1, -⟩ := FunB bl_ty GC.out BA2
  have f1 := blk_free BA2 8
  have hL1 : (([.bool f_pub, .string ⟨f_name.toArray⟩, .slice ao t cap, .slice b3 np d3] : List Value) ++ r4 ++ ([.slice a8 nb c8, .int .i64 f_pos] : List Value) : List Value) = (([.bool f_pub, .string ⟨f_name.toArray⟩, .slice ao t cap, .slice b3 np d3] : List Value) ++ r4) ++ (.slice a8 nb c8 :: (([.int .i64 f_pos] : List Value))) := by simp
  have hL2 : (([.bool f_pub, .string ⟨f_name.toArray⟩, .slice ao t cap, .slice b3 np d3] : List Value) ++ r4 ++ ([.slice b8 nb d8, .int .i64 f_pos] : List Value) : List Value) = (([.bool f_pub, .string ⟨f_name.toArray⟩, .slice ao t cap, .slice b3 np d3] : List Value) ++ r4) ++ (.slice b8 nb d8 :: (([.int .i64 f_pos] : List Value))) := by simp
  have BA3 : Blk (w2.setCell ⟨ga, 8, none⟩ (.slice b8 nb d8)) ga (([.bool f_pub, .string ⟨f_name.toArray⟩, .slice ao t cap, .slice b3 np d3] : List Value) ++ r4 ++ ([.slice b8 nb d8, .int .i64 f_pos] : List Value)).toArray 56 := by
   rw [hL2]
   exact box_set (pre := ([.bool f_pub, .string ⟨f_name.toArray⟩, .slice ao t cap, .slice b3 np d3] : List Value) ++ r4) (post := ([.int .i64 f_pos] : List Value)) (v := .slice a8 nb c8) (u := .slice b8 nb d8) BA2 (by rw [GC.out, hL1]) (by simp [bl_ty])
  have KS0 : ∀ (T : Nat → Prop), T ga → Keeps T w2 (w2.setCell ⟨ga, 8, none⟩ (.slice b8 nb d8)) := fun T hT => (Keeps.refl T w2).setCell (p := ⟨ga, 8, none⟩) (fun _ => hT) _
  have KW3 : Keeps Nothing w (w2.setCell ⟨ga, 8, none⟩ (.slice b8 nb d8)) := (KW.trans k2 (fun _ h _ => h)).setCell (p := ⟨ga, 8, none⟩) (fun h => absurd h (Nat.not_lt.2 HGA.out)) _
  have BR3 : Blk (w2.setCell ⟨ga, 8, none⟩ (.slice b8 nb d8)) gr #[.bool false, .string ⟨#[]⟩, .slice none 0 0, .slice none 0 0, .int .i64 0, .string ⟨#[]⟩, .slice none 0 0, .slice none 0 0, .slice none 0 0, .int .i64 0] 56 := blk_other BR2 ⟨ga, 8, none⟩ (fun q => hne q.symm) _
  have KK : Keeps (fun b => b < M) w7 (w2.setCell ⟨ga, 8, none⟩ (.slice b8 nb d8)) := (k2.mono (S' := fun b => b < M) (fun _ h _ => h.elim)).trans (KS0 (fun b => b < M) hgaM) (fun _ h _ => h)
  have KS2 := KS0 (fun b => b < w7.heap.size) (Nat.lt_of_lt_of_le hgaM hMb)
  have hMb3 : M ≤ (w2.setCell ⟨ga, 8, none⟩ (.slice b8 nb d8)).heap.size := Nat.le_trans hMb KK.size
  have RLi := shut (rows_on lifOk RLi.out KK (Nat.le_refl M))
  have RPa := shut (rows_on fldOk RPa.out KK (Nat.le_refl M))
  have RFb := shut (fb_on RFb.out KK (Nat.le_refl M))
  have RTy := shut (tyOk.on RTy.out KK (Nat.le_refl M))
  have RBo := shut (sl2_on RBo.out KS2 hMb)
  go_upto_region 11 with fail
  any_goals try (rename_i hfz; simp [f1] at hfz; done)
  clear e1 f1 BA2 BR2 BR KW k2 BA KS0 KK KS2 hL1 hL2 hMb GC
  generalize w2.setCell ⟨ga, 8, none⟩ (.slice b8 nb d8) = w8 at *
  have KW := KW3
  have hMb := hMb3
  obtain ⟨C, hC⟩ : ∃ C, C = (([.bool f_pub, .string ⟨f_name.toArray⟩, .slice ao t cap, .slice b3 np d3] : List Value) ++ r4 ++ ([.slice b8 nb d8, .int .i64 f_pos] : List Value)).toArray := ⟨_, rfl⟩
  rw [← hC] at BA3
  have GC := shut hC
  have BA := BA3
  have BR := BR3
  clear KW3 hMb3 hC BA3 BR3
  have hsC : C.size = 10 := (by rw [GC.out]; simp [bl_ty])
  obtain ⟨y1, y2⟩ := tblk_mid BA hsC
  have y3 := rowOk_blk BR (n := 10) rfl
  have KS : Keeps (fun b => b < M) w8 (w8.setRow gr C) := (Keeps.refl (fun b => b < M) w8).setRow (g := gr) (fun _ => hgrM) C
  have KF : Keeps Nothing w (w8.setRow gr C) := KW.setRow (g := gr) (fun h => absurd h (Nat.not_lt.2 HGR.out)) C
  have hP : Fun2 w.heap.size (w8.setRow gr C) ⟨f_pub, f_name, f_lives, f_params, f_result, f_body, f_pos⟩ (([.bool f_pub, .string ⟨f_name.toArray⟩, .slice ao t cap, .slice b3 np d3] : List Value) ++ r4 ++ ([.slice b8 nb d8, .int .i64 f_pos] : List Value)) := ⟨ao, cap, b3, d3, r4, b8, d8, by simp only [HLN.out, HLP.out, HLB.out]; rfl, HNA.out, rows_on lifOk RLi.out KS HNM.out, rows_on fldOk RPa.out KS HNM.out, tyOk.on RTy.out KS HNM.out, sl2_on RBo.out KS HNM.out, fb_on RFb.out KS HNM.out⟩
  have HF : Shut (CFun w ⟨f_pub, f_name, f_lives, f_params, f_result, f_body, f_pos⟩ (.returned (.agg C)) (w8.setRow gr C)) := shut ⟨([.bool f_pub, .string ⟨f_name.toArray⟩, .slice ao t cap, .slice b3 np d3] : List Value) ++ r4 ++ ([.slice b8 nb d8, .int .i64 f_pos] : List Value), by rw [GC.out], KF, hP⟩
  have agC : aggOk 10 (.agg C) = true := by
   rw [GC.out]
   exact agg_ok (by simp [bl_ty]) hP.one
  have BF := blk_setRow (cs := C) BR
  clear hP KF KS KW BA BR GC hMb
  go_wp2_with fail
  refine bodyPost_ret (v := .agg C) (results_cell_row rfl _ _ gr _ C (0, 0) _ rfl BF Tryz.underlying56 rfl (by rw [infoFun, hsC])) rfl ?_
  exact HF.out
end Go.Proofs.YtjbcagbnagefcaaGreat
namespace Go.Proofs.YtjbcagbnagefcaaGreat
open Go.RowKit
attribute [local go_sem ↓] exec_mid_ty exec_store_ty exec_mid_pl exec_store_pl exec_mid_opr exec_store_opr exec_mid_val exec_store_val exec_mid_st exec_store_st exec_mid_fld exec_store_fld exec_mid_str exec_store_str exec_mid_lif exec_store_lif exec_mid_fun exec_store_fun exec_mid_cr exec_store_cr
attribute [local go_sem] rowOk_new World.setRow_alloc_new
attribute [local go_sem ↓] exec_mid_sig exec_store_sig
def Zx (X : Nat → Prop) (w : World) (b : Nat) : Prop := b < w.heap.size ∧ ¬ X b
theorem zx_ok (X : Nat → Prop) : SetOk (Zx X) := ⟨fun _ _ h => h.1, fun _ _ _ _ K _ h => ⟨Nat.lt_of_lt_of_le h.1 K.size, h.2⟩⟩
def ofF (f : FunD) : FunD := ⟨f.pub, f.name, f.lives, f.params, f.result, [], 0⟩
def pubS (l : List StrD) (t : Nat) : List StrD := ((l.take t).filter (·.pub)).map bareStr
def pubF (l : List FunD) (t : Nat) : List FunD := ((l.take t).filter (·.pub)).map ofF
def ofD (nm : List UInt8) (c : CrD) : SigD := ⟨nm, ⟨(c.structs.filter (·.pub)).map bareStr, (c.funcs.filter (·.pub)).map ofF⟩⟩
theorem pubS_yes {l : List StrD} {t : Nat} {x : StrD} (h : l[t]? = some x) (hp : x.pub = true) : pubS l (t + 1) = pubS l t ++ [bareStr x] := by
 unfold pubS
 rw [List.take_add_one, h, List.filter_append, List.map_append]
 simp [hp]
theorem pubS_no {l : List StrD} {t : Nat} {x : StrD} (h : l[t]? = some x) (hp : x.pub = false) : pubS l (t + 1) = pubS l t := by
 unfold pubS
 rw [List.take_add_one, h, List.filter_append, List.map_append]
 simp [hp]
theorem pubF_yes {l : List FunD} {t : Nat} {x : FunD} (h : l[t]? = some x) (hp : x.pub = true) : pubF l (t + 1) = pubF l t ++ [ofF x] := by
 unfold pubF
 rw [List.take_add_one, h, List.filter_append, List.map_append]
 simp [hp]
theorem pubF_no {l : List FunD} {t : Nat} {x : FunD} (h : l[t]? = some x) (hp : x.pub = false) : pubF l (t + 1) = pubF l t := by
 unfold pubF
 rw [List.take_add_one, h, List.filter_append, List.map_append]
 simp [hp]
theorem pubS_all {l : List StrD} {n : Nat} (h : l.length = n) : pubS l n = (l.filter (·.pub)).map bareStr := by unfold pubS; rw [List.take_of_length_le (by omega)]
theorem pubF_all {l : List FunD} {n : Nat} (h : l.length = n) : pubF l n = (l.filter (·.pub)).map ofF := by unfold pubF; rw [List.take_of_length_le (by omega)]
def CSig (S : Nat → Prop) (w : World) (s : SigD) (e : Ending) (w' : World) : Prop := ∃ cs : List Value, e = .returned (.agg cs.toArray) ∧ Keeps Nothing w w' ∧ SigIs (fun b => S b ∨ (w.heap.size ≤ b ∧ b < w'.heap.size)) w' s cs
set_option maxRecDepth 100000 in
set_option linter.unusedSimpArgs false in
set_option maxHeartbeats 8000000 in
theorem of_any {S : Nat → Prop} (nm : List UInt8) (hnm : nm.length ≤ bigN) (d : CrD) (w : World) (hS : ∀ b, S b → b < w.heap.size) (cs : List Value) (h : CrIs S w d cs) : Calls Tryz.prog 17 #[.string ⟨nm.toArray⟩, .agg cs.toArray] w (CSig S w (ofD nm d)) := by
 have ag1 := agg_ok h.len h.one
 have HS := shut hS
 have HNM := shut hnm
 obtain ⟨d_structs, d_funcs⟩ := d
 obtain ⟨a0, c0, a1, c1, hcs, h0, h1⟩ := h
 simp only at hcs h0 h1
 obtain ⟨ns, hns⟩ : ∃ ns, d_structs.length = ns := ⟨_, rfl⟩
 obtain ⟨nf, hnf⟩ : ∃ nf, d_funcs.length = nf := ⟨_, rfl⟩
 rw [hns, hnf] at hcs
 have HNS := shut hns
 have HNF := shut hnf
 have HL0 := shut h0
 have HL1 := shut h1
 have hnsb : ns ≤ 100000000 := by have := h0.1; unfold bigN at this; omega
 have hnfb : nf ≤ 100000000 := by have := h1.1; unfold bigN at this; omega
 obtain ⟨RT, hRT⟩ : ∃ R, ofD nm ⟨d_structs, d_funcs⟩ = R := ⟨_, rfl⟩
 have HRT : Shut (RT = ⟨nm, ⟨pubS d_structs ns, pubF d_funcs nf⟩⟩) := shut (by rw [← hRT, pubS_all hns, pubF_all hnf]; rfl)
 rw [hRT]
 obtain ⟨C, hC⟩ : ∃ C, C = cs.toArray := ⟨_, rfl⟩
 rw [← hC] at ag1 ⊢
 rw [hcs] at hC
 have GC := shut hC
 clear hC hcs hns hnf h0 h1 hS hnm hRT
 have B1 := blk_alloc (blk_alloc (blk_new w C 26) (.cells #[.string ⟨#[]⟩, .slice none 0 0, .slice none 0 0] 32)) (.cells #[.string ⟨nm.toArray⟩, .slice none 0 0, .slice none 0 0] 32)
 have B2 := blk_alloc (blk_new (w.alloc (.cells C 26)) #[.string ⟨#[]⟩, .slice none 0 0, .slice none 0 0] 32) (.cells #[.string ⟨nm.toArray⟩, .slice none 0 0, .slice none 0 0] 32)
 have B3 := blk_new ((w.alloc (.cells C 26)).alloc (.cells #[.string ⟨#[]⟩, .slice none 0 0, .slice none 0 0] 32)) #[.string ⟨nm.toArray⟩, .slice none 0 0, .slice none 0 0] 32
 have KW : Keeps Nothing w (((w.alloc (.cells C 26)).alloc (.cells #[.string ⟨#[]⟩, .slice none 0 0, .slice none 0 0] 32)).alloc (.cells #[.string ⟨nm.toArray⟩, .slice none 0 0, .slice none 0 0] 32)) := (((Keeps.refl Nothing w).alloc _).alloc _).alloc _
 have hm : (((w.alloc (.cells C 26)).alloc (.cells #[.string ⟨#[]⟩, .slice none 0 0, .slice none 0 0] 32)).alloc (.cells #[.string ⟨nm.toArray⟩, .slice none 0 0, .slice none 0 0] 32)).heap.size = w.heap.size + 1 + 1 + 1 := by rw [World.size_alloc, World.size_alloc, World.size_alloc]
 rw [World.size_alloc] at B2
 rw [World.size_alloc, World.size_alloc] at B3
 go_enter Tryz.func17, Tryz.ntmps17
 go_upto_region 2 with fail
 clear ag1
 generalize (((w.alloc (.cells C 26)).alloc (.cells #[.string ⟨#[]⟩, .slice none 0 0, .slice none 0 0] 32)).alloc (.cells #[.string ⟨nm.toArray⟩, .slice none 0 0, .slice none 0 0] 32)) = w0 at *
 have HG1 : Shut (w.heap.size ≤ w.heap.size) := shut (Nat.le_refl _)
 have HG2 : Shut (w.heap.size ≤ w.heap.size + 1) := shut (by omega)
 have HG3 : Shut (w.heap.size ≤ w.heap.size + 1 + 1) := shut (by omega)
 have n13 : w.heap.size ≠ w.heap.size + 1 + 1 := by omega
 have n23 : w.heap.size + 1 ≠ w.heap.size + 1 + 1 := by omega
 have l1 : w.heap.size < w0.heap.size := by omega
 have l2 : w.heap.size + 1 < w0.heap.size := by omega
 have l3 : w.heap.size + 1 + 1 < w0.heap.size := by omega
 have HW0 : Shut (w.heap.size ≤ w0.heap.size) := shut (by omega)
 clear hm
 obtain ⟨g1, hg1⟩ : ∃ g, w.heap.size = g := ⟨_, rfl⟩
 obtain ⟨g2, hg2⟩ : ∃ g, w.heap.size + 1 = g := ⟨_, rfl⟩
 obtain ⟨g3, hg3⟩ : ∃ g, w.heap.size + 1 + 1 = g := ⟨_, rfl⟩
 rw [hg3] at B3 HG3 n13 n23 l3 ⊢
 rw [hg2] at B2 HG2 n23 l2 ⊢
 have HG1' : Shut (w.heap.size ≤ g1) := shut (Nat.le_of_eq hg1)
 rw [hg1] at B1 n13 l1 ⊢
 clear HG1
 have HG1 := HG1'
 clear HG1' hg1 hg2 hg3
 have l02 : Shut (g2 < w0.heap.size) := shut l2
 obtain ⟨X, HXX⟩ : ∃ X : Nat → Prop, Shut (X g2 ∧ X g3 ∧ (∀ b, S b ∨ w.heap.size ≤ b → b ≠ g2 → b ≠ g3 → ¬ X b) ∧ ∀ b, ¬ X b → b ≠ g2 ∧ b ≠ g3 ∧ (S b ∨ w.heap.size ≤ b)) := ⟨fun b => b = g2 ∨ b = g3 ∨ ¬ (S b ∨ w.heap.size ≤ b), shut ⟨.inl rfl, .inr (.inl rfl), fun b h h2 h3 q => by rcases q with q | q | q; exact h2 q; exact h3 q; exact q h, fun b h => ⟨fun q => h (.inl q), fun q => h (.inr (.inl q)), Classical.byContradiction fun q => h (.inr (.inr q))⟩⟩⟩
 have l03 : Shut (g3 < w0.heap.size) := shut l3
 have c10 := blk_cell B1 0 (v := .slice a0 ns c0) (by rw [GC.out]; rfl)
 have HB1 := shut B1
 have HB2 := shut B2
 have H0 : Shut (∃ (m : Nat) (ao : Option Addr) (cap : Nat), m ≤ 0 ∧ (pubS d_structs 0).length = m ∧ Blk w0 g3 #[.string ⟨nm.toArray⟩, .slice ao m cap, .slice none 0 0] 32 ∧ OutR (Zx X) 49 5 StrIs w0.heap.size w0 ao cap (pubS d_structs 0)) := shut ⟨0, none, 0, Nat.le_refl _, rfl, B3, outR_nil _ _ _ _ _ _⟩
 clear B1 B2 B3
 go_wp2_with fail
 go_loopw [7, 15] (fun s7 s15 wx => ∃ t : Nat, s15 = .int .i64 t ∧ t ≤ ns ∧ Keeps (fun b => b = g3 ∨ w0.heap.size ≤ b) w0 wx ∧ Shut (∃ (mq : Nat) (aq : Option Addr) (cq : Nat), mq ≤ t ∧ (pubS d_structs (t)).length = mq ∧ Blk wx g3 #[.string ⟨nm.toArray⟩, .slice aq mq cq, .slice none 0 0] 32 ∧ OutR (Zx X) 49 5 StrIs w0.heap.size wx aq cq (pubS d_structs (t)))) (fun _ s15 _ => ns - (intOf s15).toNat)
 case atStart => exact ⟨0, rfl, Nat.zero_le _, Keeps.refl _ _, H0⟩
 case round =>
  obtain ⟨t, rfl, ht, KL, HR⟩ := hrel
  clear H0
  obtain ⟨m, ao, cap, hmt, hml, B3r, HO⟩ := HR.out
  have HML := shut hml
  have HO := shut HO
  clear HR hml
  have k0r : Keeps Nothing w wr := KW.trans KL (fun b hb hlt => by rcases hb with rfl | hb; have := HG3.out; omega; have := HW0.out; omega)
  have B1r := KL.blk HB1.out (fun q => by rcases q with q | q; exact n13 q; omega)
  have c10 := blk_cell B1r 0 (v := .slice a0 ns c0) (by rw [GC.out]; rfl)
  by_cases hlt : t < ns
  ·have m0 : (0 : Int) ≤ t := by omega
   have m1 : (t : Int) < ns := by omega
   obtain ⟨x, hx⟩ : ∃ x, d_structs[t]? = some x := ⟨_, List.getElem?_eq_getElem (by rw [HNS.out]; exact hlt)⟩
   obtain ⟨gl, ol, rfl, -, cs, hl1, r1, i1⟩ := (HL0.out.keeps (S' := S) (Q := StrIs S wr) k0r (fun _ _ h => h) (fun _ h => h) (fun _ _ _ h => h.keeps k0r (fun _ _ h => h) (fun _ h => h))).get hx
   have HX := shut hx
   clear hx
   have hk := midOk_range r1
   have ho := midOf_range r1
   rw [hl1] at hk ho
   have ag2 := agg_ok hl1 i1.one
   have kx1 : Keeps Nothing wr (wr.alloc (.cells cs.toArray 49)) := (Keeps.refl Nothing wr).alloc _
   have I1 := shut (i1.keeps kx1 (fun _ _ h => h) (fun _ h => h) (S' := S))
   have BX := blk_new wr cs.toArray 49
   have hsx : cs.toArray.size = 5 := by simpa using hl1
   have hw01 : wr.heap.size ≤ (wr.alloc (.cells cs.toArray 49)).heap.size := kx1.size
   obtain ⟨Cx, hCx⟩ : ∃ Cx, Cx = cs.toArray := ⟨_, rfl⟩
   rw [← hCx] at I1 BX hsx kx1 ho ag2 hw01
   have HCX := shut hCx
   clear hCx i1 r1 hl1
   go_upto_region 5 with fail
   clear hk ho ag2
   generalize wr.alloc (.cells Cx 49) = w1 at *
   have hgx := lt_of_block BX
   obtain ⟨gx, hgx0⟩ : ∃ gx, wr.heap.size = gx := ⟨_, rfl⟩
   have HGX : Shut (wr.heap.size ≤ gx) := shut (Nat.le_of_eq hgx0)
   have hg3r : g3 < wr.heap.size := lt_of_block B3r
   rw [hgx0] at BX hgx hg3r ⊢
   clear hgx0
   have hWr : w0.heap.size ≤ wr.heap.size := KL.size
   have hlao : ∀ g, blockOf ao = some g → g < wr.heap.size := fun g hg => HO.out.lt hg
   have HNEW := shut HO.out.new
   obtain ⟨x_pub, x_name, x_lives, x_fields, x_pos⟩ := x
   obtain ⟨b2, d2, b3, d3, hcs, hxn, q2, q3⟩ := I1.out
   simp only at hcs hxn q2 q3
   unfold txV at hcs
   have GX : Shut (Cx = [.bool x_pub, .string ⟨x_name.toArray⟩, .slice b2 x_lives.length d2, .slice b3 x_fields.length d3, .int .i64 x_pos].toArray) := shut (by rw [HCX.out, hcs])
   obtain ⟨e0, -, -, -, -⟩ := StrB GX.out BX
   cases x_pub with
   | false =>
    have HF : Shut (∃ (mq : Nat) (aq : Option Addr) (cq : Nat), mq ≤ t + 1 ∧ (pubS d_structs (t + 1)).length = mq ∧ Blk w1 g3 #[.string ⟨nm.toArray⟩, .slice aq mq cq, .slice none 0 0] 32 ∧ OutR (Zx X) 49 5 StrIs w0.heap.size w1 aq cq (pubS d_structs (t + 1))) := shut ⟨m, ao, cap, by omega, by rw [pubS_no HX.out rfl]; exact HML.out, kx1.blk B3r (fun h => h), by rw [pubS_no HX.out rfl]; exact HO.out.keepsN (zx_ok _) strOk kx1⟩
    have KL4 := KL.trans kx1 (fun _ h _ => h.elim)
    clear HX HML HO KL GX HCX I1
    go_wp2_with fail
    go_roundw
    case rel => exact ⟨t + 1, by go_num, by omega, KL4, HF⟩
    case measure => (simp [intOf]; try omega)
   | true =>
    have hcl := cstruct_any ⟨true, x_name, x_lives, x_fields, x_pos⟩ w1 cs I1.out
    rw [← HCX.out] at hcl
    obtain ⟨z1, z2⟩ := tblk_mid BX hsx
    go_wp2_with fail
    refine hcl.mono ?_
    rintro e w2 ⟨cs2, rfl, k2, hN⟩
    have hlc2 := hN.len
    have agc := agg_ok hlc2 hN.one
    obtain ⟨p2, f2, p3, f3, hcs2, hxn2, j2, j3⟩ := hN
    simp only at hcs2 hxn2 j2 j3
    unfold txV at hcs2
    have BX2 := k2.blk BX (fun h => h)
    have y2 := rowOk_blk BX2 hsx
    obtain ⟨C2, hC2⟩ : ∃ C2, C2 = cs2.toArray := ⟨_, rfl⟩
    rw [← hC2] at agc ⊢
    rw [hcs2] at hC2
    have BX3 : Blk (w2.setRow gx C2) gx C2 49 := blk_setRow (cs := C2) BX2
    have c4 := blk_cell BX3 4 (v := .int .i64 x_pos) (by rw [hC2]; rfl)
    have f4 := blk_free BX3 4
    have BX4 : Blk ((w2.setRow gx C2).setCell ⟨gx, 4, none⟩ (.int .i64 0)) gx ([.bool true, .string ⟨x_name.toArray⟩, .slice p2 x_lives.length f2, .slice p3 x_fields.length f3, .int .i64 0] : List Value).toArray 49 := by
     have h9 := blk_set BX3 4 (.int .i64 0)
     have e9 : C2.setIfInBounds 4 (.int .i64 0) = ([.bool true, .string ⟨x_name.toArray⟩, .slice p2 x_lives.length f2, .slice p3 x_fields.length f3, .int .i64 0] : List Value).toArray := by rw [hC2]; rfl
     rwa [e9] at h9
    have KS : ∀ T : Nat → Prop, T gx → Keeps T w2 ((w2.setRow gx C2).setCell ⟨gx, 4, none⟩ (.int .i64 0)) := fun T hT => ((Keeps.refl T w2).setRow (g := gx) (fun _ => hT) C2).setCell (p := ⟨gx, 4, none⟩) (fun _ => hT) _
    have hN3 : StrIs (NewB w1.heap.size ((w2.setRow gx C2).setCell ⟨gx, 4, none⟩ (.int .i64 0))) ((w2.setRow gx C2).setCell ⟨gx, 4, none⟩ (.int .i64 0)) (bareStr ⟨true, x_name, x_lives, x_fields, x_pos⟩) ([.bool true, .string ⟨x_name.toArray⟩, .slice p2 x_lives.length f2, .slice p3 x_fields.length f3, .int .i64 0] : List Value) :=
     ⟨p2, f2, p3, f3, rfl, hxn2, txs_on j2 (KS _ hgx) (Nat.le_refl _), rows_on fldOk j3 (KS _ hgx) (Nat.le_refl _)⟩
    have kx : Keeps Nothing wr ((w2.setRow gx C2).setCell ⟨gx, 4, none⟩ (.int .i64 0)) := (kx1.trans k2 (fun _ h _ => h)).trans (KS (fun b => b = gx) rfl) (fun b hb hlt => by have hb' : b = gx := hb; have := HGX.out; omega)
    have HN := shut hN3
    have hPZ : ∀ b, NewB w1.heap.size ((w2.setRow gx C2).setCell ⟨gx, 4, none⟩ (.int .i64 0)) b → b < ((w2.setRow gx C2).setCell ⟨gx, 4, none⟩ (.int .i64 0)).heap.size ∧ ¬ X b ∧ ¬ blockOf ao = some b := fun b hb => ⟨hb.2.1, HXX.out.2.2.1 b (.inr (by have := hb.1; have := l02.out; have := l03.out; have := HG2.out; omega)) (by have := hb.1; have := l02.out; have := l03.out; have := HG2.out; omega) (by have := hb.1; have := l02.out; have := l03.out; have := HG2.out; omega), fun q => by have := hlao b q; have := hb.1; omega⟩
    have HPZ := shut hPZ
    clear hcl hN3 hPZ q2 q3 j2 j3 hxn hxn2 KS hC2 hcs2 hcs
    go_upto_region 8 with fail
    any_goals try (rename_i hfz; simp [f4] at hfz; done)
    clear c4 f4 y2 agc BX2 BX3 hlc2 k2 kx1 z1 z2 BX e0 GX HCX I1
    generalize (w2.setRow gx C2).setCell ⟨gx, 4, none⟩ (.int .i64 0) = w3 at *
    obtain ⟨csz, hcsz⟩ : ∃ l, l = ([.bool true, .string ⟨x_name.toArray⟩, .slice p2 x_lives.length f2, .slice p3 x_fields.length f3, .int .i64 0] : List Value) := ⟨_, rfl⟩
    rw [← hcsz] at HN BX4
    have hlz := HN.out.len
    obtain ⟨Cz, hCz⟩ : ∃ C, C = csz.toArray := ⟨_, rfl⟩
    have hsz : Cz.size = 5 := by rw [hCz]; simpa using hlz
    rw [← hCz] at BX4
    have GCz := shut hCz
    have agz : aggOk 5 (.agg Cz) = true := by rw [hCz]; exact agg_ok hlz HN.out.one
    clear hcsz hCz hlz
    have B3w := kx.blk B3r (fun h => h)
    have c30 := blk_cell B3w 1 (v := .slice ao m cap) rfl
    obtain ⟨z1, z2⟩ := tblk_mid BX4 hsz
    have BB := blk_new w3 Cz 49
    have kb : Keeps Nothing w3 (w3.alloc (.cells Cz 49)) := (Keeps.refl Nothing w3).alloc _
    have kx3 := kx.trans kb (fun _ h _ => h)
    have HO3 := shut (HO.out.keepsN (zx_ok _) strOk kx3)
    have hel : StrIs (InB (Zx X) (w3.alloc (.cells Cz 49)) ao) (w3.alloc (.cells Cz 49)) (bareStr ⟨true, x_name, x_lives, x_fields, x_pos⟩) csz := strOk.keep _ _ _ _ _ _ _ HN.out kb (fun _ _ h => h) (fun b hb => by
     obtain ⟨h1, h2, h3⟩ := HPZ.out b hb
     exact ⟨⟨Nat.lt_of_lt_of_le h1 kb.size, h2⟩, h3⟩)
    have HEL := shut hel
    have hlt4 : w0.heap.size ≤ (w3.alloc (.cells Cz 49)).heap.size := Nat.le_trans hWr kx3.size
    have htb : m ≤ 1000000000 := by omega
    have HBB := shut BB
    have KX3 : Keeps (fun b => b = g3 ∨ w0.heap.size ≤ b) w0 (w3.alloc (.cells Cz 49)) := KL.trans kx3 (fun _ h _ => h.elim)
    have B3x := kb.blk B3w (fun h => h)
    clear hel BB KL HO kx3 kb HN HPZ
    go_wp2_with (at_builtin; rw [fillN (n := 5) rfl hsz]; refine wpList_appD _ rfl (.tmp 25) (.tmp 27) 23 rfl Tryz.underlying23 iaStr (by decide) (zx_ok _) strOk m HML.out rfl HO3.out hlt4 _ _ csz (bareStr ⟨true, x_name, x_lives, x_fields, x_pos⟩) GCz.out rfl HBB.out HEL.out htb ?_)
    intro a4 c4 w4 O4 k4 m4
    have hg3n : ¬ blockOf ao = some g3 := fun q => by have := HNEW.out g3 q; have := l03.out; omega
    have B3y := k4.blk B3x hg3n
    have c3y := blk_cell B3y 1 (v := .slice ao m cap) rfl
    have f3y := blk_free B3y 1
    have k5 : Keeps (fun b => b = g3) w4 (w4.setCell ⟨g3, 1, none⟩ (.slice a4 (m + 1) c4)) := (Keeps.refl (fun b => b = g3) w4).setCell (p := ⟨g3, 1, none⟩) (fun _ => rfl) _
    have B3z : Blk (w4.setCell ⟨g3, 1, none⟩ (.slice a4 (m + 1) c4)) g3 #[.string ⟨nm.toArray⟩, .slice a4 (m + 1) c4, .slice none 0 0] 32 := blk_set B3y 1 (.slice a4 (m + 1) c4)
    have O5 : OutR (Zx X) 49 5 StrIs w0.heap.size (w4.setCell ⟨g3, 1, none⟩ (.slice a4 (m + 1) c4)) a4 c4 (pubS d_structs (t + 1)) := by
     rw [pubS_yes HX.out rfl]
     exact O4.keeps (zx_ok _) strOk k5 (fun b hb q => hb.2 (by have hq : b = g3 := q; rw [hq]; exact HXX.out.2.1)) (fun g hg q => by have hq : g = g3 := q; have := O4.new g hg; have := l03.out; omega)
    have KL4 := (KX3.trans k4 (fun g hg _ => .inr (HNEW.out g hg))).trans k5 (fun g hg _ => .inl hg)
    have HF : Shut (∃ (mq : Nat) (aq : Option Addr) (cq : Nat), mq ≤ t + 1 ∧ (pubS d_structs (t + 1)).length = mq ∧ Blk (w4.setCell ⟨g3, 1, none⟩ (.slice a4 (m + 1) c4)) g3 #[.string ⟨nm.toArray⟩, .slice aq mq cq, .slice none 0 0] 32 ∧ OutR (Zx X) 49 5 StrIs w0.heap.size (w4.setCell ⟨g3, 1, none⟩ (.slice a4 (m + 1) c4)) aq cq (pubS d_structs (t + 1))) := shut ⟨m + 1, a4, c4, by omega, by rw [pubS_yes HX.out rfl, List.length_append, HML.out]; rfl, B3z, O5⟩
    clear O4 O5 k4 m4 KX3 HO3 HEL HBB HNEW k5 B3z
    go_wp2_with fail
    any_goals try (rename_i hfz; simp [f3y] at hfz; done)
    go_roundw
    case rel => exact ⟨t + 1, by go_num, by omega, KL4, HF⟩
    case measure => (simp [intOf]; try omega)
  obtain rfl : t = ns := by omega
  obtain ⟨ns, rfl⟩ : ∃ n, n = t := ⟨_, rfl⟩
  have m1 : ¬ (ns : Int) < ns := by omega
  obtain ⟨wS, rfl⟩ : ∃ wS, wS = wr := ⟨_, rfl⟩
  obtain ⟨mS, rfl⟩ : ∃ mS, mS = m := ⟨_, rfl⟩
  obtain ⟨aoS, rfl⟩ : ∃ aoS, aoS = ao := ⟨_, rfl⟩
  obtain ⟨capS, rfl⟩ : ∃ capS, capS = cap := ⟨_, rfl⟩
  have HOS := HO
  have HMT := shut hmt
  have HMS := HML
  have HB1S := shut B1r
  have HB2S := shut (KL.blk HB2.out (fun q => by rcases q with q | q; exact n23 q; omega))
  have l2S : g2 < wS.heap.size := lt_of_block HB2S.out
  have hl1S : g1 < wS.heap.size := lt_of_block B1r
  have hw0S : w0.heap.size ≤ wS.heap.size := KL.size
  have HWWS : Shut (w0.heap.size ≤ wS.heap.size) := shut hw0S
  have HWS : Shut (w.heap.size ≤ wS.heap.size) := shut (Nat.le_trans HW0.out hw0S)
  have c11 := blk_cell B1r 1 (v := .slice a1 nf c1) (by rw [GC.out]; rfl)
  have H0 : Shut (∃ (m : Nat) (ao : Option Addr) (cap : Nat), m ≤ 0 ∧ (pubF d_funcs 0).length = m ∧ Blk wS g3 #[.string ⟨nm.toArray⟩, .slice aoS mS capS, .slice ao m cap] 32 ∧ OutR (Zx X) 56 10 FunIs wS.heap.size wS ao cap (pubF d_funcs 0)) := shut ⟨0, none, 0, Nat.le_refl _, rfl, B3r, outR_nil _ _ _ _ _ _⟩
  have KWS := k0r
  have l03' : Shut (g3 < w0.heap.size) := l03
  clear HO HML KL HB1 l1 l2 c10 k0r B3r B1r hmt
  have l03 : Shut (g3 < wS.heap.size) := shut (Nat.lt_of_lt_of_le l03'.out hw0S)
  go_wp2_with fail
  go_loopw [9, 34] (fun s9 s34 wx => ∃ t : Nat, s34 = .int .i64 t ∧ t ≤ nf ∧ Keeps (fun b => b = g3 ∨ wS.heap.size ≤ b) wS wx ∧ Shut (∃ (mq : Nat) (aq : Option Addr) (cq : Nat), mq ≤ t ∧ (pubF d_funcs (t)).length = mq ∧ Blk wx g3 #[.string ⟨nm.toArray⟩, .slice aoS mS capS, .slice aq mq cq] 32 ∧ OutR (Zx X) 56 10 FunIs wS.heap.size wx aq cq (pubF d_funcs (t)))) (fun _ s34 _ => nf - (intOf s34).toNat)
  case atStart => exact ⟨0, rfl, Nat.zero_le _, Keeps.refl _ _, H0⟩
  case round =>
   obtain ⟨t, rfl, ht, KL, HR⟩ := hrel
   clear H0
   obtain ⟨m, ao, cap, hmt, hml, B3r, HO⟩ := HR.out
   have HML := shut hml
   have HO := shut HO
   clear HR hml
   have k0r : Keeps Nothing w wr := KWS.trans KL (fun b hb hlt => by rcases hb with rfl | hb; have := HG3.out; omega; have := HWS.out; omega)
   have B1r := KL.blk HB1S.out (fun q => by rcases q with q | q; exact n13 q; omega)
   have c10 := blk_cell B1r 1 (v := .slice a1 nf c1) (by rw [GC.out]; rfl)
   by_cases hlt : t < nf
   ·have m0 : (0 : Int) ≤ t := by omega
    have m1 : (t : Int) < nf := by omega
    obtain ⟨x, hx⟩ : ∃ x, d_funcs[t]? = some x := ⟨_, List.getElem?_eq_getElem (by rw [HNF.out]; exact hlt)⟩
    obtain ⟨gl, ol, rfl, -, cs, hl1, r1, i1⟩ := (HL1.out.keeps (S' := S) (Q := FunIs S wr) k0r (fun _ _ h => h) (fun _ h => h) (fun _ _ _ h => h.keeps k0r (fun _ _ h => h) (fun _ h => h))).get hx
    have HX := shut hx
    clear hx
    have hk := midOk_range r1
    have ho := midOf_range r1
    rw [hl1] at hk ho
    have ag2 := agg_ok hl1 i1.one
    have kx1 : Keeps Nothing wr (wr.alloc (.cells cs.toArray 56)) := (Keeps.refl Nothing wr).alloc _
    have I1 := shut (i1.keeps kx1 (fun _ _ h => h) (fun _ h => h) (S' := S))
    have BX := blk_new wr cs.toArray 56
    have hsx : cs.toArray.size = 10 := by simpa using hl1
    have hw01 : wr.heap.size ≤ (wr.alloc (.cells cs.toArray 56)).heap.size := kx1.size
    obtain ⟨Cx, hCx⟩ : ∃ Cx, Cx = cs.toArray := ⟨_, rfl⟩
    rw [← hCx] at I1 BX hsx kx1 ho ag2 hw01
    have HCX := shut hCx
    clear hCx i1 r1 hl1
    go_upto_region 13 with fail
    clear hk ho ag2
    generalize wr.alloc (.cells Cx 56) = w1 at *
    have hgx := lt_of_block BX
    obtain ⟨gx, hgx0⟩ : ∃ gx, wr.heap.size = gx := ⟨_, rfl⟩
    have HGX : Shut (wr.heap.size ≤ gx) := shut (Nat.le_of_eq hgx0)
    have hg3r : g3 < wr.heap.size := lt_of_block B3r
    rw [hgx0] at BX hgx hg3r ⊢
    clear hgx0
    have hWr : wS.heap.size ≤ wr.heap.size := KL.size
    have hlao : ∀ g, blockOf ao = some g → g < wr.heap.size := fun g hg => HO.out.lt hg
    have HNEW := shut HO.out.new
    obtain ⟨x_pub, x_name, x_lives, x_params, x_result, x_body, x_pos⟩ := x
    obtain ⟨b2, d2, b3, d3, s4, b8, d8, hcs, hxn, q2, q3, q4, q8⟩ := I1.out
    simp only at hcs hxn q2 q3 q4 q8
    unfold txV at hcs
    have al_ty := q4.len
    have GX : Shut (Cx = (([.bool x_pub, .string ⟨x_name.toArray⟩, .slice b2 x_lives.length d2, .slice b3 x_params.length d3] : List Value) ++ s4 ++ ([.slice b8 x_body.length d8, .int .i64 x_pos] : List Value)).toArray) := shut (by rw [HCX.out, hcs])
    obtain ⟨e0, -, -, -, -, -, -⟩ := FunB al_ty GX.out BX
    cases x_pub with
    | false =>
     have HF : Shut (∃ (mq : Nat) (aq : Option Addr) (cq : Nat), mq ≤ t + 1 ∧ (pubF d_funcs (t + 1)).length = mq ∧ Blk w1 g3 #[.string ⟨nm.toArray⟩, .slice aoS mS capS, .slice aq mq cq] 32 ∧ OutR (Zx X) 56 10 FunIs wS.heap.size w1 aq cq (pubF d_funcs (t + 1))) := shut ⟨m, ao, cap, by omega, by rw [pubF_no HX.out rfl]; exact HML.out, kx1.blk B3r (fun h => h), by rw [pubF_no HX.out rfl]; exact HO.out.keepsN (zx_ok _) funOk kx1⟩
     have KL4 := KL.trans kx1 (fun _ h _ => h.elim)
     clear HX HML HO KL GX HCX I1
     go_wp2_with fail
     go_roundw
     case rel => exact ⟨t + 1, by go_num, by omega, KL4, HF⟩
     case measure => (simp [intOf]; try omega)
    | true =>
     obtain ⟨-, -, -, -, -, c8, -⟩ := FunB al_ty GX.out BX
     have f8a := blk_free BX 8
     obtain ⟨csA, hcsA⟩ : ∃ l, l = (([.bool true, .string ⟨x_name.toArray⟩, .slice b2 x_lives.length d2, .slice b3 x_params.length d3] : List Value) ++ s4 ++ ([.slice none 0 0, .int .i64 x_pos] : List Value)) := ⟨_, rfl⟩
     have BXA : Blk (w1.setCell ⟨gx, 8, none⟩ (.slice none 0 0)) gx csA.toArray 56 := by
      rw [hcsA, show (([.bool true, .string ⟨x_name.toArray⟩, .slice b2 x_lives.length d2, .slice b3 x_params.length d3] : List Value) ++ s4 ++ ([.slice none 0 0, .int .i64 x_pos] : List Value)) = (([.bool true, .string ⟨x_name.toArray⟩, .slice b2 x_lives.length d2, .slice b3 x_params.length d3] : List Value) ++ s4) ++ (.slice none 0 0 :: [.int .i64 x_pos]) by simp]
      exact box_set (v := .slice b8 x_body.length d8) BX (by rw [GX.out] <;> simp) (by simp [al_ty])
     have ksA : Keeps (fun b => b = gx) w1 (w1.setCell ⟨gx, 8, none⟩ (.slice none 0 0)) := (Keeps.refl (fun b => b = gx) w1).setCell (p := ⟨gx, 8, none⟩) (fun _ => rfl) _
     have kxA : Keeps Nothing wr (w1.setCell ⟨gx, 8, none⟩ (.slice none 0 0)) := kx1.trans ksA (fun b hb hlt => by have hb' : b = gx := hb; have := HGX.out; omega)
     have hsg : ∀ b, S b → ¬ b = gx := fun b hb q => by have := HS.out b hb; have := HGX.out; have := k0r.size; omega
     have hNA : FunIs S (w1.setCell ⟨gx, 8, none⟩ (.slice none 0 0)) ⟨true, x_name, x_lives, x_params, x_result, [], x_pos⟩ csA :=
      ⟨b2, d2, b3, d3, s4, none, 0, hcsA, hxn, q2.keeps ksA hsg (fun _ h => h) (fun _ _ _ h => h.keeps ksA hsg (fun _ h => h)), q3.keeps ksA hsg (fun _ h => h) (fun _ _ _ h => h.keeps ksA hsg (fun _ h => h)), q4.keeps ksA hsg (fun _ h => h), slIs_nil _ _ _ _ _⟩
     have hlA := hNA.len
     have hcl := cfunc_any ⟨true, x_name, x_lives, x_params, x_result, [], x_pos⟩ _ csA hNA
     have hgA : w1.heap.size = (w1.setCell ⟨gx, 8, none⟩ (.slice none 0 0)).heap.size := (World.size_setCell _ _ _).symm
     obtain ⟨CA, hCA⟩ : ∃ C, C = csA.toArray := ⟨_, rfl⟩
     have hsA : CA.size = 10 := by rw [hCA]; simpa using hlA
     rw [← hCA] at hcl BXA
     have HK0R := shut k0r.size
     clear q2 q3 q4 q8 hxn hcs hNA hcsA hCA hlA ksA hsg
     go_upto_region 15 with fail
     any_goals try (rename_i hfz; simp [f8a] at hfz; done)
     clear c8 f8a BX GX HCX I1 e0 kx1
     generalize (w1.setCell ⟨gx, 8, none⟩ (.slice none 0 0)) = wA at *
     obtain ⟨z1, z2⟩ := tblk_mid BXA hsA
     go_wp2_with fail
     refine hcl.mono ?_
     rintro e w2 ⟨cs2, rfl, k2, hN⟩
     have hlc2 := hN.f.len
     have agc := agg_ok hlc2 hN.one
     obtain ⟨p2, f2, p3, f3, t4, p8, f8, hcs2, hxn2, j2, j3, j4, -⟩ := hN.f
     simp only [List.length_nil] at hcs2 hxn2 j2 j3 j4
     have al4 := j4.len
     unfold txV at hcs2
     have BX2 := k2.blk BXA (fun h => h)
     have y2 := rowOk_blk BX2 hsA
     obtain ⟨C2, hC2⟩ : ∃ C2, C2 = cs2.toArray := ⟨_, rfl⟩
     rw [← hC2] at agc ⊢
     rw [hcs2] at hC2
     have BX3 : Blk (w2.setRow gx C2) gx C2 56 := blk_setRow (cs := C2) BX2
     obtain ⟨-, -, -, -, -, -, c9⟩ := FunB al4 hC2 BX3
     have f9 := blk_free BX3 9
     have BX4 : Blk ((w2.setRow gx C2).setCell ⟨gx, 9, none⟩ (.int .i64 0)) gx (([.bool true, .string ⟨x_name.toArray⟩, .slice p2 x_lives.length f2, .slice p3 x_params.length f3] : List Value) ++ t4 ++ ([.slice p8 0 f8, .int .i64 0] : List Value)).toArray 56 := by
      rw [show (([.bool true, .string ⟨x_name.toArray⟩, .slice p2 x_lives.length f2, .slice p3 x_params.length f3] : List Value) ++ t4 ++ ([.slice p8 0 f8, .int .i64 0] : List Value)) = (([.bool true, .string ⟨x_name.toArray⟩, .slice p2 x_lives.length f2, .slice p3 x_params.length f3] : List Value) ++ t4 ++ ([.slice p8 0 f8] : List Value)) ++ (.int .i64 0 :: []) by simp]
      exact box_set (v := .int .i64 x_pos) BX3 (by rw [hC2] <;> simp) (by simp [al4])
     have KS : Keeps (fun b => b = gx) w2 ((w2.setRow gx C2).setCell ⟨gx, 9, none⟩ (.int .i64 0)) := ((Keeps.refl (fun b => b = gx) w2).setRow (g := gx) (fun _ => rfl) C2).setCell (p := ⟨gx, 9, none⟩) (fun _ => rfl) _
     have hng : ∀ b, NewA wA.heap.size w2 b → ¬ b = gx := fun b hb q => by have := hb.1; have := hgx; omega
     have hNs : ∀ b, NewA wA.heap.size w2 b → NewA w1.heap.size ((w2.setRow gx C2).setCell ⟨gx, 9, none⟩ (.int .i64 0)) b := fun b hb => ⟨by have := hb.1; omega, Nat.lt_of_lt_of_le hb.2 KS.size⟩
     have hN3 : FunIs (NewA w1.heap.size ((w2.setRow gx C2).setCell ⟨gx, 9, none⟩ (.int .i64 0))) ((w2.setRow gx C2).setCell ⟨gx, 9, none⟩ (.int .i64 0)) (ofF ⟨true, x_name, x_lives, x_params, x_result, x_body, x_pos⟩) (([.bool true, .string ⟨x_name.toArray⟩, .slice p2 x_lives.length f2, .slice p3 x_params.length f3] : List Value) ++ t4 ++ ([.slice p8 0 f8, .int .i64 0] : List Value)) :=
      ⟨p2, f2, p3, f3, t4, p8, f8, rfl, hxn2, j2.keeps KS hng hNs (fun _ _ _ h => h.keeps KS hng hNs), j3.keeps KS hng hNs (fun _ _ _ h => h.keeps KS hng hNs), j4.keeps KS hng hNs, slIs_nil _ _ _ _ _⟩
     have kx : Keeps Nothing wr ((w2.setRow gx C2).setCell ⟨gx, 9, none⟩ (.int .i64 0)) := (kxA.trans k2 (fun _ h _ => h)).trans KS (fun b hb hlt => by have hb' : b = gx := hb; have := HGX.out; omega)
     have HN := shut hN3
     have hPZ : ∀ b, NewA w1.heap.size ((w2.setRow gx C2).setCell ⟨gx, 9, none⟩ (.int .i64 0)) b → b < ((w2.setRow gx C2).setCell ⟨gx, 9, none⟩ (.int .i64 0)).heap.size ∧ ¬ X b ∧ ¬ blockOf ao = some b := fun b hb => ⟨hb.2, HXX.out.2.2.1 b (.inr (by have := hb.1; have := l02.out; have := l03.out; have := HWWS.out; have := HG2.out; omega)) (by have := hb.1; have := l02.out; have := l03.out; have := HWWS.out; have := HG2.out; omega) (by have := hb.1; have := l02.out; have := l03.out; have := HWWS.out; have := HG2.out; omega), fun q => by have := hlao b q; have := hb.1; omega⟩
     have HPZ := shut hPZ
     clear hcl hN hN3 hPZ j2 j3 j4 hxn2 KS hC2 hcs2 hng hNs
     go_upto_region 17 with fail
     any_goals try (rename_i hfz; simp [f9] at hfz; done)
     clear c9 f9 y2 agc BX2 BX3 hlc2 k2 kxA z1 z2 BXA hgA
     generalize ((w2.setRow gx C2).setCell ⟨gx, 9, none⟩ (.int .i64 0)) = w3 at *
     obtain ⟨csz, hcsz⟩ : ∃ l, l = ((([.bool true, .string ⟨x_name.toArray⟩, .slice p2 x_lives.length f2, .slice p3 x_params.length f3] : List Value) ++ t4 ++ ([.slice p8 0 f8, .int .i64 0] : List Value)) : List Value) := ⟨_, rfl⟩
     rw [← hcsz] at HN BX4
     have hlz := HN.out.len
     obtain ⟨Cz, hCz⟩ : ∃ C, C = csz.toArray := ⟨_, rfl⟩
     have hsz : Cz.size = 10 := by rw [hCz]; simpa using hlz
     rw [← hCz] at BX4
     have GCz := shut hCz
     have agz : aggOk 10 (.agg Cz) = true := by rw [hCz]; exact agg_ok hlz HN.out.one
     clear hcsz hCz hlz
     have B3w := kx.blk B3r (fun h => h)
     have c30 := blk_cell B3w 2 (v := .slice ao m cap) rfl
     obtain ⟨z1, z2⟩ := tblk_mid BX4 hsz
     have BB := blk_new w3 Cz 56
     have kb : Keeps Nothing w3 (w3.alloc (.cells Cz 56)) := (Keeps.refl Nothing w3).alloc _
     have kx3 := kx.trans kb (fun _ h _ => h)
     have HO3 := shut (HO.out.keepsN (zx_ok _) funOk kx3)
     have hel : FunIs (InB (Zx X) (w3.alloc (.cells Cz 56)) ao) (w3.alloc (.cells Cz 56)) (ofF ⟨true, x_name, x_lives, x_params, x_result, x_body, x_pos⟩) csz := funOk.keep _ _ _ _ _ _ _ HN.out kb (fun _ _ h => h) (fun b hb => by
      obtain ⟨h1, h2, h3⟩ := HPZ.out b hb
      exact ⟨⟨Nat.lt_of_lt_of_le h1 kb.size, h2⟩, h3⟩)
     have HEL := shut hel
     have hlt4 : wS.heap.size ≤ (w3.alloc (.cells Cz 56)).heap.size := Nat.le_trans hWr kx3.size
     have htb : m ≤ 1000000000 := by omega
     have HBB := shut BB
     have KX3 : Keeps (fun b => b = g3 ∨ wS.heap.size ≤ b) wS (w3.alloc (.cells Cz 56)) := KL.trans kx3 (fun _ h _ => h.elim)
     have B3x := kb.blk B3w (fun h => h)
     clear hel BB KL HO kx3 kb HN HPZ
     go_wp2_with (at_builtin; rw [fillN (n := 10) rfl hsz]; refine wpList_appD _ rfl (.tmp 45) (.tmp 47) 24 rfl Tryz.underlying24 iaFun (by decide) (zx_ok _) funOk m HML.out rfl HO3.out hlt4 _ _ csz (ofF ⟨true, x_name, x_lives, x_params, x_result, x_body, x_pos⟩) GCz.out rfl HBB.out HEL.out htb ?_)
     intro a4 c4 w4 O4 k4 m4
     have hg3n : ¬ blockOf ao = some g3 := fun q => by have := HNEW.out g3 q; have := l03.out; omega
     have B3y := k4.blk B3x hg3n
     have c3y := blk_cell B3y 2 (v := .slice ao m cap) rfl
     have f3y := blk_free B3y 2
     have k5 : Keeps (fun b => b = g3) w4 (w4.setCell ⟨g3, 2, none⟩ (.slice a4 (m + 1) c4)) := (Keeps.refl (fun b => b = g3) w4).setCell (p := ⟨g3, 2, none⟩) (fun _ => rfl) _
     have B3z : Blk (w4.setCell ⟨g3, 2, none⟩ (.slice a4 (m + 1) c4)) g3 #[.string ⟨nm.toArray⟩, .slice aoS mS capS, .slice a4 (m + 1) c4] 32 := blk_set B3y 2 (.slice a4 (m + 1) c4)
     have O5 : OutR (Zx X) 56 10 FunIs wS.heap.size (w4.setCell ⟨g3, 2, none⟩ (.slice a4 (m + 1) c4)) a4 c4 (pubF d_funcs (t + 1)) := by
      rw [pubF_yes HX.out rfl]
      exact O4.keeps (zx_ok _) funOk k5 (fun b hb q => hb.2 (by have hq : b = g3 := q; rw [hq]; exact HXX.out.2.1)) (fun g hg q => by have hq : g = g3 := q; have := O4.new g hg; have := l03.out; omega)
     have KL4 := (KX3.trans k4 (fun g hg _ => .inr (HNEW.out g hg))).trans k5 (fun g hg _ => .inl hg)
     have HF : Shut (∃ (mq : Nat) (aq : Option Addr) (cq : Nat), mq ≤ t + 1 ∧ (pubF d_funcs (t + 1)).length = mq ∧ Blk (w4.setCell ⟨g3, 2, none⟩ (.slice a4 (m + 1) c4)) g3 #[.string ⟨nm.toArray⟩, .slice aoS mS capS, .slice aq mq cq] 32 ∧ OutR (Zx X) 56 10 FunIs wS.heap.size (w4.setCell ⟨g3, 2, none⟩ (.slice a4 (m + 1) c4)) aq cq (pubF d_funcs (t + 1))) := shut ⟨m + 1, a4, c4, by omega, by rw [pubF_yes HX.out rfl, List.length_append, HML.out]; rfl, B3z, O5⟩
     clear O4 O5 k4 m4 KX3 HO3 HEL HBB HNEW k5 B3z
     go_wp2_with fail
     any_goals try (rename_i hfz; simp [f3y] at hfz; done)
     go_roundw
     case rel => exact ⟨t + 1, by go_num, by omega, KL4, HF⟩
     case measure => (simp [intOf]; try omega)
   obtain rfl : t = nf := by omega
   obtain ⟨nf, rfl⟩ : ∃ n, n = t := ⟨_, rfl⟩
   have m1 : ¬ (nf : Int) < nf := by omega
   have B2r := KL.blk HB2S.out (fun q => by rcases q with q | q; exact n23 q; omega)
   obtain ⟨z1, z2⟩ := tblk_mid B3r (n := 3) rfl
   have y3 := rowOk_blk B2r (n := 3) rfl
   obtain ⟨LF, hLF⟩ : ∃ L, L = ([.string ⟨nm.toArray⟩, .slice aoS mS capS, .slice ao m cap] : List Value) := ⟨_, rfl⟩
   have agf : aggOk 3 (.agg #[.string ⟨nm.toArray⟩, .slice aoS mS capS, .slice ao m cap]) = true := by simp [aggOk, Value.oneCell']
   obtain ⟨WF, hWF⟩ : ∃ W, W = wr.setRow g2 #[.string ⟨nm.toArray⟩, .slice aoS mS capS, .slice ao m cap] := ⟨_, rfl⟩
   have KF : Keeps Nothing w WF := by rw [hWF]; exact k0r.setRow (g := g2) (fun h => absurd h (Nat.not_lt.2 HG2.out)) _
   have K2 : Keeps (fun b => b = g2) wr WF := by rw [hWF]; exact (Keeps.refl (fun b => b = g2) wr).setRow (g := g2) (fun _ => rfl) _
   have BF : Blk WF g2 #[.string ⟨nm.toArray⟩, .slice aoS mS capS, .slice ao m cap] 32 := by rw [hWF]; exact blk_setRow B2r
   have HF : Shut (CSig S w RT (.returned (.agg #[.string ⟨nm.toArray⟩, .slice aoS mS capS, .slice ao m cap])) WF) := shut (by
    refine ⟨[.string ⟨nm.toArray⟩, .slice aoS mS capS, .slice ao m cap], rfl, KF, ?_⟩
    rw [HRT.out]
    refine ⟨aoS, capS, ao, cap, ?_, HNM.out, ?_, ?_⟩
    ·show _ = [Value.string ⟨nm.toArray⟩, .slice aoS (pubS d_structs ns).length capS, .slice ao (pubF d_funcs nf).length cap]
     rw [HMS.out, HML.out]
    ·have hmb : mS ≤ ns := HMT.out
     have KSf : Keeps (fun b => b = g2 ∨ b = g3 ∨ wS.heap.size ≤ b) wS WF := (KL.mono (S' := fun b => b = g2 ∨ b = g3 ∨ wS.heap.size ≤ b) (fun b hb _ => .inr hb)).trans K2 (fun b hb _ => .inl hb)
     have h1 := HOS.out.sl (S := fun b => b < wS.heap.size ∧ ¬ X b) strOk (fun _ h => h) (fun g hg => ⟨HOS.out.lt hg, HXX.out.2.2.1 g (.inr (by have := HOS.out.new g hg; have := l02.out; have := l03'.out; have := HG2.out; omega)) (by have := HOS.out.new g hg; have := l02.out; have := l03'.out; have := HG2.out; omega) (by have := HOS.out.new g hg; have := l02.out; have := l03'.out; have := HG2.out; omega)⟩) (by rw [HMS.out]; unfold bigN; omega)
     have hT : ∀ b, (b < wS.heap.size ∧ ¬ X b) → ¬ (b = g2 ∨ b = g3 ∨ wS.heap.size ≤ b) := fun b hb q => by rcases q with q | q | q; exact hb.2 (q ▸ HXX.out.1); exact hb.2 (q ▸ HXX.out.2.1); omega
     have hSS : ∀ b, (b < wS.heap.size ∧ ¬ X b) → S b ∨ (w.heap.size ≤ b ∧ b < WF.heap.size) := fun b hb => ((HXX.out.2.2.2 b hb.2).2.2).elim .inl (fun h => .inr ⟨h, Nat.lt_of_lt_of_le hb.1 KSf.size⟩)
     exact h1.keeps KSf hT hSS (fun _ _ _ h => h.keeps KSf hT hSS)
    ·have h1 := HO.out.sl (S := fun b => b < wr.heap.size ∧ ¬ X b) funOk (fun _ h => h) (fun g hg => ⟨HO.out.lt hg, HXX.out.2.2.1 g (.inr (by have := HO.out.new g hg; have := l02.out; have := l03.out; have := HG2.out; omega)) (by have := HO.out.new g hg; have := l02.out; have := l03.out; have := HG2.out; omega) (by have := HO.out.new g hg; have := l02.out; have := l03.out; have := HG2.out; omega)⟩) (by rw [HML.out]; unfold bigN; omega)
     have hSS : ∀ b, (b < wr.heap.size ∧ ¬ X b) → S b ∨ (w.heap.size ≤ b ∧ b < WF.heap.size) := fun b hb => ((HXX.out.2.2.2 b hb.2).2.2).elim .inl (fun h => .inr ⟨h, Nat.lt_of_lt_of_le hb.1 K2.size⟩)
     exact h1.keeps K2 (fun b hb q => hb.2 (by have hq : b = g2 := q; rw [hq]; exact HXX.out.1)) hSS (fun _ _ _ h => h.keeps K2 (fun b hb q => hb.2 (by have hq : b = g2 := q; rw [hq]; exact HXX.out.1)) hSS))
   clear HOS HMS HML HO KF K2 KL k0r KWS hLF
   go_wp2_with fail
   rw [← hWF]
   refine bodyPost_ret (v := .agg #[.string ⟨nm.toArray⟩, .slice aoS mS capS, .slice ao m cap]) (results_cell_row rfl _ _ g2 _ _ (0, 0) _ rfl BF Tryz.underlying32 rfl (by rw [infoSig]; rfl)) rfl ?_
   exact HF.out
end Go.Proofs.YtjbcagbnagefcaaGreat
namespace Go.Proofs.YtjbcagbnagefcaaGreat
open Go.RowKit
structure Wr (w : World) (p : Nat) (ao : Option Addr) (cap : Nat) (bs : List UInt8) : Prop where
 blk : Blk w p #[.slice ao bs.length cap] 146
 own : Own8 w 5 ao cap bs
theorem wr_mid {w wa w1 : World} {p : Nat} {ao : Option Addr} {cap : Nat} {bs : List UInt8} (hW : Wr w p ao cap bs) (ha : Keeps Nothing w wa) (hk : Keeps (fun k => blockOf ao = some k) wa w1) :
  Blk w1 p #[.slice ao bs.length cap] 146 := hk.blk (ha.blk hW.blk (fun h => h)) (own8_ne hW.own hW.blk (by decide))
theorem wr_put {w wa w1 : World} {p : Nat} {ao ao1 : Option Addr} {cap cap1 : Nat} {bs bs' : List UInt8} (hW : Wr w p ao cap bs) (ha : Keeps Nothing w wa) (hk : Keeps (fun k => blockOf ao = some k) wa w1)
  (ho : Own8 w1 5 ao1 cap1 bs') (hm : Moved wa.heap.size ao ao1) :
  Wr (w1.setCell ⟨p, 0, none⟩ (.slice ao1 bs'.length cap1)) p ao1 cap1 bs' ∧ Keeps (WrF p ao) w (w1.setCell ⟨p, 0, none⟩ (.slice ao1 bs'.length cap1)) ∧ Moved w.heap.size ao ao1 := by
 have hb := wr_mid hW ha hk
 refine ⟨⟨blk_set hb 0 _, ownsRow_setCell_other ho (own_ne ho hb (by decide)) _⟩, ?_, hm.mono ha.size⟩
 have h1 : Keeps (WrF p ao) w w1 := (ha.mono (fun _ h _ => h.elim)).trans hk (fun i h _ => .inr h)
 exact h1.setCell (fun _ => .inl rfl) _
def encU (x : Nat) : List UInt8 := if x < 128 then [UInt8.ofNat x] else UInt8.ofNat (x % 128 + 128) :: encU (x / 128)
theorem or128 (y : Nat) : bits .or .u8 ((y : Int) % 256) 128 = ((y % 128 + 128 : Nat) : Int) := by
 have h : ∀ m : Fin 256, m.val ||| 128 = m.val % 128 + 128 := by decide +kernel
 have e : ((y : Int) % 256) = ((y % 256 : Nat) : Int) := by omega
 have := u8_or_nat (y % 256) 128 (by omega) (by omega)
 rw [e]
 refine this.trans ?_
 rw [h ⟨y % 256, by omega⟩]
 simp only
 rw [Nat.mod_mod_of_dvd y (by decide : 128 ∣ 256)]
theorem encU_lt {x : Nat} (h : x < 128) : encU x = [UInt8.ofNat x] := by rw [encU, if_pos h]
theorem encU_ge {x : Nat} (h : ¬ x < 128) : encU x = UInt8.ofNat (x % 128 + 128) :: encU (x / 128) := by rw [encU, if_neg h]
theorem encU_len (n : Nat) : ∀ x, x < 128 ^ (n + 1) → (encU x).length ≤ n + 1 := by
 induction n with
 | zero => intro x hx; rw [encU_lt (by omega)]; simp
 | succ n ih =>
  intro x hx
  by_cases h : x < 128
  ·rw [encU_lt h]; simp
  ·rw [encU_ge h, List.length_cons]
   have := ih (x / 128) (by rw [Nat.pow_succ] at hx; omega)
   omega
theorem encU_len10 {x : Nat} (hx : x < 18446744073709551616) : (encU x).length ≤ 10 := encU_len 9 x (by omega)
set_option maxRecDepth 100000 in
set_option maxHeartbeats 400000 in
theorem uint_any {w : World} {p : Nat} {ao : Option Addr} {cap : Nat} {bs : List UInt8} (hW : Wr w p ao cap bs) (x : Nat) (hx : x < 18446744073709551616) (hl : bs.length ≤ 1000000000) :
  Calls Tryz.prog 78 #[.pointer (some ⟨p, 0, none⟩), .int .u64 x] w fun e w' =>
   e = .returned (.tuple #[]) ∧ ∃ ao' cap', Wr w' p ao' cap' (bs ++ encU x) ∧ Keeps (WrF p ao) w w' ∧ Moved w.heap.size ao ao' := by
 go_enter Tryz.func78, Tryz.ntmps78
 go_wp2_with fail
 go_loopw [1] (fun s wr => ∃ (y : Nat) (aor : Option Addr) (capr : Nat) (bsr : List UInt8), s = .int .u64 y ∧ y < 18446744073709551616 ∧ Wr wr p aor capr bsr ∧ Keeps (WrF p ao) w wr ∧ Moved w.heap.size ao aor ∧ bsr ++ encU y = bs ++ encU x)
  (fun s _ => (intOf s).toNat)
 case atStart => exact ⟨x, ao, cap, bs, rfl, hx, hW, Keeps.refl _ _, Moved.refl _ _, rfl⟩
 case round =>
  obtain ⟨y, aor, capr, bsr, rfl, hy, hWr, hK, hM, hE⟩ := hrel
  have hc : wr.cell? ⟨p, 0, none⟩ = some (.slice aor bsr.length capr) := blk_cell hWr.blk 0 rfl
  have hf := blk_free hWr.blk 0
  have hbl : bsr.length ≤ 1000000010 := by
   have h1 := congrArg List.length hE
   have h2 := encU_len10 hx
   simp only [List.length_append] at h1
   omega
  have HE := Lib.hid hE
  clear hE
  by_cases hlt : y < 128
  ·go_wp2_with (at_builtin; refine wpList_app8 _ rfl (.tmp 26) (.tmp 29) 22 rfl aor capr bsr rfl (hWr.own.alloc _) _ rfl [UInt8.ofNat y] (src_new wr _ ?c1) ?c2 ?c3 ?_)
   case c1 => exact byteV_nat (by omega)
   case c2 => omega
   case c3 => simp
   intro ao1 cap1 w1 ho1 hk1 hm1
   have hb1 := wr_mid hWr ((Keeps.refl _ _).alloc _) hk1
   have P1 := wr_put hWr ((Keeps.refl _ _).alloc _) hk1 ho1 (by simpa using hm1)
   simp only [List.length_append, List.length_singleton] at P1
   have hc1 : w1.cell? ⟨p, 0, none⟩ = some (.slice aor bsr.length capr) := blk_cell hb1 0 rfl
   have hf1 := blk_free hb1 0
   clear ho1 hk1 hm1 hb1
   go_wp2_with fail
   go_end0
   refine ⟨rfl, ao1, cap1, ?_, ?_, ?_⟩
   ·rw [← HE.out, encU_lt hlt]; exact P1.1
   ·exact hK.trans P1.2.1 (fun i hi hlt => wrF_back hM i hi hlt)
   ·exact hM.trans P1.2.2 hK.size
  ·go_wp2_with (at_builtin; refine wpList_app8 _ rfl (.tmp 12) (.tmp 16) 22 rfl aor capr bsr rfl (hWr.own.alloc _) _ rfl [UInt8.ofNat (y % 128 + 128)] (src_new wr _ ?c1) ?c2 ?c3 ?_)
   case c1 => rw [or128]; exact byteV_nat (by omega)
   case c2 => omega
   case c3 => simp
   intro ao1 cap1 w1 ho1 hk1 hm1
   have hb1 := wr_mid hWr ((Keeps.refl _ _).alloc _) hk1
   have P1 := wr_put hWr ((Keeps.refl _ _).alloc _) hk1 ho1 (by simpa using hm1)
   simp only [List.length_append, List.length_singleton] at P1
   have hc1 : w1.cell? ⟨p, 0, none⟩ = some (.slice aor bsr.length capr) := blk_cell hb1 0 rfl
   have hf1 := blk_free hb1 0
   clear ho1 hk1 hm1 hb1
   go_wp2_with fail
   go_roundw
   case rel =>
    refine ⟨y / 128, ao1, cap1, _, by simp, by omega, P1.1, ?_, ?_, ?_⟩
    ·exact hK.trans P1.2.1 (fun i hi hlt => wrF_back hM i hi hlt)
    ·exact hM.trans P1.2.2 hK.size
    ·rw [← HE.out, encU_ge hlt]; simp
   case measure => simp [intOf]; omega
theorem uint_of {w : World} {p : Nat} {ao : Option Addr} {cap : Nat} {bs : List UInt8} (hW : Wr w p ao cap bs) (x : Int) (h0 : 0 ≤ x) (hx : x < 18446744073709551616) (hl : bs.length ≤ 1000000000) :
  Calls Tryz.prog 78 #[.pointer (some ⟨p, 0, none⟩), .int .u64 x] w fun e w' =>
   e = .returned (.tuple #[]) ∧ ∃ ao' cap', Wr w' p ao' cap' (bs ++ encU x.toNat) ∧ Keeps (WrF p ao) w w' ∧ Moved w.heap.size ao ao' := by
 obtain ⟨n, rfl⟩ := Int.eq_ofNat_of_zero_le h0
 exact uint_any hW n (by omega) hl
def WrPost (w : World) (p : Nat) (ao : Option Addr) (bs : List UInt8) (e : Ending) (w' : World) : Prop :=
 e = .returned (.tuple #[]) ∧ ∃ ao' cap', Wr w' p ao' cap' bs ∧ Keeps (WrF p ao) w w' ∧ Moved w.heap.size ao ao'
theorem encU_0 : encU (Int.toNat 0) = [0] := by rw [encU_lt (by decide)]; rfl
theorem encU_1 : encU (Int.toNat 1) = [1] := by rw [encU_lt (by decide)]; rfl
theorem bool_any {w : World} {p : Nat} {ao : Option Addr} {cap : Nat} {bs : List UInt8} (hW : Wr w p ao cap bs) (x : Bool) (hl : bs.length ≤ 1000000000) :
  Calls Tryz.prog 79 #[.pointer (some ⟨p, 0, none⟩), .bool x] w (WrPost w p ao (bs ++ [if x then 1 else 0])) := by
 cases x
 ·go_enter Tryz.func79, Tryz.ntmps79
  go_wp2_with fail
  refine (uint_of hW 0 (by omega) (by omega) hl).mono ?_
  rintro e w' ⟨rfl, ao1, cap1, h1, h2, h3⟩
  go_wp2_with fail
  go_end0
  rw [encU_0] at h1
  exact ⟨rfl, ao1, cap1, h1, h2, h3⟩
 ·go_enter Tryz.func79, Tryz.ntmps79
  go_wp2_with fail
  refine (uint_of hW 1 (by omega) (by omega) hl).mono ?_
  rintro e w' ⟨rfl, ao1, cap1, h1, h2, h3⟩
  go_wp2_with fail
  refine bodyPost_ret (results_none rfl _ _ _) rfl ?_
  rw [encU_1] at h1
  exact ⟨rfl, ao1, cap1, h1, h2, h3⟩
def encS (s : List UInt8) : List UInt8 := encU s.length ++ s
set_option maxHeartbeats 400000 in
theorem text_any {w : World} {p : Nat} {ao : Option Addr} {cap : Nat} {bs : List UInt8} (hW : Wr w p ao cap bs) (s : ByteArray) (hs : s.size ≤ 1000000000) (hl : bs.length ≤ 900000000) :
  Calls Tryz.prog 52 #[.pointer (some ⟨p, 0, none⟩), .string s] w (WrPost w p ao (bs ++ encS (bytesOf s))) := by
 have hlen := Lib.hid (bytesOf_length s)
 go_enter Tryz.func52, Tryz.ntmps52
 go_wp2_with fail
 refine (uint_of hW _ (by omega) (by omega) (by omega)).mono ?_
 rintro e w1 ⟨rfl, ao1, cap1, h1, h2, h3⟩
 have hel : (encU s.size).length ≤ 10 := encU_len10 (by omega)
 have hbl : (bs ++ encU s.size).length ≤ 900000010 := by rw [List.length_append]; omega
 rw [Int.toNat_natCast] at h1
 generalize hB : bs ++ encU s.size = B at *
 have HB := Lib.hid hB
 clear hB
 have hc : w1.cell? ⟨p, 0, none⟩ = some (.slice ao1 B.length cap1) := blk_cell h1.blk 0 rfl
 have hf := blk_free h1.blk 0
 go_wp2_with (at_builtin; refine wpList_app8 _ rfl (.tmp 15) (.tmp 16) 9 rfl ao1 cap1 B rfl h1.own _ rfl (bytesOf s) (src_string w1 s) ?c2 ?c3 ?_)
 case c2 => omega
 case c3 => rw [hlen.out]; omega
 intro ao2 cap2 w2 ho2 hk2 hm2
 have hb1 := wr_mid h1 (Keeps.refl _ _) hk2
 have P1 := wr_put h1 (Keeps.refl _ _) hk2 ho2 hm2
 have hc1 : w2.cell? ⟨p, 0, none⟩ = some (.slice ao1 B.length cap1) := blk_cell hb1 0 rfl
 have hf1 := blk_free hb1 0
 clear ho2 hk2 hm2 hb1
 simp only [List.length_append] at P1
 go_wp2_with fail
 go_end0
 refine ⟨rfl, ao2, cap2, ?_, ?_, ?_⟩
 ·unfold encS
  rw [hlen.out, ← List.append_assoc, HB.out]
  exact P1.1
 ·exact h2.trans P1.2.1 (fun i hi hlt => wrF_back h3 i hi hlt)
 ·exact h3.trans P1.2.2 h2.size
set_option maxHeartbeats 400000 in
theorem bytes_any {w : World} {p : Nat} {ao : Option Addr} {cap : Nat} {bs : List UInt8} (hW : Wr w p ao cap bs) (hl : bs.length ≤ 1000000000) :
  Calls Tryz.prog 57 #[.pointer (some ⟨p, 0, none⟩)] w (NewBytes w bs) := by
 have hc : w.cell? ⟨p, 0, none⟩ = some (.slice ao bs.length cap) := blk_cell hW.blk 0 rfl
 have hlt := lt_of_block hW.blk
 go_enter Tryz.func57, Tryz.ntmps57
 go_wp2_with (at_builtin; refine wpList_app8 _ rfl (.tmp 5) (.tmp 9) 22 rfl (some ⟨w.heap.size, 0, none⟩) 0 [] rfl (own8_empty w) _ rfl bs (src_own (World.ownsRow.alloc hW.own _)) ?c2 ?c3 ?_)
 case c2 => simp
 case c3 => omega
 intro ao1 cap1 w1 ho1 hk1 hm1
 go_wp2_with fail
 go_ret
 refine ⟨ao1, cap1, rfl, ho1, ?_, ?_⟩
 ·exact ((Keeps.refl Nothing w).alloc _).trans hk1 (fun i hi hlt => by simp [blockOf] at hi; omega)
 ·intro g hg
  rcases hm1 with h | ⟨g', h, hg'⟩
  ·rw [h] at hg; simp [blockOf] at hg; omega
  ·rw [h] at hg; obtain rfl := Option.some.inj hg; omega
theorem newWriter_any (w : World) :
  Calls Tryz.prog 51 #[] w fun e w' => e = .returned (.pointer (some ⟨w.heap.size, 0, none⟩)) ∧ w' = w.alloc (.cells #[.slice none 0 0] 146) := by
 go_enter Tryz.func51, Tryz.ntmps51
 go_wp2
 go_ret
 exact ⟨rfl, rfl⟩
theorem wr_new (w : World) : Wr (w.alloc (.cells #[.slice none 0 0] 146)) w.heap.size none 0 [] :=
 ⟨blk_new w _ _, World.ownsRow_nil _ _ _ _⟩
end Go.Proofs.YtjbcagbnagefcaaGreat
