/- Tree26 -/
import Derived.Test.YtjbcagbnagefcaaGreatZb15
import Derived.Test.YtjbcagbnagefcaaGreatZb14
import Derived.Test.YtjbcagbnagefcaaGreatZb13
namespace Go.Proofs.YtjbcagbnagefcaaGreat
open Go.RowKit
attribute [local go_sem ↓] exec_mid_ty exec_store_ty exec_mid_pl exec_store_pl exec_mid_opr exec_store_opr exec_mid_val exec_store_val exec_mid_st exec_store_st exec_mid_fld exec_store_fld exec_mid_str exec_store_str exec_mid_lif exec_store_lif exec_mid_fun exec_store_fun exec_mid_cr exec_store_cr
attribute [local go_sem] rowOk_new World.setRow_alloc_new
attribute [local go_sem ↓] exec_into_pl exec_into_opr exec_into_ty exec_into_val build_valS build_st
theorem list32 {l : List Value} (h : l.length = 32) : ∃ x0 x1 x2 x3 x4 x5 x6 x7 x8 x9 x10 x11 x12 x13 x14 x15 x16 x17 x18 x19 x20 x21 x22 x23 x24 x25 x26 x27 x28 x29 x30 x31, l = [x0, x1, x2, x3, x4, x5, x6, x7, x8, x9, x10, x11, x12, x13, x14, x15, x16, x17, x18, x19, x20, x21, x22, x23, x24, x25, x26, x27, x28, x29, x30, x31] := by
 match l, h with
 | [x0, x1, x2, x3, x4, x5, x6, x7, x8, x9, x10, x11, x12, x13, x14, x15, x16, x17, x18, x19, x20, x21, x22, x23, x24, x25, x26, x27, x28, x29, x30, x31], _ => exact ⟨x0, x1, x2, x3, x4, x5, x6, x7, x8, x9, x10, x11, x12, x13, x14, x15, x16, x17, x18, x19, x20, x21, x22, x23, x24, x25, x26, x27, x28, x29, x30, x31, rfl⟩
theorem one_call {S : Nat → Prop} {wr wc : World} (K : Keeps Nothing wr wc) {v : StD} {xs : List Value} (hv : StIs S wr v xs) :
  Calls Tryz.prog 95 #[.slice (some ⟨wc.heap.size, 0, none⟩) 1 1, .slice (some ⟨wc.heap.size + 1, 0, none⟩) 1 1] ((wc.alloc (.cells xs.toArray 121)).alloc (.cells #[.int .i64 0, .int .i64 0, .bool false, .string ⟨#[]⟩, .int .i64 0, .string ⟨#[]⟩, .slice none 0 0, .slice none 0 0, .bool false, .string ⟨#[]⟩, .slice none 0 0, .int .i64 0, .int .i64 0, .int .i64 0, .string ⟨#[]⟩, .slice none 0 0, .int .i64 0, .int .i64 0, .string ⟨#[]⟩, .slice none 0 0, .int .i64 0, .string ⟨#[]⟩, .slice none 0 0, .string ⟨#[]⟩, .slice none 0 0, .slice none 0 0, .int .i64 0, .int .i64 0, .string ⟨#[]⟩, .slice none 0 0, .slice none 0 0, .slice none 0 0] 121))
   (Tells ((wc.alloc (.cells xs.toArray 121)).alloc (.cells #[.int .i64 0, .int .i64 0, .bool false, .string ⟨#[]⟩, .int .i64 0, .string ⟨#[]⟩, .slice none 0 0, .slice none 0 0, .bool false, .string ⟨#[]⟩, .slice none 0 0, .int .i64 0, .int .i64 0, .int .i64 0, .string ⟨#[]⟩, .slice none 0 0, .int .i64 0, .int .i64 0, .string ⟨#[]⟩, .slice none 0 0, .int .i64 0, .string ⟨#[]⟩, .slice none 0 0, .string ⟨#[]⟩, .slice none 0 0, .slice none 0 0, .int .i64 0, .int .i64 0, .string ⟨#[]⟩, .slice none 0 0, .slice none 0 0, .slice none 0 0] 121)) (v = zeroSt)) := by
 have bx := blk_alloc (blk_new wc xs.toArray 121) (.cells stC.toArray 121)
 have bz := blk_new (wc.alloc (.cells xs.toArray 121)) stC.toArray 121
 rw [World.size_alloc] at bz
 have K2 : Keeps Nothing wr ((wc.alloc (.cells xs.toArray 121)).alloc (.cells stC.toArray 121)) := (K.alloc _).alloc _
 have h := rs_all (S := fun b => S b ∨ b = wc.heap.size) (S' := fun b => b = wc.heap.size + 1) [v] [zeroSt] _ (some ⟨wc.heap.size, 0, none⟩) (some ⟨wc.heap.size + 1, 0, none⟩) 1 1
  ⟨by unfold bigN; simp, .inr ⟨_, _, rfl, .inr rfl, ⟨xs, hv.len, rangeAt_blk bx, hv.keeps K2 (fun _ _ h => h) (fun _ h => .inl h)⟩, trivial⟩⟩
  ⟨by unfold bigN; simp, .inr ⟨_, _, rfl, rfl, ⟨stC, rfl, rangeAt_blk bz, zeroSt_is _ _⟩, trivial⟩⟩
 refine Calls.mono h fun e w' he => ?_
 obtain ⟨⟨z, hz, hzz⟩, k⟩ := he
 exact ⟨⟨z, hz, hzz.trans (by simp)⟩, k⟩
def RStC (S : Nat → Prop) (l : List StD) : Prop := ∀ (w : World) (ao : Option Addr) (c : Nat) (d : Int), 0 ≤ d → d ≤ 1000 → SlIs S w 32 (StIs S w) ao l → Calls Tryz.prog 73 #[.slice ao l.length c, .int .i64 d] w (Tells w (BlP l d))
set_option maxRecDepth 100000 in
set_option linter.unusedSimpArgs false in
set_option maxHeartbeats 16000000 in
theorem rst_step {S : Nat → Prop} {l : List StD} (H : ∀ e ∈ l, RStC S e.thn ∧ RStC S e.els) : RStC S l := by
 intro w ao c d hd0 hd1 h
 have hl := h.1
 unfold bigN at hl
 have HX := shut h
 have HH := shut H
 have HP := shut (blP_iff l d)
 clear h H
 obtain ⟨XL, hX⟩ : ∃ X, X = BlP l d := ⟨_, rfl⟩
 rw [← hX] at HP ⊢
 clear hX
 obtain ⟨n, hn⟩ : ∃ n, l.length = n := ⟨_, rfl⟩
 rw [hn] at hl ⊢
 have HN := shut hn
 clear hn
 go_enter Tryz.func73, Tryz.ntmps73
 by_cases hdeep : d ≤ 64
 rotate_left
 ·have m1 : 64 < d := by omega
  have hno : Shut (¬ XL) := shut (fun h => hdeep (HP.out.1 h).1)
  clear HP
  go_wp2_with fail
  go_ret
  exact tells_f hno.out (Keeps.refl _ _)
 have m1 : ¬ 64 < d := by omega
 have wd : IntKind.i64.wrap (d + 1) = d + 1 := by rw [IntKind.wrap_i64]; omega
 go_wp2_with fail
 clear m1
 go_loopw [5] (fun s5 wx => ∃ t : Nat, s5 = .int .i64 t ∧ t ≤ n ∧ Keeps Nothing w wx ∧ Shut (∀ f ∈ l.take t, StP f d)) (fun s5 _ => n - (intOf s5).toNat)
 case atStart => exact ⟨0, rfl, Nat.zero_le _, Keeps.refl _ _, shut (by simp)⟩
 case round =>
  obtain ⟨t, rfl, ht, KL, HT⟩ := hrel
  by_cases hlt : t < n
  rotate_left
  ·obtain rfl : t = n := by omega
   have m1 : ¬ (t : Int) < t := by omega
   have hyes : Shut XL := shut (HP.out.2 ⟨hdeep, all_of_take HN.out HT.out⟩)
   clear HP
   go_wp2_with fail
   go_ret
   exact tells_t hyes.out KL
  obtain ⟨a, ha⟩ : ∃ a, l[t]? = some a := ⟨_, List.getElem?_eq_getElem (by rw [HN.out]; exact hlt)⟩
  obtain ⟨g1, o1, rfl, -, cs, l1, r1, hi⟩ := (HX.out.keeps KL (fun _ _ h => h) (fun _ h => h) (fun _ _ _ h => h.keeps KL (fun _ _ h => h) (fun _ h => h))).get ha
  have HA := shut ha
  have HB := shut (HH.out a (List.mem_of_getElem? ha))
  clear ha
  have m0 : (0 : Int) ≤ t := by omega
  have m1 : (t : Int) < n := by omega
  have hno0 : Shut (¬ StP a d → ¬ XL) := shut (fun h h2 => h ((HP.out.1 h2).2 a (List.mem_of_getElem? HA.out)))
  have hyes0 : Shut (StP a d → ∀ f ∈ l.take (t + 1), StP f d) := shut (fun h => all_take HA.out HT.out h)
  clear HA HT HP
  have ag1 := agg_ok l1 hi.one
  obtain ⟨CA, hCA⟩ : ∃ C, C = cs.toArray := ⟨_, rfl⟩
  obtain ⟨hk, ho⟩ := sub_of r1 l1
  have hsz : CA.size = 32 := by rw [hCA]; simpa using l1
  rw [← hCA] at ag1 ho
  have HCS := shut hCA
  clear hCA r1 l1
  go_upto_region 7 with fail
  have KW : Keeps Nothing wr (wr.alloc (.cells CA 121)) := (Keeps.refl Nothing wr).alloc _
  have BA := blk_new wr CA 121
  clear hk ho
  generalize wr.heap.size = ga at *
  generalize wr.alloc (.cells CA 121) = wb at *
  obtain ⟨y1, y2⟩ := tblk_mid BA hsz
  go_upto_region 8 with fail
  have ZB := StB2.new KW BA HCS.out hi
  clear y1 y2 ag1 hsz
  have BA := blk_alloc BA (.cells CA 121)
  have KW := KW.alloc (.cells CA 121)
  have hgz : ga ≠ wb.heap.size := ZB.2.2.1
  generalize wb.heap.size = gz at *
  generalize wb.alloc (.cells CA 121) = wb2 at *
  obtain ⟨a_kind, a_pos, a_mu, a_name, a_ty, a_has, a_place, a_val, a_cond, a_thn, a_els⟩ := a
  have HI := shut hi
  rw [stIs_iff] at hi
  obtain ⟨s4, s9, s11, s26, p30, q30, p31, q31, hcs, ah_name, ah_ty, ah_place, ah_val, ah_cond, ah_thn, ah_els⟩ := hi
  have GCA := HCS
  rw [hcs] at GCA
  clear hcs
  simp only [StD.kind, StD.pos, StD.mu, StD.name, StD.ty, StD.has, StD.place, StD.val, StD.cond, StD.thn, StD.els] at ah_name ah_ty ah_place ah_val ah_cond ah_thn ah_els GCA HB
  have al_ty := ah_ty.len
  have al_place := ah_place.len
  have al_val := ah_val.len
  have al_cond := ah_cond.len
  obtain ⟨u00, hu00⟩ := ZB.cell 0 (by omega)
  have hr00 := ZB.free 0
  have ZB1 := ZB.set_kind 0
  obtain ⟨u10, hu10⟩ := ZB.cell 1 (by omega)
  have hr10 := ZB.free 1
  obtain ⟨u11, hu11⟩ := ZB1.cell 1 (by omega)
  have hr11 := ZB1.free 1
  have ZB2 := ZB1.set_pos 0
  obtain ⟨u300, hu300⟩ := ZB.cell 30 (by omega)
  have hr300 := ZB.free 30
  obtain ⟨u301, hu301⟩ := ZB2.cell 30 (by omega)
  have hr301 := ZB2.free 30
  have ZB3 := ZB2.set_thn
  obtain ⟨u310, hu310⟩ := ZB.cell 31 (by omega)
  have hr310 := ZB.free 31
  obtain ⟨u311, hu311⟩ := ZB3.cell 31 (by omega)
  have hr311 := ZB3.free 31
  have ZB4 := ZB3.set_els
  go_upto_region 9 with (rw [if_neg Bool.false_ne_true])
  any_goals try (rename_i hfz; simp [hr00, hr10, hr11, hr300, hr301, hr310, hr311] at hfz; done)
  clear hu00 hr00 hu10 hr10 hu11 hr11 hu300 hr300 hu301 hr301 hu310 hr310 hu311 hr311
  clear ZB1 ZB2 ZB3
  clear ZB
  have ZB := ZB4
  clear ZB4
  have KW := ZB.1
  have BA := ZB.2.2.2.1
  generalize World.setCell (World.setCell (World.setCell (World.setCell (wb2) ⟨gz, 0, none⟩ (.int .i64 0)) ⟨gz, 1, none⟩ (.int .i64 0)) ⟨gz, 30, none⟩ (.slice none 0 0)) ⟨gz, 31, none⟩ (.slice none 0 0) = wc1 at *
  obtain ⟨X, hX⟩ : ∃ X, X = StP (.mk a_kind a_pos a_mu a_name a_ty a_has a_place a_val a_cond a_thn a_els) d := ⟨_, rfl⟩
  rw [← hX] at hno0 hyes0
  have HP : Shut (X ↔ StP (.mk a_kind a_pos a_mu a_name a_ty a_has a_place a_val a_cond a_thn a_els) d) := shut (by rw [hX])
  clear hX
  obtain ⟨ae0, -, -, -, -, -, -, -, -, -, -⟩ := StB al_ty al_place al_val al_cond GCA.out BA
  go_upto_block 2 with fail
  go_cut [8, 9, 10] from 30 (fun s8 s9 s10 wx => ∃ (ok tf oth : Bool) (v : StD), s8 = .bool ok ∧ s9 = .bool tf ∧ s10 = .bool oth ∧ StB2 S wr wx ga CA gz v ∧ Shut (X ↔ RC (.mk a_kind a_pos a_mu a_name a_ty a_has a_place a_val a_cond a_thn a_els) d ok tf oth v))
  case first =>
   by_cases k1 : a_kind = 1
   ·as_aux_lemma =>
     subst k1
     have HQ : Shut (X ↔ (isName a_name = true ∧ TyP a_ty 1) ∧ RC (.mk 1 a_pos a_mu a_name a_ty a_has a_place a_val a_cond a_thn a_els) d true false false (.mk 0 0 false [] zeroTy a_has a_place a_val a_cond [] [])) := shut (HP.out.trans (rc_1 a_pos a_mu a_name a_ty a_has a_place a_val a_cond a_thn a_els d))
     clear HP
     have hcn := rname_any wc1 a_name (by unfold bigN at ah_name; omega)
     obtain ⟨z307, hz307⟩ : ∃ z, isName a_name = z := ⟨_, rfl⟩
     rw [hz307] at hcn
     obtain ⟨-, -, -, ae3, -, -, -, -, -, -, -⟩ := StB al_ty al_place al_val al_cond GCA.out BA
     unfold txV at *
     repeat (first | rw [if_neg Bool.false_ne_true] | go_values | go_skip | go_guarded | go_step | go_upon | go_back)
     refine hcn.mono ?_
     rintro e w307 ⟨rfl, k307⟩
     have KW := KW.trans k307 (fun _ h _ => h)
     have BA := k307.blk BA (fun h => h)
     have ZB := ZB.keeps k307
     clear hcn k307 ae0 ae3
     try dsimp only
     cases z307 with
     | false =>
      obtain ⟨u20, hu20⟩ := ZB.cell 2 (by omega)
      have hr20 := ZB.free 2
      have ZB1 := ZB.set_mu false
      obtain ⟨u30, hu30⟩ := ZB.cell 3 (by omega)
      have hr30 := ZB.free 3
      obtain ⟨u31, hu31⟩ := ZB1.cell 3 (by omega)
      have hr31 := ZB1.free 3
      have ZB2 := ZB1.set_name
      have hf40 := ZB.fit 4 4 (by omega)
      have hf41 := ZB2.fit 4 4 (by omega)
      have hg4 : aggOk 4 (.agg #[.int .i64 0, .string ⟨#[]⟩, .slice none 0 0, .slice none 0 0]) = true := agg_ok (zeroTy_is S wr).len (zeroTy_is S wr).one
      have ZB3 := ZB2.set_ty
      go_upto_region 36 with (rw [if_neg Bool.false_ne_true])
      any_goals try (rename_i hfz; simp [hr20, hr30, hr31] at hfz; done)
      clear hu20 hr20 hu30 hr30 hu31 hr31 hf40 hf41 hg4
      clear ZB1 ZB2
      clear ZB
      have ZB := ZB3
      clear ZB3
      have KW := ZB.1
      have BA := ZB.2.2.2.1
      generalize midSet (World.setCell (World.setCell (w307) ⟨gz, 2, none⟩ (.bool false)) ⟨gz, 3, none⟩ (.string ⟨#[]⟩)) gz 4 #[.int .i64 0, .string ⟨#[]⟩, .slice none 0 0, .slice none 0 0] = w309 at *
      go_meet
      exact ⟨false, false, false, _, rfl, rfl, rfl, ZB, shut ((HQ.out.trans (and_congr_left' (show _ ↔ false = true from ⟨fun h => (by have h2 := h.1; rw [hz307] at h2; cases h2), fun h => (by cases h)⟩))).trans (rc_ok _ _ _ _ _ _).symm)⟩
     | true =>
      obtain ⟨-, -, -, -, ⟨ae4, af4⟩, -, -, -, -, -, -⟩ := StB al_ty al_place al_val al_cond GCA.out BA
      have hc := rkind_any a_ty w307 s4 1 (by omega) (by omega) (ah_ty.keeps KW (fun _ _ h => h) (fun _ h => h))
      try dsimp only
      repeat (first | rw [if_neg Bool.false_ne_true] | go_values | go_skip | go_guarded | go_step | go_upon | go_back)
      refine hc.mono ?_
      rintro e w310 ⟨⟨z310, rfl, hz310⟩, k310⟩
      have KW := KW.trans k310 (fun _ h _ => h)
      have BA := k310.blk BA (fun h => h)
      have ZB := ZB.keeps k310
      clear hc k310 ae4 af4
      try dsimp only
      cases z310 with
      | false =>
       obtain ⟨u20, hu20⟩ := ZB.cell 2 (by omega)
       have hr20 := ZB.free 2
       have ZB1 := ZB.set_mu false
       obtain ⟨u30, hu30⟩ := ZB.cell 3 (by omega)
       have hr30 := ZB.free 3
       obtain ⟨u31, hu31⟩ := ZB1.cell 3 (by omega)
       have hr31 := ZB1.free 3
       have ZB2 := ZB1.set_name
       have hf40 := ZB.fit 4 4 (by omega)
       have hf41 := ZB2.fit 4 4 (by omega)
       have hg4 : aggOk 4 (.agg #[.int .i64 0, .string ⟨#[]⟩, .slice none 0 0, .slice none 0 0]) = true := agg_ok (zeroTy_is S wr).len (zeroTy_is S wr).one
       have ZB3 := ZB2.set_ty
       go_upto_region 36 with (rw [if_neg Bool.false_ne_true])
       any_goals try (rename_i hfz; simp [hr20, hr30, hr31] at hfz; done)
       clear hu20 hr20 hu30 hr30 hu31 hr31 hf40 hf41 hg4
       clear ZB1 ZB2
       clear ZB
       have ZB := ZB3
       clear ZB3
       have KW := ZB.1
       have BA := ZB.2.2.2.1
       generalize midSet (World.setCell (World.setCell (w310) ⟨gz, 2, none⟩ (.bool false)) ⟨gz, 3, none⟩ (.string ⟨#[]⟩)) gz 4 #[.int .i64 0, .string ⟨#[]⟩, .slice none 0 0, .slice none 0 0] = w312 at *
       go_meet
       exact ⟨false, false, false, _, rfl, rfl, rfl, ZB, shut ((HQ.out.trans (and_congr_left' (show _ ↔ false = true from ⟨fun h => (by have h2 := hz310.2 h.2; cases h2), fun h => (by cases h)⟩))).trans (rc_ok _ _ _ _ _ _).symm)⟩
      | true =>
       obtain ⟨u20, hu20⟩ := ZB.cell 2 (by omega)
       have hr20 := ZB.free 2
       have ZB1 := ZB.set_mu false
       obtain ⟨u30, hu30⟩ := ZB.cell 3 (by omega)
       have hr30 := ZB.free 3
       obtain ⟨u31, hu31⟩ := ZB1.cell 3 (by omega)
       have hr31 := ZB1.free 3
       have ZB2 := ZB1.set_name
       have hf40 := ZB.fit 4 4 (by omega)
       have hf41 := ZB2.fit 4 4 (by omega)
       have hg4 : aggOk 4 (.agg #[.int .i64 0, .string ⟨#[]⟩, .slice none 0 0, .slice none 0 0]) = true := agg_ok (zeroTy_is S wr).len (zeroTy_is S wr).one
       have ZB3 := ZB2.set_ty
       go_upto_region 36 with (rw [if_neg Bool.false_ne_true])
       any_goals try (rename_i hfz; simp [hr20, hr30, hr31] at hfz; done)
       clear hu20 hr20 hu30 hr30 hu31 hr31 hf40 hf41 hg4
       clear ZB1 ZB2
       clear ZB
       have ZB := ZB3
       clear ZB3
       have KW := ZB.1
       have BA := ZB.2.2.2.1
       generalize midSet (World.setCell (World.setCell (w310) ⟨gz, 2, none⟩ (.bool false)) ⟨gz, 3, none⟩ (.string ⟨#[]⟩)) gz 4 #[.int .i64 0, .string ⟨#[]⟩, .slice none 0 0, .slice none 0 0] = w314 at *
       go_meet
       exact ⟨true, false, false, _, rfl, rfl, rfl, ZB, shut ((HQ.out.trans (and_congr_left' (show _ ↔ true = true from ⟨fun _ => rfl, fun _ => ⟨hz307, hz310.1 (by first | rfl | trivial)⟩⟩))).trans (rc_ok _ _ _ _ _ _).symm)⟩
   by_cases k2 : a_kind = 2
   ·as_aux_lemma =>
     subst k2
     have HQ : Shut (X ↔ (PlP a_place ∧ ValP a_val) ∧ RC (.mk 2 a_pos a_mu a_name a_ty a_has a_place a_val a_cond a_thn a_els) d true false false (.mk 0 0 a_mu a_name a_ty a_has zeroPl zeroVal a_cond [] [])) := shut (HP.out.trans (rc_2 a_pos a_mu a_name a_ty a_has a_place a_val a_cond a_thn a_els d))
     clear HP
     obtain ⟨-, -, -, -, -, -, ⟨ae9, af9⟩, -, -, -, -⟩ := StB al_ty al_place al_val al_cond GCA.out BA
     have hc := rPlace_any a_place wc1 s9 (ah_place.keeps KW (fun _ _ h => h) (fun _ h => h))
     try dsimp only
     repeat (first | rw [if_neg Bool.false_ne_true] | go_values | go_skip | go_guarded | go_step | go_upon | go_back)
     refine hc.mono ?_
     rintro e w315 ⟨⟨z315, rfl, hz315⟩, k315⟩
     have KW := KW.trans k315 (fun _ h _ => h)
     have BA := k315.blk BA (fun h => h)
     have ZB := ZB.keeps k315
     clear hc k315 ae0 ae9 af9
     try dsimp only
     cases z315 with
     | false =>
      have hf90 := ZB.fit 9 2 (by omega)
      have hg9 : aggOk 2 (.agg #[.string ⟨#[]⟩, .slice none 0 0]) = true := agg_ok (zeroPl_is S wr).len (zeroPl_is S wr).one
      have ZB1 := ZB.set_place
      have hf110 := ZB.fit 11 15 (by omega)
      have hf111 := ZB1.fit 11 15 (by omega)
      have hg11 : aggOk 15 (.agg #[.int .i64 0, .int .i64 0, .int .i64 0, .string ⟨#[]⟩, .slice none 0 0, .int .i64 0, .int .i64 0, .string ⟨#[]⟩, .slice none 0 0, .int .i64 0, .string ⟨#[]⟩, .slice none 0 0, .string ⟨#[]⟩, .slice none 0 0, .slice none 0 0]) = true := agg_ok (zeroVal_is S wr).len (zeroVal_is S wr).one
      have ZB2 := ZB1.set_val
      go_upto_region 36 with (rw [if_neg Bool.false_ne_true])
      clear hf90 hg9 hf110 hf111 hg11
      clear ZB1
      clear ZB
      have ZB := ZB2
      clear ZB2
      have KW := ZB.1
      have BA := ZB.2.2.2.1
      generalize midSet (midSet (w315) gz 9 #[.string ⟨#[]⟩, .slice none 0 0]) gz 11 #[.int .i64 0, .int .i64 0, .int .i64 0, .string ⟨#[]⟩, .slice none 0 0, .int .i64 0, .int .i64 0, .string ⟨#[]⟩, .slice none 0 0, .int .i64 0, .string ⟨#[]⟩, .slice none 0 0, .string ⟨#[]⟩, .slice none 0 0, .slice none 0 0] = w317 at *
      go_meet
      exact ⟨false, false, false, _, rfl, rfl, rfl, ZB, shut ((HQ.out.trans (and_congr_left' (show _ ↔ false = true from ⟨fun h => (by have h2 := hz315.2 h.1; cases h2), fun h => (by cases h)⟩))).trans (rc_ok _ _ _ _ _ _).symm)⟩
     | true =>
      obtain ⟨-, -, -, -, -, -, -, ⟨ae11, af11⟩, -, -, -⟩ := StB al_ty al_place al_val al_cond GCA.out BA
      have hc := rvalue_any a_val w315 s11 (ah_val.keeps KW (fun _ _ h => h) (fun _ h => h))
      try dsimp only
      repeat (first | rw [if_neg Bool.false_ne_true] | go_values | go_skip | go_guarded | go_step | go_upon | go_back)
      refine hc.mono ?_
      rintro e w318 ⟨⟨z318, rfl, hz318⟩, k318⟩
      have KW := KW.trans k318 (fun _ h _ => h)
      have BA := k318.blk BA (fun h => h)
      have ZB := ZB.keeps k318
      clear hc k318 ae11 af11
      try dsimp only
      cases z318 with
      | false =>
       have hf90 := ZB.fit 9 2 (by omega)
       have hg9 : aggOk 2 (.agg #[.string ⟨#[]⟩, .slice none 0 0]) = true := agg_ok (zeroPl_is S wr).len (zeroPl_is S wr).one
       have ZB1 := ZB.set_place
       have hf110 := ZB.fit 11 15 (by omega)
       have hf111 := ZB1.fit 11 15 (by omega)
       have hg11 : aggOk 15 (.agg #[.int .i64 0, .int .i64 0, .int .i64 0, .string ⟨#[]⟩, .slice none 0 0, .int .i64 0, .int .i64 0, .string ⟨#[]⟩, .slice none 0 0, .int .i64 0, .string ⟨#[]⟩, .slice none 0 0, .string ⟨#[]⟩, .slice none 0 0, .slice none 0 0]) = true := agg_ok (zeroVal_is S wr).len (zeroVal_is S wr).one
       have ZB2 := ZB1.set_val
       go_upto_region 36 with (rw [if_neg Bool.false_ne_true])
       clear hf90 hg9 hf110 hf111 hg11
       clear ZB1
       clear ZB
       have ZB := ZB2
       clear ZB2
       have KW := ZB.1
       have BA := ZB.2.2.2.1
       generalize midSet (midSet (w318) gz 9 #[.string ⟨#[]⟩, .slice none 0 0]) gz 11 #[.int .i64 0, .int .i64 0, .int .i64 0, .string ⟨#[]⟩, .slice none 0 0, .int .i64 0, .int .i64 0, .string ⟨#[]⟩, .slice none 0 0, .int .i64 0, .string ⟨#[]⟩, .slice none 0 0, .string ⟨#[]⟩, .slice none 0 0, .slice none 0 0] = w320 at *
       go_meet
       exact ⟨false, false, false, _, rfl, rfl, rfl, ZB, shut ((HQ.out.trans (and_congr_left' (show _ ↔ false = true from ⟨fun h => (by have h2 := hz318.2 h.2; cases h2), fun h => (by cases h)⟩))).trans (rc_ok _ _ _ _ _ _).symm)⟩
      | true =>
       have hf90 := ZB.fit 9 2 (by omega)
       have hg9 : aggOk 2 (.agg #[.string ⟨#[]⟩, .slice none 0 0]) = true := agg_ok (zeroPl_is S wr).len (zeroPl_is S wr).one
       have ZB1 := ZB.set_place
       have hf110 := ZB.fit 11 15 (by omega)
       have hf111 := ZB1.fit 11 15 (by omega)
       have hg11 : aggOk 15 (.agg #[.int .i64 0, .int .i64 0, .int .i64 0, .string ⟨#[]⟩, .slice none 0 0, .int .i64 0, .int .i64 0, .string ⟨#[]⟩, .slice none 0 0, .int .i64 0, .string ⟨#[]⟩, .slice none 0 0, .string ⟨#[]⟩, .slice none 0 0, .slice none 0 0]) = true := agg_ok (zeroVal_is S wr).len (zeroVal_is S wr).one
       have ZB2 := ZB1.set_val
       go_upto_region 36 with (rw [if_neg Bool.false_ne_true])
       clear hf90 hg9 hf110 hf111 hg11
       clear ZB1
       clear ZB
       have ZB := ZB2
       clear ZB2
       have KW := ZB.1
       have BA := ZB.2.2.2.1
       generalize midSet (midSet (w318) gz 9 #[.string ⟨#[]⟩, .slice none 0 0]) gz 11 #[.int .i64 0, .int .i64 0, .int .i64 0, .string ⟨#[]⟩, .slice none 0 0, .int .i64 0, .int .i64 0, .string ⟨#[]⟩, .slice none 0 0, .int .i64 0, .string ⟨#[]⟩, .slice none 0 0, .string ⟨#[]⟩, .slice none 0 0, .slice none 0 0] = w322 at *
       go_meet
       exact ⟨true, false, false, _, rfl, rfl, rfl, ZB, shut ((HQ.out.trans (and_congr_left' (show _ ↔ true = true from ⟨fun _ => rfl, fun _ => ⟨hz315.1 (by first | rfl | trivial), hz318.1 (by first | rfl | trivial)⟩⟩))).trans (rc_ok _ _ _ _ _ _).symm)⟩
   by_cases k3 : a_kind = 3
   ·as_aux_lemma =>
     subst k3
     have HQ : Shut (X ↔ (ValP a_val ∧ a_val.kind = 6) ∧ RC (.mk 3 a_pos a_mu a_name a_ty a_has a_place a_val a_cond a_thn a_els) d true false false (.mk 0 0 a_mu a_name a_ty a_has a_place zeroVal a_cond [] [])) := shut (HP.out.trans (rc_3 a_pos a_mu a_name a_ty a_has a_place a_val a_cond a_thn a_els d))
     clear HP
     obtain ⟨-, -, -, -, -, -, -, ⟨ae11, af11⟩, -, -, -⟩ := StB al_ty al_place al_val al_cond GCA.out BA
     have hc := rvalue_any a_val wc1 s11 (ah_val.keeps KW (fun _ _ h => h) (fun _ h => h))
     try dsimp only
     repeat (first | rw [if_neg Bool.false_ne_true] | go_values | go_skip | go_guarded | go_step | go_upon | go_back)
     refine hc.mono ?_
     rintro e w323 ⟨⟨z323, rfl, hz323⟩, k323⟩
     have KW := KW.trans k323 (fun _ h _ => h)
     have BA := k323.blk BA (fun h => h)
     have ZB := ZB.keeps k323
     clear hc k323 ae0 ae11 af11
     try dsimp only
     cases z323 with
     | false =>
      have hf110 := ZB.fit 11 15 (by omega)
      have hg11 : aggOk 15 (.agg #[.int .i64 0, .int .i64 0, .int .i64 0, .string ⟨#[]⟩, .slice none 0 0, .int .i64 0, .int .i64 0, .string ⟨#[]⟩, .slice none 0 0, .int .i64 0, .string ⟨#[]⟩, .slice none 0 0, .string ⟨#[]⟩, .slice none 0 0, .slice none 0 0]) = true := agg_ok (zeroVal_is S wr).len (zeroVal_is S wr).one
      have ZB1 := ZB.set_val
      go_upto_region 36 with (rw [if_neg Bool.false_ne_true])
      clear hf110 hg11
      clear ZB
      have ZB := ZB1
      clear ZB1
      have KW := ZB.1
      have BA := ZB.2.2.2.1
      generalize midSet (w323) gz 11 #[.int .i64 0, .int .i64 0, .int .i64 0, .string ⟨#[]⟩, .slice none 0 0, .int .i64 0, .int .i64 0, .string ⟨#[]⟩, .slice none 0 0, .int .i64 0, .string ⟨#[]⟩, .slice none 0 0, .string ⟨#[]⟩, .slice none 0 0, .slice none 0 0] = w325 at *
      go_meet
      exact ⟨false, false, false, _, rfl, rfl, rfl, ZB, shut ((HQ.out.trans (and_congr_left' (show _ ↔ false = true from ⟨fun h => (by have h2 := hz323.2 h.1; cases h2), fun h => (by cases h)⟩))).trans (rc_ok _ _ _ _ _ _).symm)⟩
     | true =>
      obtain ⟨-, -, -, -, -, -, -, ⟨ae11, af11⟩, -, -, -⟩ := StB al_ty al_place al_val al_cond GCA.out BA
      have hv := val_kind_cell ae11 af11 ah_val
      clear ae11 af11
      by_cases hv6 : a_val.kind = 6
      rotate_left
      ·have hqb : (a_val.kind == 6) = false := by rw [beq_eq_false_iff_ne]; exact hv6
       have hf110 := ZB.fit 11 15 (by omega)
       have hg11 : aggOk 15 (.agg #[.int .i64 0, .int .i64 0, .int .i64 0, .string ⟨#[]⟩, .slice none 0 0, .int .i64 0, .int .i64 0, .string ⟨#[]⟩, .slice none 0 0, .int .i64 0, .string ⟨#[]⟩, .slice none 0 0, .string ⟨#[]⟩, .slice none 0 0, .slice none 0 0]) = true := agg_ok (zeroVal_is S wr).len (zeroVal_is S wr).one
       have ZB1 := ZB.set_val
       go_upto_region 36 with (rw [if_neg Bool.false_ne_true])
       clear hf110 hg11
       clear ZB
       have ZB := ZB1
       clear ZB1
       have KW := ZB.1
       have BA := ZB.2.2.2.1
       generalize midSet (w323) gz 11 #[.int .i64 0, .int .i64 0, .int .i64 0, .string ⟨#[]⟩, .slice none 0 0, .int .i64 0, .int .i64 0, .string ⟨#[]⟩, .slice none 0 0, .int .i64 0, .string ⟨#[]⟩, .slice none 0 0, .string ⟨#[]⟩, .slice none 0 0, .slice none 0 0] = w327 at *
       go_meet
       exact ⟨false, false, false, _, rfl, rfl, rfl, ZB, shut ((HQ.out.trans (and_congr_left' (show _ ↔ false = true from ⟨fun h => absurd h.2 hv6, fun h => (by cases h)⟩))).trans (rc_ok _ _ _ _ _ _).symm)⟩
      rw [hv6] at hv
      have HV6 := shut hv6
      clear hv6
      have hf110 := ZB.fit 11 15 (by omega)
      have hg11 : aggOk 15 (.agg #[.int .i64 0, .int .i64 0, .int .i64 0, .string ⟨#[]⟩, .slice none 0 0, .int .i64 0, .int .i64 0, .string ⟨#[]⟩, .slice none 0 0, .int .i64 0, .string ⟨#[]⟩, .slice none 0 0, .string ⟨#[]⟩, .slice none 0 0, .slice none 0 0]) = true := agg_ok (zeroVal_is S wr).len (zeroVal_is S wr).one
      have ZB1 := ZB.set_val
      go_upto_region 36 with (rw [if_neg Bool.false_ne_true])
      clear hf110 hg11
      clear ZB
      have ZB := ZB1
      clear ZB1
      have KW := ZB.1
      have BA := ZB.2.2.2.1
      generalize midSet (w323) gz 11 #[.int .i64 0, .int .i64 0, .int .i64 0, .string ⟨#[]⟩, .slice none 0 0, .int .i64 0, .int .i64 0, .string ⟨#[]⟩, .slice none 0 0, .int .i64 0, .string ⟨#[]⟩, .slice none 0 0, .string ⟨#[]⟩, .slice none 0 0, .slice none 0 0] = w329 at *
      go_meet
      exact ⟨true, false, false, _, rfl, rfl, rfl, ZB, shut ((HQ.out.trans (and_congr_left' (show _ ↔ true = true from ⟨fun _ => rfl, fun _ => ⟨hz323.1 (by first | rfl | trivial), HV6.out⟩⟩))).trans (rc_ok _ _ _ _ _ _).symm)⟩
   by_cases k4 : a_kind = 4
   ·as_aux_lemma =>
     subst k4
     have HQ : Shut (X ↔ (OprP a_cond) ∧ RC (.mk 4 a_pos a_mu a_name a_ty a_has a_place a_val a_cond a_thn a_els) d true true a_has (.mk 0 0 a_mu a_name a_ty false a_place a_val zeroOpr [] [])) := shut (HP.out.trans (rc_4 a_pos a_mu a_name a_ty a_has a_place a_val a_cond a_thn a_els d))
     clear HP
     obtain ⟨-, -, -, -, -, ae8, -, -, ⟨ae26, af26⟩, -, -⟩ := StB al_ty al_place al_val al_cond GCA.out BA
     have hc := fun V (hV : Keeps Nothing wc1 V) => roper_any (S := S) a_cond V s26 ((ah_cond.keeps KW (fun _ _ h => h) (fun _ h => h)).keeps hV (fun _ _ h => h) (fun _ h => h))
     go_upto_region 22 with (rw [if_neg Bool.false_ne_true])
     refine wp_region_mix (fun V => Keeps Nothing wc1 V) [(true, 0), (true, 1), (true, 3), (true, 4), (false, 2), (true, 5), (true, 6), (true, 7)] (by kernel_rfl) (by kernel_rfl) (Keeps.refl _ _).drew ?_
     simp only [mixItems, List.map_cons, List.map_nil, List.getD_cons_zero, List.getD_cons_succ]
     repeat (refine wpMix_free (fun K hK => ?_); go_simp; refine hK _ ?_; clear hK K)
     refine wpMix_yield (v := .agg s26.toArray) (fun V hV => ?_) (fun K hK => ?_)
     ·have y1 := rangeAt_keeps (range_midOk ae26) hV (fun h => h)
      rw [af26] at y1
      obtain ⟨y2, y3⟩ := sub_of y1 al_cond
      clear ae26 af26 y1
      go_simp
     go_simp
     refine hK _ ?_
     clear hK K
     repeat (refine wpMix_free (fun K hK => ?_); go_simp; refine hK _ ?_; clear hK K)
     refine wpMix_yield (v := .bool a_has) (fun V hV => ?_) (fun K hK => ?_)
     ·have y1 := hV.cell ae8 (fun h => h)
      go_simp
     go_simp
     refine hK _ ?_
     clear hK K
     repeat (refine wpMix_free (fun K hK => ?_); go_simp; refine hK _ ?_; clear hK K)
     have kk0 : Keeps Nothing wc1 wc1.drew := (Keeps.refl Nothing wc1).drew
     have hc1 := hc _ kk0
     clear hc ae0 ae8 ae26 af26
     refine wpMix_one (fun K hK => ?_)
     go_wp2_with fail
     refine hc1.mono ?_
     rintro e w330 ⟨⟨z330, rfl, hz330⟩, k330⟩
     have k330 := kk0.trans k330 (fun _ h _ => h)
     have KW := KW.trans k330 (fun _ h _ => h)
     have BA := k330.blk BA (fun h => h)
     have ZB := ZB.keeps k330
     go_wp2_with fail
     refine hK _ _ k330 ?_
     clear hK K hc1 kk0
     repeat (refine wpMix_free (fun K hK => ?_); go_simp; refine hK _ ?_; clear hK K)
     refine wpMix_nil ?_
     clear k330
     try dsimp only
     have hf260 := ZB.fit 26 4 (by omega)
     have hg26 : aggOk 4 (.agg #[.int .i64 0, .int .i64 0, .string ⟨#[]⟩, .slice none 0 0]) = true := agg_ok (zeroOpr_is S wr).len (zeroOpr_is S wr).one
     have ZB1 := ZB.set_cond
     obtain ⟨u80, hu80⟩ := ZB.cell 8 (by omega)
     have hr80 := ZB.free 8
     obtain ⟨u81, hu81⟩ := ZB1.cell 8 (by omega)
     have hr81 := ZB1.free 8
     have ZB2 := ZB1.set_has false
     go_upto_region 36 with (rw [if_neg Bool.false_ne_true])
     any_goals try (rename_i hfz; simp [hr80, hr81] at hfz; done)
     clear hf260 hg26 hu80 hr80 hu81 hr81
     clear ZB1
     clear ZB
     have ZB := ZB2
     clear ZB2
     have KW := ZB.1
     have BA := ZB.2.2.2.1
     generalize World.setCell (midSet (w330) gz 26 #[.int .i64 0, .int .i64 0, .string ⟨#[]⟩, .slice none 0 0]) ⟨gz, 8, none⟩ (.bool false) = w332 at *
     go_meet
     exact ⟨z330, true, a_has, _, rfl, rfl, rfl, ZB, shut ((HQ.out.trans (and_congr_left' (show _ ↔ z330 = true from hz330.symm))).trans (rc_ok _ _ _ _ _ _).symm)⟩
   by_cases k5 : a_kind = 5
   ·as_aux_lemma =>
     subst k5
     have HQ : Shut (X ↔ (OprP a_cond) ∧ RC (.mk 5 a_pos a_mu a_name a_ty a_has a_place a_val a_cond a_thn a_els) d true true false (.mk 0 0 a_mu a_name a_ty a_has a_place a_val zeroOpr [] [])) := shut (HP.out.trans (rc_5 a_pos a_mu a_name a_ty a_has a_place a_val a_cond a_thn a_els d))
     clear HP
     obtain ⟨-, -, -, -, -, -, -, -, ⟨ae26, af26⟩, -, -⟩ := StB al_ty al_place al_val al_cond GCA.out BA
     have hc := roper_any a_cond wc1 s26 (ah_cond.keeps KW (fun _ _ h => h) (fun _ h => h))
     try dsimp only
     repeat (first | rw [if_neg Bool.false_ne_true] | go_values | go_skip | go_guarded | go_step | go_upon | go_back)
     refine hc.mono ?_
     rintro e w333 ⟨⟨z333, rfl, hz333⟩, k333⟩
     have KW := KW.trans k333 (fun _ h _ => h)
     have BA := k333.blk BA (fun h => h)
     have ZB := ZB.keeps k333
     clear hc k333 ae0 ae26 af26
     try dsimp only
     have hf260 := ZB.fit 26 4 (by omega)
     have hg26 : aggOk 4 (.agg #[.int .i64 0, .int .i64 0, .string ⟨#[]⟩, .slice none 0 0]) = true := agg_ok (zeroOpr_is S wr).len (zeroOpr_is S wr).one
     have ZB1 := ZB.set_cond
     go_upto_region 36 with (rw [if_neg Bool.false_ne_true])
     clear hf260 hg26
     clear ZB
     have ZB := ZB1
     clear ZB1
     have KW := ZB.1
     have BA := ZB.2.2.2.1
     generalize midSet (w333) gz 26 #[.int .i64 0, .int .i64 0, .string ⟨#[]⟩, .slice none 0 0] = w335 at *
     go_meet
     exact ⟨z333, true, false, _, rfl, rfl, rfl, ZB, shut ((HQ.out.trans (and_congr_left' (show _ ↔ z333 = true from hz333.symm))).trans (rc_ok _ _ _ _ _ _).symm)⟩
   by_cases k6 : a_kind = 6
   ·as_aux_lemma =>
     subst k6
     have HQ : Shut (X ↔ (True) ∧ RC (.mk 6 a_pos a_mu a_name a_ty a_has a_place a_val a_cond a_thn a_els) d true true false (.mk 0 0 a_mu a_name a_ty a_has a_place a_val a_cond [] [])) := shut (HP.out.trans (rc_6 a_pos a_mu a_name a_ty a_has a_place a_val a_cond a_thn a_els d))
     clear HP
     repeat (first | rw [if_neg Bool.false_ne_true] | go_values | go_skip | go_guarded | go_step | go_upon | go_back)
     go_meet
     exact ⟨true, true, false, _, rfl, rfl, rfl, ZB, shut ((HQ.out.trans (and_congr_left' (show _ ↔ true = true from ⟨fun _ => rfl, fun _ => trivial⟩))).trans (rc_ok _ _ _ _ _ _).symm)⟩
   by_cases k7 : a_kind = 7
   ·as_aux_lemma =>
     subst k7
     have HQ : Shut (X ↔ (True) ∧ RC (.mk 7 a_pos a_mu a_name a_ty a_has a_place a_val a_cond a_thn a_els) d true true false (.mk 0 0 a_mu a_name a_ty a_has a_place a_val a_cond [] [])) := shut (HP.out.trans (rc_7 a_pos a_mu a_name a_ty a_has a_place a_val a_cond a_thn a_els d))
     clear HP
     repeat (first | rw [if_neg Bool.false_ne_true] | go_values | go_skip | go_guarded | go_step | go_upon | go_back)
     go_meet
     exact ⟨true, true, false, _, rfl, rfl, rfl, ZB, shut ((HQ.out.trans (and_congr_left' (show _ ↔ true = true from ⟨fun _ => rfl, fun _ => trivial⟩))).trans (rc_ok _ _ _ _ _ _).symm)⟩
   by_cases k8 : a_kind = 8
   ·as_aux_lemma =>
     subst k8
     have HQ : Shut (X ↔ (True) ∧ RC (.mk 8 a_pos a_mu a_name a_ty a_has a_place a_val a_cond a_thn a_els) d true false false (.mk 0 0 a_mu a_name a_ty a_has a_place a_val a_cond [] [])) := shut (HP.out.trans (rc_8 a_pos a_mu a_name a_ty a_has a_place a_val a_cond a_thn a_els d))
     clear HP
     repeat (first | rw [if_neg Bool.false_ne_true] | go_values | go_skip | go_guarded | go_step | go_upon | go_back)
     go_meet
     exact ⟨true, false, false, _, rfl, rfl, rfl, ZB, shut ((HQ.out.trans (and_congr_left' (show _ ↔ true = true from ⟨fun _ => rfl, fun _ => trivial⟩))).trans (rc_ok _ _ _ _ _ _).symm)⟩
   by_cases k9 : a_kind = 9
   ·as_aux_lemma =>
     subst k9
     have HQ : Shut (X ↔ (True) ∧ RC (.mk 9 a_pos a_mu a_name a_ty a_has a_place a_val a_cond a_thn a_els) d true false false (.mk 0 0 a_mu a_name a_ty a_has a_place a_val a_cond [] [])) := shut (HP.out.trans (rc_9 a_pos a_mu a_name a_ty a_has a_place a_val a_cond a_thn a_els d))
     clear HP
     repeat (first | rw [if_neg Bool.false_ne_true] | go_values | go_skip | go_guarded | go_step | go_upon | go_back)
     go_meet
     exact ⟨true, false, false, _, rfl, rfl, rfl, ZB, shut ((HQ.out.trans (and_congr_left' (show _ ↔ true = true from ⟨fun _ => rfl, fun _ => trivial⟩))).trans (rc_ok _ _ _ _ _ _).symm)⟩
   by_cases k10 : a_kind = 10
   ·as_aux_lemma =>
     subst k10
     have HQ : Shut (X ↔ (True) ∧ RC (.mk 10 a_pos a_mu a_name a_ty a_has a_place a_val a_cond a_thn a_els) d true false false (.mk 0 0 a_mu a_name a_ty a_has a_place a_val a_cond [] [])) := shut (HP.out.trans (rc_10 a_pos a_mu a_name a_ty a_has a_place a_val a_cond a_thn a_els d))
     clear HP
     repeat (first | rw [if_neg Bool.false_ne_true] | go_values | go_skip | go_guarded | go_step | go_upon | go_back)
     go_meet
     exact ⟨true, false, false, _, rfl, rfl, rfl, ZB, shut ((HQ.out.trans (and_congr_left' (show _ ↔ true = true from ⟨fun _ => rfl, fun _ => trivial⟩))).trans (rc_ok _ _ _ _ _ _).symm)⟩
   by_cases k11 : a_kind = 11
   ·as_aux_lemma =>
     subst k11
     have HQ : Shut (X ↔ (PlP a_place) ∧ RC (.mk 11 a_pos a_mu a_name a_ty a_has a_place a_val a_cond a_thn a_els) d true false false (.mk 0 0 a_mu a_name a_ty a_has zeroPl a_val a_cond [] [])) := shut (HP.out.trans (rc_11 a_pos a_mu a_name a_ty a_has a_place a_val a_cond a_thn a_els d))
     clear HP
     obtain ⟨-, -, -, -, -, -, ⟨ae9, af9⟩, -, -, -, -⟩ := StB al_ty al_place al_val al_cond GCA.out BA
     have hc := rPlace_any a_place wc1 s9 (ah_place.keeps KW (fun _ _ h => h) (fun _ h => h))
     try dsimp only
     repeat (first | rw [if_neg Bool.false_ne_true] | go_values | go_skip | go_guarded | go_step | go_upon | go_back)
     refine hc.mono ?_
     rintro e w336 ⟨⟨z336, rfl, hz336⟩, k336⟩
     have KW := KW.trans k336 (fun _ h _ => h)
     have BA := k336.blk BA (fun h => h)
     have ZB := ZB.keeps k336
     clear hc k336 ae0 ae9 af9
     try dsimp only
     have hf90 := ZB.fit 9 2 (by omega)
     have hg9 : aggOk 2 (.agg #[.string ⟨#[]⟩, .slice none 0 0]) = true := agg_ok (zeroPl_is S wr).len (zeroPl_is S wr).one
     have ZB1 := ZB.set_place
     go_upto_region 36 with (rw [if_neg Bool.false_ne_true])
     clear hf90 hg9
     clear ZB
     have ZB := ZB1
     clear ZB1
     have KW := ZB.1
     have BA := ZB.2.2.2.1
     generalize midSet (w336) gz 9 #[.string ⟨#[]⟩, .slice none 0 0] = w338 at *
     go_meet
     exact ⟨z336, false, false, _, rfl, rfl, rfl, ZB, shut ((HQ.out.trans (and_congr_left' (show _ ↔ z336 = true from hz336.symm))).trans (rc_ok _ _ _ _ _ _).symm)⟩
   have hno : Shut (¬ XL) := shut (hno0.out (fun h => by have h2 := HP.out.1 h; unfold StP at h2; simp [k1, k2, k3, k4, k5, k6, k7, k8, k9, k10, k11] at h2))
   clear HP hno0 hyes0 ZB
   go_wp2_with fail
   go_ret
   exact tells_f hno.out (KL.trans KW (fun _ h _ => h))
  case rest =>
   clear ZB
   obtain ⟨ok, tf, oth, v, rfl, rfl, rfl, ZB, HC⟩ := hcut
   have KW := ZB.1
   have BA := ZB.2.2.2.1
   clear HP
   go_step
   go_step
   go_cut [8] from 102 (fun s8 wx => ∃ (ok2 : Bool) (v2 : StD), s8 = .bool ok2 ∧ StB2 S wr wx ga CA gz v2 ∧ Shut (X ↔ RF (.mk a_kind a_pos a_mu a_name a_ty a_has a_place a_val a_cond a_thn a_els) d ok2 tf oth v2))
   case first =>
    by_cases k1 : a_kind = 1
    ·subst k1
     cases a_has with
     | false =>
      as_aux_lemma =>
       have hv0 : ¬ (((.mk 1 a_pos a_mu a_name a_ty false a_place a_val a_cond a_thn a_els : StD).kind = 1 ∨ (.mk 1 a_pos a_mu a_name a_ty false a_place a_val a_cond a_thn a_els : StD).kind = 10) ∧ (.mk 1 a_pos a_mu a_name a_ty false a_place a_val a_cond a_thn a_els : StD).has = true) := by simp [StD.kind, StD.has]
       have HV0 := shut hv0
       clear hv0
       obtain ⟨ae0, -, -, -, -, ae8, -, -, -, -, -⟩ := StB al_ty al_place al_val al_cond GCA.out BA
       go_upto_region 39 with (rw [if_neg Bool.false_ne_true])
       go_meet
       exact ⟨ok, _, rfl, ZB, shut (HC.out.trans (rc_no HV0.out))⟩
     | true =>
      as_aux_lemma =>
       have hv0 : (((.mk 1 a_pos a_mu a_name a_ty true a_place a_val a_cond a_thn a_els : StD).kind = 1 ∨ (.mk 1 a_pos a_mu a_name a_ty true a_place a_val a_cond a_thn a_els : StD).kind = 10) ∧ (.mk 1 a_pos a_mu a_name a_ty true a_place a_val a_cond a_thn a_els : StD).has = true) := by simp [StD.kind, StD.has]
       have HV0 := shut hv0
       clear hv0
       obtain ⟨ae0, -, -, -, -, ae8, -, -, -, -, -⟩ := StB al_ty al_place al_val al_cond GCA.out BA
       obtain ⟨v_kind, v_pos, v_mu, v_name, v_ty, v_has, v_place, v_val, v_cond, v_thn, v_els⟩ := v
       cases ok with
       | false =>
        have hf110 := ZB.fit 11 15 (by omega)
        have hg11 : aggOk 15 (.agg #[.int .i64 0, .int .i64 0, .int .i64 0, .string ⟨#[]⟩, .slice none 0 0, .int .i64 0, .int .i64 0, .string ⟨#[]⟩, .slice none 0 0, .int .i64 0, .string ⟨#[]⟩, .slice none 0 0, .string ⟨#[]⟩, .slice none 0 0, .slice none 0 0]) = true := agg_ok (zeroVal_is S wr).len (zeroVal_is S wr).one
        have ZB1 := ZB.set_val
        obtain ⟨u80, hu80⟩ := ZB.cell 8 (by omega)
        have hr80 := ZB.free 8
        obtain ⟨u81, hu81⟩ := ZB1.cell 8 (by omega)
        have hr81 := ZB1.free 8
        have ZB2 := ZB1.set_has false
        go_upto_region 39 with (rw [if_neg Bool.false_ne_true])
        any_goals try (rename_i hfz; simp [hr80, hr81] at hfz; done)
        clear hf110 hg11 hu80 hr80 hu81 hr81
        clear ZB1
        clear ZB
        have ZB := ZB2
        clear ZB2
        have KW := ZB.1
        have BA := ZB.2.2.2.1
        generalize World.setCell (midSet (wc) gz 11 #[.int .i64 0, .int .i64 0, .int .i64 0, .string ⟨#[]⟩, .slice none 0 0, .int .i64 0, .int .i64 0, .string ⟨#[]⟩, .slice none 0 0, .int .i64 0, .string ⟨#[]⟩, .slice none 0 0, .string ⟨#[]⟩, .slice none 0 0, .slice none 0 0]) ⟨gz, 8, none⟩ (.bool false) = w301 at *
        go_meet
        exact ⟨false, _, rfl, ZB, shut (HC.out.trans (rc_yes (ok := false) (z := false) HV0.out ⟨fun h => (by cases h), fun h => (by cases h.1)⟩))⟩
       | true =>
        obtain ⟨-, -, -, -, -, -, -, ⟨ae11, af11⟩, -, -, -⟩ := StB al_ty al_place al_val al_cond GCA.out BA
        have hc := rvalue_any a_val wc s11 (ah_val.keeps KW (fun _ _ h => h) (fun _ h => h))
        try dsimp only
        repeat (first | rw [if_neg Bool.false_ne_true] | go_values | go_skip | go_guarded | go_step | go_upon | go_back)
        refine hc.mono ?_
        rintro e w302 ⟨⟨z302, rfl, hz302⟩, k302⟩
        have KW := KW.trans k302 (fun _ h _ => h)
        have BA := k302.blk BA (fun h => h)
        have ZB := ZB.keeps k302
        clear hc k302 ae0 ae8 ae11 af11
        try dsimp only
        have hf110 := ZB.fit 11 15 (by omega)
        have hg11 : aggOk 15 (.agg #[.int .i64 0, .int .i64 0, .int .i64 0, .string ⟨#[]⟩, .slice none 0 0, .int .i64 0, .int .i64 0, .string ⟨#[]⟩, .slice none 0 0, .int .i64 0, .string ⟨#[]⟩, .slice none 0 0, .string ⟨#[]⟩, .slice none 0 0, .slice none 0 0]) = true := agg_ok (zeroVal_is S wr).len (zeroVal_is S wr).one
        have ZB1 := ZB.set_val
        obtain ⟨u80, hu80⟩ := ZB.cell 8 (by omega)
        have hr80 := ZB.free 8
        obtain ⟨u81, hu81⟩ := ZB1.cell 8 (by omega)
        have hr81 := ZB1.free 8
        have ZB2 := ZB1.set_has false
        go_upto_region 39 with (rw [if_neg Bool.false_ne_true])
        any_goals try (rename_i hfz; simp [hr80, hr81] at hfz; done)
        clear hf110 hg11 hu80 hr80 hu81 hr81
        clear ZB1
        clear ZB
        have ZB := ZB2
        clear ZB2
        have KW := ZB.1
        have BA := ZB.2.2.2.1
        generalize World.setCell (midSet (w302) gz 11 #[.int .i64 0, .int .i64 0, .int .i64 0, .string ⟨#[]⟩, .slice none 0 0, .int .i64 0, .int .i64 0, .string ⟨#[]⟩, .slice none 0 0, .int .i64 0, .string ⟨#[]⟩, .slice none 0 0, .string ⟨#[]⟩, .slice none 0 0, .slice none 0 0]) ⟨gz, 8, none⟩ (.bool false) = w303 at *
        go_meet
        exact ⟨z302, _, rfl, ZB, shut (HC.out.trans (rc_yes (ok := true) (z := z302) HV0.out (by rw [hz302]; exact ⟨fun h => ⟨rfl, h⟩, fun h => h.2⟩)))⟩
    by_cases k10 : a_kind = 10
    ·subst k10
     cases a_has with
     | false =>
      as_aux_lemma =>
       have hv0 : ¬ (((.mk 10 a_pos a_mu a_name a_ty false a_place a_val a_cond a_thn a_els : StD).kind = 1 ∨ (.mk 10 a_pos a_mu a_name a_ty false a_place a_val a_cond a_thn a_els : StD).kind = 10) ∧ (.mk 10 a_pos a_mu a_name a_ty false a_place a_val a_cond a_thn a_els : StD).has = true) := by simp [StD.kind, StD.has]
       have HV0 := shut hv0
       clear hv0
       obtain ⟨ae0, -, -, -, -, ae8, -, -, -, -, -⟩ := StB al_ty al_place al_val al_cond GCA.out BA
       go_upto_region 39 with (rw [if_neg Bool.false_ne_true])
       go_meet
       exact ⟨ok, _, rfl, ZB, shut (HC.out.trans (rc_no HV0.out))⟩
     | true =>
      as_aux_lemma =>
       have hv0 : (((.mk 10 a_pos a_mu a_name a_ty true a_place a_val a_cond a_thn a_els : StD).kind = 1 ∨ (.mk 10 a_pos a_mu a_name a_ty true a_place a_val a_cond a_thn a_els : StD).kind = 10) ∧ (.mk 10 a_pos a_mu a_name a_ty true a_place a_val a_cond a_thn a_els : StD).has = true) := by simp [StD.kind, StD.has]
       have HV0 := shut hv0
       clear hv0
       obtain ⟨ae0, -, -, -, -, ae8, -, -, -, -, -⟩ := StB al_ty al_place al_val al_cond GCA.out BA
       obtain ⟨v_kind, v_pos, v_mu, v_name, v_ty, v_has, v_place, v_val, v_cond, v_thn, v_els⟩ := v
       cases ok with
       | false =>
        have hf110 := ZB.fit 11 15 (by omega)
        have hg11 : aggOk 15 (.agg #[.int .i64 0, .int .i64 0, .int .i64 0, .string ⟨#[]⟩, .slice none 0 0, .int .i64 0, .int .i64 0, .string ⟨#[]⟩, .slice none 0 0, .int .i64 0, .string ⟨#[]⟩, .slice none 0 0, .string ⟨#[]⟩, .slice none 0 0, .slice none 0 0]) = true := agg_ok (zeroVal_is S wr).len (zeroVal_is S wr).one
        have ZB1 := ZB.set_val
        obtain ⟨u80, hu80⟩ := ZB.cell 8 (by omega)
        have hr80 := ZB.free 8
        obtain ⟨u81, hu81⟩ := ZB1.cell 8 (by omega)
        have hr81 := ZB1.free 8
        have ZB2 := ZB1.set_has false
        go_upto_region 39 with (rw [if_neg Bool.false_ne_true])
        any_goals try (rename_i hfz; simp [hr80, hr81] at hfz; done)
        clear hf110 hg11 hu80 hr80 hu81 hr81
        clear ZB1
        clear ZB
        have ZB := ZB2
        clear ZB2
        have KW := ZB.1
        have BA := ZB.2.2.2.1
        generalize World.setCell (midSet (wc) gz 11 #[.int .i64 0, .int .i64 0, .int .i64 0, .string ⟨#[]⟩, .slice none 0 0, .int .i64 0, .int .i64 0, .string ⟨#[]⟩, .slice none 0 0, .int .i64 0, .string ⟨#[]⟩, .slice none 0 0, .string ⟨#[]⟩, .slice none 0 0, .slice none 0 0]) ⟨gz, 8, none⟩ (.bool false) = w304 at *
        go_meet
        exact ⟨false, _, rfl, ZB, shut (HC.out.trans (rc_yes (ok := false) (z := false) HV0.out ⟨fun h => (by cases h), fun h => (by cases h.1)⟩))⟩
       | true =>
        obtain ⟨-, -, -, -, -, -, -, ⟨ae11, af11⟩, -, -, -⟩ := StB al_ty al_place al_val al_cond GCA.out BA
        have hc := rvalue_any a_val wc s11 (ah_val.keeps KW (fun _ _ h => h) (fun _ h => h))
        try dsimp only
        repeat (first | rw [if_neg Bool.false_ne_true] | go_values | go_skip | go_guarded | go_step | go_upon | go_back)
        refine hc.mono ?_
        rintro e w305 ⟨⟨z305, rfl, hz305⟩, k305⟩
        have KW := KW.trans k305 (fun _ h _ => h)
        have BA := k305.blk BA (fun h => h)
        have ZB := ZB.keeps k305
        clear hc k305 ae0 ae8 ae11 af11
        try dsimp only
        have hf110 := ZB.fit 11 15 (by omega)
        have hg11 : aggOk 15 (.agg #[.int .i64 0, .int .i64 0, .int .i64 0, .string ⟨#[]⟩, .slice none 0 0, .int .i64 0, .int .i64 0, .string ⟨#[]⟩, .slice none 0 0, .int .i64 0, .string ⟨#[]⟩, .slice none 0 0, .string ⟨#[]⟩, .slice none 0 0, .slice none 0 0]) = true := agg_ok (zeroVal_is S wr).len (zeroVal_is S wr).one
        have ZB1 := ZB.set_val
        obtain ⟨u80, hu80⟩ := ZB.cell 8 (by omega)
        have hr80 := ZB.free 8
        obtain ⟨u81, hu81⟩ := ZB1.cell 8 (by omega)
        have hr81 := ZB1.free 8
        have ZB2 := ZB1.set_has false
        go_upto_region 39 with (rw [if_neg Bool.false_ne_true])
        any_goals try (rename_i hfz; simp [hr80, hr81] at hfz; done)
        clear hf110 hg11 hu80 hr80 hu81 hr81
        clear ZB1
        clear ZB
        have ZB := ZB2
        clear ZB2
        have KW := ZB.1
        have BA := ZB.2.2.2.1
        generalize World.setCell (midSet (w305) gz 11 #[.int .i64 0, .int .i64 0, .int .i64 0, .string ⟨#[]⟩, .slice none 0 0, .int .i64 0, .int .i64 0, .string ⟨#[]⟩, .slice none 0 0, .int .i64 0, .string ⟨#[]⟩, .slice none 0 0, .string ⟨#[]⟩, .slice none 0 0, .slice none 0 0]) ⟨gz, 8, none⟩ (.bool false) = w306 at *
        go_meet
        exact ⟨z305, _, rfl, ZB, shut (HC.out.trans (rc_yes (ok := true) (z := z305) HV0.out (by rw [hz305]; exact ⟨fun h => ⟨rfl, h⟩, fun h => h.2⟩)))⟩
    have HV0 : Shut (¬ (((.mk a_kind a_pos a_mu a_name a_ty a_has a_place a_val a_cond a_thn a_els : StD).kind = 1 ∨ (.mk a_kind a_pos a_mu a_name a_ty a_has a_place a_val a_cond a_thn a_els : StD).kind = 10) ∧ (.mk a_kind a_pos a_mu a_name a_ty a_has a_place a_val a_cond a_thn a_els : StD).has = true)) := shut (by simp [StD.kind, k1, k10])
    have q1 : (a_kind == 1) = false := by rw [beq_eq_false_iff_ne]; exact k1
    have q10 : (a_kind == 10) = false := by rw [beq_eq_false_iff_ne]; exact k10
    obtain ⟨ae0, -, -, -, -, -, -, -, -, -, -⟩ := StB al_ty al_place al_val al_cond GCA.out BA
    go_upto_region 39 with (rw [if_neg Bool.false_ne_true])
    go_meet
    exact ⟨ok, _, rfl, ZB, shut (HC.out.trans (rc_no HV0.out))⟩
   case rest =>
    clear HC ZB KW BA v
    obtain ⟨ok2, v2, rfl, ZB, HC⟩ := hcut
    cases ok2 with
    | false =>
     have KW := ZB.1
     clear ZB
     have hno : Shut (¬ XL) := shut (hno0.out (fun h => by have h2 := (HC.out.1 h).1; cases h2))
     clear HC hno0 hyes0
     try dsimp only
     repeat (first | rw [if_neg Bool.false_ne_true] | go_values | go_skip | go_guarded | go_step | go_upon | go_back)
     go_ret
     exact tells_f hno.out (KL.trans KW (fun _ h _ => h))
    | true =>
     obtain ⟨K, hg, hn, BA, cz, BZ, hvz⟩ := ZB
     have HVZ := shut hvz
     obtain ⟨x0, x1, x2, x3, x4, x5, x6, x7, x8, x9, x10, x11, x12, x13, x14, x15, x16, x17, x18, x19, x20, x21, x22, x23, x24, x25, x26, x27, x28, x29, x30, x31, rfl⟩ := list32 hvz.len
     obtain ⟨y1, y2⟩ := tblk_mid BZ (n := 32) rfl
     have hc := one_call K hvz
     have k2 : Keeps Nothing wc ((wc.alloc (.cells #[x0, x1, x2, x3, x4, x5, x6, x7, x8, x9, x10, x11, x12, x13, x14, x15, x16, x17, x18, x19, x20, x21, x22, x23, x24, x25, x26, x27, x28, x29, x30, x31] 121)).alloc (.cells #[.int .i64 0, .int .i64 0, .bool false, .string ⟨#[]⟩, .int .i64 0, .string ⟨#[]⟩, .slice none 0 0, .slice none 0 0, .bool false, .string ⟨#[]⟩, .slice none 0 0, .int .i64 0, .int .i64 0, .int .i64 0, .string ⟨#[]⟩, .slice none 0 0, .int .i64 0, .int .i64 0, .string ⟨#[]⟩, .slice none 0 0, .int .i64 0, .string ⟨#[]⟩, .slice none 0 0, .string ⟨#[]⟩, .slice none 0 0, .slice none 0 0, .int .i64 0, .int .i64 0, .string ⟨#[]⟩, .slice none 0 0, .slice none 0 0, .slice none 0 0] 121)) := ((Keeps.refl Nothing wc).alloc _).alloc _
     clear hvz hg hn HVZ BZ
     go_step
     repeat (first | rw [if_neg Bool.false_ne_true] | go_values | go_skip | go_guarded | go_step | go_upon | go_back)
     refine hc.mono ?_
     rintro e w9 ⟨⟨z, rfl, hz⟩, k9⟩
     have k9 := k2.trans k9 (fun _ h _ => h)
     have KW := K.trans k9 (fun _ h _ => h)
     have BA := k9.blk BA (fun h => h)
     clear hc k2 k9 K y1 y2
     try dsimp only
     cases z with
     | false =>
      have hno : Shut (¬ XL) := shut (hno0.out (fun h => by have h2 := hz.2 (HC.out.1 h).2.1; cases h2))
      clear HC hno0 hyes0
      try dsimp only
      repeat (first | rw [if_neg Bool.false_ne_true] | go_values | go_skip | go_guarded | go_step | go_upon | go_back)
      go_ret
      exact tells_f hno.out (KL.trans KW (fun _ h _ => h))
     | true =>
      have HZ := shut (hz.1 rfl)
      clear hz
      cases tf with
      | false =>
       cases oth with
       | false =>
        as_aux_lemma =>
         by_cases he : a_thn = []
         rotate_left
         ·have q1 : (0 : Int) < (a_thn.length : Int) := by have := List.length_pos_iff.2 he; omega
          have q2 := List.length_pos_iff.2 he
          obtain ⟨-, -, -, -, -, -, -, -, -, ae30, -⟩ := StB al_ty al_place al_val al_cond GCA.out BA
          have hno : Shut (¬ XL) := shut (hno0.out (fun h => by exact he ((HC.out.1 h).2.2.1 rfl)))
          clear HC hno0 hyes0
          try dsimp only
          repeat (first | rw [if_neg Bool.false_ne_true] | go_values | go_skip | go_guarded | go_step | go_upon | go_back)
          go_ret
          exact tells_f hno.out (KL.trans KW (fun _ h _ => h))
         subst he
         obtain ⟨-, -, -, -, -, -, -, -, -, ae30, -⟩ := StB al_ty al_place al_val al_cond GCA.out BA
         by_cases he : a_els = []
         rotate_left
         ·have q1 : (0 : Int) < (a_els.length : Int) := by have := List.length_pos_iff.2 he; omega
          have q2 := List.length_pos_iff.2 he
          obtain ⟨-, -, -, -, -, -, -, -, -, -, ae31⟩ := StB al_ty al_place al_val al_cond GCA.out BA
          have hno : Shut (¬ XL) := shut (hno0.out (fun h => by exact he ((HC.out.1 h).2.2.2.1 rfl)))
          clear HC hno0 hyes0
          try dsimp only
          repeat (first | rw [if_neg Bool.false_ne_true] | go_values | go_skip | go_guarded | go_step | go_upon | go_back)
          go_ret
          exact tells_f hno.out (KL.trans KW (fun _ h _ => h))
         subst he
         obtain ⟨-, -, -, -, -, -, -, -, -, -, ae31⟩ := StB al_ty al_place al_val al_cond GCA.out BA
         have hall := shut (hyes0.out (HC.out.2 ⟨rfl, HZ.out, (fun _ => rfl), (fun _ => rfl), (fun h => by cases h), (fun h => by cases h)⟩))
         clear HC hno0 hyes0
         try dsimp only
         repeat (first | rw [if_neg Bool.false_ne_true] | go_values | go_skip | go_guarded | go_step | go_upon | go_back)
         go_roundw
         case rel => exact ⟨t + 1, by go_num, by omega, KL.trans KW (fun _ h _ => h), hall⟩
         case measure => simp [intOf]; omega
       | true =>
        as_aux_lemma =>
         by_cases he : a_thn = []
         rotate_left
         ·have q1 : (0 : Int) < (a_thn.length : Int) := by have := List.length_pos_iff.2 he; omega
          have q2 := List.length_pos_iff.2 he
          obtain ⟨-, -, -, -, -, -, -, -, -, ae30, -⟩ := StB al_ty al_place al_val al_cond GCA.out BA
          have hno : Shut (¬ XL) := shut (hno0.out (fun h => by exact he ((HC.out.1 h).2.2.1 rfl)))
          clear HC hno0 hyes0
          try dsimp only
          repeat (first | rw [if_neg Bool.false_ne_true] | go_values | go_skip | go_guarded | go_step | go_upon | go_back)
          go_ret
          exact tells_f hno.out (KL.trans KW (fun _ h _ => h))
         subst he
         obtain ⟨-, -, -, -, -, -, -, -, -, ae30, -⟩ := StB al_ty al_place al_val al_cond GCA.out BA
         obtain ⟨-, -, -, -, -, -, -, -, -, -, ae31⟩ := StB al_ty al_place al_val al_cond GCA.out BA
         have hc := HB.out.2 w9 p31 q31 (d + 1) (by omega) (by omega) (ah_els.keeps KW (fun _ _ h => h) (fun _ h => h) (fun _ _ _ h => h.keeps KW (fun _ _ h => h) (fun _ h => h)))
         try dsimp only
         repeat (first | rw [if_neg Bool.false_ne_true] | go_values | go_skip | go_guarded | go_step | go_upon | go_back)
         refine hc.mono ?_
         rintro e w11 ⟨⟨z, rfl, hz⟩, k9⟩
         have KW := KW.trans k9 (fun _ h _ => h)
         have BA := k9.blk BA (fun h => h)
         clear hc k9 ae31
         try dsimp only
         cases z with
         | false =>
          have hno : Shut (¬ XL) := shut (hno0.out (fun h => by have h2 := hz.2 ((HC.out.1 h).2.2.2.2.2 rfl); cases h2))
          clear HC hno0 hyes0
          try dsimp only
          repeat (first | rw [if_neg Bool.false_ne_true] | go_values | go_skip | go_guarded | go_step | go_upon | go_back)
          go_ret
          exact tells_f hno.out (KL.trans KW (fun _ h _ => h))
         | true =>
          have HZ_els := shut (hz.1 rfl)
          clear hz
          have hall := shut (hyes0.out (HC.out.2 ⟨rfl, HZ.out, (fun _ => rfl), (fun h => by cases h), (fun h => by cases h), (fun _ => HZ_els.out)⟩))
          clear HC hno0 hyes0
          try dsimp only
          repeat (first | rw [if_neg Bool.false_ne_true] | go_values | go_skip | go_guarded | go_step | go_upon | go_back)
          go_roundw
          case rel => exact ⟨t + 1, by go_num, by omega, KL.trans KW (fun _ h _ => h), hall⟩
          case measure => simp [intOf]; omega
      | true =>
       cases oth with
       | false =>
        as_aux_lemma =>
         by_cases he : a_els = []
         rotate_left
         ·have q1 : (0 : Int) < (a_els.length : Int) := by have := List.length_pos_iff.2 he; omega
          have q2 := List.length_pos_iff.2 he
          obtain ⟨-, -, -, -, -, -, -, -, -, -, ae31⟩ := StB al_ty al_place al_val al_cond GCA.out BA
          have hno : Shut (¬ XL) := shut (hno0.out (fun h => by exact he ((HC.out.1 h).2.2.2.1 rfl)))
          clear HC hno0 hyes0
          try dsimp only
          repeat (first | rw [if_neg Bool.false_ne_true] | go_values | go_skip | go_guarded | go_step | go_upon | go_back)
          go_ret
          exact tells_f hno.out (KL.trans KW (fun _ h _ => h))
         subst he
         obtain ⟨-, -, -, -, -, -, -, -, -, -, ae31⟩ := StB al_ty al_place al_val al_cond GCA.out BA
         obtain ⟨-, -, -, -, -, -, -, -, -, ae30, -⟩ := StB al_ty al_place al_val al_cond GCA.out BA
         have hc := HB.out.1 w9 p30 q30 (d + 1) (by omega) (by omega) (ah_thn.keeps KW (fun _ _ h => h) (fun _ h => h) (fun _ _ _ h => h.keeps KW (fun _ _ h => h) (fun _ h => h)))
         try dsimp only
         repeat (first | rw [if_neg Bool.false_ne_true] | go_values | go_skip | go_guarded | go_step | go_upon | go_back)
         refine hc.mono ?_
         rintro e w10 ⟨⟨z, rfl, hz⟩, k9⟩
         have KW := KW.trans k9 (fun _ h _ => h)
         have BA := k9.blk BA (fun h => h)
         clear hc k9 ae30 ae31
         try dsimp only
         cases z with
         | false =>
          have hno : Shut (¬ XL) := shut (hno0.out (fun h => by have h2 := hz.2 ((HC.out.1 h).2.2.2.2.1 rfl); cases h2))
          clear HC hno0 hyes0
          try dsimp only
          repeat (first | rw [if_neg Bool.false_ne_true] | go_values | go_skip | go_guarded | go_step | go_upon | go_back)
          go_ret
          exact tells_f hno.out (KL.trans KW (fun _ h _ => h))
         | true =>
          have HZ_thn := shut (hz.1 rfl)
          clear hz
          have hall := shut (hyes0.out (HC.out.2 ⟨rfl, HZ.out, (fun h => by cases h), (fun _ => rfl), (fun _ => HZ_thn.out), (fun h => by cases h)⟩))
          clear HC hno0 hyes0
          try dsimp only
          repeat (first | rw [if_neg Bool.false_ne_true] | go_values | go_skip | go_guarded | go_step | go_upon | go_back)
          go_roundw
          case rel => exact ⟨t + 1, by go_num, by omega, KL.trans KW (fun _ h _ => h), hall⟩
          case measure => simp [intOf]; omega
       | true =>
        as_aux_lemma =>
         obtain ⟨-, -, -, -, -, -, -, -, -, ae30, -⟩ := StB al_ty al_place al_val al_cond GCA.out BA
         have hc := HB.out.1 w9 p30 q30 (d + 1) (by omega) (by omega) (ah_thn.keeps KW (fun _ _ h => h) (fun _ h => h) (fun _ _ _ h => h.keeps KW (fun _ _ h => h) (fun _ h => h)))
         try dsimp only
         repeat (first | rw [if_neg Bool.false_ne_true] | go_values | go_skip | go_guarded | go_step | go_upon | go_back)
         refine hc.mono ?_
         rintro e w10 ⟨⟨z, rfl, hz⟩, k9⟩
         have KW := KW.trans k9 (fun _ h _ => h)
         have BA := k9.blk BA (fun h => h)
         clear hc k9 ae30
         try dsimp only
         cases z with
         | false =>
          have hno : Shut (¬ XL) := shut (hno0.out (fun h => by have h2 := hz.2 ((HC.out.1 h).2.2.2.2.1 rfl); cases h2))
          clear HC hno0 hyes0
          try dsimp only
          repeat (first | rw [if_neg Bool.false_ne_true] | go_values | go_skip | go_guarded | go_step | go_upon | go_back)
          go_ret
          exact tells_f hno.out (KL.trans KW (fun _ h _ => h))
         | true =>
          have HZ_thn := shut (hz.1 rfl)
          clear hz
          obtain ⟨-, -, -, -, -, -, -, -, -, -, ae31⟩ := StB al_ty al_place al_val al_cond GCA.out BA
          have hc := HB.out.2 w10 p31 q31 (d + 1) (by omega) (by omega) (ah_els.keeps KW (fun _ _ h => h) (fun _ h => h) (fun _ _ _ h => h.keeps KW (fun _ _ h => h) (fun _ h => h)))
          try dsimp only
          repeat (first | rw [if_neg Bool.false_ne_true] | go_values | go_skip | go_guarded | go_step | go_upon | go_back)
          refine hc.mono ?_
          rintro e w11 ⟨⟨z, rfl, hz⟩, k9⟩
          have KW := KW.trans k9 (fun _ h _ => h)
          have BA := k9.blk BA (fun h => h)
          clear hc k9 ae31
          try dsimp only
          cases z with
          | false =>
           have hno : Shut (¬ XL) := shut (hno0.out (fun h => by have h2 := hz.2 ((HC.out.1 h).2.2.2.2.2 rfl); cases h2))
           clear HC hno0 hyes0
           try dsimp only
           repeat (first | rw [if_neg Bool.false_ne_true] | go_values | go_skip | go_guarded | go_step | go_upon | go_back)
           go_ret
           exact tells_f hno.out (KL.trans KW (fun _ h _ => h))
          | true =>
           have HZ_els := shut (hz.1 rfl)
           clear hz
           have hall := shut (hyes0.out (HC.out.2 ⟨rfl, HZ.out, (fun h => by cases h), (fun h => by cases h), (fun _ => HZ_thn.out), (fun _ => HZ_els.out)⟩))
           clear HC hno0 hyes0
           try dsimp only
           repeat (first | rw [if_neg Bool.false_ne_true] | go_values | go_skip | go_guarded | go_step | go_upon | go_back)
           go_roundw
           case rel => exact ⟨t + 1, by go_num, by omega, KL.trans KW (fun _ h _ => h), hall⟩
           case measure => simp [intOf]; omega
theorem rst_all {S : Nat → Prop} (l : List StD) : RStC S l := by
 refine rst_step fun d _ => ?_
 refine StD.ind (P := fun d => RStC S d.thn ∧ RStC S d.els) ?_ d
 intro x_kind x_pos x_mu x_name x_ty x_has x_place x_val x_cond x_thn x_els h1 h2
 exact ⟨rst_step fun e he => h1 e he, rst_step fun e he => h2 e he⟩
end Go.Proofs.YtjbcagbnagefcaaGreat
