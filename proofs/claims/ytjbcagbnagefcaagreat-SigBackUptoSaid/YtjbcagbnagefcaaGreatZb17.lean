/- Tree27 -/
import Derived.Test.YtjbcagbnagefcaaGreatZb6
namespace Go.Proofs.YtjbcagbnagefcaaGreat
open Go.RowKit
attribute [local go_sem ↓] exec_mid_ty exec_store_ty exec_mid_pl exec_store_pl exec_mid_opr exec_store_opr exec_mid_val exec_store_val exec_mid_st exec_store_st exec_mid_fld exec_store_fld exec_mid_str exec_store_str exec_mid_lif exec_store_lif exec_mid_fun exec_store_fun exec_mid_cr exec_store_cr
attribute [local go_sem] rowOk_new World.setRow_alloc_new
def RCountC (S : Nat → Prop) (l : List StD) : Prop := ∀ (w : World) (ao : Option Addr) (c : Nat), SlIs S w 32 (StIs S w) ao l → Calls Tryz.prog 24 #[.slice ao l.length c] w (Counts w (cntL l))
set_option maxRecDepth 100000 in
set_option maxHeartbeats 4000000 in
theorem rcount_of {S : Nat → Prop} (l : List StD) (H : ∀ e ∈ l, RCountC S e.thn ∧ RCountC S e.els) : RCountC S l := by
 intro w ao c h
 have hl := h.1
 unfold bigN at hl
 have HX := shut h
 have HH := shut H
 have HC := shut (cntL_sum l)
 clear h H
 obtain ⟨N, hN⟩ : ∃ N, N = cntL l := ⟨_, rfl⟩
 rw [← hN] at HC ⊢
 clear hN
 obtain ⟨n, hn⟩ : ∃ n, l.length = n := ⟨_, rfl⟩
 rw [hn] at hl HC ⊢
 have HN := shut hn
 clear hn
 go_enter Tryz.func24, Tryz.ntmps24
 go_wp2_with fail
 go_loopw [3, 4] (fun s3 s4 wx => ∃ (t : Nat) (v : Int), s4 = .int .i64 t ∧ s3 = .int .i64 v ∧ t ≤ n ∧ Keeps Nothing w wx ∧ Shut (v = IntKind.i64.wrap ((n + sumS (l.take t) : Nat) : Int))) (fun _ s4 _ => n - (intOf s4).toNat)
 case atStart => exact ⟨0, n, rfl, rfl, Nat.zero_le _, Keeps.refl _ _, shut (by simp only [List.take_zero, sumS, IntKind.wrap_i64]; omega)⟩
 case round =>
  obtain ⟨t, v, rfl, rfl, ht, KL, HT⟩ := hrel
  by_cases hlt : t < n
  ·skip
   obtain ⟨a, ha⟩ : ∃ a, l[t]? = some a := ⟨_, List.getElem?_eq_getElem (by rw [HN.out]; exact hlt)⟩
   obtain ⟨g1, o1, rfl, -, cs, l1, r1, hi⟩ := (HX.out.keeps KL (fun _ _ h => h) (fun _ h => h) (fun _ _ _ h => h.keeps KL (fun _ _ h => h) (fun _ h => h))).get ha
   have HA := shut ha
   clear ha
   have m0 : (0 : Int) ≤ t := by omega
   have m1 : (t : Int) < n := by omega
   have HS : Shut (∀ {z1 z2 : Int}, z1 = IntKind.i64.wrap (cntL a.thn : Int) → z2 = IntKind.i64.wrap (cntL a.els : Int) → IntKind.i64.wrap (IntKind.i64.wrap (v + z1) + z2) = IntKind.i64.wrap ((n + sumS (l.take (t + 1)) : Nat) : Int)) := shut (by
    intro z1 z2 h1 h2
    rw [sumS_take HA.out, cntS_mk, ← Nat.add_assoc]
    exact wrap_step HT.out h1 h2)
   have HB := shut (HH.out a (List.mem_of_getElem? HA.out))
   clear HA
   obtain ⟨a_kind, a_pos, a_mu, a_name, a_ty, a_has, a_place, a_val, a_cond, a_thn, a_els⟩ := a
   rw [stIs_iff] at hi
   obtain ⟨s4, s9, s11, s26, p30, q30, p31, q31, hcs, ah_name, ah_ty, ah_place, ah_val, ah_cond, ah_thn, ah_els⟩ := hi
   rw [hcs] at r1
   clear hcs l1
   simp only [StD.kind, StD.pos, StD.mu, StD.name, StD.ty, StD.has, StD.place, StD.val, StD.cond, StD.thn, StD.els] at ah_ty ah_place ah_val ah_cond ah_thn ah_els r1
   have al_ty := ah_ty.len
   have al_place := ah_place.len
   have al_val := ah_val.len
   have al_cond := ah_cond.len
   clear ah_name ah_ty ah_place ah_val ah_cond
   obtain ⟨-, -, -, -, -, -, -, -, -, ae30, ae31⟩ := StR al_ty al_place al_val al_cond r1
   clear r1
   simp only [StD.thn, StD.els] at HS HB
   go_wp2_with fail
   refine wp_region_mix (fun V => Keeps Nothing wr V) [(true, 0), (true, 1), (true, 2), (true, 3), (true, 4), (true, 5), (true, 8), (true, 9), (true, 10), (true, 11), (true, 12), (false, 6), (true, 7), (false, 13), (true, 14), (true, 15)] (by kernel_rfl) (by kernel_rfl) (Keeps.refl _ _).drew ?_
   simp only [mixItems, List.map_cons, List.map_nil, List.getD_cons_zero, List.getD_cons_succ]
   repeat (refine wpMix_free (fun K hK => ?_); go_simp; refine hK _ ?_; clear hK K)
   refine wpMix_yield (v := .slice p30 a_thn.length q30) (fun V hV => ?_) (fun K hK => ?_)
   ·have y1 := hV.cell ae30 (fun h => h)
    go_simp
   go_simp
   refine hK _ ?_
   clear hK K
   repeat (refine wpMix_free (fun K hK => ?_); go_simp; refine hK _ ?_; clear hK K)
   refine wpMix_yield (v := .slice p31 a_els.length q31) (fun V hV => ?_) (fun K hK => ?_)
   ·have y1 := hV.cell ae31 (fun h => h)
    go_simp
   go_simp
   refine hK _ ?_
   clear hK K ae30 ae31
   repeat (refine wpMix_free (fun K hK => ?_); go_simp; refine hK _ ?_; clear hK K)
   have kk0 : Keeps Nothing wr wr.drew := (Keeps.refl Nothing wr).drew
   have hc1 := HB.out.1 wr.drew p30 q30 (ah_thn.keeps kk0 (fun _ _ h => h) (fun _ h => h) (fun _ _ _ h => h.keeps kk0 (fun _ _ h => h) (fun _ h => h)))
   refine wpMix_one (fun K hK => ?_)
   go_wp2_with fail
   refine hc1.mono ?_
   rintro e w1 ⟨⟨z1, rfl, hz1⟩, k1⟩
   have kk1 : Keeps Nothing wr w1 := kk0.trans k1 (fun _ h _ => h)
   clear hc1 k1
   go_wp2_with fail
   refine hK _ _ kk1 ?_
   clear hK K
   repeat (refine wpMix_free (fun K hK => ?_); go_simp; refine hK _ ?_; clear hK K)
   have hc2 := HB.out.2 w1 p31 q31 (ah_els.keeps kk1 (fun _ _ h => h) (fun _ h => h) (fun _ _ _ h => h.keeps kk1 (fun _ _ h => h) (fun _ h => h)))
   refine wpMix_one (fun K hK => ?_)
   go_wp2_with fail
   refine hc2.mono ?_
   rintro e w2 ⟨⟨z2, rfl, hz2⟩, k2⟩
   have kk2 : Keeps Nothing wr w2 := kk1.trans k2 (fun _ h _ => h)
   clear hc2 k2
   go_wp2_with fail
   refine hK _ _ kk2 ?_
   clear hK K
   repeat (refine wpMix_free (fun K hK => ?_); go_simp; refine hK _ ?_; clear hK K)
   refine wpMix_nil ?_
   have HV := shut (HS.out hz1.out hz2.out)
   clear HS HB hz1 hz2
   go_wp2_with fail
   go_roundw
   case rel => exact ⟨t + 1, _, by go_num, rfl, by omega, KL.trans kk2 (fun _ h _ => h), HV⟩
   case measure => simp [intOf]; omega
  ·obtain rfl : t = n := by omega
   have m1 : ¬ (t : Int) < t := by omega
   have HV := shut (show v = IntKind.i64.wrap ((N : Nat) : Int) by rw [HC.out, HT.out, List.take_of_length_le (Nat.le_of_eq HN.out)])
   clear HC HT
   go_wp2_with fail
   go_ret
   exact ⟨⟨_, rfl, HV⟩, KL⟩
theorem rcount_st {S : Nat → Prop} : ∀ a : StD, RCountC S a.thn ∧ RCountC S a.els := by
 refine StD.ind ?_
 intro a_kind a_pos a_mu a_name a_ty a_has a_place a_val a_cond a_thn a_els ih_thn ih_els
 exact ⟨rcount_of _ ih_thn, rcount_of _ ih_els⟩
theorem rcount_any {S : Nat → Prop} (l : List StD) : RCountC S l := rcount_of l (fun e _ => rcount_st e)
def SomeN (w : World) (e : Ending) (w' : World) : Prop := (∃ z : Int, e = .returned (.int .i64 z)) ∧ Keeps Nothing w w'
def DeepC (S : Nat → Prop) (l : List StD) : Prop := ∀ (w : World) (ao : Option Addr) (c : Nat) (m : Int), SlIs S w 32 (StIs S w) ao l → Calls Tryz.prog 23 #[.slice ao l.length c, .int .i64 m] w (SomeN w)
set_option maxRecDepth 100000 in
set_option maxHeartbeats 4000000 in
theorem deep_of {S : Nat → Prop} (l : List StD) (H : ∀ e ∈ l, DeepC S e.thn ∧ DeepC S e.els) : DeepC S l := by
 intro w ao c m h
 have hl := h.1
 unfold bigN at hl
 have HX := shut h
 have HH := shut H
 clear h H
 obtain ⟨n, hn⟩ : ∃ n, l.length = n := ⟨_, rfl⟩
 rw [hn] at hl ⊢
 have HN := shut hn
 clear hn
 go_enter Tryz.func23, Tryz.ntmps23
 go_wp2_with fail
 go_loopw [5, 6] (fun s5 s6 wx => ∃ (t : Nat) (v : Int), s6 = .int .i64 t ∧ s5 = .int .i64 v ∧ t ≤ n ∧ Keeps Nothing w wx) (fun _ s6 _ => n - (intOf s6).toNat)
 case atStart => exact ⟨0, 0, rfl, rfl, Nat.zero_le _, Keeps.refl _ _⟩
 case round =>
  obtain ⟨t, v, rfl, rfl, ht, KL⟩ := hrel
  by_cases hlt : t < n
  ·by_cases hm : 0 < m
   rotate_left
   ·have m1 : (t : Int) < n := by omega
    have m2 : ¬ 0 < m := hm
    go_wp2_with fail
    go_ret
    exact ⟨⟨_, rfl⟩, KL⟩
   obtain ⟨a, ha⟩ : ∃ a, l[t]? = some a := ⟨_, List.getElem?_eq_getElem (by rw [HN.out]; exact hlt)⟩
   obtain ⟨g1, o1, rfl, -, cs, l1, r1, hi⟩ := (HX.out.keeps KL (fun _ _ h => h) (fun _ h => h) (fun _ _ _ h => h.keeps KL (fun _ _ h => h) (fun _ h => h))).get ha
   have HA := shut ha
   clear ha
   have m0 : (0 : Int) ≤ t := by omega
   have m1 : (t : Int) < n := by omega
   have HB := shut (HH.out a (List.mem_of_getElem? HA.out))
   clear HA
   obtain ⟨a_kind, a_pos, a_mu, a_name, a_ty, a_has, a_place, a_val, a_cond, a_thn, a_els⟩ := a
   rw [stIs_iff] at hi
   obtain ⟨s4, s9, s11, s26, p30, q30, p31, q31, hcs, ah_name, ah_ty, ah_place, ah_val, ah_cond, ah_thn, ah_els⟩ := hi
   rw [hcs] at r1
   clear hcs l1
   simp only [StD.kind, StD.pos, StD.mu, StD.name, StD.ty, StD.has, StD.place, StD.val, StD.cond, StD.thn, StD.els] at ah_ty ah_place ah_val ah_cond ah_thn ah_els r1
   have al_ty := ah_ty.len
   have al_place := ah_place.len
   have al_val := ah_val.len
   have al_cond := ah_cond.len
   clear ah_name ah_ty ah_place ah_val ah_cond
   obtain ⟨-, -, -, -, -, -, -, -, -, ae30, ae31⟩ := StR al_ty al_place al_val al_cond r1
   clear r1
   simp only [StD.thn, StD.els] at HB
   go_wp2_with fail
   refine wp_region_mix (fun V => Keeps Nothing wr V) [(true, 0), (true, 1), (true, 2), (true, 3), (true, 4), (true, 5), (true, 6), (true, 7), (true, 10), (true, 11), (true, 12), (true, 13), (true, 14), (true, 15), (true, 16), (false, 8), (true, 9), (false, 17), (true, 18), (true, 19), (true, 20)] (by kernel_rfl) (by kernel_rfl) (Keeps.refl _ _).drew ?_
   simp only [mixItems, List.map_cons, List.map_nil, List.getD_cons_zero, List.getD_cons_succ]
   repeat (refine wpMix_free (fun K hK => ?_); go_simp; refine hK _ ?_; clear hK K)
   refine wpMix_yield (v := .slice p30 a_thn.length q30) (fun V hV => ?_) (fun K hK => ?_)
   ·have y1 := hV.cell ae30 (fun h => h)
    go_simp
   go_simp
   refine hK _ ?_
   clear hK K
   repeat (refine wpMix_free (fun K hK => ?_); go_simp; refine hK _ ?_; clear hK K)
   refine wpMix_yield (v := .slice p31 a_els.length q31) (fun V hV => ?_) (fun K hK => ?_)
   ·have y1 := hV.cell ae31 (fun h => h)
    go_simp
   go_simp
   refine hK _ ?_
   clear hK K ae30 ae31
   repeat (refine wpMix_free (fun K hK => ?_); go_simp; refine hK _ ?_; clear hK K)
   have kk0 : Keeps Nothing wr wr.drew := (Keeps.refl Nothing wr).drew
   have hc1 := fun m => HB.out.1 wr.drew p30 q30 m (ah_thn.keeps kk0 (fun _ _ h => h) (fun _ h => h) (fun _ _ _ h => h.keeps kk0 (fun _ _ h => h) (fun _ h => h)))
   refine wpMix_one (fun K hK => ?_)
   go_wp2_with fail
   refine (hc1 _).mono ?_
   rintro e w1 ⟨⟨z1, rfl⟩, k1⟩
   have kk1 : Keeps Nothing wr w1 := kk0.trans k1 (fun _ h _ => h)
   clear hc1 k1
   go_wp2_with fail
   refine hK _ _ kk1 ?_
   clear hK K
   repeat (refine wpMix_free (fun K hK => ?_); go_simp; refine hK _ ?_; clear hK K)
   have hc2 := fun m => HB.out.2 w1 p31 q31 m (ah_els.keeps kk1 (fun _ _ h => h) (fun _ h => h) (fun _ _ _ h => h.keeps kk1 (fun _ _ h => h) (fun _ h => h)))
   refine wpMix_one (fun K hK => ?_)
   go_wp2_with fail
   refine (hc2 _).mono ?_
   rintro e w2 ⟨⟨z2, rfl⟩, k2⟩
   have kk2 : Keeps Nothing wr w2 := kk1.trans k2 (fun _ h _ => h)
   clear hc2 k2
   go_wp2_with fail
   refine hK _ _ kk2 ?_
   clear hK K
   repeat (refine wpMix_free (fun K hK => ?_); go_simp; refine hK _ ?_; clear hK K)
   refine wpMix_nil ?_
   clear HB
   go_wp2_with fail
   go_roundw
   case rel => exact ⟨t + 1, _, by go_num, rfl, by omega, KL.trans kk2 (fun _ h _ => h)⟩
   case measure => simp [intOf]; omega
  ·obtain rfl : t = n := by omega
   have m1 : ¬ (t : Int) < t := by omega
   go_wp2_with fail
   go_ret
   exact ⟨⟨_, rfl⟩, KL⟩
theorem deep_st {S : Nat → Prop} : ∀ a : StD, DeepC S a.thn ∧ DeepC S a.els := by
 refine StD.ind ?_
 intro a_kind a_pos a_mu a_name a_ty a_has a_place a_val a_cond a_thn a_els ih_thn ih_els
 exact ⟨deep_of _ ih_thn, deep_of _ ih_els⟩
theorem deep_any {S : Nat → Prop} (l : List StD) : DeepC S l := deep_of l (fun e _ => deep_st e)
end Go.Proofs.YtjbcagbnagefcaaGreat
