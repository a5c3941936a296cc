/- Package tree: how many statements there are. -/
import Derived.Test.YtjbcagbnagefcaaTree3
import Derived.Test.YtjbcagbnagefcaaMix
namespace Go.Proofs.Ytjbcagbnagefcaa
open Go.RowKit

attribute [local go_sem ↓] exec_mid_ty exec_store_ty exec_mid_pl exec_store_pl exec_mid_opr exec_store_opr exec_mid_val exec_store_val exec_mid_st exec_store_st exec_mid_fld exec_store_fld exec_mid_str exec_store_str exec_mid_lif exec_store_lif exec_mid_fun exec_store_fun exec_mid_cr exec_store_cr
attribute [local go_sem] rowOk_new World.setRow_alloc_new

mutual
/-- How many statements are within a statement. -/
def cntS : StD → Nat
  | .mk _ _ _ _ _ _ _ _ _ thn els => cntL thn + cntL els
/-- How many statements there are, those within others too. -/
def cntL : List StD → Nat
  | [] => 0
  | s :: r => 1 + cntS s + cntL r
end
def sumS : List StD → Nat
  | [] => 0
  | s :: r => cntS s + sumS r
theorem cntL_sum : ∀ l : List StD, cntL l = l.length + sumS l
  | [] => by unfold cntL sumS; rfl
  | s :: r => by unfold cntL sumS; rw [cntL_sum r, List.length_cons]; omega
theorem cntS_mk (s : StD) : cntS s = cntL s.thn + cntL s.els := by cases s; unfold cntS; rfl
theorem sumS_take {l : List StD} {t : Nat} {a : StD} (h : l[t]? = some a) : sumS (l.take (t + 1)) = sumS (l.take t) + cntS a := by
  rw [List.take_add_one, h]
  have : ∀ (xs : List StD) (y : StD), sumS (xs ++ [y]) = sumS xs + cntS y := by
    intro xs y
    induction xs with
    | nil => simp [sumS]
    | cons x r ih => simp only [List.cons_append, sumS, ih]; omega
  exact this _ _
theorem wrap_step {v z1 z2 : Int} {A B C : Nat} (h : v = IntKind.i64.wrap A) (h1 : z1 = IntKind.i64.wrap B) (h2 : z2 = IntKind.i64.wrap C) : IntKind.i64.wrap (IntKind.i64.wrap (v + z1) + z2) = IntKind.i64.wrap ((A + (B + C) : Nat) : Int) := by
  subst h h1 h2
  simp only [IntKind.wrap_i64]
  omega
/-- It tells how many statements there are, and keeps all that there was. -/
def Counts (w : World) (n : Nat) (e : Ending) (w' : World) : Prop := (∃ z : Int, e = .returned (.int .i64 z) ∧ Shut (z = IntKind.i64.wrap (n : Int))) ∧ Keeps Nothing w w'
def CountC (S : Nat → Prop) (l : List StD) : Prop := ∀ (w : World) (ao : Option Addr) (c : Nat), SlIs S w 32 (StIs S w) ao l → Calls Try.prog 22 #[.slice ao l.length c] w (Counts w (cntL l))

set_option maxRecDepth 100000 in
set_option maxHeartbeats 4000000 in
theorem count_of {S : Nat → Prop} (l : List StD) (H : ∀ e ∈ l, CountC S e.thn ∧ CountC S e.els) : CountC S l := by
  intro w ao c h
  have hl := h.1
  unfold bigN at hl
  have HX := shut h
  have HH := shut H
  have HC := shut (cntL_sum l)
  clear h H
  obtain ⟨N, hN⟩ : ∃ N, N = cntL l := ⟨_, rfl⟩
  rw [← hN] at HC ⊢
  clear hN
  obtain ⟨n, hn⟩ : ∃ n, l.length = n := ⟨_, rfl⟩
  rw [hn] at hl HC ⊢
  have HN := shut hn
  clear hn
  go_enter Try.func22, Try.ntmps22
  go_wp2_with fail
  go_loopw [3, 5, 10] (fun s3 s5 s10 wx => ∃ (t : Nat) (v : Int), s10 = .int .i64 t ∧ s3 = .int .i64 v ∧ t ≤ n ∧ Keeps Nothing w wx ∧ Shut (v = IntKind.i64.wrap ((n + sumS (l.take t) : Nat) : Int))) (fun _ _ s10 _ => n - (intOf s10).toNat)
  case atStart => exact ⟨0, n, rfl, rfl, Nat.zero_le _, Keeps.refl _ _, shut (by simp only [List.take_zero, sumS, IntKind.wrap_i64]; omega)⟩
  case round =>
    obtain ⟨t, v, rfl, rfl, ht, KL, HT⟩ := hrel
    by_cases hlt : t < n
    · obtain ⟨a, ha⟩ : ∃ a, l[t]? = some a := ⟨_, List.getElem?_eq_getElem (by rw [HN.out]; exact hlt)⟩
      obtain ⟨g1, o1, rfl, -, cs, l1, r1, hi⟩ := (HX.out.keeps KL (fun _ _ h => h) (fun _ h => h) (fun _ _ _ h => h.keeps KL (fun _ _ h => h) (fun _ h => h))).get ha
      have HA := shut ha
      clear ha
      have m0 : (0 : Int) ≤ t := by omega
      have m1 : (t : Int) < n := by omega
      have ag1 := agg_ok l1 hi.one
      obtain ⟨CA, hCA⟩ : ∃ C, C = cs.toArray := ⟨_, rfl⟩
      obtain ⟨hk, ho⟩ := sub_of r1 l1
      have hsz : CA.size = 32 := by rw [hCA]; simpa using l1
      rw [← hCA] at ag1 ho
      have HCA := shut hCA
      clear hCA r1 l1
      go_upto_region 5 with fail
      have ka : Keeps Nothing wr (wr.alloc (.cells CA 46)) := (Keeps.refl Nothing wr).alloc _
      have BA := blk_new wr CA 46
      have KW := KL.trans ka (fun _ h _ => h)
      have hi := hi.keeps ka (fun _ _ h => h) (fun _ h => h)
      clear hk ho ag1 ka
      generalize wr.heap.size = ga at *
      generalize wr.alloc (.cells CA 46) = wb at *
      have HS : Shut (∀ {z1 z2 : Int}, z1 = IntKind.i64.wrap (cntL a.thn : Int) → z2 = IntKind.i64.wrap (cntL a.els : Int) → IntKind.i64.wrap (IntKind.i64.wrap (v + z1) + z2) = IntKind.i64.wrap ((n + sumS (l.take (t + 1)) : Nat) : Int)) := shut (by
        intro z1 z2 h1 h2
        rw [sumS_take HA.out, cntS_mk, ← Nat.add_assoc]
        exact wrap_step HT.out h1 h2)
      have HB := shut (HH.out a (List.mem_of_getElem? HA.out))
      clear HA
      obtain ⟨a_kind, a_pos, a_mu, a_name, a_ty, a_has, a_place, a_val, a_cond, a_thn, a_els⟩ := a
      rw [stIs_iff] at hi
      obtain ⟨s4, s9, s11, s26, p30, q30, p31, q31, hcs, ah_name, ah_ty, ah_place, ah_val, ah_cond, ah_thn, ah_els⟩ := hi
      rw [hcs] at HCA
      simp only [StD.kind, StD.pos, StD.mu, StD.name, StD.ty, StD.has, StD.place, StD.val, StD.cond, StD.thn, StD.els] at ah_name ah_ty ah_place ah_val ah_cond ah_thn ah_els HCA
      have GCA := HCA
      clear HCA hcs
      have al_ty := ah_ty.len
      have al_place := ah_place.len
      have al_val := ah_val.len
      have al_cond := ah_cond.len
      simp only [StD.thn, StD.els] at HS HB
      clear ah_name ah_ty ah_place ah_val ah_cond
      have BW := BA
      obtain ⟨-, -, -, -, -, -, -, -, -, ae30, ae31⟩ := StB al_ty al_place al_val al_cond GCA.out BA
      go_wp2_with fail
      refine wp_region_mix (fun V => Keeps Nothing wb V) [(true, 0), (true, 1), (true, 2), (true, 5), (true, 6), (false, 3), (true, 4), (false, 7), (true, 8), (true, 9)] (by kernel_rfl) (by kernel_rfl) (Keeps.refl _ _).drew ?_
      simp only [mixItems, List.map_cons, List.map_nil, List.getD_cons_zero, List.getD_cons_succ]
      repeat (refine wpMix_free (fun K hK => ?_); go_simp; refine hK _ ?_; clear hK K)
      refine wpMix_yield (v := .slice p30 a_thn.length q30) (fun V hV => ?_) (fun K hK => ?_)
      · have y1 := hV.cell ae30 (fun h => h)
        go_simp
      go_simp
      refine hK _ ?_
      clear hK K
      repeat (refine wpMix_free (fun K hK => ?_); go_simp; refine hK _ ?_; clear hK K)
      refine wpMix_yield (v := .slice p31 a_els.length q31) (fun V hV => ?_) (fun K hK => ?_)
      · have y1 := hV.cell ae31 (fun h => h)
        go_simp
      go_simp
      refine hK _ ?_
      clear hK K ae30 ae31
      have kk0 : Keeps Nothing wb wb.drew := (Keeps.refl Nothing wb).drew
      have hc1 := HB.out.1 wb.drew p30 q30 (ah_thn.keeps kk0 (fun _ _ h => h) (fun _ h => h) (fun _ _ _ h => h.keeps kk0 (fun _ _ h => h) (fun _ h => h)))
      refine wpMix_one (fun K hK => ?_)
      go_wp2_with fail
      refine hc1.mono ?_
      rintro e w1 ⟨⟨z1, rfl, hz1⟩, k1⟩
      have kk1 : Keeps Nothing wb w1 := kk0.trans k1 (fun _ h _ => h)
      clear hc1 k1
      go_wp2_with fail
      refine hK _ _ kk1 ?_
      clear hK K
      repeat (refine wpMix_free (fun K hK => ?_); go_simp; refine hK _ ?_; clear hK K)
      have hc2 := HB.out.2 w1 p31 q31 (ah_els.keeps kk1 (fun _ _ h => h) (fun _ h => h) (fun _ _ _ h => h.keeps kk1 (fun _ _ h => h) (fun _ h => h)))
      refine wpMix_one (fun K hK => ?_)
      go_wp2_with fail
      refine hc2.mono ?_
      rintro e w2 ⟨⟨z2, rfl, hz2⟩, k2⟩
      have kk2 : Keeps Nothing wb w2 := kk1.trans k2 (fun _ h _ => h)
      clear hc2 k2
      go_wp2_with fail
      refine hK _ _ kk2 ?_
      clear hK K
      repeat (refine wpMix_free (fun K hK => ?_); go_simp; refine hK _ ?_; clear hK K)
      refine wpMix_nil ?_
      have HV := shut (HS.out hz1.out hz2.out)
      clear HS HB hz1 hz2
      go_wp2_with fail
      go_roundw
      case rel => exact ⟨t + 1, _, by go_num, rfl, by omega, KW.trans kk2 (fun _ h _ => h), HV⟩
      case measure => simp [intOf]; omega
    · obtain rfl : t = n := by omega
      have m1 : ¬ (t : Int) < t := by omega
      have HV := shut (show v = IntKind.i64.wrap ((N : Nat) : Int) by rw [HC.out, HT.out, List.take_of_length_le (Nat.le_of_eq HN.out)])
      clear HC HT
      go_wp2_with fail
      go_ret
      exact ⟨⟨_, rfl, HV⟩, KL⟩
theorem count_st {S : Nat → Prop} : ∀ a : StD, CountC S a.thn ∧ CountC S a.els := by
  refine StD.ind ?_
  intro a_kind a_pos a_mu a_name a_ty a_has a_place a_val a_cond a_thn a_els ih_thn ih_els
  exact ⟨count_of _ ih_thn, count_of _ ih_els⟩
theorem count_any {S : Nat → Prop} (l : List StD) : CountC S l := count_of l (fun e _ => count_st e)

end Go.Proofs.Ytjbcagbnagefcaa
