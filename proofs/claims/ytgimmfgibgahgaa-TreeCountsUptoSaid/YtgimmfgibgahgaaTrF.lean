/- The document's answer: the names of lets. The document's answer: the names of a function. Names that were read are short. -/
import Derived.Test.YtgimmfgibgahgaaTrC
import Derived.Test.YtgimmfgibgahgaaMix
import Derived.Test.YtgimmfgibgahgaaTrE
import Derived.Test.YtgimmfgibgahgaaTree36
namespace Go.Proofs.Ytgimmfgibgahgaa
open Go.RowKit

attribute [local go_sem ↓] exec_mid_ty exec_store_ty exec_mid_pl exec_store_pl exec_mid_opr exec_store_opr exec_mid_val exec_store_val exec_mid_st exec_store_st exec_mid_fld exec_store_fld exec_mid_str exec_store_str exec_mid_lif exec_store_lif exec_mid_fun exec_store_fun exec_mid_cr exec_store_cr
attribute [local go_sem] rowOk_new World.setRow_alloc_new

def RLetsC (S : Nat → Prop) (l : List StD) : Prop := ∀ (w : World) (ao : Option Addr) (c : Nat), SlIs S w 32 (StIs S w) ao l → cntL l ≤ 1000000000 → Calls Try.prog 31 #[.slice ao l.length c] w (TextsPost w (ltL l))

set_option maxRecDepth 100000 in
set_option linter.unusedSimpArgs false in
set_option maxHeartbeats 8000000 in
theorem rlets_of {S : Nat → Prop} {l : List StD} (H : ∀ e ∈ l, RLetsC S e.thn ∧ RLetsC S e.els) : RLetsC S l := by
  intro w0 ao c h hB
  have hl := h.1
  unfold bigN at hl
  have HX := shut h
  have HH := shut H
  have HB := shut hB
  clear h H hB
  obtain ⟨P, hP⟩ : ∃ P, P = TextsPost w0 (ltL l) := ⟨_, rfl⟩
  rw [← hP]
  have HPP := shut hP
  clear hP
  obtain ⟨n, hn⟩ : ∃ n, l.length = n := ⟨_, rfl⟩
  rw [hn] at hl ⊢
  have HN := shut hn
  clear hn
  go_enter Try.func31, Try.ntmps31
  go_wp2_with fail
  go_loopw [3, 4] (fun s3 s4 wx => ∃ (t : Nat) (aX : Option Addr) (cX k : Nat), s4 = .int .i64 t ∧ s3 = .slice aX k cX ∧ t ≤ n ∧ Shut (k = (ltL (l.take t)).length) ∧ RowR wx 9 aX cX ((ltL (l.take t)).map txV) ∧ (∀ g, blockOf aX = some g → w0.heap.size ≤ g) ∧ Keeps Nothing w0 wx) (fun _ s4 _ => n - (intOf s4).toNat)
  case atStart => exact ⟨0, none, 0, 0, rfl, rfl, Nat.zero_le _, shut (by simp [ltL]), by simpa [ltL] using rowR_nil _ _, fun g h => (by cases h), Keeps.refl _ _⟩
  case round =>
    obtain ⟨t, aX, cX, k, rfl, rfl, ht, HK, RX, hnew, KX⟩ := hrel
    by_cases hlt : t < n
    rotate_left
    · obtain rfl : t = n := by omega
      have m1 : ¬ (t : Int) < t := by omega
      rw [List.take_of_length_le (Nat.le_of_eq HN.out)] at RX HK
      have RE := shut RX
      clear RX
      go_wp2_with fail
      rw [HPP.out]
      exact ⟨aX, cX, by simp [HK.out], RE.out, KX, hnew⟩
    obtain ⟨a, ha⟩ : ∃ a, l[t]? = some a := ⟨_, List.getElem?_eq_getElem (by rw [HN.out]; exact hlt)⟩
    obtain ⟨g1, o1, rfl, -, cs, l1, r1, hi⟩ := HX.out.get ha
    have HR := shut (HH.out a (List.mem_of_getElem? ha))
    have HT := shut (ltL_take ha)
    have HC : Shut ((ltL (l.take t)).length + 1 + cntL a.thn + cntL a.els ≤ 1000000000) := shut (by
      have h1 := cntL_app (l.take t) (l.drop t)
      rw [List.take_append_drop] at h1
      have h2 : l.drop t = a :: l.drop (t + 1) := by
        rw [List.drop_eq_getElem_cons (by rw [HN.out]; exact hlt)]
        rw [List.getElem?_eq_getElem (by rw [HN.out]; exact hlt)] at ha
        rw [Option.some.inj ha]
      rw [h2, cntL_cons, cntS_mk] at h1
      have h3 := ltL_len (l.take t)
      have h4 := HB.out
      omega)
    clear ha
    have m0 : (0 : Int) ≤ t := by omega
    have m1 : (t : Int) < n := by omega
    obtain ⟨a_kind, a_pos, a_mu, a_name, a_ty, a_has, a_place, a_val, a_cond, a_thn, a_els⟩ := a
    rw [stIs_iff] at hi
    obtain ⟨s4, s9, s11, s26, p30, q30, p31, q31, hcs, ah_name, ah_ty, ah_place, ah_val, ah_cond, ah_thn, ah_els⟩ := hi
    rw [hcs] at r1
    clear hcs l1
    simp only [StD.kind, StD.pos, StD.mu, StD.name, StD.ty, StD.has, StD.place, StD.val, StD.cond, StD.thn, StD.els] at ah_ty ah_place ah_val ah_cond ah_thn ah_els r1 HR HC
    have al_ty := ah_ty.len
    have al_place := ah_place.len
    have al_val := ah_val.len
    have al_cond := ah_cond.len
    clear ah_name ah_ty ah_place ah_val ah_cond
    have RR1 := shut r1
    obtain ⟨-, -, -, -, -, -, -, -, -, ae30, ae31⟩ := StR al_ty al_place al_val al_cond r1
    obtain ⟨be0, -, -, be3, -, -, -, -, -, -, -⟩ := StR al_ty al_place al_val al_cond (rangeAt_keeps r1 KX (fun h => h))
    unfold txV at be3
    clear r1
    by_cases k1 : a_kind = 1
    · subst k1
      have HK1 := shut (show ((ltL (l.take t)).map txV).length = k by rw [List.length_map, HK.out])
      have D1 := blk_new wr #[.string ⟨a_name.toArray⟩] 9
      have kd : Keeps Nothing wr (wr.alloc (.cells #[.string ⟨a_name.toArray⟩] 9)) := (Keeps.refl Nothing wr).alloc _
      have RD := RX.keepsN kd
      have KD := KX.trans kd (fun _ h _ => h)
      have hbk : k ≤ 1000000000 := by have := HC.out; have := HK.out; omega
      go_wp2_with (at_builtin; refine wpList_appZ _ rfl (.tmp 17) (.tmp 23) rfl aX cX ((ltL (l.take t)).map txV) k HK1.out rfl RD _ 1 [txV a_name] rfl (src_str1 D1) hbk (by omega) ?_)
      intro a2 c2 w5 R2 _ k2 m2
      have KX := KD.trans k2 (fun i hi hlt => by have := hnew i hi; omega)
      have hsz := KD.size
      have hnew : ∀ g, blockOf a2 = some g → w0.heap.size ≤ g := fun g hg => by
        rcases m2 with mv | ⟨g', hg', hb⟩
        · exact hnew g (by rw [← mv]; exact hg)
        · rw [hg'] at hg
          obtain rfl : g' = g := by simpa using hg
          rw [World.size_alloc] at hsz
          omega
      have HKL := shut (show (((ltL (l.take t)).map txV) ++ [txV a_name]).length = k + 1 by rw [List.length_append, HK1.out]; rfl)
      have HK : Shut (k + 1 = (ltL (l.take t)).length + 1) := shut (by rw [HK.out])
      obtain ⟨MM, hMM⟩ : ∃ MM, MM = (ltL (l.take t)).map txV ++ [txV a_name] := ⟨_, rfl⟩
      rw [← hMM] at HKL R2
      have HMM := shut hMM
      clear hMM
      have RX := R2
      clear D1 kd RD KD k2 m2 R2 hbk be0 be3 hsz HK1
      go_upto_region 7 with fail
      refine wp_region_mix (fun V => Keeps Nothing w0 V) [(true, 0), (true, 1), (true, 2), (true, 3), (true, 4), (true, 5), (true, 8), (true, 9), (true, 10), (true, 11), (true, 12), (false, 6), (false, 7), (false, 13), (false, 14), (true, 15)] (by kernel_rfl) (by kernel_rfl) KX.drew ?_
      simp only [mixItems, List.map_cons, List.map_nil, List.getD_cons_zero, List.getD_cons_succ]
      repeat (refine wpMix_free (fun K hK => ?_); go_simp; refine hK _ ?_; clear hK K)
      refine wpMix_yield (v := .slice p30 a_thn.length q30) (fun V hV => ?_) (fun K hK => ?_)
      · have y1 := hV.cell ae30 (fun h => h)
        go_simp
      go_simp
      refine hK _ ?_
      clear hK K
      repeat (refine wpMix_free (fun K hK => ?_); go_simp; refine hK _ ?_; clear hK K)
      refine wpMix_yield (v := .slice p31 a_els.length q31) (fun V hV => ?_) (fun K hK => ?_)
      · have y1 := hV.cell ae31 (fun h => h)
        go_simp
      go_simp
      refine hK _ ?_
      clear hK K
      repeat (refine wpMix_free (fun K hK => ?_); go_simp; refine hK _ ?_; clear hK K)
      have kk0 : Keeps Nothing w0 w5.drew := KX.drew
      have RX := RX.keepsN ((Keeps.refl Nothing w5).drew)
      have hc1 := HR.out.1 w5.drew p30 q30 (ah_thn.keeps kk0 (fun _ _ h => h) (fun _ h => h) (fun _ _ _ h => h.keeps kk0 (fun _ _ h => h) (fun _ h => h))) (by have := HC.out; omega)
      obtain ⟨T1, hT1⟩ : ∃ T, ltL a_thn = T := ⟨_, rfl⟩
      rw [hT1] at hc1
      refine wpMix_one (fun K hK => ?_)
      go_wp2_with fail
      refine hc1.mono ?_
      rintro e w1 ⟨b1, d1, rfl, R1, k1, n1⟩
      have RX := RX.keepsN k1
      have kk1 := kk0.trans k1 (fun _ h _ => h)
      have hn1 : ∀ g, blockOf b1 = some g → w0.heap.size ≤ g := fun g hg => Nat.le_trans kk0.size (n1 g hg)
      clear hc1 k1 n1
      go_wp2_with fail
      refine hK _ _ kk1 ?_
      clear hK K
      have hb1 : T1.length ≤ 1000000000 := by have h1 := ltL_len a_thn; rw [hT1] at h1; have := HC.out; omega
      have hbk : (k + 1) ≤ 1000000000 := by have := HC.out; have := HK.out; omega
      refine wpMix_one (fun K hK => ?_)
      go_wp2_with (at_builtin; refine wpList_appZ _ rfl (.tmp 25) (.tmp 31) rfl a2 c2 (MM) (k + 1) HKL.out rfl RX _ T1.length (T1.map txV) rfl (R1.src Try.underlying30 (by simp) d1) hbk hb1 ?_)
      intro b2 d2 w2 R2 _ k2 m2
      have R2 := shut R2
      have kk2 := kk1.trans k2 (fun i hi hlt => by have := hnew i hi; omega)
      have hn2 : ∀ g, blockOf b2 = some g → w0.heap.size ≤ g := fun g hg => by
        rcases m2 with mv | ⟨g', hg', hb⟩
        · exact hnew g (by rw [← mv]; exact hg)
        · rw [hg'] at hg
          obtain rfl : g' = g := by simpa using hg
          exact Nat.le_trans kk1.size hb
      go_wp2_with fail
      refine hK _ _ kk2 ?_
      clear hK K k2 m2 R1 RX hn1 kk1 kk0
      have hc2 := HR.out.2 w2 p31 q31 (ah_els.keeps kk2 (fun _ _ h => h) (fun _ h => h) (fun _ _ _ h => h.keeps kk2 (fun _ _ h => h) (fun _ h => h))) (by have := HC.out; omega)
      obtain ⟨T2, hT2⟩ : ∃ T, ltL a_els = T := ⟨_, rfl⟩
      rw [hT2] at hc2
      refine wpMix_one (fun K hK => ?_)
      go_wp2_with fail
      refine hc2.mono ?_
      rintro e w3 ⟨b3, d3, rfl, R3, k3, n3⟩
      have R2 := shut (R2.out.keepsN k3)
      have kk3 := kk2.trans k3 (fun _ h _ => h)
      clear hc2 k3 n3
      go_wp2_with fail
      refine hK _ _ kk3 ?_
      clear hK K
      have hb2 : T2.length ≤ 1000000000 := by have h1 := ltL_len a_els; rw [hT2] at h1; have := HC.out; omega
      have hbk2 : (k + 1) + T1.length ≤ 1000000000 := by have := HC.out; have := HK.out; have h1 := ltL_len a_thn; rw [hT1] at h1; omega
      have hl2 : ((MM) ++ T1.map txV).length = (k + 1) + T1.length := by rw [List.length_append, List.length_map, HKL.out]
      refine wpMix_one (fun K hK => ?_)
      go_wp2_with (at_builtin; refine wpList_appZ _ rfl (.tmp 32) (.tmp 38) rfl b2 d2 ((MM) ++ T1.map txV) ((k + 1) + T1.length) hl2 rfl R2.out _ T2.length (T2.map txV) rfl (R3.src Try.underlying30 (by simp) d3) hbk2 hb2 ?_)
      intro b4 d4 w4 R4 _ k4 m4
      have R4 := shut R4
      have kk4 := kk3.trans k4 (fun i hi hlt => by have := hn2 i hi; omega)
      have hn4 : ∀ g, blockOf b4 = some g → w0.heap.size ≤ g := fun g hg => by
        rcases m4 with mv | ⟨g', hg', hb⟩
        · exact hn2 g (by rw [← mv]; exact hg)
        · rw [hg'] at hg
          obtain rfl : g' = g := by simpa using hg
          exact Nat.le_trans kk3.size hb
      go_wp2_with fail
      refine hK _ _ kk4 ?_
      clear hK K k4 m4 R3 R2 hl2
      repeat (refine wpMix_free (fun K hK => ?_); go_simp; refine hK _ ?_; clear hK K)
      refine wpMix_nil ?_
      have HE : Shut ((MM) ++ (T1.map txV ++ T2.map txV) = (ltL (l.take (t + 1))).map txV) := shut (by
        rw [HT.out, ← hT1, ← hT2, HMM.out]
        unfold ltS
        simp)
      have R5 := R4.out
      try rw [List.append_assoc] at R5
      rw [HE.out] at R5
      clear R4
      have HKE : Shut ((k + 1) + T1.length + T2.length = (ltL (l.take (t + 1))).length) := shut (by
        have h1 := congrArg List.length HE.out
        simp only [List.length_append, List.length_map] at h1
        have h2 := HKL.out
        omega)
      have R4 := shut R5
      clear R5 HE hT1 hT2 hb1 hb2 hbk hbk2 kk2 kk3
      go_wp2_with fail
      go_roundw
      case rel => exact ⟨t + 1, b4, d4, _, by go_num, rfl, by omega, HKE, R4.out, hn4, kk4⟩
      case measure => simp [intOf]; omega
    · have hq : (a_kind == 1) = false := by rw [beq_eq_false_iff_ne]; exact k1
      have HKL := shut (show ((ltL (l.take t)).map txV).length = k by rw [List.length_map, HK.out])
      obtain ⟨MM, hMM⟩ : ∃ MM, MM = (ltL (l.take t)).map txV := ⟨_, rfl⟩
      rw [← hMM] at HKL RX
      have HMM := shut hMM
      clear hMM
      go_upto_region 7 with fail
      refine wp_region_mix (fun V => Keeps Nothing w0 V) [(true, 0), (true, 1), (true, 2), (true, 3), (true, 4), (true, 5), (true, 8), (true, 9), (true, 10), (true, 11), (true, 12), (false, 6), (false, 7), (false, 13), (false, 14), (true, 15)] (by kernel_rfl) (by kernel_rfl) KX.drew ?_
      simp only [mixItems, List.map_cons, List.map_nil, List.getD_cons_zero, List.getD_cons_succ]
      repeat (refine wpMix_free (fun K hK => ?_); go_simp; refine hK _ ?_; clear hK K)
      refine wpMix_yield (v := .slice p30 a_thn.length q30) (fun V hV => ?_) (fun K hK => ?_)
      · have y1 := hV.cell ae30 (fun h => h)
        go_simp
      go_simp
      refine hK _ ?_
      clear hK K
      repeat (refine wpMix_free (fun K hK => ?_); go_simp; refine hK _ ?_; clear hK K)
      refine wpMix_yield (v := .slice p31 a_els.length q31) (fun V hV => ?_) (fun K hK => ?_)
      · have y1 := hV.cell ae31 (fun h => h)
        go_simp
      go_simp
      refine hK _ ?_
      clear hK K
      repeat (refine wpMix_free (fun K hK => ?_); go_simp; refine hK _ ?_; clear hK K)
      have kk0 : Keeps Nothing w0 wr.drew := KX.drew
      have RX := RX.keepsN ((Keeps.refl Nothing wr).drew)
      have hc1 := HR.out.1 wr.drew p30 q30 (ah_thn.keeps kk0 (fun _ _ h => h) (fun _ h => h) (fun _ _ _ h => h.keeps kk0 (fun _ _ h => h) (fun _ h => h))) (by have := HC.out; omega)
      obtain ⟨T1, hT1⟩ : ∃ T, ltL a_thn = T := ⟨_, rfl⟩
      rw [hT1] at hc1
      refine wpMix_one (fun K hK => ?_)
      go_wp2_with fail
      refine hc1.mono ?_
      rintro e w1 ⟨b1, d1, rfl, R1, k1, n1⟩
      have RX := RX.keepsN k1
      have kk1 := kk0.trans k1 (fun _ h _ => h)
      have hn1 : ∀ g, blockOf b1 = some g → w0.heap.size ≤ g := fun g hg => Nat.le_trans kk0.size (n1 g hg)
      clear hc1 k1 n1
      go_wp2_with fail
      refine hK _ _ kk1 ?_
      clear hK K
      have hb1 : T1.length ≤ 1000000000 := by have h1 := ltL_len a_thn; rw [hT1] at h1; have := HC.out; omega
      have hbk : k ≤ 1000000000 := by have := HC.out; have := HK.out; omega
      refine wpMix_one (fun K hK => ?_)
      go_wp2_with (at_builtin; refine wpList_appZ _ rfl (.tmp 25) (.tmp 31) rfl aX cX (MM) k HKL.out rfl RX _ T1.length (T1.map txV) rfl (R1.src Try.underlying30 (by simp) d1) hbk hb1 ?_)
      intro b2 d2 w2 R2 _ k2 m2
      have R2 := shut R2
      have kk2 := kk1.trans k2 (fun i hi hlt => by have := hnew i hi; omega)
      have hn2 : ∀ g, blockOf b2 = some g → w0.heap.size ≤ g := fun g hg => by
        rcases m2 with mv | ⟨g', hg', hb⟩
        · exact hnew g (by rw [← mv]; exact hg)
        · rw [hg'] at hg
          obtain rfl : g' = g := by simpa using hg
          exact Nat.le_trans kk1.size hb
      go_wp2_with fail
      refine hK _ _ kk2 ?_
      clear hK K k2 m2 R1 RX hn1 kk1 kk0
      have hc2 := HR.out.2 w2 p31 q31 (ah_els.keeps kk2 (fun _ _ h => h) (fun _ h => h) (fun _ _ _ h => h.keeps kk2 (fun _ _ h => h) (fun _ h => h))) (by have := HC.out; omega)
      obtain ⟨T2, hT2⟩ : ∃ T, ltL a_els = T := ⟨_, rfl⟩
      rw [hT2] at hc2
      refine wpMix_one (fun K hK => ?_)
      go_wp2_with fail
      refine hc2.mono ?_
      rintro e w3 ⟨b3, d3, rfl, R3, k3, n3⟩
      have R2 := shut (R2.out.keepsN k3)
      have kk3 := kk2.trans k3 (fun _ h _ => h)
      clear hc2 k3 n3
      go_wp2_with fail
      refine hK _ _ kk3 ?_
      clear hK K
      have hb2 : T2.length ≤ 1000000000 := by have h1 := ltL_len a_els; rw [hT2] at h1; have := HC.out; omega
      have hbk2 : k + T1.length ≤ 1000000000 := by have := HC.out; have := HK.out; have h1 := ltL_len a_thn; rw [hT1] at h1; omega
      have hl2 : ((MM) ++ T1.map txV).length = k + T1.length := by rw [List.length_append, List.length_map, HKL.out]
      refine wpMix_one (fun K hK => ?_)
      go_wp2_with (at_builtin; refine wpList_appZ _ rfl (.tmp 32) (.tmp 38) rfl b2 d2 ((MM) ++ T1.map txV) (k + T1.length) hl2 rfl R2.out _ T2.length (T2.map txV) rfl (R3.src Try.underlying30 (by simp) d3) hbk2 hb2 ?_)
      intro b4 d4 w4 R4 _ k4 m4
      have R4 := shut R4
      have kk4 := kk3.trans k4 (fun i hi hlt => by have := hn2 i hi; omega)
      have hn4 : ∀ g, blockOf b4 = some g → w0.heap.size ≤ g := fun g hg => by
        rcases m4 with mv | ⟨g', hg', hb⟩
        · exact hn2 g (by rw [← mv]; exact hg)
        · rw [hg'] at hg
          obtain rfl : g' = g := by simpa using hg
          exact Nat.le_trans kk3.size hb
      go_wp2_with fail
      refine hK _ _ kk4 ?_
      clear hK K k4 m4 R3 R2 hl2
      repeat (refine wpMix_free (fun K hK => ?_); go_simp; refine hK _ ?_; clear hK K)
      refine wpMix_nil ?_
      have HE : Shut ((MM) ++ (T1.map txV ++ T2.map txV) = (ltL (l.take (t + 1))).map txV) := shut (by
        rw [HT.out, ← hT1, ← hT2, HMM.out]
        unfold ltS
        simp [k1])
      have R5 := R4.out
      try rw [List.append_assoc] at R5
      rw [HE.out] at R5
      clear R4
      have HKE : Shut (k + T1.length + T2.length = (ltL (l.take (t + 1))).length) := shut (by
        have h1 := congrArg List.length HE.out
        simp only [List.length_append, List.length_map] at h1
        have h2 := HKL.out
        omega)
      have R4 := shut R5
      clear R5 HE hT1 hT2 hb1 hb2 hbk hbk2 kk2 kk3
      go_wp2_with fail
      go_roundw
      case rel => exact ⟨t + 1, b4, d4, _, by go_num, rfl, by omega, HKE, R4.out, hn4, kk4⟩
      case measure => simp [intOf]; omega
theorem rlets_st {S : Nat → Prop} : ∀ a : StD, RLetsC S a.thn ∧ RLetsC S a.els := by
  refine StD.ind ?_
  intro a_kind a_pos a_mu a_name a_ty a_has a_place a_val a_cond a_thn a_els ih_thn ih_els
  exact ⟨rlets_of ih_thn, rlets_of ih_els⟩
theorem rlets_any {S : Nat → Prop} (l : List StD) : RLetsC S l := rlets_of (fun e _ => rlets_st e)

end Go.Proofs.Ytgimmfgibgahgaa

namespace Go.Proofs.Ytgimmfgibgahgaa
open Go.RowKit

attribute [local go_sem ↓] exec_mid_ty exec_store_ty exec_mid_pl exec_store_pl exec_mid_opr exec_store_opr exec_mid_val exec_store_val exec_mid_st exec_store_st exec_mid_fld exec_store_fld exec_mid_str exec_store_str exec_mid_lif exec_store_lif exec_mid_fun exec_store_fun exec_mid_cr exec_store_cr
attribute [local go_sem] rowOk_new World.setRow_alloc_new

set_option maxRecDepth 100000 in
set_option linter.unusedSimpArgs false in
set_option maxHeartbeats 8000000 in
theorem rnames_any {S : Nat → Prop} (a : FunD) (w : World) (cs : List Value) (ha : FunIs S w a cs) (hB : a.params.length + cntL a.body ≤ 1000000000) : Calls Try.prog 16 #[.agg cs.toArray] w (TextsPost w (nmD a)) := by
  obtain ⟨a_pub, a_name, a_lives, a_params, a_result, a_body, a_pos⟩ := a
  have HB := shut hB
  clear hB
  obtain ⟨P, hP⟩ : ∃ P, P = TextsPost w (nmD ⟨a_pub, a_name, a_lives, a_params, a_result, a_body, a_pos⟩) := ⟨_, rfl⟩
  rw [← hP]
  have HPP := shut hP
  clear hP
  have ag1 := agg_ok ha.len ha.one
  obtain ⟨p2, q2, p3, q3, s4, p8, q8, hcs, ah_name, ah_lives, ah_params, ah_result, ah_body⟩ := ha
  have HCA := shut hcs
  clear hcs
  simp only at ah_name ah_lives ah_params ah_result ah_body HCA
  obtain ⟨CA, hCA⟩ : ∃ C, C = cs.toArray := ⟨_, rfl⟩
  rw [← hCA] at ag1 ⊢
  rw [HCA.out] at hCA
  have GCA := shut hCA
  clear hCA HCA
  have al_result := ah_result.len
  have KW : Keeps Nothing w (w.alloc (.cells CA 36)) := (Keeps.refl Nothing w).alloc _
  have BA := blk_new w CA 36
  go_enter Try.func16, Try.ntmps16
  go_upto_region 1 with fail
  clear ag1
  generalize hga2 : w.heap.size = ga at *
  have HGA := shut hga2
  clear hga2
  generalize w.alloc (.cells CA 36) = wb at *
  obtain ⟨n, hn⟩ : ∃ n, a_params.length = n := ⟨_, rfl⟩
  have hnb : n ≤ bigN := by rw [← hn]; exact ah_params.1
  unfold bigN at hnb
  rw [hn] at GCA
  have HN := shut hn
  clear hn
  go_wp2_with fail
  go_loopw [3, 4] (fun s3 s4 wx => ∃ (t : Nat) (aX : Option Addr) (cX k : Nat), s4 = .int .i64 t ∧ s3 = .slice aX k cX ∧ t ≤ n ∧ Shut (k = t) ∧ RowR wx 9 aX cX (((a_params.take t).map FldD.name).map txV) ∧ (∀ g, blockOf aX = some g → ga ≤ g) ∧ Keeps Nothing w wx ∧ Blk wx ga CA 36) (fun _ s4 _ => n - (intOf s4).toNat)
  case atStart => exact ⟨0, none, 0, 0, rfl, rfl, Nat.zero_le _, shut rfl, by simpa using rowR_nil _ _, fun g h => (by cases h), KW, BA⟩
  case round =>
    obtain ⟨t, aX, cX, k, rfl, rfl, ht, HK, RX, hnew, KX, BX⟩ := hrel
    clear KW BA
    have KW := KX
    have BA := BX
    clear KX BX
    obtain ⟨M, hM⟩ : ∃ M, M = (a_params.take t).map FldD.name := ⟨_, rfl⟩
    rw [← hM] at RX
    have HM := shut hM
    clear hM
    have hkM : Shut (k = M.length) := shut (by rw [HK.out, HM.out, List.length_map, List.length_take, HN.out]; omega)
    obtain ⟨-, -, -, ae3, -, -, -⟩ := FunB al_result GCA.out BA
    by_cases hlt : t < n
    · obtain ⟨a, hat⟩ : ∃ a, a_params[t]? = some a := ⟨_, List.getElem?_eq_getElem (by rw [HN.out]; exact hlt)⟩
      obtain ⟨g1, o1, rfl, -, cs, l1, r1, hi⟩ := (ah_params.keeps KW (fun _ _ h => h) (fun _ h => h) (fun _ _ _ h => h.keeps KW (fun _ _ h => h) (fun _ h => h))).get hat
      have HT : Shut ((a_params.take (t + 1)).map FldD.name = M ++ [a.name]) := shut (by rw [List.take_add_one, hat, HM.out]; simp)
      clear hat
      have m0 : (0 : Int) ≤ t := by omega
      have m1 : (t : Int) < n := by omega
      obtain ⟨f_mu, f_name, f_ty⟩ := a
      obtain ⟨s2, hcs, fh_name, fh_ty⟩ := hi
      rw [hcs] at r1
      simp only at fh_ty r1 HT
      have fl_ty := fh_ty.len
      obtain ⟨-, fe1, -⟩ := FldR fl_ty r1
      unfold txV at fe1
      clear fh_ty hcs l1 r1
      have hbk : k ≤ 1000000000 := by have := HK.out; omega
      have D1 := blk_new wr #[.string ⟨f_name.toArray⟩] 9
      have kd : Keeps Nothing wr (wr.alloc (.cells #[.string ⟨f_name.toArray⟩] 9)) := (Keeps.refl Nothing wr).alloc _
      have RD := RX.keepsN kd
      have KD := KW.trans kd (fun _ h _ => h)
      have BD := kd.blk BA (fun h => h)
      go_wp2_with (at_builtin; refine wpList_appZ _ rfl (.tmp 12) (.tmp 19) rfl aX cX (M.map txV) k (by rw [List.length_map, hkM.out]) rfl RD _ 1 [txV f_name] rfl (src_str1 D1) hbk (by omega) ?_)
      intro a2 c2 w2 R2 _ k2 m2
      have n2 : blockOf aX ≠ some ga := RD.ne BD (by decide)
      have BE := k2.blk BD n2
      have hsz := KD.size
      have K2 := KD.trans k2 (fun i hi hlt => by have := hnew i hi; have := HGA.out; omega)
      have hnew2 : ∀ g, blockOf a2 = some g → ga ≤ g := fun g hg => by
        rcases m2 with mv | ⟨g', hg', hb⟩
        · exact hnew g (by rw [← mv]; exact hg)
        · rw [hg'] at hg
          obtain rfl : g' = g := by simpa using hg
          rw [World.size_alloc] at hsz
          have := HGA.out
          omega
      have R3 : RowR w2 9 a2 c2 (((a_params.take (t + 1)).map FldD.name).map txV) := by rw [HT.out, List.map_append]; exact R2
      have R3 := shut R3
      have HK2 : Shut (k + 1 = t + 1) := shut (by rw [HK.out])
      clear D1 kd RD KD BD fe1 R2 k2 m2 n2 hsz HT
      go_wp2_with fail
      go_roundw
      case rel => exact ⟨t + 1, a2, c2, k + 1, by go_num, rfl, by omega, HK2, R3.out, hnew2, K2, BE⟩
      case measure => simp [intOf]; omega
    · obtain rfl : t = n := by omega
      have m1 : ¬ (t : Int) < t := by omega
      have HMM : Shut (M = a_params.map FldD.name) := shut (by rw [HM.out, List.take_of_length_le (Nat.le_of_eq HN.out)])
      have hc := rlets_any (S := S) a_body wr p8 q8 (ah_body.keeps KW (fun _ _ h => h) (fun _ h => h) (fun _ _ _ h => h.keeps KW (fun _ _ h => h) (fun _ h => h))) (by have := HB.out; omega)
      have hbT := ltL_len a_body
      obtain ⟨T, hT⟩ : ∃ T, ltL a_body = T := ⟨_, rfl⟩
      rw [hT] at hc hbT
      obtain ⟨-, -, -, -, -, ae8, -⟩ := FunB al_result GCA.out BA
      go_wp2_with fail
      refine hc.mono ?_
      rintro e w5 ⟨b1, d1, rfl, R1, k5, n5⟩
      have hsz := KW.size
      have RX := RX.keepsN k5
      have KW := KW.trans k5 (fun _ h _ => h)
      have hbk : k ≤ 1000000000 := by have := HK.out; omega
      have hb1 : T.length ≤ 1000000000 := by have := HB.out; omega
      clear hc ae8
      try dsimp only
      go_wp2_with (at_builtin; refine wpList_appZ _ rfl (.tmp 21) (.tmp 24) rfl aX cX (M.map txV) k (by rw [List.length_map, hkM.out]) rfl RX _ T.length (T.map txV) rfl (R1.src Try.underlying30 (by simp) d1) hbk hb1 ?_)
      intro a2 c2 w2 R2 _ k2 m2
      have hsz2 := KW.size
      have K2 := KW.trans k2 (fun i hi hlt => by have := hnew i hi; have := HGA.out; omega)
      have hnew2 : ∀ g, blockOf a2 = some g → w.heap.size ≤ g := fun g hg => by
        rcases m2 with mv | ⟨g', hg', hb⟩
        · have := hnew g (by rw [← mv]; exact hg)
          have := HGA.out
          omega
        · rw [hg'] at hg
          obtain rfl : g' = g := by simpa using hg
          omega
      have R3 : RowR w2 9 a2 c2 ((nmD ⟨a_pub, a_name, a_lives, a_params, a_result, a_body, a_pos⟩).map txV) := by
        unfold nmD
        rw [List.map_append, hT, ← HMM.out]
        exact R2
      have R3 := shut R3
      have HL : Shut (k + T.length = (nmD ⟨a_pub, a_name, a_lives, a_params, a_result, a_body, a_pos⟩).length) := shut (by
        unfold nmD
        rw [List.length_append, hT, hkM.out, HMM.out])
      clear R2 k2 m2 RX R1
      go_wp2_with fail
      rw [HPP.out]
      exact ⟨a2, c2, by simp [← HL.out], R3.out, K2, hnew2⟩

end Go.Proofs.Ytgimmfgibgahgaa

namespace Go.Proofs.Ytgimmfgibgahgaa
open Go.RowKit

theorem ltL_le {S : Nat → Prop} {w : World} : ∀ (l : List StD) (ao : Option Addr), (∀ d ∈ l, ∀ cs, StIs S w d cs → ∀ x ∈ ltS d, x.length ≤ bigN) → SlIs S w 32 (StIs S w) ao l → ∀ x ∈ ltL l, x.length ≤ bigN := by
  intro l ao H h
  have key : ∀ m : List StD, (∀ d ∈ m, ∀ x ∈ ltS d, x.length ≤ bigN) → ∀ x ∈ ltL m, x.length ≤ bigN := by
    intro m
    induction m with
    | nil => intro _ x hx; simp [ltL] at hx
    | cons s r ih =>
      intro hm x hx
      unfold ltL at hx
      rcases List.mem_append.1 hx with hx | hx
      · exact hm s (by simp) x hx
      · exact ih (fun d hd => hm d (List.mem_cons_of_mem _ hd)) x hx
  refine key l fun d hd x hx => ?_
  obtain ⟨j, hj⟩ := List.getElem?_of_mem hd
  obtain ⟨b, o, _, _, cs, _, _, hp⟩ := h.get hj
  exact H d hd cs hp x hx
theorem ltS_le {S : Nat → Prop} {w : World} : ∀ (d : StD) (cs : List Value), StIs S w d cs → ∀ x ∈ ltS d, x.length ≤ bigN := by
  refine StD.ind ?_
  intro a_kind a_pos a_mu a_name a_ty a_has a_place a_val a_cond a_thn a_els h1 h2 cs hi x hx
  rw [stIs_iff] at hi
  obtain ⟨s4, s9, s11, s26, p30, q30, p31, q31, hcs, ah_name, ah_ty, ah_place, ah_val, ah_cond, ah_thn, ah_els⟩ := hi
  unfold ltS at hx
  rcases List.mem_append.1 hx with hx | hx
  · rcases List.mem_append.1 hx with hx | hx
    · split at hx
      · obtain rfl : x = a_name := by simpa using hx
        exact ah_name
      · simp at hx
    · exact ltL_le _ _ h1 ah_thn x hx
  · exact ltL_le _ _ h2 ah_els x hx
theorem nm_le {S : Nat → Prop} {w : World} {a : FunD} {cs : List Value} (h : FunIs S w a cs) : ∀ x ∈ nmD a, x.length ≤ bigN := by
  obtain ⟨p2, q2, p3, q3, s4, p8, q8, hcs, ah_name, ah_lives, ah_params, ah_result, ah_body⟩ := h
  intro x hx
  unfold nmD at hx
  rcases List.mem_append.1 hx with hx | hx
  · obtain ⟨f, hf, rfl⟩ := List.mem_map.1 hx
    obtain ⟨j, hj⟩ := List.getElem?_of_mem hf
    obtain ⟨b, o, _, _, cs, _, _, hp⟩ := ah_params.get hj
    obtain ⟨s2, _, h2, _⟩ := hp
    exact h2
  · exact ltL_le _ _ (fun d _ cs hc => ltS_le d cs hc) ah_body x hx
theorem list10 {l : List Value} (h : l.length = 10) : ∃ x0 x1 x2 x3 x4 x5 x6 x7 x8 x9, l = [x0, x1, x2, x3, x4, x5, x6, x7, x8, x9] := by
  match l, h with
  | [x0, x1, x2, x3, x4, x5, x6, x7, x8, x9], _ => exact ⟨x0, x1, x2, x3, x4, x5, x6, x7, x8, x9, rfl⟩

end Go.Proofs.Ytgimmfgibgahgaa
