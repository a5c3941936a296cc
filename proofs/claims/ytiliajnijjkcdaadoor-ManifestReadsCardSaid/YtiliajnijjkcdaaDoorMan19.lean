/- The document's answer: two rows of crates compared. -/
import Derived.Test.YtiliajnijjkcdaaDoorMan18
import Derived.Test.YtiliajnijjkcdaaDoorMixU
namespace Go.Proofs.YtiliajnijjkcdaaDoor
open Go.RowKit

attribute [local irreducible] wpMix wpList
attribute [local go_sem ↓] exec_mid_src exec_store_src
attribute [local go_sem] rowOk_new World.setRow_alloc_new aggOk_src

set_option maxRecDepth 100000 in
set_option linter.unusedSimpArgs false in
set_option maxHeartbeats 8000000 in
theorem rsame_any {S S' : Nat → Prop} (l m : List SrcD) (w : World) {ax ay : Option Addr} (cx cy : Nat) (hx : SlIs S w 3 (SrcIs S w) ax l) (hy : SlIs S' w 3 (SrcIs S' w) ay m) :
    Calls Tryd.prog 12 #[.slice ax l.length cx, .slice ay m.length cy] w (Tells w (l = m)) := by
  have hlx := hx.1
  have hly := hy.1
  unfold bigN at hlx hly
  have HX := shut hx
  have HY := shut hy
  clear hx hy
  by_cases hne : l.length = m.length
  rotate_left
  · have hne' : ¬ (l.length : Int) = m.length := by omega
    have hl : l ≠ m := fun h => hne (by rw [h])
    go_enter Tryd.func12, Tryd.ntmps12
    go_wp2_with fail
    go_ret
    exact tells_f hl (Keeps.refl _ _)
  obtain ⟨n, hn⟩ : ∃ n, l.length = n := ⟨_, rfl⟩
  have hm : m.length = n := by omega
  rw [hn, hm]
  rw [hn] at hlx
  clear hne hly
  have HN := shut hn
  have HM := shut hm
  clear hn hm
  go_enter Tryd.func12, Tryd.ntmps12
  go_wp2_with fail
  go_loopw [5] (fun s5 wx => ∃ t : Nat, s5 = .int .i64 t ∧ t ≤ n ∧ Keeps Nothing w wx ∧ Shut (l.take t = m.take t)) (fun s5 _ => n - (intOf s5).toNat)
  case atStart => exact ⟨0, rfl, Nat.zero_le _, Keeps.refl _ _, shut (by simp)⟩
  case round =>
    obtain ⟨t, rfl, ht, KL, HT⟩ := hrel
    by_cases hlt : t < n
    rotate_left
    · obtain rfl : t = n := by omega
      have m1 : ¬ (t : Int) < t := by omega
      go_wp2_with fail
      go_ret
      refine tells_t ?_ KL
      have h := HT.out
      rwa [List.take_of_length_le (Nat.le_of_eq HN.out), List.take_of_length_le (Nat.le_of_eq HM.out)] at h
    obtain ⟨a, ha⟩ : ∃ a, l[t]? = some a := ⟨_, List.getElem?_eq_getElem (by rw [HN.out]; exact hlt)⟩
    obtain ⟨b, hb⟩ : ∃ b, m[t]? = some b := ⟨_, List.getElem?_eq_getElem (by rw [HM.out]; exact hlt)⟩
    obtain ⟨g1, o1, qa, da, rfl, a0, a1, a2, ad⟩ := srcd_at (HX.out.keeps KL (Q := SrcIs S wr) (fun _ _ h => h) (fun _ h => h) (fun _ _ _ h => h.keeps KL (fun _ _ h => h) (fun _ h => h))) ha
    obtain ⟨g2, o2, qb, db, rfl, b0, b1, b2, bd⟩ := srcd_at (HY.out.keeps KL (Q := SrcIs S' wr) (fun _ _ h => h) (fun _ h => h) (fun _ _ _ h => h.keeps KL (fun _ _ h => h) (fun _ h => h))) hb
    have HA := shut ha
    have HB := shut hb
    clear ha hb
    have m0 : (0 : Int) ≤ t := by omega
    have m1 : (t : Int) < n := by omega
    obtain ⟨a_name, a_deps, a_text⟩ := a
    obtain ⟨b_name, b_deps, b_text⟩ := b
    simp only at a0 a1 a2 ad b0 b1 b2 bd
    have AD := shut ad
    have BD := shut bd
    clear ad bd
    have HE : Shut ((⟨a_name, a_deps, a_text⟩ : SrcD) = ⟨b_name, b_deps, b_text⟩ ↔ a_name = b_name ∧ a_deps = b_deps ∧ a_text = b_text) := shut (by simp)
    obtain ⟨XA, hXA⟩ : ∃ X, X = (⟨a_name, a_deps, a_text⟩ : SrcD) := ⟨_, rfl⟩
    obtain ⟨XB, hXB⟩ : ∃ X, X = (⟨b_name, b_deps, b_text⟩ : SrcD) := ⟨_, rfl⟩
    rw [← hXA, ← hXB] at HE
    rw [← hXA] at HA
    rw [← hXB] at HB
    clear hXA hXB
    have hout : Shut (¬ XA = XB → ¬ l = m) := shut (fun h => ne_at HA.out HB.out h)
    go_upto_region 6 with fail
    refine wp_region_mix (fun V => Keeps Nothing wr V) [(true, 0), (true, 1), (true, 2), (true, 3), (true, 4), (true, 5), (true, 6), (true, 7), (true, 8), (true, 9), (true, 10), (true, 11), (true, 12), (true, 13), (true, 14), (true, 15), (true, 16), (true, 17), (true, 18), (true, 19), (true, 20), (true, 21), (true, 22), (true, 23), (true, 24), (true, 25), (true, 26), (true, 27), (true, 28), (true, 29), (true, 30), (true, 31), (true, 32), (true, 33), (true, 34), (false, 35), (true, 36), (true, 37)] (by kernel_rfl) (by kernel_rfl) (Keeps.refl _ _).drew ?_
    simp only [mixItems, List.map_cons, List.map_nil, List.getD_cons_zero, List.getD_cons_succ]
    have kk : Keeps Nothing wr wr.drew := (Keeps.refl Nothing wr).drew
    repeat (refine wpMix_free (fun K hK => ?_); go_simp; refine hK _ ?_; clear hK K)
    refine wpMix_yield (v := .string ⟨a_name.toArray⟩) (fun V hV => ?_) (fun K hK => ?_)
    · have zz := hV.cell a0 (fun h => h)
      go_simp
    go_simp
    refine hK _ ?_
    clear hK K
    repeat (refine wpMix_free (fun K hK => ?_); go_simp; refine hK _ ?_; clear hK K)
    refine wpMix_yield (v := .string ⟨b_name.toArray⟩) (fun V hV => ?_) (fun K hK => ?_)
    · have zz := hV.cell b0 (fun h => h)
      go_simp
    go_simp
    refine hK _ ?_
    clear hK K
    by_cases hnm : a_name = b_name
    rotate_left
    · have hno := shut (hout.out (fun h => hnm (HE.out.1 h).1))
      have hq : (a_name == b_name) = false := by rw [beq_eq_false_iff_ne]; exact hnm
      clear HE hout hnm
      refine wpMix_free (fun K hK => ?_); go_simp; refine hK _ ?_; clear hK K
      refine wpMix_free (fun K hK => ?_); go_simp; refine hK _ ?_; clear hK K
      iterate 11 refine wpMix_unwK (by kernel_rfl) ?_
      refine wpMix_free (fun K hK => ?_); go_simp; refine hK _ ?_; clear hK K
      refine wpMix_free (fun K hK => ?_); go_simp; refine hK _ ?_; clear hK K
      iterate 10 refine wpMix_unwK (by kernel_rfl) ?_
      refine wpMix_unwK1 (by kernel_rfl) kk ?_
      iterate 1 refine wpMix_unwK (by kernel_rfl) ?_
      refine wpMix_free (fun K hK => ?_); go_simp; refine hK _ ?_; clear hK K
      refine wpMix_nil ?_
      repeat (first | go_values | go_skip | go_guarded | go_step | go_upon | go_back)
      go_ret
      exact tells_f hno.out (KL.trans kk (fun _ h _ => h))
    subst hnm
    have hq : (a_name == a_name) = true := beq_self_eq_true _
    repeat (refine wpMix_free (fun K hK => ?_); go_simp; refine hK _ ?_; clear hK K)
    refine wpMix_yield (v := .string ⟨a_text.toArray⟩) (fun V hV => ?_) (fun K hK => ?_)
    · have zz := hV.cell a2 (fun h => h)
      go_simp
    go_simp
    refine hK _ ?_
    clear hK K
    repeat (refine wpMix_free (fun K hK => ?_); go_simp; refine hK _ ?_; clear hK K)
    refine wpMix_yield (v := .string ⟨b_text.toArray⟩) (fun V hV => ?_) (fun K hK => ?_)
    · have zz := hV.cell b2 (fun h => h)
      go_simp
    go_simp
    refine hK _ ?_
    clear hK K
    by_cases htx : a_text = b_text
    rotate_left
    · have hno := shut (hout.out (fun h => htx (HE.out.1 h).2.2))
      have hb1 : (a_text == b_text) = false := by rw [beq_eq_false_iff_ne]; exact htx
      clear HE hout htx
      refine wpMix_free (fun K hK => ?_); go_simp; refine hK _ ?_; clear hK K
      refine wpMix_free (fun K hK => ?_); go_simp; refine hK _ ?_; clear hK K
      refine wpMix_free (fun K hK => ?_); go_simp; refine hK _ ?_; clear hK K
      iterate 10 refine wpMix_unwK (by kernel_rfl) ?_
      refine wpMix_unwK1 (by kernel_rfl) kk ?_
      iterate 1 refine wpMix_unwK (by kernel_rfl) ?_
      refine wpMix_free (fun K hK => ?_); go_simp; refine hK _ ?_; clear hK K
      refine wpMix_nil ?_
      repeat (first | go_values | go_skip | go_guarded | go_step | go_upon | go_back)
      go_ret
      exact tells_f hno.out (KL.trans kk (fun _ h _ => h))
    subst htx
    have hb1 : (a_text == a_text) = true := beq_self_eq_true _
    repeat (refine wpMix_free (fun K hK => ?_); go_simp; refine hK _ ?_; clear hK K)
    refine wpMix_yield (v := .slice qa a_deps.length da) (fun V hV => ?_) (fun K hK => ?_)
    · have zz := hV.cell a1 (fun h => h)
      go_simp
    go_simp
    refine hK _ ?_
    clear hK K
    repeat (refine wpMix_free (fun K hK => ?_); go_simp; refine hK _ ?_; clear hK K)
    refine wpMix_yield (v := .slice qb b_deps.length db) (fun V hV => ?_) (fun K hK => ?_)
    · have zz := hV.cell b1 (fun h => h)
      go_simp
    go_simp
    refine hK _ ?_
    clear hK K
    repeat (refine wpMix_free (fun K hK => ?_); go_simp; refine hK _ ?_; clear hK K)
    have hc := rtexts_any wr.drew da db (AD.out.keeps kk (S' := S) (fun _ _ h => h) (fun _ h => h) (fun _ _ _ h => h)) (BD.out.keeps kk (S' := S') (fun _ _ h => h) (fun _ h => h) (fun _ _ _ h => h))
    refine wpMix_one (fun K hK => ?_)
    go_wp2_with fail
    refine hc.mono ?_
    rintro e w1 ⟨⟨z, rfl, hz⟩, k1⟩
    have kk := kk.trans k1 (fun _ h _ => h)
    have HZ := shut hz
    clear hc k1 hz
    go_wp2_with fail
    refine hK _ _ kk ?_
    clear hK K
    cases z with
    | false =>
      have hno := shut (hout.out (fun h => by have h2 := HZ.out.2 (HE.out.1 h).2.1; cases h2))
      clear HE hout HZ
      repeat (refine wpMix_free (fun K hK => ?_); go_simp; refine hK _ ?_; clear hK K)
      refine wpMix_nil ?_
      repeat (first | go_values | go_skip | go_guarded | go_step | go_upon | go_back)
      go_ret
      exact tells_f hno.out (KL.trans kk (fun _ h _ => h))
    | true =>
      have hab := shut (HE.out.2 ⟨by first | rfl | trivial, HZ.out.1 rfl, by first | rfl | trivial⟩)
      have HT2 := shut (take_eq HA.out HB.out HT.out hab.out)
      clear HE hout HZ hab
      repeat (refine wpMix_free (fun K hK => ?_); go_simp; refine hK _ ?_; clear hK K)
      refine wpMix_nil ?_
      go_wp2_with fail
      go_roundw
      case rel => exact ⟨t + 1, by go_num, by omega, KL.trans kk (fun _ h _ => h), HT2⟩
      case measure => simp [intOf]; omega

end Go.Proofs.YtiliajnijjkcdaaDoor
