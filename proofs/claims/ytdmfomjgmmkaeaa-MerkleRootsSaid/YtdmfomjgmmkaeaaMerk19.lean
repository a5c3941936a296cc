/- The document's Path; Same of two equal proofs. -/
import Derived.Test.YtdmfomjgmmkaeaaMerk18
namespace Go.Proofs.Ytdmfomjgmmkaeaa
open Go.RowKit

def PathPost (w : World) (rows : List (List UInt8)) (i : Nat) (e : Ending) (w' : World) : Prop :=
  ∃ ao cap, e = .returned (.slice ao (pathL rows i).length cap) ∧ OwnH w' ao cap (pathL rows i) ∧ Keeps Nothing w w' ∧ (∀ g, blockOf ao = some g → w.heap.size ≤ g)

attribute [local go_sem ↓] exec_load_hash exec_store_hash
attribute [local go_sem] rowOk_new World.setRow_alloc_new

set_option maxRecDepth 100000 in
set_option maxHeartbeats 2000000 in
theorem rpath_rec : ∀ (N : Nat) (w : World) (b o n c : Nat) (rows : List (List UInt8)) (i : Nat), n ≤ N → rows.length = n → 1 ≤ n → n ≤ 1000000 → n ≤ c → c ≤ maxLen → RowsAt w (some ⟨b, o, none⟩) rows → (∀ r ∈ rows, r.length ≤ 1000) → i < n →
    Calls Try.prog 29 #[.slice (some ⟨b, o, none⟩) n c, .int .i64 (i : Int)] w (PathPost w rows i) := by
  intro N
  induction N with
  | zero => intro w b o n c rows i hN _ h1; omega
  | succ N ih =>
    intro w b o n c rows i hN hn h1 hn9 hc hcm hR hb hi
    have hcm9 : c ≤ 9223372036854775807 := by unfold maxLen at hcm; omega
    by_cases h2 : n = 1
    · subst h2
      have e1 := pathL_one (l := rows) (i := i) (by omega)
      have HE := shut e1
      clear e1 ih hn hR hb
      go_enter Try.func29, Try.ntmps29
      go_wp2_with fail
      go_ret
      exact ⟨none, 0, by rw [HE.out]; rfl, by rw [HE.out]; exact ownH_nil w, Keeps.refl _ _, fun g hg => by cases hg⟩
    · have hn2 : 2 ≤ n := by omega
      obtain ⟨s0, s1⟩ := splitN_lt hn2
      have hsp := fun W => rhalf_any W n hn2 (by omega)
      obtain ⟨k, hk⟩ : ∃ k, splitN n = k := ⟨_, rfl⟩
      rw [hk] at s0 s1 hsp
      have hlen1 : (rows.take k).length = k := by rw [List.length_take]; omega
      have hlen2 : (rows.drop k).length = n - k := by rw [List.length_drop]; omega
      have hto := fun W => rows_to b o n c k (by omega) s0 W
      have hfr := fun W => rows_from b o n c k s1 hc W
      have m1 : ((n : Int) == 1) = false := by rw [beq_eq_false_iff_ne]; omega
      have m2 : ¬ (n : Int) = 1 := by omega
      by_cases hik : i < k
      · have hst := pathL_step (l := rows) (i := i) (by omega)
        rw [hn, hk, if_pos hik] at hst
        have hp1 := pathL_32 (rows.take k).length (rows.take k) i (Nat.le_refl _)
        have hp2 := pathL_len (rows.take k).length (rows.take k) i (Nat.le_refl _)
        have ih1 := fun W (K : Keeps Nothing w W) => ih W b o k c (rows.take k) i (by omega) hlen1 (by omega) (by omega) (by omega) hcm ((hR.keepsN K).take k) (fun r hr => hb r (List.mem_of_mem_take hr)) hik
        have ih2 := fun W (K : Keeps Nothing w W) => rtree_rec (n - k) W b (o + k) (n - k) (c - k) (rows.drop k) (Nat.le_refl _) hlen2 (by omega) (by omega) (by omega) (by unfold maxLen at *; omega) ((hR.keepsN K).drop k) (fun r hr => hb r (List.mem_of_mem_drop hr))
        have hTl := treeL_len (l := rows.drop k) (by omega)
        obtain ⟨T, hT⟩ : ∃ T, treeL (rows.drop k) = T := ⟨_, rfl⟩
        rw [hT] at ih2 hTl hst
        obtain ⟨TC, hTC⟩ : ∃ TC, TC = (T.map byteV).toArray := ⟨_, rfl⟩
        have hTs : TC.size = 32 := by rw [hTC]; simp [hTl]
        rw [show hashV T = .agg TC from by rw [hTC]; rfl] at ih2
        have HTC := shut hTC
        obtain ⟨P1, hP1⟩ : ∃ P1, pathL (rows.take k) i = P1 := ⟨_, rfl⟩
        unfold PathPost at ih1
        rw [hP1] at hp1 hp2 hst
        simp only [hP1] at ih1
        obtain ⟨L1, hP1l⟩ : ∃ L1, P1.length = L1 := ⟨_, rfl⟩
        have HST := shut hst
        have m3 : (i : Int) < k := by omega
        clear hT hTC hP1 hst hn hk hN hR hb ih hp1
        go_enter Try.func29, Try.ntmps29
        go_wp2_with fail
        refine (hsp _).mono ?_
        rintro e w1 ⟨rfl, hw⟩
        subst w1
        go_wp2_with fail
        refine wp_region_mix (fun _ => True) [(true, 0), (true, 1), (true, 2), (true, 3), (true, 5), (true, 6), (true, 7), (false, 4), (false, 8), (false, 9), (false, 10), (false, 11)] (by kernel_rfl) (by kernel_rfl) trivial ?_
        simp only [mixItems, List.map_cons, List.map_nil, List.getD_cons_zero, List.getD_cons_succ]
        repeat (refine wpMix_free (fun K hK => ?_); go_simp; refine hK _ ?_; clear hK K)
        refine wpMix_one (fun K hK => ?_)
        go_wp2_with fail
        refine (ih1 _ (Keeps.refl _ _).drew).mono ?_
        rintro e w1 ⟨a1, c1, rfl, o1, k1, f1⟩
        have HF1 := shut f1
        clear f1
        rw [hP1l]
        have K1 := (Keeps.refl Nothing w).drew.trans k1 (fun _ h _ => h)
        go_wp2_with fail
        refine hK _ _ trivial ?_
        clear hK K ih1 k1
        refine wpMix_one (fun K hK => ?_)
        go_wp2_with fail
        refine (ih2 _ K1).mono ?_
        rintro e w2 ⟨rfl, k2⟩
        have K2 := K1.trans k2 (fun _ h _ => h)
        have o2 := k2.own o1 (fun _ _ h => h)
        go_wp2_with fail
        refine hK _ _ trivial ?_
        clear hK K ih2 k2 o1
        refine wpMix_one (fun K hK => ?_)
        go_wp2_with fail
        rw [← zeros32_lit, fill32 zeros32_size hTs]
        have o3 : OwnH (w2.alloc (.cells TC 25)) a1 c1 P1 := World.ownsRow.alloc o2 _
        have D3 := blk_new w2 TC 25
        have K3 := K2.alloc (.cells TC 25)
        refine hK _ _ trivial ?_
        clear hK K o2 K2
        refine wpMix_one (fun K hK => ?_)
        go_wp2_with (at_builtin; refine wpList_appH _ rfl (.tmp 19) (.tmp 24) rfl a1 c1 P1 L1 hP1l rfl o3 w2.heap.size T hTl HTC.out rfl D3 (by omega) ?_)
        intro a4 c4 w4 o4 k4 m4
        have K4 := K3.trans k4 (fun i hi hlt => by have := HF1.out i hi; have e : w.drew.heap.size = w.heap.size := rfl; omega)
        have hk3 := K3.size
        rw [World.size_alloc] at hk3
        have f4 := m4.new (B := w.heap.size) hk3 HF1.out
        have HF4 := shut f4
        clear f4 o3 D3 K3 k4 m4 HF1
        go_wp2_with fail
        refine hK _ _ trivial ?_
        clear hK K
        refine wpMix_one (fun K hK => ?_)
        go_wp2_with fail
        refine hK _ _ trivial ?_
        clear hK K
        refine wpMix_nil ?_
        go_wp2_with fail
        go_ret
        exact ⟨a4, c4, by rw [HST.out, List.length_append, List.length_singleton, hP1l]; rfl, by rw [HST.out]; exact o4, K4, HF4.out⟩
      · have hst := pathL_step (l := rows) (i := i) (by omega)
        rw [hn, hk, if_neg hik] at hst
        have hp1 := pathL_32 (rows.drop k).length (rows.drop k) (i - k) (Nat.le_refl _)
        have hp2 := pathL_len (rows.drop k).length (rows.drop k) (i - k) (Nat.le_refl _)
        have ih1 := fun W (K : Keeps Nothing w W) => ih W b (o + k) (n - k) (c - k) (rows.drop k) (i - k) (by omega) hlen2 (by omega) (by omega) (by omega) (by unfold maxLen at *; omega) ((hR.keepsN K).drop k) (fun r hr => hb r (List.mem_of_mem_drop hr)) (by omega)
        have ih2 := fun W (K : Keeps Nothing w W) => rtree_rec k W b o k c (rows.take k) (Nat.le_refl _) hlen1 (by omega) (by omega) (by omega) hcm ((hR.keepsN K).take k) (fun r hr => hb r (List.mem_of_mem_take hr))
        have hTl := treeL_len (l := rows.take k) (by omega)
        obtain ⟨T, hT⟩ : ∃ T, treeL (rows.take k) = T := ⟨_, rfl⟩
        rw [hT] at ih2 hTl hst
        obtain ⟨TC, hTC⟩ : ∃ TC, TC = (T.map byteV).toArray := ⟨_, rfl⟩
        have hTs : TC.size = 32 := by rw [hTC]; simp [hTl]
        rw [show hashV T = .agg TC from by rw [hTC]; rfl] at ih2
        have HTC := shut hTC
        obtain ⟨P1, hP1⟩ : ∃ P1, pathL (rows.drop k) (i - k) = P1 := ⟨_, rfl⟩
        unfold PathPost at ih1
        rw [hP1] at hp1 hp2 hst
        simp only [hP1] at ih1
        obtain ⟨L1, hP1l⟩ : ∃ L1, P1.length = L1 := ⟨_, rfl⟩
        have HST := shut hst
        have m3 : ¬ (i : Int) < k := by omega
        have m4 : (i : Int) - k = ((i - k : Nat) : Int) := by omega
        clear hT hTC hP1 hst hn hk hN hR hb ih hp1
        go_enter Try.func29, Try.ntmps29
        go_wp2_with fail
        refine (hsp _).mono ?_
        rintro e w1 ⟨rfl, hw⟩
        subst w1
        go_wp2_with fail
        refine wp_region_mix (fun _ => True) [(true, 0), (true, 1), (true, 2), (true, 3), (true, 4), (true, 5), (true, 7), (true, 8), (true, 9), (false, 6), (false, 10), (false, 11), (false, 12), (false, 13)] (by kernel_rfl) (by kernel_rfl) trivial ?_
        simp only [mixItems, List.map_cons, List.map_nil, List.getD_cons_zero, List.getD_cons_succ]
        repeat (refine wpMix_free (fun K hK => ?_); go_simp; refine hK _ ?_; clear hK K)
        refine wpMix_one (fun K hK => ?_)
        go_wp2_with fail
        refine (ih1 _ (Keeps.refl _ _).drew).mono ?_
        rintro e w1 ⟨a1, c1, rfl, o1, k1, f1⟩
        have HF1 := shut f1
        clear f1
        rw [hP1l]
        have K1 := (Keeps.refl Nothing w).drew.trans k1 (fun _ h _ => h)
        go_wp2_with fail
        refine hK _ _ trivial ?_
        clear hK K ih1 k1
        refine wpMix_one (fun K hK => ?_)
        go_wp2_with fail
        refine (ih2 _ K1).mono ?_
        rintro e w2 ⟨rfl, k2⟩
        have K2 := K1.trans k2 (fun _ h _ => h)
        have o2 := k2.own o1 (fun _ _ h => h)
        go_wp2_with fail
        refine hK _ _ trivial ?_
        clear hK K ih2 k2 o1
        refine wpMix_one (fun K hK => ?_)
        go_wp2_with fail
        rw [← zeros32_lit, fill32 zeros32_size hTs]
        have o3 : OwnH (w2.alloc (.cells TC 25)) a1 c1 P1 := World.ownsRow.alloc o2 _
        have D3 := blk_new w2 TC 25
        have K3 := K2.alloc (.cells TC 25)
        refine hK _ _ trivial ?_
        clear hK K o2 K2
        refine wpMix_one (fun K hK => ?_)
        go_wp2_with (at_builtin; refine wpList_appH _ rfl (.tmp 32) (.tmp 37) rfl a1 c1 P1 L1 hP1l rfl o3 w2.heap.size T hTl HTC.out rfl D3 (by omega) ?_)
        intro a4 c4 w4 o4 k4 m4
        have K4 := K3.trans k4 (fun i hi hlt => by have := HF1.out i hi; have e : w.drew.heap.size = w.heap.size := rfl; omega)
        have hk3 := K3.size
        rw [World.size_alloc] at hk3
        have f4 := m4.new (B := w.heap.size) hk3 HF1.out
        have HF4 := shut f4
        clear f4 o3 D3 K3 k4 m4 HF1
        go_wp2_with fail
        refine hK _ _ trivial ?_
        clear hK K
        refine wpMix_one (fun K hK => ?_)
        go_wp2_with fail
        refine hK _ _ trivial ?_
        clear hK K
        refine wpMix_nil ?_
        go_wp2_with fail
        go_ret
        exact ⟨a4, c4, by rw [HST.out, List.length_append, List.length_singleton, hP1l]; rfl, by rw [HST.out]; exact o4, K4, HF4.out⟩

theorem rpath_any {w : World} {ao : Option Addr} {n c : Nat} {rows : List (List UInt8)} (hn : rows.length = n) (hn9 : n ≤ 1000000) (hc : n ≤ c) (hcm : c ≤ maxLen) (hR : RowsAt w ao rows) (hb : ∀ r ∈ rows, r.length ≤ 1000) (i : Nat) (hi : i < n) :
    Calls Try.prog 29 #[.slice ao n c, .int .i64 (i : Int)] w (PathPost w rows i) := by
  obtain ⟨b, o, rfl⟩ := hR.head (by omega)
  exact rpath_rec n w b o n c rows i (Nat.le_refl _) hn (by omega) hn9 hc hcm hR hb hi

end Go.Proofs.Ytdmfomjgmmkaeaa
