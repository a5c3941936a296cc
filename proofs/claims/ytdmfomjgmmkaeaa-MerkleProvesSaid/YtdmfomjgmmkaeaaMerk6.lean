/- merkle.Prove: the closure. -/
import Derived.Test.YtdmfomjgmmkaeaaMerk5
import Derived.Test.YtdmfomjgmmkaeaaMixT
namespace Go.Proofs.Ytdmfomjgmmkaeaa
open Go.RowKit

attribute [local go_sem ↓] exec_load_hash exec_store_hash
attribute [local go_sem] rowOk_new World.setRow_alloc_new

set_option maxRecDepth 100000 in
set_option maxHeartbeats 2000000 in
theorem down_rec : ∀ (N : Nat) (w0 w : World) (gd gp : Nat) (ix ct : Int) (ao : Option Addr) (cap : Nat) (P : List (List UInt8)) (b o n c i : Nat) (rows : List (List UInt8)),
    n ≤ N → rows.length = n → 1 ≤ n → n ≤ 1000000 → n ≤ c → c ≤ maxLen → i < n → P.length + n ≤ 2000000 → RowsAt w0 (some ⟨b, o, none⟩) rows → (∀ r ∈ rows, r.length ≤ 1000) → PvS w0 w gd gp ix ct ao cap P →
    Calls Try.prog 47 #[.slice (some ⟨b, o, none⟩) n c, .int .i64 (i : Int), .pointer (some ⟨gd, 0, none⟩), .pointer (some ⟨gp, 0, none⟩)] w fun e w' => e = .returned (.tuple #[]) ∧ ∃ ao' cap', PvS w0 w' gd gp ix ct ao' cap' (P ++ pathL rows i) := by
  intro N
  induction N with
  | zero => intro w0 w gd gp ix ct ao cap P b o n c i rows hN _ h1; omega
  | succ N ih =>
    intro w0 w gd gp ix ct ao cap P b o n c i rows hN hn h1 hn9 hc hcm hi hP hR hb S
    have hcm9 : c ≤ 9223372036854775807 := by unfold maxLen at hcm; omega
    by_cases h2 : n = 1
    · subst h2
      rw [pathL_one (by omega), List.append_nil]
      have S' := shut S
      clear ih hR hb S
      go_enter Try.func47, Try.ntmps47
      go_wp2_with fail
      refine bodyPost_ret (v := .tuple #[]) (results_none rfl _ _ _) rfl ?_
      exact ⟨rfl, ao, cap, S'.out⟩
    · have hn2 : 2 ≤ n := by omega
      obtain ⟨s0, s1⟩ := splitN_lt hn2
      have hstep := pathL_step (l := rows) (i := i) (by omega)
      rw [hn] at hstep
      have hsp := fun W => split_any W n hn2 (by omega)
      obtain ⟨k, hk⟩ : ∃ k, splitN n = k := ⟨_, rfl⟩
      rw [hk] at s0 s1 hstep hsp
      have hlen1 : (rows.take k).length = k := by rw [List.length_take]; omega
      have hlen2 : (rows.drop k).length = n - k := by rw [List.length_drop]; omega
      have hb1 : ∀ r ∈ rows.take k, r.length ≤ 1000 := fun r hr => hb r (List.mem_of_mem_take hr)
      have hb2 : ∀ r ∈ rows.drop k, r.length ≤ 1000 := fun r hr => hb r (List.mem_of_mem_drop hr)
      have ih1 := fun (j : Nat) (hj : j < k) (W : World) (ao : Option Addr) (cap : Nat) (S : PvS w0 W gd gp ix ct ao cap P) => ih w0 W gd gp ix ct ao cap P b o k c j (rows.take k) (by omega) hlen1 (by omega) (by omega) (by omega) hcm hj (by omega) (hR.take k) hb1 S
      have ih2 := fun (j : Nat) (hj : j < n - k) (W : World) (ao : Option Addr) (cap : Nat) (S : PvS w0 W gd gp ix ct ao cap P) => ih w0 W gd gp ix ct ao cap P b (o + k) (n - k) (c - k) j (rows.drop k) (by omega) hlen2 (by omega) (by omega) (by omega) (by unfold maxLen at *; omega) hj (by omega) (hR.drop k) hb2 S
      have tr1 := fun W (K : Keeps Nothing w0 W) => tree_any (c := c) hlen1 (by omega) (by omega) (by omega) hcm ((hR.keepsN K).take k) hb1
      have tr2 := fun W (K : Keeps Nothing w0 W) => tree_any (c := c - k) hlen2 (by omega) (by omega) (by omega) (by unfold maxLen at *; omega) ((hR.keepsN K).drop k) hb2
      have hL1 := treeL_len (l := rows.take k) (by omega)
      have hL2 := treeL_len (l := rows.drop k) (by omega)
      have pl1 := fun (j : Nat) => pathL_len k (rows.take k) j (by omega)
      have pl2 := fun (j : Nat) => pathL_len (n - k) (rows.drop k) j (by omega)
      obtain ⟨T1, hT1⟩ : ∃ T1, treeL (rows.take k) = T1 := ⟨_, rfl⟩
      obtain ⟨T2, hT2⟩ : ∃ T2, treeL (rows.drop k) = T2 := ⟨_, rfl⟩
      rw [hT1] at tr1 hL1 hstep
      rw [hT2] at tr2 hL2 hstep
      obtain ⟨C1, hC1⟩ : ∃ C1, (T1.map byteV).toArray = C1 := ⟨_, rfl⟩
      obtain ⟨C2, hC2⟩ : ∃ C2, (T2.map byteV).toArray = C2 := ⟨_, rfl⟩
      rw [show hashV T1 = .agg C1 from by rw [← hC1]; rfl] at tr1
      rw [show hashV T2 = .agg C2 from by rw [← hC2]; rfl] at tr2
      have hC1s : C1.size = 32 := by rw [← hC1]; simp [hL1]
      have hC2s : C2.size = 32 := by rw [← hC2]; simp [hL2]
      have HC1 := shut hC1.symm
      have HC2 := shut hC2.symm
      have hto := fun W => rows_to b o n c k (by omega) s0 W
      have hfr := fun W => rows_from b o n c k s1 hc W
      have m1 : ((n : Int) == 1) = false := by rw [beq_eq_false_iff_ne]; omega
      have m2 : ¬ (n : Int) = 1 := by omega
      have HST := shut hstep
      clear ih hC1 hC2 hT1 hT2 hR hb hN hk hstep h2
      have fn0 := blk_cell S.fn 0 (show (#[downV gd gp] : Array Value)[0]? = some (downV gd gp) from rfl)
      unfold downV at fn0
      by_cases hik : i < k
      · have m3 : (i : Int) < k := by omega
        have hst2 : pathL rows i = pathL (rows.take k) i ++ [T2] := by rw [HST.out, if_pos hik]
        have HS2 := shut hst2
        have pl := pl1 i
        clear ih2 tr1 hst2 pl1 pl2
        go_enter Try.func47, Try.ntmps47
        go_wp2_with fail
        refine (hsp _).mono ?_
        rintro e w1 ⟨rfl, hw⟩
        subst w1
        go_wp2_with fail
        refine wp_region_mix (fun _ => True) [(true, 1), (true, 2), (true, 3), (true, 4), (false, 0), (false, 5)] (by kernel_rfl) (by kernel_rfl) trivial ?_
        simp only [mixItems, List.map_cons, List.map_nil, List.getD_cons_zero, List.getD_cons_succ]
        repeat (refine wpMix_free (fun K hK => ?_); go_simp; refine hK _ ?_; clear hK K)
        refine wpMix_one (fun K hK => ?_)
        go_wp2_with fail
        refine hK _ _ trivial ?_
        clear hK K
        refine wpMix_one (fun K hK => ?_)
        go_wp2_with fail
        refine (ih1 i hik _ _ _ (S.keepsN (Keeps.drew (Keeps.refl _ _)))).mono ?_
        rintro e w1 ⟨rfl, a1, c1, S1⟩
        go_wp2_with fail
        refine hK _ _ trivial ?_
        clear hK K
        refine wpMix_nil ?_
        clear fn0 S
        obtain ⟨P1, hP1⟩ : ∃ P1, P ++ pathL (rows.take k) i = P1 := ⟨_, rfl⟩
        rw [hP1] at S1
        have pl1 : P1.length ≤ 3000000 := by rw [← hP1, List.length_append]; omega
        have hfin : P ++ pathL rows i = P1 ++ [T2] := by rw [HS2.out, ← hP1, List.append_assoc]
        have HFIN := shut hfin
        clear hP1 hfin
        have b0 := blk_cell S1.blk 2 (show (#[.int .i64 ix, .int .i64 ct, .slice a1 P1.length c1] : Array Value)[2]? = some (.slice a1 P1.length c1) from rfl)
        go_wp2_with fail
        refine wp_region_mixT (fun W => W.cell? ⟨gp, 2, none⟩ = some (.slice a1 P1.length c1)) 9 (.take 0 (.take 1 (.take 2 (.take 3 (.take 4 (.one 5 (.one 6 (.one 7 (.take 8 (.one 9 .done)))))))))) (by kernel_rfl) (by kernel_rfl) b0 ?_
        simp only [itemsT, PlanT.map, List.getD_cons_zero, List.getD_cons_succ, Nat.reduceBEq]
        repeat (refine wpMixT_free (fun K hK => ?_); go_simp; refine hK _ ?_; clear hK K)
        refine wpMixT_yield (v := .slice a1 P1.length c1) (fun W hW => ?_) (fun K hK => ?_)
        · go_simp
        go_simp
        refine hK _ ?_
        clear hK K
        repeat (refine wpMixT_free (fun K hK => ?_); go_simp; refine hK _ ?_; clear hK K)
        refine wpMixT_one (fun K hK => ?_)
        go_wp2_with fail
        refine (tr2 _ S1.keep.drew).mono ?_
        rintro e w2 ⟨rfl, k2⟩
        have S2 : PvS w0 w2 gd gp ix ct a1 c1 P1 := (S1.keepsN (Keeps.drew (Keeps.refl _ _))).keepsN k2
        clear S1 k2 b0
        have b0 := blk_cell S2.blk 2 (show (#[.int .i64 ix, .int .i64 ct, .slice a1 P1.length c1] : Array Value)[2]? = some (.slice a1 P1.length c1) from rfl)
        go_wp2_with fail
        refine hK _ _ (.inr b0) ?_
        clear hK K
        refine wpMixT_one (fun K hK => ?_)
        go_wp2_with fail
        rw [← zeros32_lit, fill32 zeros32_size hC2s]
        have S3 : PvS w0 (w2.alloc (.cells C2 25)) gd gp ix ct a1 c1 P1 := S2.keepsN ((Keeps.refl _ _).alloc _)
        have D3 := blk_new w2 C2 25
        clear S2 b0
        generalize w2.alloc (.cells C2 25) = w3 at *
        generalize w2.heap.size = g3 at *
        have b0 := blk_cell S3.blk 2 (show (#[.int .i64 ix, .int .i64 ct, .slice a1 P1.length c1] : Array Value)[2]? = some (.slice a1 P1.length c1) from rfl)
        refine hK _ _ (.inr b0) ?_
        clear hK K
        refine wpMixT_one (fun K hK => ?_)
        refine wpList_appH _ rfl (.tmp 23) (.tmp 28) rfl a1 c1 P1 P1.length rfl rfl S3.own g3 T2 hL2 HC2.out rfl D3 (by omega) ?_
        intro a4 c4 w4 o4 k4 m4
        have S4 := S3.app o4 k4 m4 (n := P1.length + 1) (by simp)
        have b4 := k4.blk S3.blk (ownH_ne S3.own S3.blk (by decide))
        clear b0
        have b0 : w4.cell? ⟨gp, 2, none⟩ = some (.slice a1 P1.length c1) := blk_cell b4 2 rfl
        have f0 := blk_free b4 2
        clear S3 D3 o4 k4 m4 b4
        go_wp2_with fail
        refine hK _ _ (.inr b0) ?_
        clear hK K
        repeat (refine wpMixT_free (fun K hK => ?_); go_simp; refine hK _ ?_; clear hK K)
        refine wpMixT_one (fun K hK => ?_)
        go_wp2_with fail
        refine hK _ _ (.inl trivial) ?_
        clear hK K
        refine wpMixT_done ?_
        go_wp2_with fail
        first | refine bodyPost_ret (v := .tuple #[]) (results_none rfl _ _ _) rfl ?_ | refine bodyPost_end (results_none rfl _ _ _) rfl ?_
        exact ⟨rfl, a4, c4, by rw [HFIN.out]; exact S4⟩
      · have m3 : ¬ (i : Int) < k := by omega
        have hst2 : pathL rows i = pathL (rows.drop k) (i - k) ++ [T1] := by rw [HST.out, if_neg hik]
        have HS2 := shut hst2
        have pl := pl2 (i - k)
        obtain ⟨j, hj⟩ : ∃ j, i - k = j := ⟨_, rfl⟩
        rw [hj] at HS2 pl
        have hij : (i : Int) - (k : Int) = (j : Int) := by omega
        clear ih1 tr2 hst2 pl1 pl2
        go_enter Try.func47, Try.ntmps47
        go_wp2_with fail
        refine (hsp _).mono ?_
        rintro e w1 ⟨rfl, hw⟩
        subst w1
        go_wp2_with fail
        refine wp_region_mix (fun _ => True) [(true, 1), (true, 2), (true, 3), (true, 4), (true, 5), (true, 6), (false, 0), (false, 7)] (by kernel_rfl) (by kernel_rfl) trivial ?_
        simp only [mixItems, List.map_cons, List.map_nil, List.getD_cons_zero, List.getD_cons_succ]
        repeat (refine wpMix_free (fun K hK => ?_); go_simp; refine hK _ ?_; clear hK K)
        refine wpMix_one (fun K hK => ?_)
        go_wp2_with fail
        refine hK _ _ trivial ?_
        clear hK K
        refine wpMix_one (fun K hK => ?_)
        go_wp2_with fail
        refine (ih2 j (by omega) _ _ _ (S.keepsN (Keeps.drew (Keeps.refl _ _)))).mono ?_
        rintro e w1 ⟨rfl, a1, c1, S1⟩
        go_wp2_with fail
        refine hK _ _ trivial ?_
        clear hK K
        refine wpMix_nil ?_
        clear fn0 S
        obtain ⟨P1, hP1⟩ : ∃ P1, P ++ pathL (rows.drop k) j = P1 := ⟨_, rfl⟩
        rw [hP1] at S1
        have pl1 : P1.length ≤ 3000000 := by rw [← hP1, List.length_append]; omega
        have hfin : P ++ pathL rows i = P1 ++ [T1] := by rw [HS2.out, ← hP1, List.append_assoc]
        have HFIN := shut hfin
        clear hP1 hfin
        have b0 := blk_cell S1.blk 2 (show (#[.int .i64 ix, .int .i64 ct, .slice a1 P1.length c1] : Array Value)[2]? = some (.slice a1 P1.length c1) from rfl)
        go_wp2_with fail
        refine wp_region_mixT (fun W => W.cell? ⟨gp, 2, none⟩ = some (.slice a1 P1.length c1)) 9 (.take 0 (.take 1 (.take 2 (.take 3 (.take 4 (.one 5 (.one 6 (.one 7 (.take 8 (.one 9 .done)))))))))) (by kernel_rfl) (by kernel_rfl) b0 ?_
        simp only [itemsT, PlanT.map, List.getD_cons_zero, List.getD_cons_succ, Nat.reduceBEq]
        repeat (refine wpMixT_free (fun K hK => ?_); go_simp; refine hK _ ?_; clear hK K)
        refine wpMixT_yield (v := .slice a1 P1.length c1) (fun W hW => ?_) (fun K hK => ?_)
        · go_simp
        go_simp
        refine hK _ ?_
        clear hK K
        repeat (refine wpMixT_free (fun K hK => ?_); go_simp; refine hK _ ?_; clear hK K)
        refine wpMixT_one (fun K hK => ?_)
        go_wp2_with fail
        refine (tr1 _ S1.keep.drew).mono ?_
        rintro e w2 ⟨rfl, k2⟩
        have S2 : PvS w0 w2 gd gp ix ct a1 c1 P1 := (S1.keepsN (Keeps.drew (Keeps.refl _ _))).keepsN k2
        clear S1 k2 b0
        have b0 := blk_cell S2.blk 2 (show (#[.int .i64 ix, .int .i64 ct, .slice a1 P1.length c1] : Array Value)[2]? = some (.slice a1 P1.length c1) from rfl)
        go_wp2_with fail
        refine hK _ _ (.inr b0) ?_
        clear hK K
        refine wpMixT_one (fun K hK => ?_)
        go_wp2_with fail
        rw [← zeros32_lit, fill32 zeros32_size hC1s]
        have S3 : PvS w0 (w2.alloc (.cells C1 25)) gd gp ix ct a1 c1 P1 := S2.keepsN ((Keeps.refl _ _).alloc _)
        have D3 := blk_new w2 C1 25
        clear S2 b0
        generalize w2.alloc (.cells C1 25) = w3 at *
        generalize w2.heap.size = g3 at *
        have b0 := blk_cell S3.blk 2 (show (#[.int .i64 ix, .int .i64 ct, .slice a1 P1.length c1] : Array Value)[2]? = some (.slice a1 P1.length c1) from rfl)
        refine hK _ _ (.inr b0) ?_
        clear hK K
        refine wpMixT_one (fun K hK => ?_)
        refine wpList_appH _ rfl (.tmp 40) (.tmp 45) rfl a1 c1 P1 P1.length rfl rfl S3.own g3 T1 hL1 HC1.out rfl D3 (by omega) ?_
        intro a4 c4 w4 o4 k4 m4
        have S4 := S3.app o4 k4 m4 (n := P1.length + 1) (by simp)
        have b4 := k4.blk S3.blk (ownH_ne S3.own S3.blk (by decide))
        clear b0
        have b0 : w4.cell? ⟨gp, 2, none⟩ = some (.slice a1 P1.length c1) := blk_cell b4 2 rfl
        have f0 := blk_free b4 2
        clear S3 D3 o4 k4 m4 b4
        go_wp2_with fail
        refine hK _ _ (.inr b0) ?_
        clear hK K
        repeat (refine wpMixT_free (fun K hK => ?_); go_simp; refine hK _ ?_; clear hK K)
        refine wpMixT_one (fun K hK => ?_)
        go_wp2_with fail
        refine hK _ _ (.inl trivial) ?_
        clear hK K
        refine wpMixT_done ?_
        go_wp2_with fail
        first | refine bodyPost_ret (v := .tuple #[]) (results_none rfl _ _ _) rfl ?_ | refine bodyPost_end (results_none rfl _ _ _) rfl ?_
        exact ⟨rfl, a4, c4, by rw [HFIN.out]; exact S4⟩

end Go.Proofs.Ytdmfomjgmmkaeaa
