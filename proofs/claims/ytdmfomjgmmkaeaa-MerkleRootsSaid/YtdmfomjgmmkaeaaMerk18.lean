/- The document's Tree and Root. -/
import Derived.Test.YtdmfomjgmmkaeaaMerk17
namespace Go.Proofs.Ytdmfomjgmmkaeaa
open Go.RowKit

theorem rsum_own {w : World} {ao : Option Addr} {cap : Nat} {bs : List UInt8} (h : Own8 w 5 ao cap bs) (hl : bs.length ≤ 1000000) :
    Calls Try.prog 15 #[.slice ao bs.length cap] w fun e w' => e = .returned (hashV (shaOf bs)) ∧ Keeps Nothing w w' := rsum_any cap rfl (own8_at h) hl

attribute [local go_sem ↓] exec_load_hash exec_store_hash
attribute [local go_sem] rowOk_new World.setRow_alloc_new

set_option maxRecDepth 100000 in
set_option maxHeartbeats 2000000 in
theorem rtree_rec : ∀ (N : Nat) (w : World) (b o n c : Nat) (rows : List (List UInt8)), n ≤ N → rows.length = n → 1 ≤ n → n ≤ 1000000 → n ≤ c → c ≤ maxLen → RowsAt w (some ⟨b, o, none⟩) rows → (∀ r ∈ rows, r.length ≤ 1000) →
    Calls Try.prog 46 #[.slice (some ⟨b, o, none⟩) n c] w fun e w' => e = .returned (hashV (treeL rows)) ∧ Keeps Nothing w w' := by
  intro N
  induction N with
  | zero => intro w b o n c rows hN _ h1; omega
  | succ N ih =>
    intro w b o n c rows hN hn h1 hn9 hc hcm hR hb
    have hcm9 : c ≤ 9223372036854775807 := by unfold maxLen at hcm; omega
    obtain ⟨Z, hZ⟩ : ∃ Z, Z = (zeros32.map byteV).toArray := ⟨_, rfl⟩
    have hZs : Z.size = 32 := by rw [hZ]; rfl
    have hzl := zeros32_lit
    rw [← hZ] at hzl
    clear hZ
    by_cases h2 : n = 1
    · subst h2
      obtain ⟨r, rfl⟩ : ∃ r, rows = [r] := by
        match rows, hn with
        | [r], _ => exact ⟨r, rfl⟩
      obtain ⟨_, ao', cap', hcl, hB, hl1, hl2⟩ := hR.2 _ rfl 0 r rfl
      have hrl := hb r (by simp)
      rw [treeL_one]
      obtain ⟨X, hX, hXv, hXs, hag⟩ := hash_agg (leafB r)
      have HX := shut hX
      rw [hXv]
      have hbl := fun W (K : Keeps Nothing w W) => rleaf_any cap' (n := r.length) rfl (hB.keeps K (fun _ _ h => h)) (by omega)
      have hsum := fun W (ao : Option Addr) (cap : Nat) (ho : Own8 W 5 ao cap (leafB r)) => rsum_own ho (by unfold leafB; simp; omega)
      rw [hXv] at hsum
      generalize leafB r = ND at *
      rw [Addr.add_mid', Nat.add_zero] at hcl
      clear hX hXv hn hN
      go_enter Try.func46, Try.ntmps46
      have K0 := (Keeps.refl Nothing w).alloc (.cells Z 25)
      have hcl0 := K0.cell hcl (fun h => h)
      rw [hzl] at hcl0
      go_wp2_with fail
      rw [← hzl]
      have B0 := blk_new w Z 25
      clear hcl0 hcl
      generalize w.alloc (.cells Z 25) = w0 at *
      generalize hg : w.heap.size = g at *
      have HG := shut hg
      clear hg hzl
      refine (hbl w0 K0).mono ?_
      rintro e w1 ⟨a1, c1, rfl, o1, k1, _⟩
      have B1 := k1.blk B0 (fun h => h)
      have K1 := K0.trans k1 (fun _ h _ => h)
      clear B0 K0 k1 hbl
      go_wp2_with fail
      refine (hsum _ _ _ o1).mono ?_
      rintro e w2 ⟨rfl, k2⟩
      have B2 := k2.blk B1 (fun h => h)
      have K2 := K1.trans k2 (fun _ h _ => h)
      have r2 := rowOk_blk B2 hZs
      clear B1 K1 k2 hsum o1
      go_wp2_with fail
      have b3 := blk_setRow (cs := X) B2
      refine bodyPost_ret (v := .agg X) (results_cell_row rfl _ _ g _ X (0, 0) _ rfl b3 Try.underlying25 rfl (by rw [infoHash, hXs])) rfl ?_
      exact ⟨rfl, K2.setRow (fun h => absurd h (by have := HG.out; omega)) X⟩
    · have hn2 : 2 ≤ n := by omega
      obtain ⟨s0, s1⟩ := splitN_lt hn2
      have hnode := treeL_node (l := rows) (by omega)
      rw [hn] at hnode
      have hsp := fun W => rhalf_any W n hn2 (by omega)
      obtain ⟨k, hk⟩ : ∃ k, splitN n = k := ⟨_, rfl⟩
      rw [hk] at s0 s1 hnode hsp
      have hlen1 : (rows.take k).length = k := by rw [List.length_take]; omega
      have hlen2 : (rows.drop k).length = n - k := by rw [List.length_drop]; omega
      have ih1 := fun W (K : Keeps Nothing w W) => ih W b o k c (rows.take k) (by omega) hlen1 (by omega) (by omega) (by omega) hcm ((hR.keepsN K).take k) (fun r hr => hb r (List.mem_of_mem_take hr))
      have ih2 := fun W (K : Keeps Nothing w W) => ih W b (o + k) (n - k) (c - k) (rows.drop k) (by omega) hlen2 (by omega) (by omega) (by omega) (by unfold maxLen at *; omega) ((hR.keepsN K).drop k) (fun r hr => hb r (List.mem_of_mem_drop hr))
      have hL1 := treeL_len (l := rows.take k) (by omega)
      have hL2 := treeL_len (l := rows.drop k) (by omega)
      obtain ⟨T1, hT1⟩ : ∃ T1, treeL (rows.take k) = T1 := ⟨_, rfl⟩
      obtain ⟨T2, hT2⟩ : ∃ T2, treeL (rows.drop k) = T2 := ⟨_, rfl⟩
      rw [hT1] at ih1 hL1 hnode
      rw [hT2] at ih2 hL2 hnode
      obtain ⟨C1, hC1⟩ : ∃ C1, (T1.map byteV).toArray = C1 := ⟨_, rfl⟩
      obtain ⟨C2, hC2⟩ : ∃ C2, (T2.map byteV).toArray = C2 := ⟨_, rfl⟩
      rw [show hashV T1 = .agg C1 from by rw [← hC1]; rfl] at ih1
      rw [show hashV T2 = .agg C2 from by rw [← hC2]; rfl] at ih2
      have hnd := fun W => rpair_any W hL1 hL2 hC1.symm hC2.symm
      have hto := fun W => rows_to b o n c k (by omega) s0 W
      have hfr := fun W => rows_from b o n c k s1 hc W
      obtain ⟨X, hX, hXv, hXs, hag⟩ := hash_agg (nodeB T1 T2)
      rw [hnode, hXv]
      have hndl : (nodeB T1 T2).length ≤ 1000000 := by unfold nodeB; simp [hL1, hL2]
      have hsum := fun W (ao : Option Addr) (cap : Nat) (ho : Own8 W 5 ao cap (nodeB T1 T2)) => rsum_own ho hndl
      rw [hXv] at hsum
      generalize nodeB T1 T2 = ND at *
      have m1 : ((n : Int) == 1) = false := by rw [beq_eq_false_iff_ne]; omega
      have m2 : ¬ (n : Int) = 1 := by omega
      clear ih hT1 hT2 hC1 hC2 hL1 hL2 hlen1 hlen2 hX hXv hnode hk hndl hR hb hN h2
      go_enter Try.func46, Try.ntmps46
      go_wp2_with fail
      rw [← hzl]
      have B0 := blk_new w Z 25
      have K0 := (Keeps.refl Nothing w).alloc (.cells Z 25)
      generalize w.alloc (.cells Z 25) = w0 at *
      generalize hg : w.heap.size = g at *
      have HG := shut hg
      clear hg hzl
      refine (hsp _).mono ?_
      rintro e w1 ⟨rfl, hw⟩
      subst w1
      go_wp2_with fail
      refine wp_region_mix (fun _ => True) [(true, 0), (true, 1), (true, 2), (true, 4), (true, 5), (true, 6), (false, 3), (false, 7), (false, 8), (false, 9), (false, 10)] (by kernel_rfl) (by kernel_rfl) trivial ?_
      simp only [mixItems, List.map_cons, List.map_nil, List.getD_cons_zero, List.getD_cons_succ]
      repeat (refine wpMix_free (fun K hK => ?_); go_simp; refine hK _ ?_; clear hK K)
      refine wpMix_one (fun K hK => ?_)
      go_wp2_with fail
      refine (ih1 _ K0.drew).mono ?_
      rintro e w1 ⟨rfl, k1⟩
      have B1 := k1.blk (a := w0.drew) B0 (fun h => h)
      have K1 := K0.drew.trans k1 (fun _ h _ => h)
      clear B0 K0 k1 ih1
      go_wp2_with fail
      refine hK _ _ trivial ?_
      clear hK K
      refine wpMix_one (fun K hK => ?_)
      go_wp2_with fail
      refine (ih2 _ K1).mono ?_
      rintro e w2 ⟨rfl, k2⟩
      have B2 := k2.blk B1 (fun h => h)
      have K2 := K1.trans k2 (fun _ h _ => h)
      clear B1 K1 k2 ih2
      go_wp2_with fail
      refine hK _ _ trivial ?_
      clear hK K
      refine wpMix_one (fun K hK => ?_)
      go_wp2_with fail
      refine (hnd _).mono ?_
      rintro e w3 ⟨a3, c3, rfl, o3, k3, _⟩
      have B3 := k3.blk B2 (fun h => h)
      have K3 := K2.trans k3 (fun _ h _ => h)
      clear B2 K2 k3 hnd
      go_wp2_with fail
      refine hK _ _ trivial ?_
      clear hK K
      refine wpMix_one (fun K hK => ?_)
      go_wp2_with fail
      refine (hsum _ _ _ o3).mono ?_
      rintro e w4 ⟨rfl, k4⟩
      have B4 := k4.blk B3 (fun h => h)
      have K4 := K3.trans k4 (fun _ h _ => h)
      clear B3 K3 k4 hsum o3
      go_wp2_with fail
      refine hK _ _ trivial ?_
      clear hK K
      have r4 := rowOk_blk B4 hZs
      refine wpMix_one (fun K hK => ?_)
      go_wp2_with fail
      refine hK _ _ trivial ?_
      clear hK K
      refine wpMix_nil ?_
      go_wp2_with fail
      have b3 := blk_setRow (cs := X) B4
      refine bodyPost_ret (v := .agg X) (results_cell_row rfl _ _ g _ X (0, 0) _ rfl b3 Try.underlying25 rfl (by rw [infoHash, hXs])) rfl ?_
      exact ⟨rfl, K4.setRow (fun h => absurd h (by have := HG.out; omega)) X⟩

theorem rtree_any {w : World} {ao : Option Addr} {n c : Nat} {rows : List (List UInt8)} (hn : rows.length = n) (h1 : 1 ≤ n) (hn9 : n ≤ 1000000) (hc : n ≤ c) (hcm : c ≤ maxLen) (hR : RowsAt w ao rows) (hb : ∀ r ∈ rows, r.length ≤ 1000) :
    Calls Try.prog 46 #[.slice ao n c] w fun e w' => e = .returned (hashV (treeL rows)) ∧ Keeps Nothing w w' := by
  obtain ⟨b, o, rfl⟩ := hR.head (by omega)
  exact rtree_rec n w b o n c rows (Nat.le_refl _) hn h1 hn9 hc hcm hR hb


set_option maxRecDepth 100000 in
set_option maxHeartbeats 2000000 in
theorem rroot_any {w : World} {ao : Option Addr} {n c : Nat} {rows : List (List UInt8)} (hn : rows.length = n) (hn9 : n ≤ 1000000) (hc : n ≤ c) (hcm : c ≤ maxLen) (hR : RowsAt w ao rows) (hb : ∀ r ∈ rows, r.length ≤ 1000) :
    Calls Try.prog 26 #[.slice ao n c] w fun e w' => e = .returned (hashV (rootL rows)) ∧ Keeps Nothing w w' := by
  obtain ⟨Z, hZ⟩ : ∃ Z, Z = (zeros32.map byteV).toArray := ⟨_, rfl⟩
  have hZs : Z.size = 32 := by rw [hZ]; rfl
  have hzl := zeros32_lit
  rw [← hZ] at hzl
  have HZ := shut hZ
  clear hZ
  have hZa : aggOk 32 (.agg Z) = true := by rw [HZ.out]; exact aggOk_agg 32 _ (by rfl) (bytes_all _)
  by_cases h0 : n = 0
  · subst h0
    have e : rootL rows = shaOf (topB 0 []) := by unfold rootL; rw [if_pos hn]
    rw [e]
    obtain ⟨X, hX, hXv, hXs, hag⟩ := hash_agg (topB 0 [])
    rw [hXv]
    have hsum := fun W (ao : Option Addr) (cap : Nat) (ho : Own8 W 5 ao cap (topB 0 [])) => rsum_own ho (by decide)
    rw [hXv] at hsum
    have htop := fun W => rtop_any W 0 (by decide) (l := zeros32) rfl HZ.out (T := []) (by rw [if_pos rfl])
    generalize topB 0 [] = ND at *
    clear hX hXv e hn hR hb
    go_enter Try.func26, Try.ntmps26
    go_wp2_with fail
    rw [← hzl]
    have B0 := blk_new w Z 25
    have K0 := (Keeps.refl Nothing w).alloc (.cells Z 25)
    generalize w.alloc (.cells Z 25) = w0 at *
    generalize hg : w.heap.size = g at *
    have HG := shut hg
    clear hg hzl
    refine (htop w0).mono ?_
    rintro e w1 ⟨a1, c1, rfl, o1, k1, _⟩
    have B1 := k1.blk B0 (fun h => h)
    have K1 := K0.trans k1 (fun _ h _ => h)
    go_wp2_with fail
    refine (hsum _ _ _ o1).mono ?_
    rintro e w2 ⟨rfl, k2⟩
    have B2 := k2.blk B1 (fun h => h)
    have K2 := K1.trans k2 (fun _ h _ => h)
    have r2 := rowOk_blk B2 hZs
    clear B0 K0 B1 K1 k1 k2 hsum htop o1
    go_wp2_with fail
    have b3 := blk_setRow (cs := X) B2
    refine bodyPost_ret (v := .agg X) (results_cell_row rfl _ _ g _ X (0, 0) _ rfl b3 Try.underlying25 rfl (by rw [infoHash, hXs])) rfl ?_
    exact ⟨rfl, K2.setRow (fun h => absurd h (by have := HG.out; omega)) X⟩
  · have e : rootL rows = shaOf (topB n (treeL rows)) := by unfold rootL; rw [if_neg (by omega), hn]
    rw [e]
    have htr := fun W (K : Keeps Nothing w W) => rtree_any (w := W) (c := c) hn (by omega) hn9 hc hcm (hR.keepsN K) hb
    have htl := treeL_len (l := rows) (by omega)
    obtain ⟨T, hT⟩ : ∃ T, treeL rows = T := ⟨_, rfl⟩
    rw [hT] at htr htl ⊢
    obtain ⟨C, hC⟩ : ∃ C, (T.map byteV).toArray = C := ⟨_, rfl⟩
    have hCs : C.size = 32 := by rw [← hC]; simp [htl]
    have hagC : aggOk 32 (.agg C) = true := aggOk_agg 32 C hCs (by rw [← hC]; exact bytes_all _)
    rw [show hashV T = .agg C from by rw [← hC]; rfl] at htr
    have HC := shut hC.symm
    have htop := fun W => rtop_any W n (by omega) htl HC.out (T := T) (by rw [if_neg h0])
    obtain ⟨X, hX, hXv, hXs, hag⟩ := hash_agg (topB n T)
    rw [hXv]
    have hndl : (topB n T).length ≤ 1000000 := by unfold topB; simp [htl, be8_len]
    have hsum := fun W (ao : Option Addr) (cap : Nat) (ho : Own8 W 5 ao cap (topB n T)) => rsum_own ho hndl
    rw [hXv] at hsum
    generalize topB n T = ND at *
    have m1 : ((n : Int) == 0) = false := by rw [beq_eq_false_iff_ne]; omega
    clear hX hXv e hn hR hb hT hC htl hndl
    go_enter Try.func26, Try.ntmps26
    go_wp2_with fail
    rw [← hzl]
    have B0 := blk_new w Z 25
    have K0 := (Keeps.refl Nothing w).alloc (.cells Z 25)
    generalize w.alloc (.cells Z 25) = w0 at *
    generalize hg : w.heap.size = g at *
    have HG := shut hg
    clear hg hzl
    refine (htr w0 K0).mono ?_
    rintro e w1 ⟨rfl, k1⟩
    have B1 := k1.blk B0 (fun h => h)
    have K1 := K0.trans k1 (fun _ h _ => h)
    clear B0 K0 k1 htr
    go_wp2_with fail
    refine (htop w1).mono ?_
    rintro e w2 ⟨a2, c2, rfl, o2, k2, _⟩
    have B2 := k2.blk B1 (fun h => h)
    have K2 := K1.trans k2 (fun _ h _ => h)
    clear B1 K1 k2 htop
    go_wp2_with fail
    refine (hsum _ _ _ o2).mono ?_
    rintro e w3 ⟨rfl, k3⟩
    have B3 := k3.blk B2 (fun h => h)
    have K3 := K2.trans k3 (fun _ h _ => h)
    have r3 := rowOk_blk B3 hZs
    clear B2 K2 k3 hsum o2
    go_wp2_with fail
    have b3 := blk_setRow (cs := X) B3
    refine bodyPost_ret (v := .agg X) (results_cell_row rfl _ _ g _ X (0, 0) _ rfl b3 Try.underlying25 rfl (by rw [infoHash, hXs])) rfl ?_
    exact ⟨rfl, K3.setRow (fun h => absurd h (by have := HG.out; omega)) X⟩

end Go.Proofs.Ytdmfomjgmmkaeaa
