/- merkle.tree, Root. -/
import Derived.Test.YtdmfomjgmmkaeaaMerk2
namespace Go.Proofs.Ytdmfomjgmmkaeaa
open Go.RowKit

theorem size41 (w : World) : (sizeOf (Try.prog.elem 41)).run Try.prog w = .ok 1 w := by kernel_rfl
theorem rows_from (b o n c k : Nat) (hk : k < n) (hc : n ≤ c) (W : World) : (Instr.slice 41 (.slice (some ⟨b, o, none⟩) n c) (some (.int .i64 (k : Int))) none none).run Try.prog W = .ok (.slice (some ⟨b, o + k, none⟩) (n - k) (c - k)) W := by
  rw [run_slice_l W 41 (some ⟨b, o, none⟩) n c (by exact Try.underlying41) .i64 k (by omega) (by omega), size41]
  have : ¬ c = k := by omega
  simp [Result.andThen, sliced, this, Addr.add_mid']
theorem rows_to (b o n c k : Nat) (hk : k ≤ c) (hk0 : 0 < k) (W : World) : (Instr.slice 41 (.slice (some ⟨b, o, none⟩) n c) none (some (.int .i64 (k : Int))) none).run Try.prog W = .ok (.slice (some ⟨b, o, none⟩) k c) W := by
  rw [run_slice_h W 41 (some ⟨b, o, none⟩) n c (by exact Try.underlying41) .i64 k (by omega) (by omega), size41]
  have : ¬ c = 0 := by omega
  simp [Result.andThen, sliced, this, Addr.add_mid']
theorem RowsAt.take {w : World} {ao : Option Addr} {rows : List (List UInt8)} (h : RowsAt w ao rows) (k : Nat) : RowsAt w ao (rows.take k) :=
  ⟨fun e => by rw [h.1 e]; simp, fun a e i l hi => h.2 a e i l (by rw [List.getElem?_take] at hi; split at hi; exact hi; cases hi)⟩
theorem RowsAt.drop {w : World} {b o : Nat} {rows : List (List UInt8)} (h : RowsAt w (some ⟨b, o, none⟩) rows) (k : Nat) : RowsAt w (some ⟨b, o + k, none⟩) (rows.drop k) := by
  refine ⟨fun e => (by cases e), fun a e i l hi => ?_⟩
  obtain rfl := Option.some.inj e
  rw [List.getElem?_drop] at hi
  obtain ⟨_, ao', cap', h1, h2⟩ := h.2 _ rfl (k + i) l hi
  refine ⟨rfl, ao', cap', ?_, h2⟩
  rw [Addr.add_mid'] at h1 ⊢
  rw [Nat.add_assoc]
  exact h1
theorem RowsAt.head {w : World} {ao : Option Addr} {rows : List (List UInt8)} (h : RowsAt w ao rows) (h1 : 1 ≤ rows.length) : ∃ b o, ao = some ⟨b, o, none⟩ := by
  cases ao with
  | none => rw [h.1 rfl] at h1; simp at h1
  | some a =>
    obtain ⟨hs, _⟩ := h.2 a rfl 0 rows[0] (List.getElem?_eq_getElem (by omega))
    obtain ⟨b, o, s⟩ := a
    simp only at hs
    subst hs
    exact ⟨b, o, rfl⟩

attribute [local go_sem ↓] exec_load_hash exec_store_hash
attribute [local go_sem] rowOk_new World.setRow_alloc_new

theorem hash_agg (bs : List UInt8) : ∃ X : Array Value, X = ((shaOf bs).map byteV).toArray ∧ hashV (shaOf bs) = .agg X ∧ X.size = 32 ∧ aggOk 32 (.agg X) = true :=
  ⟨_, rfl, rfl, by simp [sha_len], aggOk_agg 32 _ (by simp [sha_len]) (bytes_all _)⟩

set_option maxRecDepth 100000 in
set_option maxHeartbeats 2000000 in
theorem tree_rec : ∀ (N : Nat) (w : World) (b o n c : Nat) (rows : List (List UInt8)), n ≤ N → rows.length = n → 1 ≤ n → n ≤ 1000000 → n ≤ c → c ≤ maxLen → RowsAt w (some ⟨b, o, none⟩) rows → (∀ r ∈ rows, r.length ≤ 1000) →
    Calls Try.prog 44 #[.slice (some ⟨b, o, none⟩) n c] w fun e w' => e = .returned (hashV (treeL rows)) ∧ Keeps Nothing w w' := by
  intro N
  induction N with
  | zero => intro w b o n c rows hN _ h1; omega
  | succ N ih =>
    intro w b o n c rows hN hn h1 hn9 hc hcm hR hb
    have hcm9 : c ≤ 9223372036854775807 := by unfold maxLen at hcm; omega
    obtain ⟨Z, hZ⟩ : ∃ Z, Z = (zeros32.map byteV).toArray := ⟨_, rfl⟩
    have hZs : Z.size = 32 := by rw [hZ]; rfl
    have hzl := zeros32_lit
    rw [← hZ] at hzl
    clear hZ
    by_cases h2 : n = 1
    · subst h2
      obtain ⟨r, rfl⟩ : ∃ r, rows = [r] := by
        match rows, hn with
        | [r], _ => exact ⟨r, rfl⟩
      obtain ⟨_, ao', cap', hcl, hB, hl1, hl2⟩ := hR.2 _ rfl 0 r rfl
      have hrl := hb r (by simp)
      rw [treeL_one]
      obtain ⟨X, hX, hXv, hXs, hag⟩ := hash_agg (leafB r)
      have HX := shut hX
      rw [hXv]
      have hbl := fun W (K : Keeps Nothing w W) => bigleaf_any cap' (n := r.length) rfl (hB.keeps K (fun _ _ h => h)) hrl
      rw [hXv] at hbl
      rw [Addr.add_mid', Nat.add_zero] at hcl
      clear hX hXv hn hN
      go_enter Try.func44, Try.ntmps44
      have K0 := (Keeps.refl Nothing w).alloc (.cells Z 25)
      have hcl0 := K0.cell hcl (fun h => h)
      rw [hzl] at hcl0
      go_wp2_with fail
      rw [← hzl]
      have B0 := blk_new w Z 25
      clear hcl0 hcl
      generalize w.alloc (.cells Z 25) = w0 at *
      generalize hg : w.heap.size = g at *
      have HG := shut hg
      clear hg hzl
      refine (hbl w0 K0).mono ?_
      rintro e w2 ⟨rfl, k2⟩
      have B2 := k2.blk B0 (fun h => h)
      have K2 := K0.trans k2 (fun _ h _ => h)
      have r2 := rowOk_blk B2 hZs
      clear B0 K0 k2 hbl
      go_wp2_with fail
      have b3 := blk_setRow (cs := X) B2
      refine bodyPost_ret (v := .agg X) (results_cell_row rfl _ _ g _ X (0, 0) _ rfl b3 Try.underlying25 rfl (by rw [infoHash, hXs])) rfl ?_
      exact ⟨rfl, K2.setRow (fun h => absurd h (by have := HG.out; omega)) X⟩
    · have hn2 : 2 ≤ n := by omega
      obtain ⟨s0, s1⟩ := splitN_lt hn2
      have hnode := treeL_node (l := rows) (by omega)
      rw [hn] at hnode
      have hsp := fun W => split_any W n hn2 (by omega)
      obtain ⟨k, hk⟩ : ∃ k, splitN n = k := ⟨_, rfl⟩
      rw [hk] at s0 s1 hnode hsp
      have hlen1 : (rows.take k).length = k := by rw [List.length_take]; omega
      have hlen2 : (rows.drop k).length = n - k := by rw [List.length_drop]; omega
      have ih1 := fun W (K : Keeps Nothing w W) => ih W b o k c (rows.take k) (by omega) hlen1 (by omega) (by omega) (by omega) hcm ((hR.keepsN K).take k) (fun r hr => hb r (List.mem_of_mem_take hr))
      have ih2 := fun W (K : Keeps Nothing w W) => ih W b (o + k) (n - k) (c - k) (rows.drop k) (by omega) hlen2 (by omega) (by omega) (by omega) (by unfold maxLen at *; omega) ((hR.keepsN K).drop k) (fun r hr => hb r (List.mem_of_mem_drop hr))
      have hL1 := treeL_len (l := rows.take k) (by omega)
      have hL2 := treeL_len (l := rows.drop k) (by omega)
      obtain ⟨T1, hT1⟩ : ∃ T1, treeL (rows.take k) = T1 := ⟨_, rfl⟩
      obtain ⟨T2, hT2⟩ : ∃ T2, treeL (rows.drop k) = T2 := ⟨_, rfl⟩
      rw [hT1] at ih1 hL1 hnode
      rw [hT2] at ih2 hL2 hnode
      obtain ⟨C1, hC1⟩ : ∃ C1, (T1.map byteV).toArray = C1 := ⟨_, rfl⟩
      obtain ⟨C2, hC2⟩ : ∃ C2, (T2.map byteV).toArray = C2 := ⟨_, rfl⟩
      rw [show hashV T1 = .agg C1 from by rw [← hC1]; rfl] at ih1
      rw [show hashV T2 = .agg C2 from by rw [← hC2]; rfl] at ih2
      have hnd := fun W => node_any W hL1 hL2 hC1 hC2
      have hto := fun W => rows_to b o n c k (by omega) s0 W
      have hfr := fun W => rows_from b o n c k s1 hc W
      obtain ⟨X, hX, hXv, hXs, hag⟩ := hash_agg (nodeB T1 T2)
      rw [hnode, hXv]
      have hndl : (nodeB T1 T2).length ≤ 1000000 := by unfold nodeB; simp [hL1, hL2]
      have hsum := fun W (ao : Option Addr) (cap : Nat) (ho : Own8 W 5 ao cap (nodeB T1 T2)) => sum_own ho hndl
      rw [hXv] at hsum
      generalize nodeB T1 T2 = ND at *
      have m1 : ((n : Int) == 1) = false := by rw [beq_eq_false_iff_ne]; omega
      have m2 : ¬ (n : Int) = 1 := by omega
      clear ih hT1 hT2 hC1 hC2 hL1 hL2 hlen1 hlen2 hX hXv hnode hk hndl hR hb hN h2
      go_enter Try.func44, Try.ntmps44
      go_wp2_with fail
      rw [← hzl]
      have B0 := blk_new w Z 25
      have K0 := (Keeps.refl Nothing w).alloc (.cells Z 25)
      generalize w.alloc (.cells Z 25) = w0 at *
      generalize hg : w.heap.size = g at *
      have HG := shut hg
      clear hg hzl
      refine (hsp _).mono ?_
      rintro e w1 ⟨rfl, hw⟩
      subst w1
      go_wp2_with fail
      refine wp_region_mix (fun _ => True) [(true, 0), (true, 1), (true, 2), (true, 4), (true, 5), (true, 6), (false, 3), (false, 7), (false, 8), (false, 9), (false, 10)] (by kernel_rfl) (by kernel_rfl) trivial ?_
      simp only [mixItems, List.map_cons, List.map_nil, List.getD_cons_zero, List.getD_cons_succ]
      repeat (refine wpMix_free (fun K hK => ?_); go_simp; refine hK _ ?_; clear hK K)
      refine wpMix_one (fun K hK => ?_)
      go_wp2_with fail
      refine (ih1 _ K0.drew).mono ?_
      rintro e w1 ⟨rfl, k1⟩
      have B1 := k1.blk (a := w0.drew) B0 (fun h => h)
      have K1 := K0.drew.trans k1 (fun _ h _ => h)
      clear B0 K0 k1 ih1
      go_wp2_with fail
      refine hK _ _ trivial ?_
      clear hK K
      refine wpMix_one (fun K hK => ?_)
      go_wp2_with fail
      refine (ih2 _ K1).mono ?_
      rintro e w2 ⟨rfl, k2⟩
      have B2 := k2.blk B1 (fun h => h)
      have K2 := K1.trans k2 (fun _ h _ => h)
      clear B1 K1 k2 ih2
      go_wp2_with fail
      refine hK _ _ trivial ?_
      clear hK K
      refine wpMix_one (fun K hK => ?_)
      go_wp2_with fail
      refine (hnd _).mono ?_
      rintro e w3 ⟨a3, c3, rfl, o3, k3, _⟩
      have B3 := k3.blk B2 (fun h => h)
      have K3 := K2.trans k3 (fun _ h _ => h)
      clear B2 K2 k3 hnd
      go_wp2_with fail
      refine hK _ _ trivial ?_
      clear hK K
      refine wpMix_one (fun K hK => ?_)
      go_wp2_with fail
      refine (hsum _ _ _ o3).mono ?_
      rintro e w4 ⟨rfl, k4⟩
      have B4 := k4.blk B3 (fun h => h)
      have K4 := K3.trans k4 (fun _ h _ => h)
      clear B3 K3 k4 hsum o3
      go_wp2_with fail
      refine hK _ _ trivial ?_
      clear hK K
      have r4 := rowOk_blk B4 hZs
      refine wpMix_one (fun K hK => ?_)
      go_wp2_with fail
      refine hK _ _ trivial ?_
      clear hK K
      refine wpMix_nil ?_
      go_wp2_with fail
      have b3 := blk_setRow (cs := X) B4
      refine bodyPost_ret (v := .agg X) (results_cell_row rfl _ _ g _ X (0, 0) _ rfl b3 Try.underlying25 rfl (by rw [infoHash, hXs])) rfl ?_
      exact ⟨rfl, K4.setRow (fun h => absurd h (by have := HG.out; omega)) X⟩

theorem tree_any {w : World} {ao : Option Addr} {n c : Nat} {rows : List (List UInt8)} (hn : rows.length = n) (h1 : 1 ≤ n) (hn9 : n ≤ 1000000) (hc : n ≤ c) (hcm : c ≤ maxLen) (hR : RowsAt w ao rows) (hb : ∀ r ∈ rows, r.length ≤ 1000) :
    Calls Try.prog 44 #[.slice ao n c] w fun e w' => e = .returned (hashV (treeL rows)) ∧ Keeps Nothing w w' := by
  obtain ⟨b, o, rfl⟩ := hR.head (by omega)
  exact tree_rec n w b o n c rows (Nat.le_refl _) hn h1 hn9 hc hcm hR hb

end Go.Proofs.Ytdmfomjgmmkaeaa
