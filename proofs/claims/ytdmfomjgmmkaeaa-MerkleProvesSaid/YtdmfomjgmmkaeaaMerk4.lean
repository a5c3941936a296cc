/- merkle.Root. -/
import Derived.Test.YtdmfomjgmmkaeaaMerk3
namespace Go.Proofs.Ytdmfomjgmmkaeaa
open Go.RowKit

attribute [local go_sem ↓] exec_load_hash exec_store_hash
attribute [local go_sem] rowOk_new World.setRow_alloc_new

set_option maxRecDepth 100000 in
set_option maxHeartbeats 2000000 in
theorem root_any {w : World} {ao : Option Addr} {n c : Nat} {rows : List (List UInt8)} (hn : rows.length = n) (hn9 : n ≤ 1000000) (hc : n ≤ c) (hcm : c ≤ maxLen) (hR : RowsAt w ao rows) (hb : ∀ r ∈ rows, r.length ≤ 1000) :
    Calls Try.prog 25 #[.slice ao n c] w fun e w' => e = .returned (hashV (rootL rows)) ∧ Keeps Nothing w w' := by
  obtain ⟨Z, hZ⟩ : ∃ Z, Z = (zeros32.map byteV).toArray := ⟨_, rfl⟩
  have hZs : Z.size = 32 := by rw [hZ]; rfl
  have hzl := zeros32_lit
  rw [← hZ] at hzl
  clear hZ
  by_cases h0 : n = 0
  · subst h0
    have e : rootL rows = shaOf (topB 0 []) := by unfold rootL; rw [if_pos hn]
    rw [e]
    obtain ⟨X, hX, hXv, hXs, hag⟩ := hash_agg (topB 0 [])
    rw [hXv]
    have hsum := fun W (ao : Option Addr) (cap : Nat) (ho : Own8 W 5 ao cap (topB 0 [])) => sum_own ho (by decide)
    rw [hXv] at hsum
    have htop := fun W => top_any (w := W) 0 (by decide) (ab := none) 0 (T := []) rfl (bytesAt_nil none) (by decide)
    generalize topB 0 [] = ND at *
    clear hX hXv e hn hR hb
    go_enter Try.func25, Try.ntmps25
    go_wp2_with fail
    rw [← hzl]
    have B0 := blk_new w Z 25
    have K0 := (Keeps.refl Nothing w).alloc (.cells Z 25)
    generalize w.alloc (.cells Z 25) = w0 at *
    generalize hg : w.heap.size = g at *
    have HG := shut hg
    clear hg hzl
    refine (htop w0).mono ?_
    rintro e w1 ⟨a1, c1, rfl, o1, k1, _⟩
    have B1 := k1.blk B0 (fun h => h)
    have K1 := K0.trans k1 (fun _ h _ => h)
    go_wp2_with fail
    refine (hsum _ _ _ o1).mono ?_
    rintro e w2 ⟨rfl, k2⟩
    have B2 := k2.blk B1 (fun h => h)
    have K2 := K1.trans k2 (fun _ h _ => h)
    have r2 := rowOk_blk B2 hZs
    clear B0 K0 B1 K1 k1 k2 hsum htop o1
    go_wp2_with fail
    have b3 := blk_setRow (cs := X) B2
    refine bodyPost_ret (v := .agg X) (results_cell_row rfl _ _ g _ X (0, 0) _ rfl b3 Try.underlying25 rfl (by rw [infoHash, hXs])) rfl ?_
    exact ⟨rfl, K2.setRow (fun h => absurd h (by have := HG.out; omega)) X⟩
  · have e : rootL rows = shaOf (topB n (treeL rows)) := by unfold rootL; rw [if_neg (by omega), hn]
    rw [e]
    have htr := fun W (K : Keeps Nothing w W) => tree_any (w := W) (c := c) hn (by omega) hn9 hc hcm (hR.keepsN K) hb
    have htl := treeL_len (l := rows) (by omega)
    obtain ⟨T, hT⟩ : ∃ T, treeL rows = T := ⟨_, rfl⟩
    rw [hT] at htr htl ⊢
    obtain ⟨C, hC⟩ : ∃ C, (T.map byteV).toArray = C := ⟨_, rfl⟩
    have hCs : C.size = 32 := by rw [← hC]; simp [htl]
    have hagC : aggOk 32 (.agg C) = true := aggOk_agg 32 C hCs (by rw [← hC]; exact bytes_all _)
    rw [show hashV T = .agg C from by rw [← hC]; rfl] at htr
    have HC := shut hC.symm
    have htop := fun W (g : Nat) (hB : Blk W g C 25) => top_any (w := W) n (by omega) 32 htl (bytesAt_blk hB HC.out) (by decide)
    obtain ⟨X, hX, hXv, hXs, hag⟩ := hash_agg (topB n T)
    rw [hXv]
    have hndl : (topB n T).length ≤ 1000000 := by unfold topB; simp [htl, be8_len]
    have hsum := fun W (ao : Option Addr) (cap : Nat) (ho : Own8 W 5 ao cap (topB n T)) => sum_own ho hndl
    rw [hXv] at hsum
    generalize topB n T = ND at *
    have m1 : ((n : Int) == 0) = false := by rw [beq_eq_false_iff_ne]; omega
    have m2 : ¬ (n : Int) = 0 := by omega
    clear hX hXv e hn hR hb hT hC htl hndl h0
    go_enter Try.func25, Try.ntmps25
    go_wp2_with fail
    rw [← hzl]
    have B0 := blk_new w Z 25
    have K0 := (Keeps.refl Nothing w).alloc (.cells Z 25)
    generalize w.alloc (.cells Z 25) = w0 at *
    generalize hg : w.heap.size = g at *
    have HG := shut hg
    clear hg
    refine (htr w0 K0).mono ?_
    rintro e w1 ⟨rfl, k1⟩
    have B1 := k1.blk B0 (fun h => h)
    have K1 := K0.trans k1 (fun _ h _ => h)
    clear B0 K0 k1 htr
    go_wp2_with fail
    have B1' := blk_alloc B1 (.cells C 25)
    have D1 := blk_new w1 C 25
    have K1' := K1.alloc (.cells C 25)
    clear B1 K1
    generalize w1.alloc (.cells C 25) = w1' at *
    generalize w1.heap.size = g1 at *
    refine (htop _ _ D1).mono ?_
    rintro e w2 ⟨a1, c1, rfl, o1, k1, _⟩
    have B2 := k1.blk B1' (fun h => h)
    have K2 := K1'.trans k1 (fun _ h _ => h)
    clear B1' K1' k1 htop D1
    go_wp2_with fail
    refine (hsum _ _ _ o1).mono ?_
    rintro e w3 ⟨rfl, k2⟩
    have B3 := k2.blk B2 (fun h => h)
    have K3 := K2.trans k2 (fun _ h _ => h)
    have r2 := rowOk_blk B3 hZs
    clear B2 K2 k2 hsum o1
    go_wp2_with fail
    have b3 := blk_setRow (cs := X) B3
    refine bodyPost_ret (v := .agg X) (results_cell_row rfl _ _ g _ X (0, 0) _ rfl b3 Try.underlying25 rfl (by rw [infoHash, hXs])) rfl ?_
    exact ⟨rfl, K3.setRow (fun h => absurd h (by have := HG.out; omega)) X⟩

end Go.Proofs.Ytdmfomjgmmkaeaa
