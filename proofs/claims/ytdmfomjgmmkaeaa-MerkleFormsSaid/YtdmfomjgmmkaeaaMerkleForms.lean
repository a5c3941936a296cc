/- usufructlaw5.MerkleForms: for any leaves, any place, any sum the law returns true; no condition. -/
import Derived.Test.YtdmfomjgmmkaeaaRows
import Derived.Test.YtdmfomjgmmkaeaaMerk15
import Derived.ProofKit
import Derived.OpenShut
import Derived.ShutString
import Derived.ChangeOld
import Derived.Below
namespace Go.Proofs.Ytdmfomjgmmkaeaa.merkleForms
open Go.ChangeShapes Go.WideShapes Go.ChangeAt Go.RowKit
open Go.ChangeMaps (open_string shut_string)

theorem own : ownKnob Try.prog.godebug = none := by kernel_rfl
theorem laidOut : laidOutB Try.prog = true := by kernel_rfl


attribute [local go_sem ↓] exec_mid_hash exec_load_hash exec_store_hash exec_store_proof
attribute [local go_sem] rowOk_new World.setRow_alloc_new aggOk_proof

set_option maxRecDepth 100000 in
set_option maxHeartbeats 4000000 in
theorem walk (w : World) {ao : Option Addr} {n c : Nat} {rows : List (List UInt8)} (hn : rows.length = n) (hc : n ≤ c) (hcm : c ≤ maxLen) (hR : RowsAt w ao rows) (i : Int) {h : List UInt8} (hh : h.length = 32) :
    Calls Try.prog 10 #[.slice ao n c, .int .i64 i, hashV h] w (SaysTrue w) := by
  obtain ⟨HV, hHV⟩ : ∃ HV, HV = (h.map byteV).toArray := ⟨_, rfl⟩
  have hHs : HV.size = 32 := by rw [hHV]; simp [hh]
  have hHa : aggOk 32 (.agg HV) = true := by rw [hHV]; exact aggOk_agg 32 _ (by simp [hh]) (bytes_all h)
  unfold hashV
  rw [← hHV]
  have HHV := shut hHV
  clear hHV
  go_enter Try.func10, Try.ntmps10
  go_wp2_with fail
  refine (few_any (c := c) hn (hR.keepsN ((Keeps.refl Nothing w).alloc (.cells HV 25)))).mono ?_
  rintro e w1 ⟨r, rfl, hr, k1⟩
  have B1 := k1.blk (blk_new w HV 25) (fun h => h)
  have K1 := ((Keeps.refl Nothing w).alloc (.cells HV 25)).trans k1 (fun _ h _ => h)
  clear k1
  cases r
  · go_wp2_with fail
    refine (told5_any _).mono ?_
    rintro e w2 ⟨rfl, k2⟩
    go_wp2_with fail
    go_ret
    exact ⟨rfl, K1.trans k2 (fun _ h _ => h)⟩
  · obtain ⟨hr1, hr2⟩ := hr rfl
    rw [hn] at hr1
    clear hr
    by_cases hn0 : n = 0
    · subst hn0
      go_wp2_with fail
      refine (told5_any _).mono ?_
      rintro e w2 ⟨rfl, k2⟩
      go_wp2_with fail
      go_ret
      exact ⟨rfl, K1.trans k2 (fun _ h _ => h)⟩
    · have m1 : ((n : Int) == 0) = false := by rw [beq_eq_false_iff_ne]; omega
      obtain ⟨x, k, hx, hx1, hx2, hk, hkn⟩ := place_ex i hn0
      go_wp2_with fail
      obtain ⟨b, o, rfl⟩ := hR.head (by omega)
      obtain ⟨xb, hxb⟩ : ∃ xb, rows[k]? = some xb := ⟨rows[k]'(by omega), by rw [List.getElem?_eq_getElem (by omega)]⟩
      have hxl : xb.length ≤ 100 := hr2 xb (List.mem_of_getElem? hxb)
      have hb : ∀ r ∈ rows, r.length ≤ 1000 := fun r hr => by have := hr2 r hr; omega
      refine (prove_any (w := w1) (c := c) hn (by omega) hc hcm (hR.keepsN K1) hb (k : Int)).mono ?_
      rintro e w2 ⟨hp, -⟩
      obtain ⟨a2, c2, rfl, o2, k2, -⟩ := hp ⟨by omega, by rw [hn]; omega⟩
      rw [Int.toNat_natCast] at o2 ⊢
      rw [hn]
      obtain ⟨L, hL⟩ : ∃ L, (pathL rows k).length = L := ⟨_, rfl⟩
      have h32 := pathL_32 rows.length rows k (Nat.le_refl _)
      have hLn := pathL_len rows.length rows k (Nat.le_refl _)
      have hlen : L = pathLen n k := by rw [← hL, pathL_length, hn]
      have HLEN := shut hlen
      clear hlen
      have P2 := ownH_at o2 h32
      obtain ⟨q1, q2⟩ := ownH_cap o2
      clear hp
      generalize pathL rows k = path at *
      rw [hL] at q1 hLn ⊢
      unfold proofV
      have B2 := k2.blk B1 (fun h => h)
      have K2 := K1.trans k2 (fun _ h _ => h)
      clear B1 K1 k2 o2 m1 hx hx1 hx2 hk
      go_wp2_with fail
      have K3 := K2.alloc (.cells #[.int .i64 (k : Int), .int .i64 (n : Int), .slice a2 L c2] 46)
      have P3 := blk_new w2 #[.int .i64 (k : Int), .int .i64 (n : Int), .slice a2 L c2] 46
      have B3 := blk_alloc B2 (.cells #[.int .i64 (k : Int), .int .i64 (n : Int), .slice a2 L c2] 46)
      have Q3 := P2.keepsN ((Keeps.refl Nothing w2).alloc (.cells #[.int .i64 (k : Int), .int .i64 (n : Int), .slice a2 L c2] 46))
      have hgp : w.heap.size ≤ w2.heap.size := K2.size
      clear B2 K2 P2
      generalize w2.alloc (.cells #[.int .i64 (k : Int), .int .i64 (n : Int), .slice a2 L c2] 46) = w3 at *
      generalize w2.heap.size = gp at *
      obtain ⟨RT, hRT⟩ : ∃ RT, RT = ((rootL rows).map byteV).toArray := ⟨_, rfl⟩
      have hrl : (rootL rows).length = 32 := by unfold rootL; split <;> exact sha_len _
      have hRs : RT.size = 32 := by rw [hRT]; simp [hrl]
      have hRa : aggOk 32 (.agg RT) = true := by rw [hRT]; exact aggOk_agg 32 _ (by simp [hrl]) (bytes_all _)
      refine (root_any (w := w3) (c := c) hn (by omega) hc hcm (hR.keepsN K3) hb).mono ?_
      rintro e w4 ⟨rfl, k4⟩
      rw [show hashV (rootL rows) = .agg RT from by rw [hRT]; rfl]
      have HRT := shut hRT
      have K4 := K3.trans k4 (fun _ h _ => h)
      have P4 := k4.blk P3 (fun h => h)
      have B4 := k4.blk B3 (fun h => h)
      have Q4 := Q3.keepsN k4
      clear K3 P3 B3 Q3 k4 hRT
      go_wp2_with fail
      have K5 := K4.alloc (.cells RT 25)
      have P5 := blk_alloc P4 (.cells RT 25)
      have B5 := blk_alloc B4 (.cells RT 25)
      have R5 := blk_new w4 RT 25
      have Q5 := Q4.keepsN ((Keeps.refl Nothing w4).alloc (.cells RT 25))
      have hgr : w.heap.size ≤ w4.heap.size := K4.size
      clear K4 P4 B4 Q4
      generalize w4.alloc (.cells RT 25) = w5 at *
      generalize w4.heap.size = gr at *
      refine wp_region_mixG (fun V => Keeps Nothing w5 V) 100 (.take 0 (.take 1 (.take 2 (.grp [3, 4, 5] [[(0, 0), (0, 1), (0, 2)], [(1, 1), (1, 2), (2, 0), (2, 2), (4, 0), (4, 1)], [(3, 2), (5, 1), (6, 0)]] (.one 6 (.one 7 (.one 8 .done))))))) (by kernel_rfl) (by kernel_rfl) (Keeps.refl _ _).drew ?_
      simp only [itemsG, PlanG.map, List.map_cons, List.map_nil, List.getD_cons_zero, List.getD_cons_succ, Nat.reduceBEq]
      refine wpMixG_yield (v := .agg #[.int .i64 (k : Int), .int .i64 (n : Int), .slice a2 L c2]) (fun V hV => ?_) (fun K hK => ?_)
      · have y1 := hV.cell (blk_cell P5 0 rfl) (fun h => h)
        have y2 := hV.cell (blk_cell P5 1 rfl) (fun h => h)
        have y3 := hV.cell (blk_cell P5 2 rfl) (fun h => h)
        go_simp
      go_simp
      refine hK _ ?_
      clear hK K
      refine wpMixG_yield (v := .agg #[.int .i64 (k : Int), .int .i64 (n : Int), .slice a2 L c2]) (fun V hV => ?_) (fun K hK => ?_)
      · have y1 := hV.cell (blk_cell P5 0 rfl) (fun h => h)
        have y2 := hV.cell (blk_cell P5 1 rfl) (fun h => h)
        have y3 := hV.cell (blk_cell P5 2 rfl) (fun h => h)
        go_simp
      go_simp
      refine hK _ ?_
      clear hK K
      refine wpMixG_yield (v := .agg #[.int .i64 (k : Int), .int .i64 (n : Int), .slice a2 L c2]) (fun V hV => ?_) (fun K hK => ?_)
      · have y1 := hV.cell (blk_cell P5 0 rfl) (fun h => h)
        have y2 := hV.cell (blk_cell P5 1 rfl) (fun h => h)
        have y3 := hV.cell (blk_cell P5 2 rfl) (fun h => h)
        go_simp
      go_simp
      refine hK _ ?_
      clear hK K
      refine wpMixG_grp (fun a0 m a V => match m with | 0 => a = a0 | 1 => ∃ g0, a = (a0.put (some 11) (.pointer (some ⟨g0, 0, none⟩))) ∧ (Blk V g0 #[.int .i64 0, .int .i64 0, .slice none 0 0] 46 ∧ w5.heap.size ≤ g0) | 2 => ∃ g1, a = (a0.put (some 12) (.pointer (some ⟨g1, 0, none⟩))) ∧ (Blk V g1 #[.int .i64 0, .int .i64 0, .slice none 0 0] 46 ∧ w5.heap.size ≤ g1) | 3 => ∃ g0 g1, a = ((a0.put (some 11) (.pointer (some ⟨g0, 0, none⟩))).put (some 12) (.pointer (some ⟨g1, 0, none⟩))) ∧ (Blk V g0 #[.int .i64 0, .int .i64 0, .slice none 0 0] 46 ∧ w5.heap.size ≤ g0) ∧ (Blk V g1 #[.int .i64 0, .int .i64 0, .slice none 0 0] 46 ∧ w5.heap.size ≤ g1) ∧ g0 ≠ g1 | 4 => ∃ g2, a = (a0.put (some 13) (.pointer (some ⟨g2, 0, none⟩))) ∧ (Blk V g2 #[.int .i64 0, .int .i64 0, .slice none 0 0] 46 ∧ w5.heap.size ≤ g2) | 5 => ∃ g0 g2, a = ((a0.put (some 11) (.pointer (some ⟨g0, 0, none⟩))).put (some 13) (.pointer (some ⟨g2, 0, none⟩))) ∧ (Blk V g0 #[.int .i64 0, .int .i64 0, .slice none 0 0] 46 ∧ w5.heap.size ≤ g0) ∧ (Blk V g2 #[.int .i64 0, .int .i64 0, .slice none 0 0] 46 ∧ w5.heap.size ≤ g2) ∧ g0 ≠ g2 | 6 => ∃ g1 g2, a = ((a0.put (some 12) (.pointer (some ⟨g1, 0, none⟩))).put (some 13) (.pointer (some ⟨g2, 0, none⟩))) ∧ (Blk V g1 #[.int .i64 0, .int .i64 0, .slice none 0 0] 46 ∧ w5.heap.size ≤ g1) ∧ (Blk V g2 #[.int .i64 0, .int .i64 0, .slice none 0 0] 46 ∧ w5.heap.size ≤ g2) ∧ g1 ≠ g2 | _ => ∃ g0 g1 g2, a = (((a0.put (some 11) (.pointer (some ⟨g0, 0, none⟩))).put (some 12) (.pointer (some ⟨g1, 0, none⟩))).put (some 13) (.pointer (some ⟨g2, 0, none⟩))) ∧ (Blk V g0 #[.int .i64 0, .int .i64 0, .slice none 0 0] 46 ∧ w5.heap.size ≤ g0) ∧ (Blk V g1 #[.int .i64 0, .int .i64 0, .slice none 0 0] 46 ∧ w5.heap.size ≤ g1) ∧ (Blk V g2 #[.int .i64 0, .int .i64 0, .slice none 0 0] 46 ∧ w5.heap.size ≤ g2) ∧ g0 ≠ g1 ∧ g0 ≠ g2 ∧ g1 ≠ g2) rfl (fun K hK => ⟨?_, ?_, ?_, ?_, ?_, ?_, ?_, ?_, ?_, ?_, ?_, ?_, trivial⟩) ?_
      · intro a' V hS hI
        obtain rfl := hI
        have hsz := hS.size
        go_wp2_with fail
        refine hK 1 _ _ (hS.alloc _) ?_
        exact ⟨V.heap.size, rfl, ⟨blk_new V _ _, hsz⟩⟩
      · intro a' V hS hI
        obtain rfl := hI
        have hsz := hS.size
        go_wp2_with fail
        refine hK 2 _ _ (hS.alloc _) ?_
        exact ⟨V.heap.size, rfl, ⟨blk_new V _ _, hsz⟩⟩
      · intro a' V hS hI
        obtain rfl := hI
        have hsz := hS.size
        go_wp2_with fail
        refine hK 4 _ _ (hS.alloc _) ?_
        exact ⟨V.heap.size, rfl, ⟨blk_new V _ _, hsz⟩⟩
      · intro a' V hS hI
        obtain ⟨g0, rfl, ⟨B0, l0⟩⟩ := hI
        have hsz := hS.size
        go_wp2_with fail
        refine hK 3 _ _ (hS.alloc _) ?_
        exact ⟨g0, V.heap.size, rfl, ⟨blk_alloc B0 _, l0⟩, ⟨blk_new V _ _, hsz⟩, (by have := lt_of_block B0; omega)⟩
      · intro a' V hS hI
        obtain ⟨g0, rfl, ⟨B0, l0⟩⟩ := hI
        have hsz := hS.size
        go_wp2_with fail
        refine hK 5 _ _ (hS.alloc _) ?_
        exact ⟨g0, V.heap.size, rfl, ⟨blk_alloc B0 _, l0⟩, ⟨blk_new V _ _, hsz⟩, (by have := lt_of_block B0; omega)⟩
      · intro a' V hS hI
        obtain ⟨g1, rfl, ⟨B1, l1⟩⟩ := hI
        have hsz := hS.size
        go_wp2_with fail
        refine hK 3 _ _ (hS.alloc _) ?_
        exact ⟨V.heap.size, g1, rfl, ⟨blk_new V _ _, hsz⟩, ⟨blk_alloc B1 _, l1⟩, (by have := lt_of_block B1; omega)⟩
      · intro a' V hS hI
        obtain ⟨g1, rfl, ⟨B1, l1⟩⟩ := hI
        have hsz := hS.size
        go_wp2_with fail
        refine hK 6 _ _ (hS.alloc _) ?_
        exact ⟨g1, V.heap.size, rfl, ⟨blk_alloc B1 _, l1⟩, ⟨blk_new V _ _, hsz⟩, (by have := lt_of_block B1; omega)⟩
      · intro a' V hS hI
        obtain ⟨g2, rfl, ⟨B2, l2⟩⟩ := hI
        have hsz := hS.size
        go_wp2_with fail
        refine hK 5 _ _ (hS.alloc _) ?_
        exact ⟨V.heap.size, g2, rfl, ⟨blk_new V _ _, hsz⟩, ⟨blk_alloc B2 _, l2⟩, (by have := lt_of_block B2; omega)⟩
      · intro a' V hS hI
        obtain ⟨g2, rfl, ⟨B2, l2⟩⟩ := hI
        have hsz := hS.size
        go_wp2_with fail
        refine hK 6 _ _ (hS.alloc _) ?_
        exact ⟨V.heap.size, g2, rfl, ⟨blk_new V _ _, hsz⟩, ⟨blk_alloc B2 _, l2⟩, (by have := lt_of_block B2; omega)⟩
      · intro a' V hS hI
        obtain ⟨g0, g1, rfl, ⟨B0, l0⟩, ⟨B1, l1⟩, n01⟩ := hI
        have hsz := hS.size
        go_wp2_with fail
        refine hK 7 _ _ (hS.alloc _) ?_
        exact ⟨g0, g1, V.heap.size, rfl, ⟨blk_alloc B0 _, l0⟩, ⟨blk_alloc B1 _, l1⟩, ⟨blk_new V _ _, hsz⟩, n01, (by have := lt_of_block B0; omega), (by have := lt_of_block B1; omega)⟩
      · intro a' V hS hI
        obtain ⟨g0, g2, rfl, ⟨B0, l0⟩, ⟨B2, l2⟩, n02⟩ := hI
        have hsz := hS.size
        go_wp2_with fail
        refine hK 7 _ _ (hS.alloc _) ?_
        exact ⟨g0, V.heap.size, g2, rfl, ⟨blk_alloc B0 _, l0⟩, ⟨blk_new V _ _, hsz⟩, ⟨blk_alloc B2 _, l2⟩, (by have := lt_of_block B0; omega), n02, (by have := lt_of_block B2; omega)⟩
      · intro a' V hS hI
        obtain ⟨g1, g2, rfl, ⟨B1, l1⟩, ⟨B2, l2⟩, n12⟩ := hI
        have hsz := hS.size
        go_wp2_with fail
        refine hK 7 _ _ (hS.alloc _) ?_
        exact ⟨V.heap.size, g1, g2, rfl, ⟨blk_new V _ _, hsz⟩, ⟨blk_alloc B1 _, l1⟩, ⟨blk_alloc B2 _, l2⟩, (by have := lt_of_block B1; omega), (by have := lt_of_block B2; omega), n12⟩
      intro a' V hS hI
      obtain ⟨g0, g1, g2, rfl, ⟨B0, l0⟩, ⟨B1, l1⟩, ⟨B2, l2⟩, n01, n02, n12⟩ := hI
      have l5 := hS.size
      have r0 := rowOk_blk (n := 3) B0 rfl
      refine wpMixG_one (fun K hK => ?_)
      go_wp2_with fail
      have hS0 := hS.setRow (g := g0) (fun h => absurd h (by omega)) #[.int .i64 (k : Int), .int .i64 (n : Int), .slice a2 L c2]
      refine hK _ _ (.inr hS0) ?_
      clear hK K r0
      have D0 := blk_setRow (cs := #[.int .i64 (k : Int), .int .i64 (n : Int), .slice a2 L c2]) B0
      have D1 := blk_setRow_other (cs' := #[.int .i64 (k : Int), .int .i64 (n : Int), .slice a2 L c2]) B1 (fun e => n01 e.symm)
      have D2 := blk_setRow_other (cs' := #[.int .i64 (k : Int), .int .i64 (n : Int), .slice a2 L c2]) B2 (fun e => n02 e.symm)
      clear B0 B1 B2 hS
      generalize V.setRow g0 #[.int .i64 (k : Int), .int .i64 (n : Int), .slice a2 L c2] = V0 at *
      have r1 := rowOk_blk (n := 3) D1 rfl
      refine wpMixG_one (fun K hK => ?_)
      go_wp2_with fail
      have hS1 := hS0.setRow (g := g1) (fun h => absurd h (by omega)) #[.int .i64 (k : Int), .int .i64 (n : Int), .slice a2 L c2]
      refine hK _ _ (.inr hS1) ?_
      clear hK K r1
      have E0 := blk_setRow_other (cs' := #[.int .i64 (k : Int), .int .i64 (n : Int), .slice a2 L c2]) D0 n01
      have E1 := blk_setRow (cs := #[.int .i64 (k : Int), .int .i64 (n : Int), .slice a2 L c2]) D1
      have E2 := blk_setRow_other (cs' := #[.int .i64 (k : Int), .int .i64 (n : Int), .slice a2 L c2]) D2 (fun e => n12 e.symm)
      clear D0 D1 D2 hS0
      generalize V0.setRow g1 #[.int .i64 (k : Int), .int .i64 (n : Int), .slice a2 L c2] = V1 at *
      have r2 := rowOk_blk (n := 3) E2 rfl
      refine wpMixG_one (fun K hK => ?_)
      go_wp2_with fail
      have hS2 := hS1.setRow (g := g2) (fun h => absurd h (by omega)) #[.int .i64 (k : Int), .int .i64 (n : Int), .slice a2 L c2]
      refine hK _ _ (.inr hS2) ?_
      clear hK K r2
      have F0 := blk_setRow_other (cs' := #[.int .i64 (k : Int), .int .i64 (n : Int), .slice a2 L c2]) E0 n02
      have F1 := blk_setRow_other (cs' := #[.int .i64 (k : Int), .int .i64 (n : Int), .slice a2 L c2]) E1 n12
      have F2 := blk_setRow (cs := #[.int .i64 (k : Int), .int .i64 (n : Int), .slice a2 L c2]) E2
      clear E0 E1 E2 hS1
      generalize V1.setRow g2 #[.int .i64 (k : Int), .int .i64 (n : Int), .slice a2 L c2] = w6 at *
      refine wpMixG_done ?_
      have K6 := K5.trans hS2 (fun _ h _ => h)
      have P6 := hS2.blk P5 (fun h => h)
      have B6 := hS2.blk B5 (fun h => h)
      have R6 := hS2.blk R5 (fun h => h)
      have Q6 := Q5.keepsN hS2
      have Z6 := hS2
      have lP := lt_of_block P5
      have lR := lt_of_block R5
      have p0 : g0 ≠ gp := by omega
      have p1 : g1 ≠ gp := by omega
      have p2 : g2 ≠ gp := by omega
      clear hS2
      go_wp2_with fail
      refine wp_region_mixG (fun V => Keeps Nothing w6 V) 8 (.take 1 (.take 4 (.take 2 (.grp [0, 3, 5] [[(0, 0), (0, 2)], [(1, 1), (1, 2), (4, 0)], [(3, 2), (5, 1)]] (.one 6 (.take 7 (.one 8 .done))))))) (by kernel_rfl) (by kernel_rfl) (Keeps.refl _ _).drew ?_
      simp only [itemsG, PlanG.map, List.map_cons, List.map_nil, List.getD_cons_zero, List.getD_cons_succ, Nat.reduceBEq]
      repeat (refine wpMixG_free (fun K hK => ?_); go_simp; refine hK _ ?_; clear hK K)
      refine wpMixG_yield (v := .agg HV) (fun V hV => ?_) (fun K hK => ?_)
      · have y1 := hV.blk B6 (fun h => h)
        have y2 := rowOk_blk (n := 32) y1 hHs
        have y3 := rowOf_blk y1
        go_simp
      go_simp
      refine hK _ ?_
      clear hK K
      refine wpMixG_yield (v := .slice a2 L c2) (fun V hV => ?_) (fun K hK => ?_)
      · have y3 := hV.cell (blk_cell P6 2 rfl) (fun h => h)
        go_simp
      go_simp
      refine hK _ ?_
      clear hK K
      refine wpMixG_grp (fun a0 m a V => match m with | 0 => a = a0 | 1 => ∃ g, a = a0.put (some 47) (.slice (some ⟨g, 0, none⟩) 0 0) ∧ Blk V g #[] 25 ∧ w6.heap.size ≤ g | 4 => ∃ h, a = a0.put (some 52) (.slice (some ⟨h, 0, none⟩) 1 1) ∧ Blk V h HV 25 ∧ w6.heap.size ≤ h | 5 => ∃ g h, a = (a0.put (some 47) (.slice (some ⟨g, 0, none⟩) 0 0)).put (some 52) (.slice (some ⟨h, 0, none⟩) 1 1) ∧ Blk V g #[] 25 ∧ w6.heap.size ≤ g ∧ Blk V h HV 25 ∧ w6.heap.size ≤ h ∧ g ≠ h | 3 => ∃ g aA cA, a = (a0.put (some 47) (.slice (some ⟨g, 0, none⟩) 0 0)).put (some 50) (.slice aA L cA) ∧ OwnH V aA cA path ∧ Shut (∀ x, blockOf aA = some x → w6.heap.size ≤ x) | _ => ∃ g h aA cA, a = ((a0.put (some 47) (.slice (some ⟨g, 0, none⟩) 0 0)).put (some 50) (.slice aA L cA)).put (some 52) (.slice (some ⟨h, 0, none⟩) 1 1) ∧ OwnH V aA cA path ∧ Shut (∀ x, blockOf aA = some x → w6.heap.size ≤ x) ∧ Blk V h HV 25 ∧ w6.heap.size ≤ h ∧ blockOf aA ≠ some h) rfl (fun K hK => ⟨?_, ?_, ?_, ?_, ?_, ?_, ?_, trivial⟩) ?_
      · intro a' V hS hI
        obtain rfl := hI
        go_wp2_with fail
        refine hK 1 _ _ (hS.alloc _) ?_
        exact ⟨V.heap.size, rfl, blk_new V _ _, hS.size⟩
      · intro a' V hS hI
        obtain rfl := hI
        go_wp2_with fail
        rw [← zeros32_lit, fill32 zeros32_size hHs]
        refine hK 4 _ _ (hS.alloc _) ?_
        exact ⟨V.heap.size, rfl, blk_new V _ _, hS.size⟩
      · intro a' V hS hI
        obtain ⟨g, rfl, Bg, lg⟩ := hI
        have OW : OwnH V (some ⟨g, 0, none⟩) 0 [] := ⟨rfl, .inr ⟨g, 0, #[], rfl, Nat.zero_le _, Bg, Nat.le_refl _, by decide, rfl, rfl⟩⟩
        refine wpList_appHs _ rfl (.tmp 47) (.tmp 49) rfl (some ⟨g, 0, none⟩) 0 [] 0 rfl rfl OW a2 L c2 path hL rfl (Q6.keepsN hS) (by omega) ?_
        intro a5 c5 w5 o5 k5 m5
        rw [List.nil_append] at o5
        rw [Nat.zero_add]
        have kk := hS.trans k5 (fun i hi hlt => by simp only [blockOf, Option.map_some, Option.some.injEq] at hi; omega)
        have HF := shut (m5.new (B := w6.heap.size) hS.size (fun x hx => by simp only [blockOf, Option.map_some, Option.some.injEq] at hx; omega))
        unfold wpList
        refine hK 3 _ _ kk ?_
        exact ⟨g, a5, c5, rfl, o5, HF⟩
      · intro a' V hS hI
        obtain ⟨g, rfl, Bg, lg⟩ := hI
        go_wp2_with fail
        rw [← zeros32_lit, fill32 zeros32_size hHs]
        refine hK 5 _ _ (hS.alloc _) ?_
        exact ⟨g, V.heap.size, rfl, blk_alloc Bg _, lg, blk_new V _ _, hS.size, by have := lt_of_block Bg; omega⟩
      · intro a' V hS hI
        obtain ⟨h, rfl, Bh, lh⟩ := hI
        go_wp2_with fail
        refine hK 5 _ _ (hS.alloc _) ?_
        exact ⟨V.heap.size, h, rfl, blk_new V _ _, hS.size, blk_alloc Bh _, lh, by have := lt_of_block Bh; omega⟩
      · intro a' V hS hI
        obtain ⟨g, aA, cA, rfl, oA, HF⟩ := hI
        go_wp2_with fail
        rw [← zeros32_lit, fill32 zeros32_size hHs]
        refine hK 7 _ _ (hS.alloc _) ?_
        exact ⟨g, V.heap.size, aA, cA, rfl, World.ownsRow.alloc oA _, HF, blk_new V _ _, hS.size, fun e => absurd (own_lt oA (by rw [ownBlock_eq]; exact e)) (Nat.lt_irrefl _)⟩
      · intro a' V hS hI
        obtain ⟨g, h, rfl, Bg, lg, Bh, lh, ne⟩ := hI
        have OW : OwnH V (some ⟨g, 0, none⟩) 0 [] := ⟨rfl, .inr ⟨g, 0, #[], rfl, Nat.zero_le _, Bg, Nat.le_refl _, by decide, rfl, rfl⟩⟩
        refine wpList_appHs _ rfl (.tmp 47) (.tmp 49) rfl (some ⟨g, 0, none⟩) 0 [] 0 rfl rfl OW a2 L c2 path hL rfl (Q6.keepsN hS) (by omega) ?_
        intro a5 c5 w5 o5 k5 m5
        rw [List.nil_append] at o5
        rw [Nat.zero_add]
        have kk := hS.trans k5 (fun i hi hlt => by simp only [blockOf, Option.map_some, Option.some.injEq] at hi; omega)
        have HF := shut (m5.new (B := w6.heap.size) hS.size (fun x hx => by simp only [blockOf, Option.map_some, Option.some.injEq] at hx; omega))
        unfold wpList
        refine hK 7 _ _ kk ?_
        exact ⟨g, h, a5, c5, rfl, o5, HF, k5.blk Bh (fun e => ne (by simpa [blockOf] using e)), lh, by
          rcases m5 with e | ⟨g', e, hg'⟩
          · rw [e]; simpa [blockOf] using ne
          · rw [e]; intro e2; obtain rfl := Option.some.inj e2; have := lt_of_block Bh; omega⟩
      intro a' V hS hI
      obtain ⟨g, hb9, aA, cA, rfl, oA, HF, Bh, lh, ne⟩ := hI
      refine wpMixG_one (fun K hK => ?_)
      go_wp2_with (at_builtin; refine wpList_appH _ rfl (.tmp 50) (.tmp 52) rfl aA cA path L hL rfl oA hb9 h hh HHV.out rfl Bh (by omega) ?_)
      intro a9 c9 w9 o9 k9 m9
      have K9 := hS.trans k9 (fun i hi hlt => by have := HF.out i hi; omega)
      clear hS HF oA Bh lh ne k9 m9
      go_wp2_with fail
      refine hK _ _ (.inr K9) ?_
      clear hK K
      repeat (refine wpMixG_free (fun K hK => ?_); go_simp; refine hK _ ?_; clear hK K)
      have M9 := K9.blk F0 (fun h => h)
      have N9 := K9.blk F1 (fun h => h)
      have A9 := K9.blk F2 (fun h => h)
      have Y0 := M9
      have Y1 := N9
      have Y2 := A9
      have e1 := blk_cell M9 2 rfl
      have e2 := blk_free M9 2
      refine wpMixG_one (fun K hK => ?_)
      go_wp2_with fail
      refine hK _ _ (.inl (by first | rfl | trivial)) ?_
      clear hK K
      refine wpMixG_done ?_
      have T9 := (Keeps.refl (fun i => i = g0 ∨ i = g1 ∨ i = g2) w9).setCell (p := ⟨g0, 2, none⟩) (fun _ => .inl rfl) (.slice a9 (L + 1) c9)
      have M10 : Blk (w9.setCell ⟨g0, 2, none⟩ (.slice a9 (L + 1) c9)) g0 #[.int .i64 (k : Int), .int .i64 (n : Int), .slice a9 (L + 1) c9] 46 := blk_set M9 2 _
      have N10 := blk_other N9 ⟨g0, 2, none⟩ (fun e => n01 e.symm) (.slice a9 (L + 1) c9)
      have A10 := blk_other A9 ⟨g0, 2, none⟩ (fun e => n02 e.symm) (.slice a9 (L + 1) c9)
      clear M9 N9 A9 e1 e2
      generalize w9.setCell ⟨g0, 2, none⟩ (.slice a9 (L + 1) c9) = w10 at *
      have T10 := T9.setCell (p := ⟨g2, 0, none⟩) (fun _ => .inr (.inr rfl)) (.int .i64 (n : Int))
      have M11 := blk_other M10 ⟨g2, 0, none⟩ n02 (.int .i64 (n : Int))
      have N11 := blk_other N10 ⟨g2, 0, none⟩ n12 (.int .i64 (n : Int))
      have A11 : Blk (w10.setCell ⟨g2, 0, none⟩ (.int .i64 (n : Int))) g2 #[.int .i64 (n : Int), .int .i64 (n : Int), .slice a2 L c2] 46 := blk_set A10 0 _
      have e1 := blk_cell A10 0 rfl
      have e2 := blk_free A10 0
      have e3 := blk_cell N11 1 rfl
      have e4 := blk_free N11 1
      have T11 := T10.setCell (p := ⟨g1, 1, none⟩) (fun _ => .inr (.inl rfl)) (.int .i64 0)
      have M12 := blk_other M11 ⟨g1, 1, none⟩ n01 (.int .i64 0)
      have N12 : Blk ((w10.setCell ⟨g2, 0, none⟩ (.int .i64 (n : Int))).setCell ⟨g1, 1, none⟩ (.int .i64 0)) g1 #[.int .i64 (k : Int), .int .i64 0, .slice a2 L c2] 46 := blk_set N11 1 _
      have A12 := blk_other A11 ⟨g1, 1, none⟩ (fun e => n12 e.symm) (.int .i64 0)
      have Z12 : Keeps Nothing w5 ((w10.setCell ⟨g2, 0, none⟩ (.int .i64 (n : Int))).setCell ⟨g1, 1, none⟩ (.int .i64 0)) := (Z6.trans K9 (fun _ h _ => h)).trans T11 (fun i hi hlt => by omega)
      have e5 := blk_cell (Z12.blk P5 (fun h => h)) 2 rfl
      have o12 := T11.own o9 (fun i hi q => by
        rw [ownBlock_eq] at hi
        rcases q with q | q | q
        · subst q; exact ownH_ne o9 Y0 (by decide) hi
        · subst q; exact ownH_ne o9 Y1 (by decide) hi
        · subst q; exact ownH_ne o9 Y2 (by decide) hi)
      clear M10 N10 A10 M11 N11 A11 T9 T10 T11
      have mk : (k : Int) < n := by omega
      by_cases hL0 : 0 < L
      · have mL : (0 : Int) < L := by omega
        obtain ⟨b2, o2, ha2⟩ := Q5.head (by omega)
        obtain ⟨b3, o3, hfr, hdr⟩ := hashes_from b2 o2 L c2 1 (by omega) q1
        have d3 := hdr w5 path hL (by rw [← ha2]; exact Q5)
        have x0 := blk_cell (Z12.blk P5 (fun h => h)) 0 rfl
        have x1 := blk_cell (Z12.blk P5 (fun h => h)) 1 rfl
        have P14 := (Z12.alloc (.cells #[.int .i64 (k : Int), .int .i64 (n : Int), .slice a2 L c2] 46)).blk P5 (fun h => h)
        have f0 := blk_cell P14 2 rfl
        have hfr1 : ∀ W, (Instr.slice 44 (.slice a2 L c2) (some (.int .i64 1)) none none).run Try.prog W = .ok (.slice (some ⟨b3, o3, none⟩) (L - 1) (c2 - 1)) W := by rw [ha2]; exact hfr
        clear hfr hdr ha2
        go_wp2_with fail
        have Zz := Z12.alloc (.cells #[.int .i64 (k : Int), .int .i64 (n : Int), .slice (some ⟨b3, o3, none⟩) (L - 1) (c2 - 1)] 46)
        have Mz := blk_alloc M12 (.cells #[.int .i64 (k : Int), .int .i64 (n : Int), .slice (some ⟨b3, o3, none⟩) (L - 1) (c2 - 1)] 46)
        have Nz := blk_alloc N12 (.cells #[.int .i64 (k : Int), .int .i64 (n : Int), .slice (some ⟨b3, o3, none⟩) (L - 1) (c2 - 1)] 46)
        have Az := blk_alloc A12 (.cells #[.int .i64 (k : Int), .int .i64 (n : Int), .slice (some ⟨b3, o3, none⟩) (L - 1) (c2 - 1)] 46)
        have oz := World.ownsRow.alloc o12 (.cells #[.int .i64 (k : Int), .int .i64 (n : Int), .slice (some ⟨b3, o3, none⟩) (L - 1) (c2 - 1)] 46)
        have Gz := blk_new ((w10.setCell ⟨g2, 0, none⟩ (.int .i64 (n : Int))).setCell ⟨g1, 1, none⟩ (.int .i64 0)) #[.int .i64 (k : Int), .int .i64 (n : Int), .slice (some ⟨b3, o3, none⟩) (L - 1) (c2 - 1)] 46
        rw [World.size_setCell, World.size_setCell] at Gz
        clear Z12 M12 N12 A12 o12 e1 e2 e3 e4 e5 x0 x1 P14 f0 hfr1
        generalize ((w10.setCell ⟨g2, 0, none⟩ (.int .i64 (n : Int))).setCell ⟨g1, 1, none⟩ (.int .i64 0)).alloc (.cells #[.int .i64 (k : Int), .int .i64 (n : Int), .slice (some ⟨b3, o3, none⟩) (L - 1) (c2 - 1)] 46) = wz at *
        generalize w10.heap.size = g4 at *
        have Rz := Zz.blk R5 (fun h => h)
        obtain ⟨_, ax, cx, hcx, hBx, hx1, hx2⟩ := (hR.keepsN (K5.trans Zz (fun _ h _ => h))).2 _ rfl k xb hxb
        rw [Addr.add_mid'] at hcx
        have hck := fun V (K : Keeps Nothing wz V) => check_any (w := V) (cb := cx) hrl HRT.out (hBx.keepsN K) rfl (by omega) (k : Int) (n : Int) (by omega) (by omega) (m := L - 1) (c := c2 - 1) (path := path.drop 1) (by simp [hL]) ((d3.keepsN Zz).keepsN K) (by omega) (by omega) (by omega)
        rw [checkL_form _ _ (.inr (by rw [List.length_drop, hL, Int.toNat_natCast, Int.toNat_natCast, ← HLEN.out]; omega))] at hck
        refine wp_region_mix (fun V => Keeps Nothing wz V) [(true, 0), (true, 1), (true, 2), (true, 3), (true, 4), (true, 5), (false, 6)] (by kernel_rfl) (by kernel_rfl) (Keeps.refl _ _).drew ?_
        simp only [mixItems, List.map_cons, List.map_nil, List.getD_cons_zero, List.getD_cons_succ]
        refine wpMix_yield (v := .agg RT) (fun V hV => ?_) (fun K hK => ?_)
        · have y1 := hV.blk Rz (fun h => h)
          have y2 := rowOk_blk (n := 32) y1 hRs
          have y3 := rowOf_blk y1
          go_simp
        go_simp
        refine hK _ ?_
        clear hK K
        repeat (refine wpMix_free (fun K hK => ?_); go_simp; refine hK _ ?_; clear hK K)
        refine wpMix_yield (v := .slice ax xb.length cx) (fun V hV => ?_) (fun K hK => ?_)
        · have y1 := hV.cell hcx (fun h => h)
          go_simp
        go_simp
        refine hK _ ?_
        clear hK K
        refine wpMix_yield (v := .agg #[.int .i64 (k : Int), .int .i64 (n : Int), .slice (some ⟨b3, o3, none⟩) (L - 1) (c2 - 1)]) (fun V hV => ?_) (fun K hK => ?_)
        · have y0 := hV.cell (blk_cell Gz 0 rfl) (fun h => h)
          have y1 := hV.cell (blk_cell Gz 1 rfl) (fun h => h)
          have y2 := hV.cell (blk_cell Gz 2 rfl) (fun h => h)
          go_simp
        go_simp
        refine hK _ ?_
        clear hK K
        refine wpMix_one (fun K hK => ?_)
        go_wp2_with fail
        refine (hck _ (Keeps.refl _ _).drew).mono ?_
        rintro e wy ⟨rfl, k1⟩
        have kk : Keeps Nothing wz wy := ((Keeps.refl Nothing wz).drew).trans k1 (fun _ h _ => h)
        go_wp2_with fail
        refine hK _ _ kk ?_
        clear hK K hck hcx hBx
        refine wpMix_nil ?_
        have Zy := Zz.trans kk (fun _ h _ => h)
        have My := kk.blk Mz (fun h => h)
        have Ny := kk.blk Nz (fun h => h)
        have Ay := kk.blk Az (fun h => h)
        have oy := kk.own oz (fun _ _ h => h)
        clear Zz Mz Nz Az oz Gz Rz k1 kk
        go_wp2_with fail
        have h33 : ∀ y ∈ path ++ [h], y.length = 32 := fun y hy => by
          rcases List.mem_append.1 hy with q | q
          · exact h32 y q
          · rw [List.mem_singleton.1 q]; exact hh
        have Hy := ownH_at oy h33
        obtain ⟨hc9, hm9⟩ := ownH_cap oy
        rw [List.length_append, hL, List.length_singleton] at hc9
        have Ry := Zy.blk R5 (fun h => h)
        have By := Zy.blk B5 (fun h => h)
        have Qy := Q5.keepsN Zy
        have Ky := K5.trans Zy (fun _ h _ => h)
        obtain ⟨_, ax, cx, hcx, hBx, hx1, hx2⟩ := (hR.keepsN Ky).2 _ rfl k xb hxb
        rw [Addr.add_mid'] at hcx
        have hck1 := fun V (K : Keeps Nothing wy V) => check_any (w := V) (cb := cx) hrl HRT.out (hBx.keepsN K) rfl (by omega) (k : Int) (n : Int) (by omega) (by omega) (m := L + 1) (c := c9) (path := path ++ [h]) (by simp [hL]) (Hy.keepsN K) hc9 hm9 (by omega)
        rw [checkL_form _ _ (.inr (by rw [List.length_append, hL, Int.toNat_natCast, Int.toNat_natCast, ← HLEN.out, List.length_singleton]; omega))] at hck1
        have hck2 := fun V (K : Keeps Nothing wy V) => check_any (w := V) (cb := cx) hrl HRT.out (hBx.keepsN K) rfl (by omega) (n : Int) (n : Int) (by omega) (by omega) (m := L) (c := c2) (path := path) hL (Qy.keepsN K) q1 q2 (by omega)
        rw [checkL_form _ _ (.inl (by omega))] at hck2
        have hck3 := fun V (K : Keeps Nothing wy V) => check_any (w := V) (cb := cx) hrl HRT.out (hBx.keepsN K) rfl (by omega) (k : Int) 0 (by omega) (by omega) (m := L) (c := c2) (path := path) hL (Qy.keepsN K) q1 q2 (by omega)
        rw [checkL_form _ _ (.inl (by omega))] at hck3
        have hck4 := fun V (K : Keeps Nothing wy V) => check_any (w := V) (cb := cx) hh HHV.out (hBx.keepsN K) rfl (by omega) (-1) 1 (by omega) (by omega) (m := 0) (c := 0) (ap := none) (path := []) rfl ⟨fun _ => rfl, fun a e => (by cases e)⟩ (by omega) (by decide) (by omega)
        rw [checkL_form _ _ (.inl (by omega))] at hck4
        clear Zy Hy Qy hBx oy R5 B5 Q5 P5 K9 o9
        refine wp_region_mix (fun V => Keeps Nothing wy V) [(false, 0), (true, 1), (true, 2), (true, 3), (true, 4), (true, 5), (true, 6), (true, 7), (false, 8), (true, 9), (true, 10), (true, 11), (true, 12), (true, 13), (true, 14), (true, 15), (true, 16), (true, 17), (false, 18), (true, 19), (true, 20), (true, 21), (true, 22), (true, 23), (true, 24), (true, 25), (true, 26), (true, 27), (false, 28), (true, 29), (true, 30), (true, 31), (true, 32), (true, 33), (true, 34), (true, 35), (true, 36), (true, 37), (false, 38), (true, 39), (true, 40), (true, 41)] (by kernel_rfl) (by kernel_rfl) (Keeps.refl _ _).drew ?_
        simp only [mixItems, List.map_cons, List.map_nil, List.getD_cons_zero, List.getD_cons_succ]
        refine wpMix_one (fun K hK => ?_)
        go_wp2_with fail
        refine (told5_any _).mono ?_
        rintro e v1 ⟨rfl, k1⟩
        have j1 : Keeps Nothing wy v1 := ((Keeps.refl Nothing wy).drew).trans k1 (fun _ h _ => h)
        go_wp2_with fail
        refine hK _ _ j1 ?_
        clear hK K k1
        repeat (refine wpMix_free (fun K hK => ?_); go_simp; refine hK _ ?_; clear hK K)
        refine wpMix_yield (v := .agg RT) (fun V hV => ?_) (fun K hK => ?_)
        · have y1 := hV.blk Ry (fun h => h)
          have y2 := rowOk_blk (n := 32) y1 hRs
          have y3 := rowOf_blk y1
          go_simp
        go_simp
        refine hK _ ?_
        clear hK K
        repeat (refine wpMix_free (fun K hK => ?_); go_simp; refine hK _ ?_; clear hK K)
        refine wpMix_yield (v := .slice ax xb.length cx) (fun V hV => ?_) (fun K hK => ?_)
        · have y1 := hV.cell hcx (fun h => h)
          go_simp
        go_simp
        refine hK _ ?_
        clear hK K
        refine wpMix_yield (v := .agg #[.int .i64 (k : Int), .int .i64 (n : Int), .slice a9 (L + 1) c9]) (fun V hV => ?_) (fun K hK => ?_)
        · have y0 := hV.cell (blk_cell My 0 rfl) (fun h => h)
          have y1 := hV.cell (blk_cell My 1 rfl) (fun h => h)
          have y2 := hV.cell (blk_cell My 2 rfl) (fun h => h)
          go_simp
        go_simp
        refine hK _ ?_
        clear hK K
        refine wpMix_one (fun K hK => ?_)
        go_wp2_with fail
        refine (hck1 v1 j1).mono ?_
        rintro e v2 ⟨rfl, k1⟩
        have j2 : Keeps Nothing wy v2 := j1.trans k1 (fun _ h _ => h)
        go_wp2_with fail
        refine hK _ _ j2 ?_
        clear hK K k1
        repeat (refine wpMix_free (fun K hK => ?_); go_simp; refine hK _ ?_; clear hK K)
        refine wpMix_yield (v := .agg RT) (fun V hV => ?_) (fun K hK => ?_)
        · have y1 := hV.blk Ry (fun h => h)
          have y2 := rowOk_blk (n := 32) y1 hRs
          have y3 := rowOf_blk y1
          go_simp
        go_simp
        refine hK _ ?_
        clear hK K
        repeat (refine wpMix_free (fun K hK => ?_); go_simp; refine hK _ ?_; clear hK K)
        refine wpMix_yield (v := .slice ax xb.length cx) (fun V hV => ?_) (fun K hK => ?_)
        · have y1 := hV.cell hcx (fun h => h)
          go_simp
        go_simp
        refine hK _ ?_
        clear hK K
        refine wpMix_yield (v := .agg #[.int .i64 (n : Int), .int .i64 (n : Int), .slice a2 L c2]) (fun V hV => ?_) (fun K hK => ?_)
        · have y0 := hV.cell (blk_cell Ay 0 rfl) (fun h => h)
          have y1 := hV.cell (blk_cell Ay 1 rfl) (fun h => h)
          have y2 := hV.cell (blk_cell Ay 2 rfl) (fun h => h)
          go_simp
        go_simp
        refine hK _ ?_
        clear hK K
        refine wpMix_one (fun K hK => ?_)
        go_wp2_with fail
        refine (hck2 v2 j2).mono ?_
        rintro e v3 ⟨rfl, k1⟩
        have j3 : Keeps Nothing wy v3 := j2.trans k1 (fun _ h _ => h)
        go_wp2_with fail
        refine hK _ _ j3 ?_
        clear hK K k1
        repeat (refine wpMix_free (fun K hK => ?_); go_simp; refine hK _ ?_; clear hK K)
        refine wpMix_yield (v := .agg RT) (fun V hV => ?_) (fun K hK => ?_)
        · have y1 := hV.blk Ry (fun h => h)
          have y2 := rowOk_blk (n := 32) y1 hRs
          have y3 := rowOf_blk y1
          go_simp
        go_simp
        refine hK _ ?_
        clear hK K
        repeat (refine wpMix_free (fun K hK => ?_); go_simp; refine hK _ ?_; clear hK K)
        refine wpMix_yield (v := .slice ax xb.length cx) (fun V hV => ?_) (fun K hK => ?_)
        · have y1 := hV.cell hcx (fun h => h)
          go_simp
        go_simp
        refine hK _ ?_
        clear hK K
        refine wpMix_yield (v := .agg #[.int .i64 (k : Int), .int .i64 0, .slice a2 L c2]) (fun V hV => ?_) (fun K hK => ?_)
        · have y0 := hV.cell (blk_cell Ny 0 rfl) (fun h => h)
          have y1 := hV.cell (blk_cell Ny 1 rfl) (fun h => h)
          have y2 := hV.cell (blk_cell Ny 2 rfl) (fun h => h)
          go_simp
        go_simp
        refine hK _ ?_
        clear hK K
        refine wpMix_one (fun K hK => ?_)
        go_wp2_with fail
        refine (hck3 v3 j3).mono ?_
        rintro e v4 ⟨rfl, k1⟩
        have j4 : Keeps Nothing wy v4 := j3.trans k1 (fun _ h _ => h)
        go_wp2_with fail
        refine hK _ _ j4 ?_
        clear hK K k1
        repeat (refine wpMix_free (fun K hK => ?_); go_simp; refine hK _ ?_; clear hK K)
        refine wpMix_yield (v := .agg HV) (fun V hV => ?_) (fun K hK => ?_)
        · have y1 := hV.blk By (fun h => h)
          have y2 := rowOk_blk (n := 32) y1 hHs
          have y3 := rowOf_blk y1
          go_simp
        go_simp
        refine hK _ ?_
        clear hK K
        repeat (refine wpMix_free (fun K hK => ?_); go_simp; refine hK _ ?_; clear hK K)
        refine wpMix_yield (v := .slice ax xb.length cx) (fun V hV => ?_) (fun K hK => ?_)
        · have y1 := hV.cell hcx (fun h => h)
          go_simp
        go_simp
        refine hK _ ?_
        clear hK K
        repeat (refine wpMix_free (fun K hK => ?_); go_simp; refine hK _ ?_; clear hK K)
        refine wpMix_one (fun K hK => ?_)
        go_wp2_with fail
        refine (hck4 v4 j4).mono ?_
        rintro e v5 ⟨rfl, k1⟩
        have j5 : Keeps Nothing wy v5 := j4.trans k1 (fun _ h _ => h)
        go_wp2_with fail
        refine hK _ _ j5 ?_
        clear hK K k1
        repeat (refine wpMix_free (fun K hK => ?_); go_simp; refine hK _ ?_; clear hK K)
        refine wpMix_nil ?_
        go_wp2_with fail
        go_ret
        exact ⟨rfl, Ky.trans j5 (fun _ h _ => h)⟩

      · have mL : ¬ (0 : Int) < L := by omega
        have Zy := Z12
        have My := M12
        have Ny := N12
        have Ay := A12
        have oy := o12
        go_wp2_with fail
        clear Z12 M12 N12 A12 o12 e1 e2 e3 e4 e5
        generalize ((w10.setCell ⟨g2, 0, none⟩ (.int .i64 (n : Int))).setCell ⟨g1, 1, none⟩ (.int .i64 0)) = wy at *
        have h33 : ∀ y ∈ path ++ [h], y.length = 32 := fun y hy => by
          rcases List.mem_append.1 hy with q | q
          · exact h32 y q
          · rw [List.mem_singleton.1 q]; exact hh
        have Hy := ownH_at oy h33
        obtain ⟨hc9, hm9⟩ := ownH_cap oy
        rw [List.length_append, hL, List.length_singleton] at hc9
        have Ry := Zy.blk R5 (fun h => h)
        have By := Zy.blk B5 (fun h => h)
        have Qy := Q5.keepsN Zy
        have Ky := K5.trans Zy (fun _ h _ => h)
        obtain ⟨_, ax, cx, hcx, hBx, hx1, hx2⟩ := (hR.keepsN Ky).2 _ rfl k xb hxb
        rw [Addr.add_mid'] at hcx
        have hck1 := fun V (K : Keeps Nothing wy V) => check_any (w := V) (cb := cx) hrl HRT.out (hBx.keepsN K) rfl (by omega) (k : Int) (n : Int) (by omega) (by omega) (m := L + 1) (c := c9) (path := path ++ [h]) (by simp [hL]) (Hy.keepsN K) hc9 hm9 (by omega)
        rw [checkL_form _ _ (.inr (by rw [List.length_append, hL, Int.toNat_natCast, Int.toNat_natCast, ← HLEN.out, List.length_singleton]; omega))] at hck1
        have hck2 := fun V (K : Keeps Nothing wy V) => check_any (w := V) (cb := cx) hrl HRT.out (hBx.keepsN K) rfl (by omega) (n : Int) (n : Int) (by omega) (by omega) (m := L) (c := c2) (path := path) hL (Qy.keepsN K) q1 q2 (by omega)
        rw [checkL_form _ _ (.inl (by omega))] at hck2
        have hck3 := fun V (K : Keeps Nothing wy V) => check_any (w := V) (cb := cx) hrl HRT.out (hBx.keepsN K) rfl (by omega) (k : Int) 0 (by omega) (by omega) (m := L) (c := c2) (path := path) hL (Qy.keepsN K) q1 q2 (by omega)
        rw [checkL_form _ _ (.inl (by omega))] at hck3
        have hck4 := fun V (K : Keeps Nothing wy V) => check_any (w := V) (cb := cx) hh HHV.out (hBx.keepsN K) rfl (by omega) (-1) 1 (by omega) (by omega) (m := 0) (c := 0) (ap := none) (path := []) rfl ⟨fun _ => rfl, fun a e => (by cases e)⟩ (by omega) (by decide) (by omega)
        rw [checkL_form _ _ (.inl (by omega))] at hck4
        clear Zy Hy Qy hBx oy R5 B5 Q5 P5 K9 o9
        refine wp_region_mix (fun V => Keeps Nothing wy V) [(false, 0), (true, 1), (true, 2), (true, 3), (true, 4), (true, 5), (true, 6), (true, 7), (false, 8), (true, 9), (true, 10), (true, 11), (true, 12), (true, 13), (true, 14), (true, 15), (true, 16), (true, 17), (false, 18), (true, 19), (true, 20), (true, 21), (true, 22), (true, 23), (true, 24), (true, 25), (true, 26), (true, 27), (false, 28), (true, 29), (true, 30), (true, 31), (true, 32), (true, 33), (true, 34), (true, 35), (true, 36), (true, 37), (false, 38), (true, 39), (true, 40), (true, 41)] (by kernel_rfl) (by kernel_rfl) (Keeps.refl _ _).drew ?_
        simp only [mixItems, List.map_cons, List.map_nil, List.getD_cons_zero, List.getD_cons_succ]
        refine wpMix_one (fun K hK => ?_)
        go_wp2_with fail
        refine (told5_any _).mono ?_
        rintro e v1 ⟨rfl, k1⟩
        have j1 : Keeps Nothing wy v1 := ((Keeps.refl Nothing wy).drew).trans k1 (fun _ h _ => h)
        go_wp2_with fail
        refine hK _ _ j1 ?_
        clear hK K k1
        repeat (refine wpMix_free (fun K hK => ?_); go_simp; refine hK _ ?_; clear hK K)
        refine wpMix_yield (v := .agg RT) (fun V hV => ?_) (fun K hK => ?_)
        · have y1 := hV.blk Ry (fun h => h)
          have y2 := rowOk_blk (n := 32) y1 hRs
          have y3 := rowOf_blk y1
          go_simp
        go_simp
        refine hK _ ?_
        clear hK K
        repeat (refine wpMix_free (fun K hK => ?_); go_simp; refine hK _ ?_; clear hK K)
        refine wpMix_yield (v := .slice ax xb.length cx) (fun V hV => ?_) (fun K hK => ?_)
        · have y1 := hV.cell hcx (fun h => h)
          go_simp
        go_simp
        refine hK _ ?_
        clear hK K
        refine wpMix_yield (v := .agg #[.int .i64 (k : Int), .int .i64 (n : Int), .slice a9 (L + 1) c9]) (fun V hV => ?_) (fun K hK => ?_)
        · have y0 := hV.cell (blk_cell My 0 rfl) (fun h => h)
          have y1 := hV.cell (blk_cell My 1 rfl) (fun h => h)
          have y2 := hV.cell (blk_cell My 2 rfl) (fun h => h)
          go_simp
        go_simp
        refine hK _ ?_
        clear hK K
        refine wpMix_one (fun K hK => ?_)
        go_wp2_with fail
        refine (hck1 v1 j1).mono ?_
        rintro e v2 ⟨rfl, k1⟩
        have j2 : Keeps Nothing wy v2 := j1.trans k1 (fun _ h _ => h)
        go_wp2_with fail
        refine hK _ _ j2 ?_
        clear hK K k1
        repeat (refine wpMix_free (fun K hK => ?_); go_simp; refine hK _ ?_; clear hK K)
        refine wpMix_yield (v := .agg RT) (fun V hV => ?_) (fun K hK => ?_)
        · have y1 := hV.blk Ry (fun h => h)
          have y2 := rowOk_blk (n := 32) y1 hRs
          have y3 := rowOf_blk y1
          go_simp
        go_simp
        refine hK _ ?_
        clear hK K
        repeat (refine wpMix_free (fun K hK => ?_); go_simp; refine hK _ ?_; clear hK K)
        refine wpMix_yield (v := .slice ax xb.length cx) (fun V hV => ?_) (fun K hK => ?_)
        · have y1 := hV.cell hcx (fun h => h)
          go_simp
        go_simp
        refine hK _ ?_
        clear hK K
        refine wpMix_yield (v := .agg #[.int .i64 (n : Int), .int .i64 (n : Int), .slice a2 L c2]) (fun V hV => ?_) (fun K hK => ?_)
        · have y0 := hV.cell (blk_cell Ay 0 rfl) (fun h => h)
          have y1 := hV.cell (blk_cell Ay 1 rfl) (fun h => h)
          have y2 := hV.cell (blk_cell Ay 2 rfl) (fun h => h)
          go_simp
        go_simp
        refine hK _ ?_
        clear hK K
        refine wpMix_one (fun K hK => ?_)
        go_wp2_with fail
        refine (hck2 v2 j2).mono ?_
        rintro e v3 ⟨rfl, k1⟩
        have j3 : Keeps Nothing wy v3 := j2.trans k1 (fun _ h _ => h)
        go_wp2_with fail
        refine hK _ _ j3 ?_
        clear hK K k1
        repeat (refine wpMix_free (fun K hK => ?_); go_simp; refine hK _ ?_; clear hK K)
        refine wpMix_yield (v := .agg RT) (fun V hV => ?_) (fun K hK => ?_)
        · have y1 := hV.blk Ry (fun h => h)
          have y2 := rowOk_blk (n := 32) y1 hRs
          have y3 := rowOf_blk y1
          go_simp
        go_simp
        refine hK _ ?_
        clear hK K
        repeat (refine wpMix_free (fun K hK => ?_); go_simp; refine hK _ ?_; clear hK K)
        refine wpMix_yield (v := .slice ax xb.length cx) (fun V hV => ?_) (fun K hK => ?_)
        · have y1 := hV.cell hcx (fun h => h)
          go_simp
        go_simp
        refine hK _ ?_
        clear hK K
        refine wpMix_yield (v := .agg #[.int .i64 (k : Int), .int .i64 0, .slice a2 L c2]) (fun V hV => ?_) (fun K hK => ?_)
        · have y0 := hV.cell (blk_cell Ny 0 rfl) (fun h => h)
          have y1 := hV.cell (blk_cell Ny 1 rfl) (fun h => h)
          have y2 := hV.cell (blk_cell Ny 2 rfl) (fun h => h)
          go_simp
        go_simp
        refine hK _ ?_
        clear hK K
        refine wpMix_one (fun K hK => ?_)
        go_wp2_with fail
        refine (hck3 v3 j3).mono ?_
        rintro e v4 ⟨rfl, k1⟩
        have j4 : Keeps Nothing wy v4 := j3.trans k1 (fun _ h _ => h)
        go_wp2_with fail
        refine hK _ _ j4 ?_
        clear hK K k1
        repeat (refine wpMix_free (fun K hK => ?_); go_simp; refine hK _ ?_; clear hK K)
        refine wpMix_yield (v := .agg HV) (fun V hV => ?_) (fun K hK => ?_)
        · have y1 := hV.blk By (fun h => h)
          have y2 := rowOk_blk (n := 32) y1 hHs
          have y3 := rowOf_blk y1
          go_simp
        go_simp
        refine hK _ ?_
        clear hK K
        repeat (refine wpMix_free (fun K hK => ?_); go_simp; refine hK _ ?_; clear hK K)
        refine wpMix_yield (v := .slice ax xb.length cx) (fun V hV => ?_) (fun K hK => ?_)
        · have y1 := hV.cell hcx (fun h => h)
          go_simp
        go_simp
        refine hK _ ?_
        clear hK K
        repeat (refine wpMix_free (fun K hK => ?_); go_simp; refine hK _ ?_; clear hK K)
        refine wpMix_one (fun K hK => ?_)
        go_wp2_with fail
        refine (hck4 v4 j4).mono ?_
        rintro e v5 ⟨rfl, k1⟩
        have j5 : Keeps Nothing wy v5 := j4.trans k1 (fun _ h _ => h)
        go_wp2_with fail
        refine hK _ _ j5 ?_
        clear hK K k1
        repeat (refine wpMix_free (fun K hK => ?_); go_simp; refine hK _ ?_; clear hK K)
        refine wpMix_nil ?_
        go_wp2_with fail
        go_ret
        exact ⟨rfl, Ky.trans j5 (fun _ h _ => h)⟩

set_option maxRecDepth 100000 in
theorem lifted (os : Os) (started : os.Started) (H : Type) (enc : TypeId × Value → H) :
    ReturnsInHanded {} Try.checked os 10 .any (Rows.merkleFormsSpec.pre6 enc Try.prog Try.f10 Rows.merkleFormsRow.domain false) (Rows.merkleFormsSpec.post enc Try.prog Try.f10 false true false false) := by
  refine returnsInHanded_of_change (C := Try.checked) own started (by kernel_rfl) Try.func10
    (ChangeSpec.witness6 (enc := enc) (C := Try.checked) false ⟨#[], #[.slice none 0 0, .int .i64 0, hashV zeros32], []⟩ 8 (by kernel_rfl) (by kernel_rfl) (by kernel_rfl) (by kernel_rfl)) ?_
  intro W base args ds gs before hval0 hW hcnd _
  have hval : ∀ (j : Nat) t v, Try.f10.params[j]? = some t → args[j]? = some v → Value.okWide Try.prog W .any base t v := hval0
  have hW' := hW
  obtain ⟨p, q, hA0, hV, rfl, hfz, hnd⟩ := hW
  have hA : DataW.TrodAll enc Try.prog W 0 (fun _ => true) true Try.f10.params.toList args.toList ds p := hA0
  rw [Try.params10] at hA hval
  obtain ⟨v0, vs0, d0, ds0, p0, q0, hargs, rfl, rfl, h0, r0⟩ := trodAll_cons hA
  obtain ⟨v1, vs1, d1, ds1, p1, q1, rfl, rfl, rfl, h1, r1⟩ := trodAll_cons r0
  obtain ⟨v2, vs2, d2, ds2, p2, q2, rfl, rfl, rfl, h2, r2⟩ := trodAll_cons r1
  obtain ⟨rfl, rfl, rfl⟩ := trodAll_nil r2
  obtain rfl : args = #[v0, v1, v2] := by cases args; simp_all
  obtain ⟨rfl, rfl⟩ := trodVars_none hV
  have k0 := h0
  have lt0 : ∀ x ∈ p0, x.block < W.heap.size := by obtain ⟨m, hm⟩ := k0; exact DataW.trod_lt m _ _ _ hm
  have k1 := h1
  have lt1 : ∀ x ∈ p1, x.block < W.heap.size := by obtain ⟨m, hm⟩ := k1; exact DataW.trod_lt m _ _ _ hm
  have k2 := h2
  have lt2 : ∀ x ∈ p2, x.block < W.heap.size := by obtain ⟨m, hm⟩ := k2; exact DataW.trod_lt m _ _ _ hm
  obtain ⟨ao0, len0, cap0, rfl⟩ := okWide_slice Try.underlying41 (hval 0 41 v0 rfl rfl)
  obtain ⟨fuel0, hf0⟩ := h0
  obtain ⟨rows0, hn0, hR0, hlc0, hcm0⟩ := open_rows rfl hf0
  obtain ⟨a1, rfl, rfl, rfl, w1⟩ := open_int Try.underlying3 (hval 1 3 v1 rfl rfl) h1
  obtain ⟨bs2, hn2, rfl⟩ := open_hash (hval 2 25 v2 rfl rfl) h2
  clear hA0 hval0
  refine (walk W hn0 hlc0 hcm0 hR0 a1 hn2).mono fun e W' ⟨he, hk⟩ => ?_
  subst he
  have bel : Below W.heap.size W W' := hk.below (Nat.le_refl _) (fun _ h => h.elim)
  exact ⟨_, rfl, _, _, _, [], _, [], hW', trodAll_mk1 (shut_bool Try.underlying4 _), (trodAll_cons_mk (Below.trod laidOut (by kernel_rfl) (of_decide_eq_true (by kernel_rfl)) k0 bel lt0) (trodAll_cons_mk (Below.trod laidOut (by kernel_rfl) (of_decide_eq_true (by kernel_rfl)) k1 bel lt1) (trodAll_cons_mk (Below.trod laidOut (by kernel_rfl) (of_decide_eq_true (by kernel_rfl)) k2 bel lt2) trodAll_mk0))), rfl, bel.frame _, fun h => by cases h⟩

/-- For every input the law returns true, and its arguments read as before. -/
theorem proved : Rows.MerkleFormsSaid :=
  OpenClaim.holds_of_wide 10 Try.f10 rfl rfl rfl rfl rfl rfl rfl ⟨rfl, rfl, rfl, rfl, rfl⟩ rfl rfl rfl rfl rfl (by kernel_rfl) Try.func10 (by kernel_rfl)
    (of_decide_eq_true (by kernel_rfl)) (by unfold Func.isWrapper; first | (rw [if_pos (by decide +kernel)]; kernel_rfl) | (rw [if_neg (by decide +kernel)]; exact ⟨rfl, rfl⟩))
    (fun os started H enc _ => lifted os started H enc)
#print axioms proved

end Go.Proofs.Ytdmfomjgmmkaeaa.merkleForms
