/- usufructlaw5.MerkleChecks: for any leaves, any place, any bytes, any proof, any turn, any sum the law returns true; no condition. -/
import Derived.Test.YtdmfomjgmmkaeaaRows
import Derived.Test.YtdmfomjgmmkaeaaMerkQ
import Derived.Deep.LoopGhost
import Derived.Deep.CutBlock
import Derived.ProofKit
import Derived.OpenShut
import Derived.ShutString
import Derived.ChangeOld
import Derived.Below
namespace Go.Proofs.Ytdmfomjgmmkaeaa.merkleChecks
open Go.ChangeShapes Go.WideShapes Go.ChangeAt Go.RowKit
open Go.ChangeMaps (open_string shut_string)

theorem own : ownKnob Try.prog.godebug = none := by kernel_rfl
theorem laidOut : laidOutB Try.prog = true := by kernel_rfl


attribute [local go_sem ↓] exec_mid_hash exec_load_hash exec_store_hash exec_store_proof
attribute [local go_sem] rowOk_new World.setRow_alloc_new aggOk_proof

set_option maxRecDepth 100000 in
set_option maxHeartbeats 8000000 in
theorem walk (w : World) {ao : Option Addr} {n c : Nat} {rows : List (List UInt8)} (hn : rows.length = n) (hc : n ≤ c) (hcm : c ≤ maxLen) (hR : RowsAt w ao rows) (i : Int)
    {ab : Option Addr} {nb cb : Nat} {b : List UInt8} (hnb : b.length = nb) (hB : BytesAt w ab b) (ix ct : Int) (hx0 : -9223372036854775808 ≤ ix) (hx3 : ct < 9223372036854775808)
    {ap : Option Addr} {m cp : Nat} {path : List (List UInt8)} (hm : path.length = m) (hH : HashesAt w ap path) (hmc : m ≤ cp) (hmm : cp ≤ maxLen) (tn : Int) {root : List UInt8} (hr : root.length = 32) :
    Calls Try.prog 8 #[.slice ao n c, .int .i64 i, .slice ab nb cb, .agg #[.int .i64 ix, .int .i64 ct, .slice ap m cp], .int .i64 tn, hashV root] w (SaysTrue w) := by
  obtain ⟨RV, hRV⟩ : ∃ RV, RV = (root.map byteV).toArray := ⟨_, rfl⟩
  have hRs : RV.size = 32 := by rw [hRV]; simp [hr]
  have hRa : aggOk 32 (.agg RV) = true := by rw [hRV]; exact aggOk_agg 32 _ (by simp [hr]) (bytes_all root)
  unfold hashV
  rw [← hRV]
  have HRV := shut hRV
  clear hRV
  have K0 := ((Keeps.refl Nothing w).alloc (.cells #[.int .i64 ix, .int .i64 ct, .slice ap m cp] 46)).alloc (.cells RV 25)
  have P0 := blk_alloc (blk_new w #[.int .i64 ix, .int .i64 ct, .slice ap m cp] 46) (.cells RV 25)
  have R0 := blk_new (w.alloc (.cells #[.int .i64 ix, .int .i64 ct, .slice ap m cp] 46)) RV 25
  rw [World.size_alloc] at R0
  go_enter Try.func8, Try.ntmps8
  go_wp2_with fail
  refine (few_any (c := c) hn (hR.keepsN K0)).mono ?_
  rintro e w1 ⟨r, rfl, hr0, k1⟩
  have P1 := k1.blk P0 (fun h => h)
  have R1 := k1.blk R0 (fun h => h)
  have K1 := K0.trans k1 (fun _ h _ => h)
  clear K0 P0 R0 k1
  have p2 := blk_cell P1 2 rfl
  cases r
  · go_wp2_with fail
    refine (told5_any _).mono ?_
    rintro e w2 ⟨rfl, k2⟩
    go_wp2_with fail
    go_ret
    exact ⟨rfl, K1.trans k2 (fun _ h _ => h)⟩
  · obtain ⟨hr1, hr2⟩ := hr0 rfl
    rw [hn] at hr1
    clear hr0
    by_cases hnb1 : nb ≤ 100
    rotate_left
    · have m1 : (100 : Int) < nb := by omega
      go_wp2_with fail
      refine (told5_any _).mono ?_
      rintro e w2 ⟨rfl, k2⟩
      go_wp2_with fail
      go_ret
      exact ⟨rfl, K1.trans k2 (fun _ h _ => h)⟩
    have m1 : ¬ (100 : Int) < nb := by omega
    by_cases hm1 : m ≤ 70
    rotate_left
    · have m2 : (70 : Int) < m := by omega
      go_wp2_with fail
      refine (told5_any _).mono ?_
      rintro e w2 ⟨rfl, k2⟩
      go_wp2_with fail
      go_ret
      exact ⟨rfl, K1.trans k2 (fun _ h _ => h)⟩
    have m2 : ¬ (70 : Int) < m := by omega
    have hb : ∀ r ∈ rows, r.length ≤ 1000 := fun r hr => by have := hr2 r hr; omega
    generalize w.heap.size = g9 at *
    have hrl : (rootL rows).length = 32 := by unfold rootL; split <;> exact sha_len _
    obtain ⟨TT, hTT⟩ : ∃ TT, TT = ((rootL rows).map byteV).toArray := ⟨_, rfl⟩
    have hTs : TT.size = 32 := by rw [hTT]; simp [hrl]
    have hTa : aggOk 32 (.agg TT) = true := by rw [hTT]; exact aggOk_agg 32 _ (by simp [hrl]) (bytes_all _)
    have TTH := shut hTT
    have hro := fun V (K : Keeps Nothing w1 V) => rroot_any (w := V) (c := c) hn (by omega) hc hcm (hR.keepsN (K1.trans K (fun _ h _ => h))) hb
    rw [show hashV (rootL rows) = .agg TT from by rw [hTT]; rfl] at hro
    clear hTT
    have hc1 := fun V (K : Keeps Nothing w1 V) => check_any (w := V) (cb := cb) hr HRV.out (hB.keepsN (K1.trans K (fun _ h _ => h))) hnb (by omega) ix ct hx0 hx3 hm (hH.keepsN (K1.trans K (fun _ h _ => h))) hmc hmm (by omega)
    have hc2 := fun V (K : Keeps Nothing w1 V) => rcheck_any (w := V) (cb := cb) hr HRV.out (hB.keepsN (K1.trans K (fun _ h _ => h))) hnb (by omega) ix ct hx3 hm (hH.keepsN (K1.trans K (fun _ h _ => h))) hmc hmm (by omega)
    have hc3 := fun V (K : Keeps Nothing w1 V) => check_any (w := V) (cb := cb) hrl TTH.out (hB.keepsN (K1.trans K (fun _ h _ => h))) hnb (by omega) ix ct hx0 hx3 hm (hH.keepsN (K1.trans K (fun _ h _ => h))) hmc hmm (by omega)
    have hc4 := fun V (K : Keeps Nothing w1 V) => rcheck_any (w := V) (cb := cb) hrl TTH.out (hB.keepsN (K1.trans K (fun _ h _ => h))) hnb (by omega) ix ct hx3 hm (hH.keepsN (K1.trans K (fun _ h _ => h))) hmc hmm (by omega)
    generalize checkL root b ix ct path = C1 at hc1 hc2
    generalize checkL (rootL rows) b ix ct path = C2 at hc3 hc4
    go_wp2_with fail
    refine wp_region_mix (fun V => Keeps Nothing w1 V) [(true, 0), (true, 1), (true, 2), (true, 4), (true, 5), (true, 6), (false, 3), (false, 7), (true, 8), (true, 9), (true, 10), (true, 12), (true, 13), (true, 15), (true, 17), (true, 18), (false, 11), (false, 14), (false, 16), (false, 19), (true, 20), (true, 21)] (by kernel_rfl) (by kernel_rfl) (Keeps.refl _ _).drew ?_
    simp only [mixItems, List.map_cons, List.map_nil, List.getD_cons_zero, List.getD_cons_succ]
    refine wpMix_yield (v := .agg RV) (fun V hV => ?_) (fun K hK => ?_)
    · have y1 := hV.blk R1 (fun h => h)
      have y2 := rowOk_blk (n := 32) y1 hRs
      have y3 := rowOf_blk y1
      go_simp
    go_simp
    refine hK _ ?_
    clear hK K
    repeat (refine wpMix_free (fun K hK => ?_); go_simp; refine hK _ ?_; clear hK K)
    refine wpMix_yield (v := .agg #[.int .i64 ix, .int .i64 ct, .slice ap m cp]) (fun V hV => ?_) (fun K hK => ?_)
    · have y0 := hV.cell (blk_cell P1 0 rfl) (fun h => h)
      have y1 := hV.cell (blk_cell P1 1 rfl) (fun h => h)
      have y2 := hV.cell (blk_cell P1 2 rfl) (fun h => h)
      go_simp
    go_simp
    refine hK _ ?_
    clear hK K
    refine wpMix_yield (v := .agg RV) (fun V hV => ?_) (fun K hK => ?_)
    · have y1 := hV.blk R1 (fun h => h)
      have y2 := rowOk_blk (n := 32) y1 hRs
      have y3 := rowOf_blk y1
      go_simp
    go_simp
    refine hK _ ?_
    clear hK K
    repeat (refine wpMix_free (fun K hK => ?_); go_simp; refine hK _ ?_; clear hK K)
    refine wpMix_yield (v := .agg #[.int .i64 ix, .int .i64 ct, .slice ap m cp]) (fun V hV => ?_) (fun K hK => ?_)
    · have y0 := hV.cell (blk_cell P1 0 rfl) (fun h => h)
      have y1 := hV.cell (blk_cell P1 1 rfl) (fun h => h)
      have y2 := hV.cell (blk_cell P1 2 rfl) (fun h => h)
      go_simp
    go_simp
    refine hK _ ?_
    clear hK K
    refine wpMix_one (fun K hK => ?_)
    go_wp2_with fail
    refine (hc1 _ (Keeps.refl _ _).drew).mono ?_
    rintro e v1 ⟨rfl, k1⟩
    have j1 : Keeps Nothing w1 v1 := ((Keeps.refl _ _).drew).trans k1 (fun _ h _ => h)
    go_wp2_with fail
    refine hK _ _ j1 ?_
    clear hK K k1
    refine wpMix_one (fun K hK => ?_)
    go_wp2_with fail
    refine (hc2 _ j1).mono ?_
    rintro e v2 ⟨rfl, k1⟩
    have j2 : Keeps Nothing w1 v2 := (j1).trans k1 (fun _ h _ => h)
    go_wp2_with fail
    refine hK _ _ j2 ?_
    clear hK K k1
    repeat (refine wpMix_free (fun K hK => ?_); go_simp; refine hK _ ?_; clear hK K)
    refine wpMix_yield (v := .agg #[.int .i64 ix, .int .i64 ct, .slice ap m cp]) (fun V hV => ?_) (fun K hK => ?_)
    · have y0 := hV.cell (blk_cell P1 0 rfl) (fun h => h)
      have y1 := hV.cell (blk_cell P1 1 rfl) (fun h => h)
      have y2 := hV.cell (blk_cell P1 2 rfl) (fun h => h)
      go_simp
    go_simp
    refine hK _ ?_
    clear hK K
    repeat (refine wpMix_free (fun K hK => ?_); go_simp; refine hK _ ?_; clear hK K)
    refine wpMix_yield (v := .agg #[.int .i64 ix, .int .i64 ct, .slice ap m cp]) (fun V hV => ?_) (fun K hK => ?_)
    · have y0 := hV.cell (blk_cell P1 0 rfl) (fun h => h)
      have y1 := hV.cell (blk_cell P1 1 rfl) (fun h => h)
      have y2 := hV.cell (blk_cell P1 2 rfl) (fun h => h)
      go_simp
    go_simp
    refine hK _ ?_
    clear hK K
    refine wpMix_one (fun K hK => ?_)
    go_wp2_with fail
    refine (hro _ j2).mono ?_
    rintro e v3 ⟨rfl, k1⟩
    have j3 : Keeps Nothing w1 v3 := (j2).trans k1 (fun _ h _ => h)
    go_wp2_with fail
    refine hK _ _ j3 ?_
    clear hK K k1
    refine wpMix_one (fun K hK => ?_)
    go_wp2_with fail
    refine (hc3 _ j3).mono ?_
    rintro e v4 ⟨rfl, k1⟩
    have j4 : Keeps Nothing w1 v4 := (j3).trans k1 (fun _ h _ => h)
    go_wp2_with fail
    refine hK _ _ j4 ?_
    clear hK K k1
    refine wpMix_one (fun K hK => ?_)
    go_wp2_with fail
    refine (hro _ j4).mono ?_
    rintro e v5 ⟨rfl, k1⟩
    have j5 : Keeps Nothing w1 v5 := (j4).trans k1 (fun _ h _ => h)
    go_wp2_with fail
    refine hK _ _ j5 ?_
    clear hK K k1
    refine wpMix_one (fun K hK => ?_)
    go_wp2_with fail
    refine (hc4 _ j5).mono ?_
    rintro e v6 ⟨rfl, k1⟩
    have j6 : Keeps Nothing w1 v6 := (j5).trans k1 (fun _ h _ => h)
    go_wp2_with fail
    refine hK _ _ j6 ?_
    clear hK K k1
    repeat (refine wpMix_free (fun K hK => ?_); go_simp; refine hK _ ?_; clear hK K)
    refine wpMix_nil ?_
    clear hc1 hc2 hc3 hc4 hro j1 j2 j3 j4 j5
    have K2 := K1.trans j6 (fun _ h _ => h)
    have P2 := j6.blk P1 (fun h => h)
    have R2 := j6.blk R1 (fun h => h)
    clear K1 P1 R1 j6 p2
    have K1 := K2
    clear K2
    by_cases hn0 : n = 0
    · subst hn0
      go_wp2_with fail
      refine (told5_any _).mono ?_
      rintro e w2 ⟨rfl, k2⟩
      go_wp2_with fail
      go_ret
      exact ⟨rfl, K1.trans k2 (fun _ h _ => h)⟩
    · have m3 : ((n : Int) == 0) = false := by rw [beq_eq_false_iff_ne]; omega
      obtain ⟨x, k, hx, hy1, hy2, hk, hkn⟩ := place_ex i hn0
      obtain ⟨b0, o0, rfl⟩ := hR.head (by omega)
      obtain ⟨xb, hxb⟩ : ∃ xb, rows[k]? = some xb := ⟨rows[k]'(by omega), by rw [List.getElem?_eq_getElem (by omega)]⟩
      have hxl : xb.length ≤ 100 := hr2 xb (List.mem_of_getElem? hxb)
      go_wp2_with fail
      refine (rpath_any (c := c) hn (by omega) hc hcm (hR.keepsN K1) hb k hkn).mono ?_
      rintro e w7 ⟨a7, c7, rfl, o7, k7, f7⟩
      have HF7 := shut f7
      clear hx hy1 hy2 hk f7 m3
      have h32 := pathL_32 rows.length rows k (Nat.le_refl _)
      have hLn := pathL_len rows.length rows k (Nat.le_refl _)
      obtain ⟨L, hL⟩ : ∃ L, (pathL rows k).length = L := ⟨_, rfl⟩
      generalize pathL rows k = pk at *
      rw [hL] at hLn ⊢
      obtain ⟨y, j, hy', hy1, hy2, hj', hj6⟩ := place_ex tn (n := 6) (by decide)
      have hy : Int.tmod tn 6 = y := hy'
      have hj : Int.tmod (y + 6) 6 = (j : Int) := hj'
      clear hy' hj'
      go_upto_block 0 with fail
      have l7 := k7.size
      have KA := k7.alloc (.cells #[.int .i64 (k : Int), .int .i64 (n : Int), .slice a7 L c7] 46)
      have Q8 := blk_new w7 #[.int .i64 (k : Int), .int .i64 (n : Int), .slice a7 L c7] 46
      have o8 : OwnH (w7.alloc (.cells #[.int .i64 (k : Int), .int .i64 (n : Int), .slice a7 L c7] 46)) a7 c7 pk := World.ownsRow.alloc o7 _
      have P8 := KA.blk P2 (fun h => h)
      have R8 := KA.blk R2 (fun h => h)
      have lP := lt_of_block P2
      clear o7 k7
      generalize w7.alloc (.cells #[.int .i64 (k : Int), .int .i64 (n : Int), .slice a7 L c7] 46) = w8 at *
      generalize w7.heap.size = gq at *
      obtain ⟨q1, q2⟩ := ownH_cap o8
      rw [hL] at q1
      go_cut [] from 78 to 123 (fun wx => QSt v6 gq wx)
      case first =>
        have P9 := ownH_at o8 h32
        have eb0 := blk_cell Q8 0 rfl
        have eb1 := blk_cell Q8 1 rfl
        have eb2 := blk_cell Q8 2 rfl
        have ef0 := blk_free Q8 0
        have ef1 := blk_free Q8 1
        have ef2 := blk_free Q8 2
        have ne0 : ∀ x, (Value.slice a7 pk.length c7).ownBlock = some x → ¬ x = gq := fun x hx e => by
          subst e
          rw [ownBlock_eq] at hx
          exact ownH_ne o8 Q8 (by decide) hx
        have hcase : j = 0 ∨ j = 1 ∨ j = 2 ∨ j = 3 ∨ j = 4 ∨ j = 5 := by omega
        clear hy hj hy1 hy2 hj6
        rcases hcase with rfl | rfl | rfl | rfl | rfl | rfl
        · go_wp2_with fail
          go_meet
          case rel => exact ⟨_, _, a7, L, c7, pk, Q8, by omega, by omega, hL, P9, q1, q2, by omega, KA⟩
        · have KT := (Keeps.refl (fun i => i = gq) w8).setCell (p := ⟨gq, 0, none⟩) (fun _ => rfl) (.int .i64 ((k : Int) + 1))
          have D : Blk (w8.setCell ⟨gq, 0, none⟩ (.int .i64 ((k : Int) + 1))) gq #[.int .i64 ((k : Int) + 1), .int .i64 (n : Int), .slice a7 L c7] 46 := blk_set Q8 0 _
          have o9 := ownH_at (KT.own o8 ne0) h32
          have K9 := KA.trans KT (fun i hi hlt => by omega)
          clear KT
          go_wp2_with fail
          go_meet
          case rel => exact ⟨_, _, a7, L, c7, pk, D, by omega, by omega, hL, o9, q1, q2, by omega, K9⟩
        · have KT := (Keeps.refl (fun i => i = gq) w8).setCell (p := ⟨gq, 1, none⟩) (fun _ => rfl) (.int .i64 ((n : Int) + 1))
          have D : Blk (w8.setCell ⟨gq, 1, none⟩ (.int .i64 ((n : Int) + 1))) gq #[.int .i64 (k : Int), .int .i64 ((n : Int) + 1), .slice a7 L c7] 46 := blk_set Q8 1 _
          have o9 := ownH_at (KT.own o8 ne0) h32
          have K9 := KA.trans KT (fun i hi hlt => by omega)
          clear KT
          go_wp2_with fail
          go_meet
          case rel => exact ⟨_, _, a7, L, c7, pk, D, by omega, by omega, hL, o9, q1, q2, by omega, K9⟩
        · by_cases hL0 : 0 < L
          rotate_left
          · have mL : ¬ (0 : Int) < L := by omega
            go_wp2_with fail
            go_meet
            case rel => exact ⟨_, _, a7, L, c7, pk, Q8, by omega, by omega, hL, P9, q1, q2, by omega, KA⟩
          · have mL : (0 : Int) < L := by omega
            obtain ⟨ga, rfl⟩ := ownH_head o8 (by omega)
            obtain ⟨xl, hxlast⟩ : ∃ xl, pk[L - 1]? = some xl := ⟨pk[L - 1]'(by omega), by rw [List.getElem?_eq_getElem (by omega)]⟩
            obtain ⟨cur, cb5, hcu, hc5, hset⟩ := hashes_byte o8 h32 hxlast
            obtain ⟨T, hT⟩ : ∃ T, L - 1 = T := ⟨_, rfl⟩
            rw [hT] at hc5 hset
            have hc6 : cur[T * 32 + 5]? = some (.int .u8 (cb5.toNat : Int)) := hc5
            clear hc5
            have hT2 : (L : Int) - 1 = (T : Int) := by omega
            have hT3 : T < L := by omega
            have hT4 : (T : Int) < L := by omega
            have HF9 := HF7.out ga rfl
            have ew : IntKind.i64.wrap (T : Int) = (T : Int) := by rw [IntKind.wrap_i64]; omega
            have ga0 : ga ≠ gq := fun e => ne0 ga rfl e
            go_wp2_with fail
            refine wp_region_mixT (fun V => Keeps Nothing w8 V) 12 (.take 0 (.take 1 (.take 2 (.take 3 (.take 4 (.take 5 (.take 6 (.take 7 (.take 8 (.take 9 (.one 10 (.take 11 (.one 12 .done))))))))))))) (by kernel_rfl) (by kernel_rfl) (Keeps.refl _ _).drew ?_
            simp only [itemsT, PlanT.map, List.getD_cons_zero, List.getD_cons_succ, Nat.reduceBEq]
            repeat (refine wpMixT_free (fun K hK => ?_); go_simp; refine hK _ ?_; clear hK K)
            refine wpMixT_yield (v := .slice (some ⟨ga, 0, none⟩) L c7) (fun V hV => ?_) (fun K hK => ?_)
            · have y1 := hV.cell eb2 (fun h => h)
              go_simp
            go_simp
            refine hK _ ?_
            clear hK K
            repeat (refine wpMixT_free (fun K hK => ?_); go_simp; refine hK _ ?_; clear hK K)
            refine wpMixT_yield (v := .slice (some ⟨ga, 0, none⟩) L c7) (fun V hV => ?_) (fun K hK => ?_)
            · have y1 := hV.cell eb2 (fun h => h)
              go_simp
            go_simp
            refine hK _ ?_
            clear hK K
            repeat (refine wpMixT_free (fun K hK => ?_); go_simp; refine hK _ ?_; clear hK K)
            refine wpMixT_yield (v := .int .u8 (cb5.toNat : Int)) (fun V hV => ?_) (fun K hK => ?_)
            · have y1 := blk_cell (hV.blk hcu (fun h => h)) (T * 32 + 5) hc6
              go_simp
            go_simp
            refine hK _ ?_
            clear hK K
            refine wpMixT_free (fun K hK => ?_)
            go_simp
            refine hK _ ?_
            clear hK K
            refine wpMixT_one (fun K hK => ?_)
            go_wp2_with fail
            refine hK _ _ (.inr (Keeps.refl _ _).drew) ?_
            clear hK K
            repeat (refine wpMixT_free (fun K hK => ?_); go_simp; refine hK _ ?_; clear hK K)
            have ed1 : w8.drew.cell? ⟨ga, T * 32 + 5, none⟩ = some (.int .u8 (cb5.toNat : Int)) := blk_cell hcu (T * 32 + 5) hc6
            have ed2 : w8.drew.frozen? ⟨ga, T * 32 + 5, none⟩ = false := blk_free hcu (T * 32 + 5)
            refine wpMixT_one (fun K hK => ?_)
            go_wp2_with fail
            refine hK _ _ (.inl (by first | rfl | trivial)) ?_
            clear hK K
            refine wpMixT_done ?_
            rw [show Value.int .u8 (bits BinOp.xor IntKind.u8 (cb5.toNat : Int) 4) = byteV (UInt8.ofNat (cb5.toNat ^^^ 4)) from by
              rw [← byteV_nat (Nat.xor_lt_two_pow (n := 8) (by have := cb5.toNat_lt; omega) (by decide))]
              exact congrArg (Value.int .u8) (u8_xor_nat cb5.toNat 4 (by have := cb5.toNat_lt; omega) (by decide))]
            have P12 := (hset (UInt8.ofNat (cb5.toNat ^^^ 4))).keepsN (Keeps.refl Nothing _).drew
            have KX := (KA.trans ((Keeps.refl (fun i => i = ga) w8).setCell (p := ⟨ga, T * 32 + 5, none⟩) (fun _ => rfl) (byteV (UInt8.ofNat (cb5.toNat ^^^ 4)))) (fun i hi hlt => by omega)).drew
            have D := blk_other Q8 ⟨ga, T * 32 + 5, none⟩ (fun e => ga0 e.symm) (byteV (UInt8.ofNat (cb5.toNat ^^^ 4)))
            go_wp2_with fail
            go_meet
            case rel => exact ⟨_, _, _, L, c7, _, D, by omega, by omega, by rw [List.length_set]; exact hL, P12, q1, q2, by omega, KX⟩
        · have r1 := rowOk_blk (n := 32) R8 hRs
          have r2 := rowOf_blk R8
          have o9 : OwnH (w8.alloc (.cells RV 25)) a7 c7 pk := World.ownsRow.alloc o8 _
          have D9 := blk_new w8 RV 25
          have KB := KA.alloc (.cells RV 25)
          have Q9 := blk_alloc Q8 (.cells RV 25)
          go_wp2_with (at_builtin; rw [← zeros32_lit, fill32 zeros32_size hRs]; refine wpList_appH _ rfl (.tmp 111) (.tmp 113) rfl a7 c7 pk L hL rfl o9 w8.heap.size root hr HRV.out rfl D9 (by omega) ?_)
          intro a10 c10 w10 o10 k10 m10
          have neq : blockOf a7 ≠ some gq := fun e => ne0 gq (by rw [ownBlock_eq]; exact e) rfl
          have Q10 := k10.blk Q9 neq
          have K10 := KB.trans k10 (fun i hi hlt => by have := HF7.out i hi; omega)
          have h33 : ∀ y ∈ pk ++ [root], y.length = 32 := fun y hy => by
            rcases List.mem_append.1 hy with q | q
            · exact h32 y q
            · rw [List.mem_singleton.1 q]; exact hr
          have eb2 := blk_cell Q10 2 rfl
          have ef2 := blk_free Q10 2
          have KT := (Keeps.refl (fun i => i = gq) w10).setCell (p := ⟨gq, 2, none⟩) (fun _ => rfl) (.slice a10 (L + 1) c10)
          have D : Blk (w10.setCell ⟨gq, 2, none⟩ (.slice a10 (L + 1) c10)) gq #[.int .i64 (k : Int), .int .i64 (n : Int), .slice a10 (L + 1) c10] 46 := blk_set Q10 2 _
          have o11 := KT.own o10 (fun x hx e => by subst e; rw [ownBlock_eq] at hx; exact ownH_ne o10 Q10 (by decide) hx)
          obtain ⟨t1, t2⟩ := ownH_cap o11
          have P11 := ownH_at o11 h33
          have K11 := K10.trans KT (fun i hi hlt => by omega)
          rw [List.length_append, hL, List.length_singleton] at t1
          clear KT
          go_wp2_with fail
          go_meet
          case rel => exact ⟨_, _, a10, L + 1, c10, pk ++ [root], D, by omega, by omega, by simp [hL], P11, t1, t2, by omega, K11⟩
        · have x0 := blk_cell P8 0 rfl
          have x1 := blk_cell P8 1 rfl
          have gne : ¬ g9 = gq := by omega
          go_wp2_with fail
          refine wp_region_mix (fun V => Keeps (fun i => i = gq) w8 V) [(true, 0), (true, 1), (true, 2), (true, 3), (true, 4), (false, 5), (true, 6), (false, 7)] (by kernel_rfl) (by kernel_rfl) (Keeps.refl _ _).drew ?_
          simp only [mixItems, List.map_cons, List.map_nil, List.getD_cons_zero, List.getD_cons_succ]
          repeat (refine wpMix_free (fun K hK => ?_); go_simp; refine hK _ ?_; clear hK K)
          refine wpMix_yield (v := .int .i64 ix) (fun V hV => ?_) (fun K hK => ?_)
          · have y1 := hV.cell x0 gne
            go_simp
          go_simp
          refine hK _ ?_
          clear hK K
          repeat (refine wpMix_free (fun K hK => ?_); go_simp; refine hK _ ?_; clear hK K)
          refine wpMix_yield (v := .int .i64 ct) (fun V hV => ?_) (fun K hK => ?_)
          · have y1 := hV.cell x1 gne
            go_simp
          go_simp
          refine hK _ ?_
          clear hK K
          repeat (refine wpMix_free (fun K hK => ?_); go_simp; refine hK _ ?_; clear hK K)
          have KT := (Keeps.refl (fun i => i = gq) w8).drew.setCell (p := ⟨gq, 0, none⟩) (fun _ => rfl) (.int .i64 ix)
          have D : Blk (w8.drew.setCell ⟨gq, 0, none⟩ (.int .i64 ix)) gq #[.int .i64 ix, .int .i64 (n : Int), .slice a7 L c7] 46 := blk_set (w := w8.drew) Q8 0 _
          have KU := KT.setCell (p := ⟨gq, 1, none⟩) (fun _ => rfl) (.int .i64 ct)
          have D2 : Blk ((w8.drew.setCell ⟨gq, 0, none⟩ (.int .i64 ix)).setCell ⟨gq, 1, none⟩ (.int .i64 ct)) gq #[.int .i64 ix, .int .i64 ct, .slice a7 L c7] 46 := blk_set D 1 _
          have ed1 := blk_cell D 1 rfl
          have ed2 := blk_free D 1
          refine wpMix_one (fun K hK => ?_)
          go_wp2_with fail
          refine hK _ _ KT ?_
          clear hK K
          repeat (refine wpMix_free (fun K hK => ?_); go_simp; refine hK _ ?_; clear hK K)
          refine wpMix_one (fun K hK => ?_)
          go_wp2_with fail
          refine hK _ _ KU ?_
          clear hK K
          refine wpMix_nil ?_
          have o9 := ownH_at (KU.own o8 ne0) h32
          have K9 := KA.trans KU (fun i hi hlt => by omega)
          clear KT KU D
          go_wp2_with fail
          go_meet
          case rel => exact ⟨_, _, a7, L, c7, pk, D2, by omega, by omega, hL, o9, q1, q2, by omega, K9⟩
      case rest =>
        obtain ⟨qi, qc, aq, mq, cq, pq, DQ, z1, z2, z3, z4, z5, z6, z7, KQ⟩ := hcut
        clear Q8 o8 P8 R8 q1 q2 KA hL h32 hLn hy hj hy1 hy2 hj6 HF7 l7
        have KW := K1.trans KQ (fun _ h _ => h)
        have hrt := rroot_any (w := wc) (c := c) hn (by omega) hc hcm (hR.keepsN KW) hb
        rw [show hashV (rootL rows) = .agg TT from by rw [TTH.out]; rfl] at hrt
        go_wp2_with fail
        refine hrt.mono ?_
        rintro e w9 ⟨rfl, k9⟩
        clear hrt
        go_wp2_with fail
        have KY := KW.trans (k9.alloc (.cells TT 25)) (fun _ h _ => h)
        have DY := (k9.alloc (.cells TT 25)).blk DQ (fun h => h)
        have HY := z4.keepsN (k9.alloc (.cells TT 25))
        have TY := blk_new w9 TT 25
        clear k9 DQ z4 KW KQ K1 P2 R2
        generalize w9.alloc (.cells TT 25) = wy at *
        generalize w9.heap.size = gt at *
        obtain ⟨_, ax, cx, hcx, hBx, hx8, hx9⟩ := (hR.keepsN KY).2 _ rfl k xb hxb
        rw [Addr.add_mid'] at hcx
        have hBy := hB.keepsN KY
        have hd1 := fun V (K : Keeps Nothing wy V) => check_any (w := V) (cb := cx) hrl TTH.out (hBx.keepsN K) rfl (by omega) qi qc z1 z2 z3 (HY.keepsN K) z5 z6 (by omega)
        have hd2 := fun V (K : Keeps Nothing wy V) => rcheck_any (w := V) (cb := cx) hrl TTH.out (hBx.keepsN K) rfl (by omega) qi qc z2 z3 (HY.keepsN K) z5 z6 (by omega)
        have hd3 := fun V (K : Keeps Nothing wy V) => check_any (w := V) (cb := cb) hrl TTH.out (hBy.keepsN K) hnb (by omega) qi qc z1 z2 z3 (HY.keepsN K) z5 z6 (by omega)
        have hd4 := fun V (K : Keeps Nothing wy V) => rcheck_any (w := V) (cb := cb) hrl TTH.out (hBy.keepsN K) hnb (by omega) qi qc z2 z3 (HY.keepsN K) z5 z6 (by omega)
        generalize checkL (rootL rows) xb qi qc pq = D1 at hd1 hd2
        generalize checkL (rootL rows) b qi qc pq = D2 at hd3 hd4
        have mk : (k : Int) < n := by omega
        clear hBx hBy HY z3 z5 z6
        refine wp_region_mix (fun V => Keeps Nothing wy V) [(false, 0), (true, 1), (true, 2), (true, 3), (true, 4), (true, 5), (true, 6), (true, 7), (true, 9), (true, 10), (true, 11), (true, 12), (true, 13), (true, 14), (false, 8), (false, 15), (true, 16), (true, 17), (true, 18), (true, 19), (true, 20), (true, 21), (true, 23), (true, 24), (true, 25), (false, 22), (false, 26), (true, 27), (true, 28), (true, 29)] (by kernel_rfl) (by kernel_rfl) (Keeps.refl _ _).drew ?_
        simp only [mixItems, List.map_cons, List.map_nil, List.getD_cons_zero, List.getD_cons_succ]
        refine wpMix_one (fun K hK => ?_)
        go_wp2_with fail
        refine ((fun V (_ : Keeps Nothing wy V) => told5_any V) _ (Keeps.refl _ _).drew).mono ?_
        rintro e v21 ⟨rfl, k1⟩
        have i1 : Keeps Nothing wy v21 := ((Keeps.refl _ _).drew).trans k1 (fun _ h _ => h)
        go_wp2_with fail
        refine hK _ _ i1 ?_
        clear hK K k1
        repeat (refine wpMix_free (fun K hK => ?_); go_simp; refine hK _ ?_; clear hK K)
        refine wpMix_yield (v := .agg TT) (fun V hV => ?_) (fun K hK => ?_)
        · have y1 := hV.blk TY (fun h => h)
          have y2 := rowOk_blk (n := 32) y1 hTs
          have y3 := rowOf_blk y1
          go_simp
        go_simp
        refine hK _ ?_
        clear hK K
        repeat (refine wpMix_free (fun K hK => ?_); go_simp; refine hK _ ?_; clear hK K)
        refine wpMix_yield (v := .slice ax xb.length cx) (fun V hV => ?_) (fun K hK => ?_)
        · have y1 := hV.cell hcx (fun h => h)
          go_simp
        go_simp
        refine hK _ ?_
        clear hK K
        refine wpMix_yield (v := .agg #[.int .i64 qi, .int .i64 qc, .slice aq mq cq]) (fun V hV => ?_) (fun K hK => ?_)
        · have y0 := hV.cell (blk_cell DY 0 rfl) (fun h => h)
          have y1 := hV.cell (blk_cell DY 1 rfl) (fun h => h)
          have y2 := hV.cell (blk_cell DY 2 rfl) (fun h => h)
          go_simp
        go_simp
        refine hK _ ?_
        clear hK K
        refine wpMix_yield (v := .agg TT) (fun V hV => ?_) (fun K hK => ?_)
        · have y1 := hV.blk TY (fun h => h)
          have y2 := rowOk_blk (n := 32) y1 hTs
          have y3 := rowOf_blk y1
          go_simp
        go_simp
        refine hK _ ?_
        clear hK K
        repeat (refine wpMix_free (fun K hK => ?_); go_simp; refine hK _ ?_; clear hK K)
        refine wpMix_yield (v := .slice ax xb.length cx) (fun V hV => ?_) (fun K hK => ?_)
        · have y1 := hV.cell hcx (fun h => h)
          go_simp
        go_simp
        refine hK _ ?_
        clear hK K
        refine wpMix_yield (v := .agg #[.int .i64 qi, .int .i64 qc, .slice aq mq cq]) (fun V hV => ?_) (fun K hK => ?_)
        · have y0 := hV.cell (blk_cell DY 0 rfl) (fun h => h)
          have y1 := hV.cell (blk_cell DY 1 rfl) (fun h => h)
          have y2 := hV.cell (blk_cell DY 2 rfl) (fun h => h)
          go_simp
        go_simp
        refine hK _ ?_
        clear hK K
        refine wpMix_one (fun K hK => ?_)
        go_wp2_with fail
        refine (hd1 _ i1).mono ?_
        rintro e v22 ⟨rfl, k1⟩
        have i2 : Keeps Nothing wy v22 := (i1).trans k1 (fun _ h _ => h)
        go_wp2_with fail
        refine hK _ _ i2 ?_
        clear hK K k1
        refine wpMix_one (fun K hK => ?_)
        go_wp2_with fail
        refine (hd2 _ i2).mono ?_
        rintro e v23 ⟨rfl, k1⟩
        have i3 : Keeps Nothing wy v23 := (i2).trans k1 (fun _ h _ => h)
        go_wp2_with fail
        refine hK _ _ i3 ?_
        clear hK K k1
        repeat (refine wpMix_free (fun K hK => ?_); go_simp; refine hK _ ?_; clear hK K)
        refine wpMix_yield (v := .agg TT) (fun V hV => ?_) (fun K hK => ?_)
        · have y1 := hV.blk TY (fun h => h)
          have y2 := rowOk_blk (n := 32) y1 hTs
          have y3 := rowOf_blk y1
          go_simp
        go_simp
        refine hK _ ?_
        clear hK K
        repeat (refine wpMix_free (fun K hK => ?_); go_simp; refine hK _ ?_; clear hK K)
        refine wpMix_yield (v := .agg #[.int .i64 qi, .int .i64 qc, .slice aq mq cq]) (fun V hV => ?_) (fun K hK => ?_)
        · have y0 := hV.cell (blk_cell DY 0 rfl) (fun h => h)
          have y1 := hV.cell (blk_cell DY 1 rfl) (fun h => h)
          have y2 := hV.cell (blk_cell DY 2 rfl) (fun h => h)
          go_simp
        go_simp
        refine hK _ ?_
        clear hK K
        refine wpMix_yield (v := .agg TT) (fun V hV => ?_) (fun K hK => ?_)
        · have y1 := hV.blk TY (fun h => h)
          have y2 := rowOk_blk (n := 32) y1 hTs
          have y3 := rowOf_blk y1
          go_simp
        go_simp
        refine hK _ ?_
        clear hK K
        repeat (refine wpMix_free (fun K hK => ?_); go_simp; refine hK _ ?_; clear hK K)
        refine wpMix_yield (v := .agg #[.int .i64 qi, .int .i64 qc, .slice aq mq cq]) (fun V hV => ?_) (fun K hK => ?_)
        · have y0 := hV.cell (blk_cell DY 0 rfl) (fun h => h)
          have y1 := hV.cell (blk_cell DY 1 rfl) (fun h => h)
          have y2 := hV.cell (blk_cell DY 2 rfl) (fun h => h)
          go_simp
        go_simp
        refine hK _ ?_
        clear hK K
        refine wpMix_one (fun K hK => ?_)
        go_wp2_with fail
        refine (hd3 _ i3).mono ?_
        rintro e v24 ⟨rfl, k1⟩
        have i4 : Keeps Nothing wy v24 := (i3).trans k1 (fun _ h _ => h)
        go_wp2_with fail
        refine hK _ _ i4 ?_
        clear hK K k1
        refine wpMix_one (fun K hK => ?_)
        go_wp2_with fail
        refine (hd4 _ i4).mono ?_
        rintro e v25 ⟨rfl, k1⟩
        have i5 : Keeps Nothing wy v25 := (i4).trans k1 (fun _ h _ => h)
        go_wp2_with fail
        refine hK _ _ i5 ?_
        clear hK K k1
        repeat (refine wpMix_free (fun K hK => ?_); go_simp; refine hK _ ?_; clear hK K)
        refine wpMix_nil ?_
        go_wp2_with fail
        go_ret
        exact ⟨rfl, KY.trans i5 (fun _ h _ => h)⟩
set_option maxRecDepth 100000 in
theorem lifted (os : Os) (started : os.Started) (H : Type) (enc : TypeId × Value → H) :
    ReturnsInHanded {} Try.checked os 8 .any (Rows.merkleChecksSpec.pre6 enc Try.prog Try.f8 Rows.merkleChecksRow.domain false) (Rows.merkleChecksSpec.post enc Try.prog Try.f8 false true false false) := by
  refine returnsInHanded_of_change (C := Try.checked) own started (by kernel_rfl) Try.func8
    (ChangeSpec.witness6 (enc := enc) (C := Try.checked) false ⟨#[], #[.slice none 0 0, .int .i64 0, .slice none 0 0, .agg #[.int .i64 0, .int .i64 0, .slice none 0 0], .int .i64 0, hashV zeros32], []⟩ 8 (by kernel_rfl) (by kernel_rfl) (by kernel_rfl) (by kernel_rfl)) ?_
  intro W base args ds gs before hval0 hW hcnd _
  have hval : ∀ (j : Nat) t v, Try.f8.params[j]? = some t → args[j]? = some v → Value.okWide Try.prog W .any base t v := hval0
  have hW' := hW
  obtain ⟨p, q, hA0, hV, rfl, hfz, hnd⟩ := hW
  have hA : DataW.TrodAll enc Try.prog W 0 (fun _ => true) true Try.f8.params.toList args.toList ds p := hA0
  rw [Try.params8] at hA hval
  obtain ⟨v0, vs0, d0, ds0, p0, q0, hargs, rfl, rfl, h0, r0⟩ := trodAll_cons hA
  obtain ⟨v1, vs1, d1, ds1, p1, q1, rfl, rfl, rfl, h1, r1⟩ := trodAll_cons r0
  obtain ⟨v2, vs2, d2, ds2, p2, q2, rfl, rfl, rfl, h2, r2⟩ := trodAll_cons r1
  obtain ⟨v3, vs3, d3, ds3, p3, q3, rfl, rfl, rfl, h3, r3⟩ := trodAll_cons r2
  obtain ⟨v4, vs4, d4, ds4, p4, q4, rfl, rfl, rfl, h4, r4⟩ := trodAll_cons r3
  obtain ⟨v5, vs5, d5, ds5, p5, q5, rfl, rfl, rfl, h5, r5⟩ := trodAll_cons r4
  obtain ⟨rfl, rfl, rfl⟩ := trodAll_nil r5
  obtain rfl : args = #[v0, v1, v2, v3, v4, v5] := by cases args; simp_all
  obtain ⟨rfl, rfl⟩ := trodVars_none hV
  have k0 := h0
  have lt0 : ∀ x ∈ p0, x.block < W.heap.size := by obtain ⟨m, hm⟩ := k0; exact DataW.trod_lt m _ _ _ hm
  have k1 := h1
  have lt1 : ∀ x ∈ p1, x.block < W.heap.size := by obtain ⟨m, hm⟩ := k1; exact DataW.trod_lt m _ _ _ hm
  have k2 := h2
  have lt2 : ∀ x ∈ p2, x.block < W.heap.size := by obtain ⟨m, hm⟩ := k2; exact DataW.trod_lt m _ _ _ hm
  have k3 := h3
  have lt3 : ∀ x ∈ p3, x.block < W.heap.size := by obtain ⟨m, hm⟩ := k3; exact DataW.trod_lt m _ _ _ hm
  have k4 := h4
  have lt4 : ∀ x ∈ p4, x.block < W.heap.size := by obtain ⟨m, hm⟩ := k4; exact DataW.trod_lt m _ _ _ hm
  have k5 := h5
  have lt5 : ∀ x ∈ p5, x.block < W.heap.size := by obtain ⟨m, hm⟩ := k5; exact DataW.trod_lt m _ _ _ hm
  obtain ⟨ao0, len0, cap0, rfl⟩ := okWide_slice Try.underlying41 (hval 0 41 v0 rfl rfl)
  obtain ⟨fuel0, hf0⟩ := h0
  obtain ⟨rows0, hn0, hR0, hlc0, hcm0⟩ := open_rows rfl hf0
  obtain ⟨a1, rfl, rfl, rfl, w1⟩ := open_int Try.underlying3 (hval 1 3 v1 rfl rfl) h1
  obtain ⟨ao2, len2, cap2, rfl⟩ := okWide_slice Try.underlying22 (hval 2 22 v2 rfl rfl)
  obtain ⟨fuel2, hf2⟩ := h2
  obtain ⟨bs2, hn2, hB2, hlc2, hcm2⟩ := open_bytes rfl hf2
  obtain ⟨ix3, ct3, ap3, len3, cap3, hs3, rfl, x30, x31, x32, x33, hn3, hH3, hlc3, hcm3⟩ := open_proof (hval 3 46 v3 rfl rfl) h3
  obtain ⟨a4, rfl, rfl, rfl, w4⟩ := open_int Try.underlying3 (hval 4 3 v4 rfl rfl) h4
  obtain ⟨bs5, hn5, rfl⟩ := open_hash (hval 5 25 v5 rfl rfl) h5
  clear hA0 hval0
  refine (walk W hn0 hlc0 hcm0 hR0 a1 hn2 hB2 ix3 ct3 x30 x33 hn3 hH3 hlc3 hcm3 a4 hn5).mono fun e W' ⟨he, hk⟩ => ?_
  subst he
  have bel : Below W.heap.size W W' := hk.below (Nat.le_refl _) (fun _ h => h.elim)
  exact ⟨_, rfl, _, _, _, [], _, [], hW', trodAll_mk1 (shut_bool Try.underlying4 _), (trodAll_cons_mk (Below.trod laidOut (by kernel_rfl) (of_decide_eq_true (by kernel_rfl)) k0 bel lt0) (trodAll_cons_mk (Below.trod laidOut (by kernel_rfl) (of_decide_eq_true (by kernel_rfl)) k1 bel lt1) (trodAll_cons_mk (Below.trod laidOut (by kernel_rfl) (of_decide_eq_true (by kernel_rfl)) k2 bel lt2) (trodAll_cons_mk (Below.trod laidOut (by kernel_rfl) (of_decide_eq_true (by kernel_rfl)) k3 bel lt3) (trodAll_cons_mk (Below.trod laidOut (by kernel_rfl) (of_decide_eq_true (by kernel_rfl)) k4 bel lt4) (trodAll_cons_mk (Below.trod laidOut (by kernel_rfl) (of_decide_eq_true (by kernel_rfl)) k5 bel lt5) trodAll_mk0)))))), rfl, bel.frame _, fun h => by cases h⟩

/-- For every input the law returns true, and its arguments read as before. -/
theorem proved : Rows.MerkleChecksSaid :=
  OpenClaim.holds_of_wide 8 Try.f8 rfl rfl rfl rfl rfl rfl rfl ⟨rfl, rfl, rfl, rfl, rfl⟩ rfl rfl rfl rfl rfl (by kernel_rfl) Try.func8 (by kernel_rfl)
    (of_decide_eq_true (by kernel_rfl)) (by unfold Func.isWrapper; first | (rw [if_pos (by decide +kernel)]; kernel_rfl) | (rw [if_neg (by decide +kernel)]; exact ⟨rfl, rfl⟩))
    (fun os started H enc _ => lifted os started H enc)
#print axioms proved

end Go.Proofs.Ytdmfomjgmmkaeaa.merkleChecks
