/- usufructlaw5.MerkleProves: for any leaves and any other bytes the law returns true; no condition. -/
import Derived.Test.YtdmfomjgmmkaeaaRows
import Derived.Test.YtdmfomjgmmkaeaaMerk31
import Derived.Deep.Cut
import Derived.Deep.CutBlock
import Derived.ProofKit
import Derived.OpenShut
import Derived.ShutString
import Derived.ChangeOld
import Derived.Below
namespace Go.Proofs.Ytdmfomjgmmkaeaa.merkleProves
open Go.ChangeShapes Go.WideShapes Go.ChangeAt Go.RowKit
open Go.ChangeMaps (open_string shut_string)

theorem own : ownKnob Try.prog.godebug = none := by kernel_rfl
theorem laidOut : laidOutB Try.prog = true := by kernel_rfl


attribute [local go_sem ↓] exec_mid_hash exec_load_hash exec_store_hash exec_store_proof
attribute [local go_sem] rowOk_new World.setRow_alloc_new aggOk_proof

set_option maxRecDepth 100000 in
set_option maxHeartbeats 8000000 in
theorem walk (w : World) {ao : Option Addr} {n c : Nat} {rows : List (List UInt8)} (hn : rows.length = n) (hc : n ≤ c) (hcm : c ≤ maxLen) (hR : RowsAt w ao rows)
    {ab : Option Addr} {nb cb : Nat} {b : List UInt8} (hnb : b.length = nb) (hB : BytesAt w ab b) (hbc : nb ≤ cb) (hbm : cb ≤ maxLen) :
    Calls Try.prog 11 #[.slice ao n c, .slice ab nb cb] w (SaysTrue w) := by
  go_enter Try.func11, Try.ntmps11
  go_wp2_with fail
  refine (few_any (c := c) hn hR).mono ?_
  rintro e w1 ⟨r, rfl, hr0, K1⟩
  cases r
  · go_wp2_with fail
    refine (told5_any _).mono ?_
    rintro e w2 ⟨rfl, k2⟩
    go_wp2_with fail
    go_ret
    exact ⟨rfl, K1.trans k2 (fun _ h _ => h)⟩
  obtain ⟨hr1, hr2⟩ := hr0 rfl
  rw [hn] at hr1
  clear hr0
  by_cases hn0 : n = 0
  · subst hn0
    go_wp2_with fail
    refine (told5_any _).mono ?_
    rintro e w2 ⟨rfl, k2⟩
    go_wp2_with fail
    go_ret
    exact ⟨rfl, K1.trans k2 (fun _ h _ => h)⟩
  have m0 : ((n : Int) == 0) = false := by rw [beq_eq_false_iff_ne]; omega
  by_cases hnb1 : nb ≤ 100
  rotate_left
  · have m1 : (100 : Int) < nb := by omega
    go_wp2_with fail
    refine (told5_any _).mono ?_
    rintro e w2 ⟨rfl, k2⟩
    go_wp2_with fail
    go_ret
    exact ⟨rfl, K1.trans k2 (fun _ h _ => h)⟩
  have m1 : ¬ (100 : Int) < nb := by omega
  have hb : ∀ r ∈ rows, r.length ≤ 1000 := fun r hr => by have := hr2 r hr; omega
  have hrl : (rootL rows).length = 32 := by unfold rootL; split <;> exact sha_len _
  obtain ⟨TT, hTT⟩ : ∃ TT, TT = ((rootL rows).map byteV).toArray := ⟨_, rfl⟩
  have hTs : TT.size = 32 := by rw [hTT]; simp [hrl]
  have hTa : aggOk 32 (.agg TT) = true := by rw [hTT]; exact aggOk_agg 32 _ (by simp [hrl]) (bytes_all _)
  have TTH := shut hTT
  have hro := root_any (w := w1) (c := c) hn (by omega) hc hcm (hR.keepsN K1) hb
  rw [show hashV (rootL rows) = .agg TT from by rw [hTT]; rfl] at hro
  clear hTT
  go_wp2_with fail
  refine hro.mono ?_
  rintro e w2 ⟨rfl, k2⟩
  clear hro
  go_wp2_with fail
  have K3 := (K1.trans k2 (fun _ h _ => h)).alloc (.cells TT 25)
  have T3 := blk_new w2 TT 25
  clear k2 K1
  generalize w2.alloc (.cells TT 25) = w3 at *
  generalize w2.heap.size = gr at *
  have lT := lt_of_block T3
  go_loopw [6] (fun s6 wx => ∃ i : Nat, s6 = .int .i64 i ∧ i ≤ n ∧ Keeps Nothing w3 wx) (fun s6 _ => n - (intOf s6).toNat)
  case atStart => exact ⟨0, rfl, by omega, Keeps.refl _ _⟩
  case round =>
    obtain ⟨i, rfl, hi, KR⟩ := hrel
    by_cases hlt : i < n
    rotate_left
    · obtain rfl : i = n := by omega
      have m2 : ¬ (i : Int) < i := by omega
      have KZ := K3.trans KR (fun _ h _ => h)
      go_wp2_with fail
      refine (told5_any _).mono ?_
      rintro e w2 ⟨rfl, k2⟩
      go_wp2_with fail
      go_ret
      exact ⟨rfl, KZ.trans k2 (fun _ h _ => h)⟩
    have m2 : (i : Int) < n := by omega
    have KW := K3.trans KR (fun _ h _ => h)
    obtain ⟨b0, o0, rfl⟩ := hR.head (by omega)
    obtain ⟨xb, hxb⟩ : ∃ xb, rows[i]? = some xb := ⟨rows[i]'(by omega), by rw [List.getElem?_eq_getElem (by omega)]⟩
    have hxl : xb.length ≤ 100 := hr2 xb (List.mem_of_getElem? hxb)
    go_wp2_with fail
    refine (prove_any (w := wr) (c := c) hn (by omega) hc hcm (hR.keepsN KW) hb (i : Int)).mono ?_
    rintro e w4 ⟨hp, -⟩
    obtain ⟨a3, c3, rfl, oq, k4, -⟩ := hp ⟨by omega, by rw [hn]; omega⟩
    rw [Int.toNat_natCast] at oq ⊢
    rw [hn]
    have h32 := pathL_32 rows.length rows i (Nat.le_refl _)
    have hLn := pathL_len rows.length rows i (Nat.le_refl _)
    have hcp := checkL_path hn hxb
    have HXI := shut (fun (hne : b ≠ xb) => extract_iff (p := pathL rows i) hn hxb hne h32)
    obtain ⟨L, hL⟩ : ∃ L, (pathL rows i).length = L := ⟨_, rfl⟩
    obtain ⟨q1, q2⟩ := ownH_cap oq
    have Q4 := ownH_at oq h32
    generalize pathL rows i = pp at *
    rw [hL] at q1 hLn ⊢
    unfold proofV
    have K4 := KW.trans k4 (fun _ h _ => h)
    have T4 := k4.blk (KR.blk T3 (fun h => h)) (fun h => h)
    clear hp oq
    go_wp2_with fail
    have kA := (Keeps.refl Nothing w4).alloc (.cells #[.int .i64 (i : Int), .int .i64 (n : Int), .slice a3 L c3] 46)
    have K5 := K4.alloc (.cells #[.int .i64 (i : Int), .int .i64 (n : Int), .slice a3 L c3] 46)
    have kr5 : Keeps Nothing wr (w4.alloc (.cells #[.int .i64 (i : Int), .int .i64 (n : Int), .slice a3 L c3] 46)) := k4.alloc (.cells #[.int .i64 (i : Int), .int .i64 (n : Int), .slice a3 L c3] 46)
    have T5 := kA.blk T4 (fun h => h)
    have P5 := blk_new w4 #[.int .i64 (i : Int), .int .i64 (n : Int), .slice a3 L c3] 46
    have Q5 := Q4.keepsN kA
    clear kA k4 K4 Q4 T4
    generalize w4.alloc (.cells #[.int .i64 (i : Int), .int .i64 (n : Int), .slice a3 L c3] 46) = w5 at *
    generalize w4.heap.size = g7 at *
    obtain ⟨_, ax, cx, hcx, hBx, hx8, hx9⟩ := (hR.keepsN K5).2 _ rfl i xb hxb
    rw [Addr.add_mid'] at hcx
    have hB5 := hB.keepsN K5
    obtain ⟨lx, hlx⟩ : ∃ lx, xb.length = lx := ⟨_, rfl⟩
    rw [hlx] at hcx
    have hck := fun V (K : Keeps Nothing w5 V) => check_any (w := V) (cb := cx) hrl TTH.out (hBx.keepsN K) hlx (by omega) (i : Int) (n : Int) (by omega) (by omega) hL (Q5.keepsN K) q1 q2 (by omega)
    rw [hcp] at hck
    clear hcp
    refine wp_region_mix (fun V => Keeps Nothing w5 V) [(true, 0), (true, 1), (true, 2), (true, 3), (true, 4), (true, 5), (true, 6), (true, 7), (true, 8), (true, 9), (true, 10), (true, 11), (true, 12), (true, 13), (true, 14), (true, 15), (true, 16), (true, 17), (true, 18), (true, 19), (true, 20), (true, 21), (false, 22), (true, 23), (true, 24)] (by kernel_rfl) (by kernel_rfl) (Keeps.refl _ _).drew ?_
    simp only [mixItems, List.map_cons, List.map_nil, List.getD_cons_zero, List.getD_cons_succ]
    repeat (refine wpMix_free (fun K hK => ?_); go_simp; refine hK _ ?_; clear hK K)
    refine wpMix_yield (v := .int .i64 (i : Int)) (fun V hV => ?_) (fun K hK => ?_)
    · have y1 := hV.cell (blk_cell P5 0 rfl) (fun h => h)
      go_simp
    go_simp
    refine hK _ ?_
    clear hK K
    repeat (refine wpMix_free (fun K hK => ?_); go_simp; refine hK _ ?_; clear hK K)
    refine wpMix_yield (v := .int .i64 (n : Int)) (fun V hV => ?_) (fun K hK => ?_)
    · have y1 := hV.cell (blk_cell P5 1 rfl) (fun h => h)
      go_simp
    go_simp
    refine hK _ ?_
    clear hK K
    repeat (refine wpMix_free (fun K hK => ?_); go_simp; refine hK _ ?_; clear hK K)
    refine wpMix_yield (v := .agg TT) (fun V hV => ?_) (fun K hK => ?_)
    · have y1 := hV.blk T5 (fun h => h)
      have y2 := rowOk_blk (n := 32) y1 hTs
      have y3 := rowOf_blk y1
      go_simp
    go_simp
    refine hK _ ?_
    clear hK K
    repeat (refine wpMix_free (fun K hK => ?_); go_simp; refine hK _ ?_; clear hK K)
    refine wpMix_yield (v := .slice ax lx cx) (fun V hV => ?_) (fun K hK => ?_)
    · have y1 := hV.cell hcx (fun h => h)
      go_simp
    go_simp
    refine hK _ ?_
    clear hK K
    refine wpMix_yield (v := .agg #[.int .i64 (i : Int), .int .i64 (n : Int), .slice a3 L c3]) (fun V hV => ?_) (fun K hK => ?_)
    · have y0 := hV.cell (blk_cell P5 0 rfl) (fun h => h)
      have y1 := hV.cell (blk_cell P5 1 rfl) (fun h => h)
      have y2 := hV.cell (blk_cell P5 2 rfl) (fun h => h)
      go_simp
    go_simp
    refine hK _ ?_
    clear hK K
    refine wpMix_one (fun K hK => ?_)
    go_wp2_with fail
    refine (hck _ (Keeps.refl _ _).drew).mono ?_
    rintro e w6 ⟨rfl, k1⟩
    have k6 : Keeps Nothing w5 w6 := ((Keeps.refl _ _).drew).trans k1 (fun _ h _ => h)
    go_wp2_with fail
    refine hK _ _ k6 ?_
    clear hK K k1
    repeat (refine wpMix_free (fun K hK => ?_); go_simp; refine hK _ ?_; clear hK K)
    refine wpMix_nil ?_
    have K6 := K5.trans k6 (fun _ h _ => h)
    have kr6 := kr5.trans k6 (fun _ h _ => h)
    have T6 := k6.blk T5 (fun h => h)
    have P6 := k6.blk P5 (fun h => h)
    have Q6 := Q5.keepsN k6
    have hcx6 := k6.cell hcx (fun h => h)
    have hBx6 := hBx.keepsN k6
    have hB6 := hB5.keepsN k6
    clear K5 kr5 T5 P5 Q5 hcx hBx hB5 k6 hck
    go_wp2_with fail
    refine wp_region_mix (fun V => Keeps Nothing w6 V) [(true, 0), (true, 1), (true, 2), (true, 3), (true, 4), (true, 5), (true, 6), (true, 7)] (by kernel_rfl) (by kernel_rfl) (Keeps.refl _ _).drew ?_
    simp only [mixItems, List.map_cons, List.map_nil, List.getD_cons_zero, List.getD_cons_succ]
    repeat (refine wpMix_free (fun K hK => ?_); go_simp; refine hK _ ?_; clear hK K)
    refine wpMix_yield (v := .string ⟨b.toArray⟩) (fun V hV => ?_) (fun K hK => ?_)
    · have y1 := run_str V cb b hnb (hB6.keepsN hV)
      go_simp
    go_simp
    refine hK _ ?_
    clear hK K
    repeat (refine wpMix_free (fun K hK => ?_); go_simp; refine hK _ ?_; clear hK K)
    refine wpMix_yield (v := .slice ax lx cx) (fun V hV => ?_) (fun K hK => ?_)
    · have y1 := hV.cell hcx6 (fun h => h)
      go_simp
    go_simp
    refine hK _ ?_
    clear hK K
    refine wpMix_yield (v := .string ⟨xb.toArray⟩) (fun V hV => ?_) (fun K hK => ?_)
    · have y1 := run_str V cx xb hlx (hBx6.keepsN hV)
      go_simp
    go_simp
    refine hK _ ?_
    clear hK K
    obtain ⟨q, hq⟩ : ∃ q, (b == xb) = q := ⟨_, rfl⟩
    repeat (refine wpMix_free (fun K hK => ?_); go_simp; refine hK _ ?_; clear hK K)
    refine wpMix_nil ?_
    cases q with
    | true =>
      go_wp2_with fail
      go_roundw
      case rel => exact ⟨i + 1, by go_num, by omega, (KR.trans kr6 (fun _ h _ => h)).drew⟩
      case measure => simp [intOf]; omega
    | false =>
      have hne : b ≠ xb := by simpa using hq
      obtain ⟨hx1, hx2⟩ := HXI.out hne
      go_upto_region 11 with fail
      refine wp_region_list ?_
      refine wpList_first (fun K hK => ?_)
      have HK := shut hK
      clear hK
      go_wp2_with fail
      refine HK.out _ _ ?_
      clear HK K
      refine wpList_first (fun K hK => ?_)
      have HK := shut hK
      clear hK
      go_wp2_with fail
      refine HK.out _ _ ?_
      clear HK K
      have A7 := blk_new w6.drew #[] 22
      have k7 : Keeps Nothing w6 (w6.drew.alloc (.cells #[] 22)) := (Keeps.refl Nothing w6).drew.alloc (.cells #[] 22)
      obtain ⟨vs, hvs, hsrc⟩ := rows_vals c hn (hR.keepsN K6)
      refine wpList_appR _ rfl (.tmp 75) (.tmp 76) rfl w6.heap.size rfl A7 rfl (hsrc _ k7) (by omega) ?_
      intro am cm w8 o8 k8 f8
      have k8b : Keeps Nothing w6 w8 := k7.trans k8 (fun x hx hlt => by omega)
      have l6 := kr6.size
      have K8 := K6.trans k8b (fun _ h _ => h)
      have hs8 : w6.heap.size ≤ w8.heap.size := k8b.size
      obtain ⟨gm, rfl⟩ : ∃ gm, am = some ⟨gm, 0, none⟩ := by
        rcases o8.2 with ⟨hv, hn9⟩ | ⟨g, cap', cur, hv, _⟩
        · omega
        · simp only [Value.slice.injEq] at hv
          exact ⟨g, hv.1⟩
      have hgm : w6.heap.size ≤ gm := by
        rcases f8 gm rfl with e | e
        · omega
        · have e2 : (w6.alloc (.cells #[] 22)).heap.size ≤ gm := e
          rw [World.size_alloc] at e2
          omega
      subst hnb
      have k9 : Keeps Nothing w6 (w8.setCell ⟨gm, i, none⟩ (.slice ab b.length cb)) := k8b.setCell (p := ⟨gm, i, none⟩) (fun h => absurd h (by show ¬ gm < _; omega)) _
      obtain ⟨cur, hcur, ⟨cv, hcv⟩, R9⟩ := rows_set (w' := w8.setCell ⟨gm, i, none⟩ (.slice ab b.length cb)) hvs o8 (i := i) (ab := ab) (cb := cb) (b := b) (by omega) (hB.keepsN K6) hbc hbm rfl k9
      have e1 := blk_cell hcur i hcv
      have e2 := blk_free hcur i
      have hset : (rows.set i b).length = n := by rw [List.length_set]; exact hn
      have hsb : ∀ r ∈ rows.set i b, r.length ≤ 1000 := fun r hr => by
        rcases List.mem_or_eq_of_mem_set hr with q | q
        · exact hb r q
        · rw [q]; omega
      obtain ⟨u1, u2⟩ : n ≤ cm ∧ cm ≤ maxLen := by
        rcases o8.2 with ⟨hv, _⟩ | ⟨g, cap', cur', hv, _, _, h1, h2, _⟩
        · simp at hv
        · simp only [Value.slice.injEq] at hv
          obtain ⟨_, _, rfl⟩ := hv
          exact ⟨h1, h2⟩
      have hxs : (rows.set i b)[i]? = some b := by rw [List.getElem?_set, if_pos rfl, if_pos (by omega)]
      have k9r : Keeps Nothing wr (w8.setCell ⟨gm, i, none⟩ (.slice ab b.length cb)) := kr6.trans k9 (fun _ h _ => h)
      have KN := K6.trans k9 (fun _ h _ => h)
      have TN := k9.blk T6 (fun h => h)
      have PN := k9.blk P6 (fun h => h)
      have QN := Q6.keepsN k9
      go_wp2_with fail
      clear e1 e2 hcur o8 k8 f8 k8b K8 hs8 hcv A7 k7 hsrc hvs K6 T6 P6 Q6 hcx6 hBx6 hB6 kr6 k9
      generalize w8.setCell ⟨gm, i, none⟩ (.slice ab b.length cb) = w9 at *
      refine (prove_any (w := w9) (c := cm) hset (by omega) u1 u2 R9 hsb (i : Int)).mono ?_
      rintro e w10 ⟨hp, -⟩
      obtain ⟨aq, cq, rfl, oq, k10, -⟩ := hp ⟨by omega, by rw [hset]; omega⟩
      rw [Int.toNat_natCast] at oq ⊢
      rw [hset]
      have g32 := pathL_32 (rows.set i b).length (rows.set i b) i (Nat.le_refl _)
      have gLn := pathL_len (rows.set i b).length (rows.set i b) i (Nat.le_refl _)
      have hcq := checkL_path hset hxs
      obtain ⟨hy1, hy2⟩ := extract_iff (p := pathL (rows.set i b) i) hn hxb hne g32
      obtain ⟨M, hM⟩ : ∃ M, (pathL (rows.set i b) i).length = M := ⟨_, rfl⟩
      obtain ⟨t1, t2⟩ := ownH_cap oq
      have S10 := ownH_at oq g32
      generalize pathL (rows.set i b) i = pm at *
      rw [hM] at t1 gLn ⊢
      unfold proofV
      clear hp oq
      go_wp2_with fail
      have kA := k10.alloc (.cells #[.int .i64 (i : Int), .int .i64 (n : Int), .slice aq M cq] 46)
      have krA := k9r.trans kA (fun _ h _ => h)
      have KA := KN.trans kA (fun _ h _ => h)
      have TA := kA.blk TN (fun h => h)
      have PA := kA.blk PN (fun h => h)
      have QA := QN.keepsN kA
      have RA := R9.keepsN kA
      have DA := blk_new w10 #[.int .i64 (i : Int), .int .i64 (n : Int), .slice aq M cq] 46
      have SA := S10.keepsN ((Keeps.refl Nothing w10).alloc (.cells #[.int .i64 (i : Int), .int .i64 (n : Int), .slice aq M cq] 46))
      clear KN TN PN QN R9 k10 kA S10 k9r
      generalize w10.alloc (.cells #[.int .i64 (i : Int), .int .i64 (n : Int), .slice aq M cq] 46) = wx at *
      generalize w10.heap.size = g10 at *
      have BA := hB.keepsN KA
      have hul : (rootL (rows.set i b)).length = 32 := by unfold rootL; split <;> exact sha_len _
      obtain ⟨UT, hUT⟩ : ∃ UT, UT = ((rootL (rows.set i b)).map byteV).toArray := ⟨_, rfl⟩
      have UTH := shut hUT
      have hrm := fun V (K : Keeps Nothing wx V) => root_any (w := V) (c := cm) hset (by omega) u1 u2 (RA.keepsN K) hsb
      rw [show hashV (rootL (rows.set i b)) = .agg UT from by rw [hUT]; rfl] at hrm
      have hcm1 := fun V (K : Keeps Nothing wx V) => check_any (w := V) (cb := cb) hul UTH.out (BA.keepsN K) rfl (by omega) (i : Int) (n : Int) (by omega) (by omega) hM (SA.keepsN K) t1 t2 (by omega)
      rw [hcq] at hcm1
      clear hUT
      refine wp_region_mix (fun V => Keeps Nothing wx V) [(true, 0), (true, 1), (true, 2), (true, 3), (true, 5), (true, 6), (false, 4), (false, 7), (true, 8), (true, 9)] (by kernel_rfl) (by kernel_rfl) (Keeps.refl _ _).drew ?_
      simp only [mixItems, List.map_cons, List.map_nil, List.getD_cons_zero, List.getD_cons_succ]
      repeat (refine wpMix_free (fun K hK => ?_); go_simp; refine hK _ ?_; clear hK K)
      refine wpMix_yield (v := .agg #[.int .i64 (i : Int), .int .i64 (n : Int), .slice aq M cq]) (fun V hV => ?_) (fun K hK => ?_)
      · have y0 := hV.cell (blk_cell DA 0 rfl) (fun h => h)
        have y1 := hV.cell (blk_cell DA 1 rfl) (fun h => h)
        have y2 := hV.cell (blk_cell DA 2 rfl) (fun h => h)
        go_simp
      go_simp
      refine hK _ ?_
      clear hK K
      refine wpMix_one (fun K hK => ?_)
      go_wp2_with fail
      refine (hrm _ (Keeps.refl _ _).drew).mono ?_
      rintro e v1 ⟨rfl, k1⟩
      have j1 : Keeps Nothing wx v1 := ((Keeps.refl _ _).drew).trans k1 (fun _ h _ => h)
      go_wp2_with fail
      refine hK _ _ j1 ?_
      clear hK K k1
      refine wpMix_one (fun K hK => ?_)
      go_wp2_with fail
      refine (hcm1 _ j1).mono ?_
      rintro e v2 ⟨rfl, k1⟩
      have j2 : Keeps Nothing wx v2 := (j1).trans k1 (fun _ h _ => h)
      go_wp2_with fail
      refine hK _ _ j2 ?_
      clear hK K k1
      repeat (refine wpMix_free (fun K hK => ?_); go_simp; refine hK _ ?_; clear hK K)
      refine wpMix_nil ?_
      have x0 := j2.cell (blk_cell PA 0 rfl) (fun h => h)
      have x1 := j2.cell (blk_cell PA 1 rfl) (fun h => h)
      have x2 := j2.cell (blk_cell PA 2 rfl) (fun h => h)
      have y0 := j2.cell (blk_cell DA 0 rfl) (fun h => h)
      have y1 := j2.cell (blk_cell DA 1 rfl) (fun h => h)
      have y2 := j2.cell (blk_cell DA 2 rfl) (fun h => h)
      clear hcm1 j1
      go_wp2_with fail
      have j3 := j2.alloc (.cells #[.int .i64 (i : Int), .int .i64 (n : Int), .slice a3 L c3, .int .i64 (i : Int), .int .i64 (n : Int), .slice aq M cq] 46)
      have D6 := blk_new v2 #[.int .i64 (i : Int), .int .i64 (n : Int), .slice a3 L c3, .int .i64 (i : Int), .int .i64 (n : Int), .slice aq M cq] 46
      have K3v := KA.trans j3 (fun _ h _ => h)
      have kr3 := krA.trans j3 (fun _ h _ => h)
      have T3v := j3.blk TA (fun h => h)
      have DD := j3.blk DA (fun h => h)
      have Q3 := QA.keepsN j3
      have S3 := SA.keepsN j3
      have B3 := BA.keepsN j3
      clear x0 x1 x2 y0 y1 y2 j2 KA krA TA PA DA QA SA RA BA
      generalize v2.alloc (.cells #[.int .i64 (i : Int), .int .i64 (n : Int), .slice a3 L c3, .int .i64 (i : Int), .int .i64 (n : Int), .slice aq M cq] 46) = v3 at *
      generalize v2.heap.size = g11 at *
      have hck1 := fun V (K : Keeps Nothing v3 V) => check_any (w := V) (cb := cb) hrl TTH.out (B3.keepsN K) rfl (by omega) (i : Int) (n : Int) (by omega) (by omega) hL (Q3.keepsN K) q1 q2 (by omega)
      have hcl1 := fun V (K : Keeps Nothing v3 V) => clashes_any (w := V) (c := c) (cb := cb) hn (by omega) hc hcm (hR.keepsN (K3v.trans K (fun _ h _ => h))) hb (B3.keepsN K) rfl (by omega) (i : Int) (n : Int) (by omega) (by omega) hL (Q3.keepsN K) q1 q2 (by omega) hx1 hx2
      have hck2 := fun V (K : Keeps Nothing v3 V) => check_any (w := V) (cb := cb) hrl TTH.out (B3.keepsN K) rfl (by omega) (i : Int) (n : Int) (by omega) (by omega) hM (S3.keepsN K) t1 t2 (by omega)
      have hcl2 := fun V (K : Keeps Nothing v3 V) => clashes_any (w := V) (c := c) (cb := cb) hn (by omega) hc hcm (hR.keepsN (K3v.trans K (fun _ h _ => h))) hb (B3.keepsN K) rfl (by omega) (i : Int) (n : Int) (by omega) (by omega) hM (S3.keepsN K) t1 t2 (by omega) hy1 hy2
      obtain ⟨C1, hC1⟩ : ∃ C1, checkL (rootL rows) b (i : Int) (n : Int) pp = C1 := ⟨_, rfl⟩
      obtain ⟨C2, hC2⟩ : ∃ C2, checkL (rootL rows) b (i : Int) (n : Int) pm = C2 := ⟨_, rfl⟩
      obtain ⟨Z, hZ⟩ : ∃ Z, (rootL (rows.set i b) == rootL rows) = Z := ⟨_, rfl⟩
      rw [hC1] at hck1 hcl1
      rw [hC2] at hck2 hcl2
      have HCT : Shut (Z = true → C2 = true) := shut (fun h => by
        rw [h] at hZ
        rw [eq_of_beq hZ] at hcq
        rw [← hC2]
        exact hcq)
      have heq : ∀ V, (Op.equalIn 10000 25 (.agg UT) (.agg TT)).run Try.prog V = .ok Z V := fun V => by rw [UTH.out, TTH.out, eql_hash_run _ _ hul hrl V, hZ]
      clear hC1 hC2 hZ hcq hx1 hx2 hy1 hy2 Q3 S3 B3 HXI
      have l11 := lt_of_block D6
      go_loopw [102] (fun s102 wx2 => ∃ j : Nat, s102 = .int .i64 j ∧ j ≤ 2 ∧ Keeps Nothing v3 wx2) (fun s102 _ => 2 - (intOf s102).toNat)
      case atStart => exact ⟨0, rfl, by omega, Keeps.refl _ _⟩
      case round =>
        obtain ⟨j, rfl, hj, KJ⟩ := hrel
        have hcase : j = 0 ∨ j = 1 ∨ j = 2 := by omega
        rcases hcase with rfl | rfl | rfl
        · have z0 := KJ.cell (blk_cell D6 0 rfl) (fun h => h)
          have z1 := KJ.cell (blk_cell D6 1 rfl) (fun h => h)
          have z2 := KJ.cell (blk_cell D6 2 rfl) (fun h => h)
          go_wp2_with fail
          have k5 : Keeps Nothing v3 (wr.alloc (.cells #[.int .i64 (i : Int), .int .i64 (n : Int), .slice a3 L c3] 46)) := KJ.alloc (.cells #[.int .i64 (i : Int), .int .i64 (n : Int), .slice a3 L c3] 46)
          have E5 := blk_new wr #[.int .i64 (i : Int), .int .i64 (n : Int), .slice a3 L c3] 46
          have T5 := k5.blk T3v (fun h => h)
          clear z0 z1 z2
          generalize wr.alloc (.cells #[.int .i64 (i : Int), .int .i64 (n : Int), .slice a3 L c3] 46) = w5 at *
          generalize wr.heap.size = g12 at *
          have hcka := fun V (K : Keeps Nothing w5 V) => hck1 V (k5.trans K (fun _ h _ => h))
          have hcla := fun V (K : Keeps Nothing w5 V) => hcl1 V (k5.trans K (fun _ h _ => h))
          refine wp_region_mix (fun V => Keeps Nothing w5 V) [(true, 0), (true, 1), (true, 2), (true, 4), (true, 5), (true, 6), (false, 3), (false, 7), (true, 8)] (by kernel_rfl) (by kernel_rfl) (Keeps.refl _ _).drew ?_
          simp only [mixItems, List.map_cons, List.map_nil, List.getD_cons_zero, List.getD_cons_succ]
          refine wpMix_yield (v := .agg TT) (fun V hV => ?_) (fun K hK => ?_)
          · have y1 := hV.blk T5 (fun h => h)
            have y2 := rowOk_blk (n := 32) y1 hTs
            have y3 := rowOf_blk y1
            go_simp
          go_simp
          refine hK _ ?_
          clear hK K
          repeat (refine wpMix_free (fun K hK => ?_); go_simp; refine hK _ ?_; clear hK K)
          refine wpMix_yield (v := .agg #[.int .i64 (i : Int), .int .i64 (n : Int), .slice a3 L c3]) (fun V hV => ?_) (fun K hK => ?_)
          · have y0 := hV.cell (blk_cell E5 0 rfl) (fun h => h)
            have y1 := hV.cell (blk_cell E5 1 rfl) (fun h => h)
            have y2 := hV.cell (blk_cell E5 2 rfl) (fun h => h)
            go_simp
          go_simp
          refine hK _ ?_
          clear hK K
          repeat (refine wpMix_free (fun K hK => ?_); go_simp; refine hK _ ?_; clear hK K)
          refine wpMix_yield (v := .agg #[.int .i64 (i : Int), .int .i64 (n : Int), .slice a3 L c3]) (fun V hV => ?_) (fun K hK => ?_)
          · have y0 := hV.cell (blk_cell E5 0 rfl) (fun h => h)
            have y1 := hV.cell (blk_cell E5 1 rfl) (fun h => h)
            have y2 := hV.cell (blk_cell E5 2 rfl) (fun h => h)
            go_simp
          go_simp
          refine hK _ ?_
          clear hK K
          refine wpMix_one (fun K hK => ?_)
          go_wp2_with fail
          refine (hcka _ (Keeps.refl _ _).drew).mono ?_
          rintro e v4 ⟨rfl, k1⟩
          have j4 : Keeps Nothing w5 v4 := ((Keeps.refl _ _).drew).trans k1 (fun _ h _ => h)
          go_wp2_with fail
          refine hK _ _ j4 ?_
          clear hK K k1
          refine wpMix_one (fun K hK => ?_)
          go_wp2_with fail
          refine (hcla _ j4).mono ?_
          rintro e v5 ⟨rfl, k1⟩
          have j5 : Keeps Nothing w5 v5 := (j4).trans k1 (fun _ h _ => h)
          go_wp2_with fail
          refine hK _ _ j5 ?_
          clear hK K k1
          repeat (refine wpMix_free (fun K hK => ?_); go_simp; refine hK _ ?_; clear hK K)
          refine wpMix_nil ?_
          go_wp2_with fail
          go_roundw
          case rel => exact ⟨1, by go_num, by omega, k5.trans j5 (fun _ h _ => h)⟩
          case measure => simp [intOf]
        · have z0 := KJ.cell (blk_cell D6 3 rfl) (fun h => h)
          have z1 := KJ.cell (blk_cell D6 4 rfl) (fun h => h)
          have z2 := KJ.cell (blk_cell D6 5 rfl) (fun h => h)
          go_wp2_with fail
          have k5 : Keeps Nothing v3 (wr.alloc (.cells #[.int .i64 (i : Int), .int .i64 (n : Int), .slice aq M cq] 46)) := KJ.alloc (.cells #[.int .i64 (i : Int), .int .i64 (n : Int), .slice aq M cq] 46)
          have E5 := blk_new wr #[.int .i64 (i : Int), .int .i64 (n : Int), .slice aq M cq] 46
          have T5 := k5.blk T3v (fun h => h)
          clear z0 z1 z2
          generalize wr.alloc (.cells #[.int .i64 (i : Int), .int .i64 (n : Int), .slice aq M cq] 46) = w5 at *
          generalize wr.heap.size = g12 at *
          have hcka := fun V (K : Keeps Nothing w5 V) => hck2 V (k5.trans K (fun _ h _ => h))
          have hcla := fun V (K : Keeps Nothing w5 V) => hcl2 V (k5.trans K (fun _ h _ => h))
          refine wp_region_mix (fun V => Keeps Nothing w5 V) [(true, 0), (true, 1), (true, 2), (true, 4), (true, 5), (true, 6), (false, 3), (false, 7), (true, 8)] (by kernel_rfl) (by kernel_rfl) (Keeps.refl _ _).drew ?_
          simp only [mixItems, List.map_cons, List.map_nil, List.getD_cons_zero, List.getD_cons_succ]
          refine wpMix_yield (v := .agg TT) (fun V hV => ?_) (fun K hK => ?_)
          · have y1 := hV.blk T5 (fun h => h)
            have y2 := rowOk_blk (n := 32) y1 hTs
            have y3 := rowOf_blk y1
            go_simp
          go_simp
          refine hK _ ?_
          clear hK K
          repeat (refine wpMix_free (fun K hK => ?_); go_simp; refine hK _ ?_; clear hK K)
          refine wpMix_yield (v := .agg #[.int .i64 (i : Int), .int .i64 (n : Int), .slice aq M cq]) (fun V hV => ?_) (fun K hK => ?_)
          · have y0 := hV.cell (blk_cell E5 0 rfl) (fun h => h)
            have y1 := hV.cell (blk_cell E5 1 rfl) (fun h => h)
            have y2 := hV.cell (blk_cell E5 2 rfl) (fun h => h)
            go_simp
          go_simp
          refine hK _ ?_
          clear hK K
          repeat (refine wpMix_free (fun K hK => ?_); go_simp; refine hK _ ?_; clear hK K)
          refine wpMix_yield (v := .agg #[.int .i64 (i : Int), .int .i64 (n : Int), .slice aq M cq]) (fun V hV => ?_) (fun K hK => ?_)
          · have y0 := hV.cell (blk_cell E5 0 rfl) (fun h => h)
            have y1 := hV.cell (blk_cell E5 1 rfl) (fun h => h)
            have y2 := hV.cell (blk_cell E5 2 rfl) (fun h => h)
            go_simp
          go_simp
          refine hK _ ?_
          clear hK K
          refine wpMix_one (fun K hK => ?_)
          go_wp2_with fail
          refine (hcka _ (Keeps.refl _ _).drew).mono ?_
          rintro e v4 ⟨rfl, k1⟩
          have j4 : Keeps Nothing w5 v4 := ((Keeps.refl _ _).drew).trans k1 (fun _ h _ => h)
          go_wp2_with fail
          refine hK _ _ j4 ?_
          clear hK K k1
          refine wpMix_one (fun K hK => ?_)
          go_wp2_with fail
          refine (hcla _ j4).mono ?_
          rintro e v5 ⟨rfl, k1⟩
          have j5 : Keeps Nothing w5 v5 := (j4).trans k1 (fun _ h _ => h)
          go_wp2_with fail
          refine hK _ _ j5 ?_
          clear hK K k1
          repeat (refine wpMix_free (fun K hK => ?_); go_simp; refine hK _ ?_; clear hK K)
          refine wpMix_nil ?_
          go_wp2_with fail
          go_roundw
          case rel => exact ⟨2, by go_num, by omega, k5.trans j5 (fun _ h _ => h)⟩
          case measure => simp [intOf]
        · have hrm9 := fun V (K : Keeps Nothing wr V) => hrm V ((j3.trans KJ (fun _ h _ => h)).trans K (fun _ h _ => h))
          have hcl9 := fun V (K : Keeps Nothing wr V) => hcl2 V (KJ.trans K (fun _ h _ => h))
          have T9 := KJ.blk T3v (fun h => h)
          have D9 : Blk wr g10 _ _ := KJ.blk DD (fun h => h)
          clear hck1 hcl1 hck2 hcl2 hrm
          go_wp2_with fail
          cases Z with
          | false =>
            refine wp_region_mix (fun V => Keeps Nothing wr V) [(true, 0), (true, 2), (false, 1), (true, 3), (true, 4), (true, 5), (true, 6), (true, 7), (true, 8), (true, 9), (true, 10)] (by kernel_rfl) (by kernel_rfl) (Keeps.refl _ _).drew ?_
            simp only [mixItems, List.map_cons, List.map_nil, List.getD_cons_zero, List.getD_cons_succ]
            repeat (refine wpMix_free (fun K hK => ?_); go_simp; refine hK _ ?_; clear hK K)
            refine wpMix_yield (v := .agg TT) (fun V hV => ?_) (fun K hK => ?_)
            · have y1 := hV.blk T9 (fun h => h)
              have y2 := rowOk_blk (n := 32) y1 hTs
              have y3 := rowOf_blk y1
              go_simp
            go_simp
            refine hK _ ?_
            clear hK K
            refine wpMix_one (fun K hK => ?_)
            go_wp2_with fail
            refine (hrm9 _ (Keeps.refl _ _).drew).mono ?_
            rintro e v4 ⟨rfl, k1⟩
            have j4 : Keeps Nothing wr v4 := ((Keeps.refl _ _).drew).trans k1 (fun _ h _ => h)
            go_wp2_with fail
            refine hK _ _ j4 ?_
            clear hK K k1
            repeat (refine wpMix_free (fun K hK => ?_); go_simp; refine hK _ ?_; clear hK K)
            refine wpMix_nil ?_
            go_wp2_with fail
            go_roundw
            case rel => exact ⟨i + 1, by go_num, by omega, KR.trans (kr3.trans (KJ.trans j4 (fun _ h _ => h)) (fun _ h _ => h)) (fun _ h _ => h)⟩
            case measure => simp [intOf]; omega
          | true =>
            obtain rfl := HCT.out rfl
            refine wp_region_mix (fun V => Keeps Nothing wr V) [(true, 0), (true, 2), (false, 1), (true, 3), (true, 4), (true, 5), (true, 6), (true, 7), (false, 8), (true, 9), (true, 10)] (by kernel_rfl) (by kernel_rfl) (Keeps.refl _ _).drew ?_
            simp only [mixItems, List.map_cons, List.map_nil, List.getD_cons_zero, List.getD_cons_succ]
            repeat (refine wpMix_free (fun K hK => ?_); go_simp; refine hK _ ?_; clear hK K)
            refine wpMix_yield (v := .agg TT) (fun V hV => ?_) (fun K hK => ?_)
            · have y1 := hV.blk T9 (fun h => h)
              have y2 := rowOk_blk (n := 32) y1 hTs
              have y3 := rowOf_blk y1
              go_simp
            go_simp
            refine hK _ ?_
            clear hK K
            refine wpMix_one (fun K hK => ?_)
            go_wp2_with fail
            refine (hrm9 _ (Keeps.refl _ _).drew).mono ?_
            rintro e v4 ⟨rfl, k1⟩
            have j4 : Keeps Nothing wr v4 := ((Keeps.refl _ _).drew).trans k1 (fun _ h _ => h)
            go_wp2_with fail
            refine hK _ _ j4 ?_
            clear hK K k1
            repeat (refine wpMix_free (fun K hK => ?_); go_simp; refine hK _ ?_; clear hK K)
            refine wpMix_yield (v := .agg #[.int .i64 (i : Int), .int .i64 (n : Int), .slice aq M cq]) (fun V hV => ?_) (fun K hK => ?_)
            · have y0 := hV.cell (blk_cell D9 0 rfl) (fun h => h)
              have y1 := hV.cell (blk_cell D9 1 rfl) (fun h => h)
              have y2 := hV.cell (blk_cell D9 2 rfl) (fun h => h)
              go_simp
            go_simp
            refine hK _ ?_
            clear hK K
            refine wpMix_one (fun K hK => ?_)
            go_wp2_with fail
            refine (hcl9 _ j4).mono ?_
            rintro e v5 ⟨rfl, k1⟩
            have j5 : Keeps Nothing wr v5 := (j4).trans k1 (fun _ h _ => h)
            go_wp2_with fail
            refine hK _ _ j5 ?_
            clear hK K k1
            repeat (refine wpMix_free (fun K hK => ?_); go_simp; refine hK _ ?_; clear hK K)
            refine wpMix_nil ?_
            go_wp2_with fail
            go_roundw
            case rel => exact ⟨i + 1, by go_num, by omega, KR.trans (kr3.trans (KJ.trans j5 (fun _ h _ => h)) (fun _ h _ => h)) (fun _ h _ => h)⟩
            case measure => simp [intOf]; omega
set_option maxRecDepth 100000 in
theorem lifted (os : Os) (started : os.Started) (H : Type) (enc : TypeId × Value → H) :
    ReturnsInHanded {} Try.checked os 11 .any (Rows.merkleProvesSpec.pre6 enc Try.prog Try.f11 Rows.merkleProvesRow.domain false) (Rows.merkleProvesSpec.post enc Try.prog Try.f11 false true false false) := by
  refine returnsInHanded_of_change (C := Try.checked) own started (by kernel_rfl) Try.func11
    (ChangeSpec.witness6 (enc := enc) (C := Try.checked) false ⟨#[], #[.slice none 0 0, .slice none 0 0], []⟩ 8 (by kernel_rfl) (by kernel_rfl) (by kernel_rfl) (by kernel_rfl)) ?_
  intro W base args ds gs before hval0 hW hcnd _
  have hval : ∀ (j : Nat) t v, Try.f11.params[j]? = some t → args[j]? = some v → Value.okWide Try.prog W .any base t v := hval0
  have hW' := hW
  obtain ⟨p, q, hA0, hV, rfl, hfz, hnd⟩ := hW
  have hA : DataW.TrodAll enc Try.prog W 0 (fun _ => true) true Try.f11.params.toList args.toList ds p := hA0
  rw [Try.params11] at hA hval
  obtain ⟨v0, vs0, d0, ds0, p0, q0, hargs, rfl, rfl, h0, r0⟩ := trodAll_cons hA
  obtain ⟨v1, vs1, d1, ds1, p1, q1, rfl, rfl, rfl, h1, r1⟩ := trodAll_cons r0
  obtain ⟨rfl, rfl, rfl⟩ := trodAll_nil r1
  obtain rfl : args = #[v0, v1] := by cases args; simp_all
  obtain ⟨rfl, rfl⟩ := trodVars_none hV
  have k0 := h0
  have lt0 : ∀ x ∈ p0, x.block < W.heap.size := by obtain ⟨m, hm⟩ := k0; exact DataW.trod_lt m _ _ _ hm
  have k1 := h1
  have lt1 : ∀ x ∈ p1, x.block < W.heap.size := by obtain ⟨m, hm⟩ := k1; exact DataW.trod_lt m _ _ _ hm
  obtain ⟨ao0, len0, cap0, rfl⟩ := okWide_slice Try.underlying41 (hval 0 41 v0 rfl rfl)
  obtain ⟨fuel0, hf0⟩ := h0
  obtain ⟨rows0, hn0, hR0, hlc0, hcm0⟩ := open_rows rfl hf0
  obtain ⟨ao1, len1, cap1, rfl⟩ := okWide_slice Try.underlying22 (hval 1 22 v1 rfl rfl)
  obtain ⟨fuel1, hf1⟩ := h1
  obtain ⟨bs1, hn1, hB1, hlc1, hcm1⟩ := open_bytes rfl hf1
  clear hA0 hval0
  refine (walk W hn0 hlc0 hcm0 hR0 hn1 hB1 hlc1 hcm1).mono fun e W' ⟨he, hk⟩ => ?_
  subst he
  have bel : Below W.heap.size W W' := hk.below (Nat.le_refl _) (fun _ h => h.elim)
  exact ⟨_, rfl, _, _, _, [], _, [], hW', trodAll_mk1 (shut_bool Try.underlying4 _), (trodAll_cons_mk (Below.trod laidOut (by kernel_rfl) (of_decide_eq_true (by kernel_rfl)) k0 bel lt0) (trodAll_cons_mk (Below.trod laidOut (by kernel_rfl) (of_decide_eq_true (by kernel_rfl)) k1 bel lt1) trodAll_mk0)), rfl, bel.frame _, fun h => by cases h⟩

/-- For every input the law returns true, and its arguments read as before. -/
theorem proved : Rows.MerkleProvesSaid :=
  OpenClaim.holds_of_wide 11 Try.f11 rfl rfl rfl rfl rfl rfl rfl ⟨rfl, rfl, rfl, rfl, rfl⟩ rfl rfl rfl rfl rfl (by kernel_rfl) Try.func11 (by kernel_rfl)
    (of_decide_eq_true (by kernel_rfl)) (by unfold Func.isWrapper; first | (rw [if_pos (by decide +kernel)]; kernel_rfl) | (rw [if_neg (by decide +kernel)]; exact ⟨rfl, rfl⟩))
    (fun os started H enc _ => lifted os started H enc)
#print axioms proved

end Go.Proofs.Ytdmfomjgmmkaeaa.merkleProves
