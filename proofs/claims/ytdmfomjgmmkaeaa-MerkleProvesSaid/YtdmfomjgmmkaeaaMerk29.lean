/- bytes.Equal; merkle.Extract. -/
import Derived.Test.YtdmfomjgmmkaeaaMerk28
namespace Go.Proofs.Ytdmfomjgmmkaeaa
open Go.RowKit

theorem equal_any (w : World) {aa ab : Option Addr} {na nb : Nat} (ca cb : Nat) {a b : List UInt8} (hna : a.length = na) (hnb : b.length = nb) (hA : BytesAt w aa a) (hB : BytesAt w ab b) :
    Calls Try.prog 52 #[.slice aa na ca, .slice ab nb cb] w fun e w' => e = .returned (.bool (a == b)) ∧ w' = w := by
  have e1 := run_str w ca a hna hA
  have e2 := run_str w cb b hnb hB
  go_enter Try.func52, Try.ntmps52
  go_wp2_with fail
  go_ret
  exact ⟨rfl, rfl⟩

theorem diffL_drop {a b : List (List UInt8)} {i : Nat} {x y : List UInt8} (hx : a[i]? = some x) (hy : b[i]? = some y) : diffL (a.drop i) (b.drop i) = if x = y then diffL (a.drop (i + 1)) (b.drop (i + 1)) else some (x, y) := by
  have h1 : a.drop i = x :: a.drop (i + 1) := by
    obtain ⟨h, e⟩ := List.getElem?_eq_some_iff.1 hx
    rw [List.drop_eq_getElem_cons h, e]
  have h2 : b.drop i = y :: b.drop (i + 1) := by
    obtain ⟨h, e⟩ := List.getElem?_eq_some_iff.1 hy
    rw [List.drop_eq_getElem_cons h, e]
  rw [h1, h2]
  rfl
theorem diffL_end {a b : List (List UInt8)} {i : Nat} (h : a.length ≤ i ∨ b.length ≤ i) : diffL (a.drop i) (b.drop i) = none := by
  rcases h with h | h
  · rw [List.drop_eq_nil_of_le h]; rfl
  · rw [List.drop_eq_nil_of_le h]
    cases a.drop i <;> rfl

/-- How Extract ends. -/
def ExtPost (w : World) (E : Option (List UInt8 × List UInt8)) (e : Ending) (w' : World) : Prop :=
  ∃ (ax : Option Addr) (nx cx : Nat) (ay : Option Addr) (ny cy : Nat), e = .returned (.tuple #[.slice ax nx cx, .slice ay ny cy, .bool E.isSome]) ∧ Keeps Nothing w w' ∧
    ∀ u v, E = some (u, v) → nx = u.length ∧ ny = v.length ∧ BytesAt w' ax u ∧ BytesAt w' ay v ∧ u.length ≤ 2000 ∧ v.length ≤ 2000

attribute [local go_sem ↓] exec_mid_hash exec_load_hash exec_store_hash exec_store_proof
attribute [local go_sem] rowOk_new World.setRow_alloc_new aggOk_proof

set_option maxRecDepth 100000 in
set_option maxHeartbeats 4000000 in
theorem extract_any {w : World} {ao : Option Addr} {n c : Nat} {rows : List (List UInt8)} (hn : rows.length = n) (hn9 : n ≤ 1000) (hc : n ≤ c) (hcm : c ≤ maxLen) (hR : RowsAt w ao rows) (hb : ∀ r ∈ rows, r.length ≤ 1000)
    {ab : Option Addr} {nb cb : Nat} {b : List UInt8} (hB : BytesAt w ab b) (hnb : b.length = nb) (hnb9 : nb ≤ 1000) (ix ct : Int) (hix : -9223372036854775808 ≤ ix) (hct : ct < 9223372036854775808)
    {ap : Option Addr} {m cp : Nat} {path : List (List UInt8)} (hm : path.length = m) (hH : HashesAt w ap path) (hmc : m ≤ cp) (hmm : cp ≤ maxLen) (hm9 : m ≤ 1000) :
    Calls Try.prog 33 #[.slice ao n c, .slice ab nb cb, .agg #[.int .i64 ix, .int .i64 ct, .slice ap m cp]] w (ExtPost w (extractL rows b ix ct path)) := by
  have K0 := (Keeps.refl Nothing w).alloc (.cells #[.int .i64 ix, .int .i64 ct, .slice ap m cp] 46)
  have P0 := blk_new w #[.int .i64 ix, .int .i64 ct, .slice ap m cp] 46
  have p0 := blk_cell P0 0 rfl
  have p1 := blk_cell P0 1 rfl
  have p2 := blk_cell P0 2 rfl
  obtain ⟨E, hE⟩ : ∃ E, extractL rows b ix ct path = E := ⟨_, rfl⟩
  rw [hE]
  by_cases hin : 0 ≤ ix ∧ ix < n
  rotate_left
  · have HE : Shut (E = none) := shut (by rw [← hE]; unfold extractL; rw [if_neg (fun q => hin (by rw [hn] at q; exact q.1))])
    have hin2 : ix < 0 ∨ (¬ ix < 0 ∧ (n : Int) ≤ ix) := by omega
    clear hE hin
    rcases hin2 with m1 | ⟨m1, m2⟩
    · have d1 : decide (ix < 0) = true := decide_eq_true m1
      go_enter Try.func33, Try.ntmps33
      go_wp2_with fail
      go_quiet (fail)
      go_wp2_with fail
      go_ret3
      exact ⟨none, 0, 0, none, 0, 0, by rw [HE.out]; rfl, K0.drewN _, fun u v e => by rw [HE.out] at e; cases e⟩
    · have d1 : decide (ix < 0) = false := decide_eq_false m1
      have d2 : decide ((n : Int) ≤ ix) = true := decide_eq_true m2
      go_enter Try.func33, Try.ntmps33
      go_wp2_with fail
      go_quiet (fail)
      go_wp2_with fail
      go_ret3
      exact ⟨none, 0, 0, none, 0, 0, by rw [HE.out]; rfl, K0.drewN _, fun u v e => by rw [HE.out] at e; cases e⟩
  obtain ⟨i, rfl⟩ := Int.eq_ofNat_of_zero_le hin.1
  have hi : i < n := by omega
  have m1 : ¬ (i : Int) < 0 := by omega
  have m2 : ¬ (n : Int) ≤ i := by omega
  have m3 : (i : Int) < n := by omega
  have d1 : decide ((i : Int) < 0) = false := decide_eq_false m1
  have d2 : decide ((n : Int) ≤ i) = false := decide_eq_false m2
  have m4 : ¬ n ≤ i := by omega
  have d3 : decide (n ≤ i) = false := decide_eq_false m4
  have hrl : (rootL rows).length = 32 := by unfold rootL; split <;> exact sha_len _
  obtain ⟨TT, hTT⟩ : ∃ TT, TT = ((rootL rows).map byteV).toArray := ⟨_, rfl⟩
  have TTH := shut hTT
  have hro := fun V (K : Keeps Nothing w V) => root_any (w := V) (c := c) hn (by omega) hc hcm (hR.keepsN K) hb
  rw [show hashV (rootL rows) = .agg TT from by rw [hTT]; rfl] at hro
  clear hTT
  have hc1 := fun V (K : Keeps Nothing w V) => check_any (w := V) (cb := cb) hrl TTH.out (hB.keepsN K) hnb (by omega) (i : Int) ct hix hct hm (hH.keepsN K) hmc hmm (by omega)
  obtain ⟨C1, hC1⟩ : ∃ C1, checkL (rootL rows) b (i : Int) ct path = C1 := ⟨_, rfl⟩
  rw [hC1] at hc1
  go_enter Try.func33, Try.ntmps33
  go_wp2_with fail
  generalize w.alloc (.cells #[.int .i64 (i : Int), .int .i64 ct, .slice ap m cp] 46) = w1 at *
  generalize hg5 : w.heap.size = g5 at *
  refine wp_region_mix (fun V => Keeps Nothing w1 V) [(true, 0), (true, 1), (true, 2), (true, 3), (true, 4), (true, 5), (true, 6), (true, 7), (true, 8), (true, 9), (true, 10), (true, 11), (true, 13), (true, 14), (false, 12), (false, 15), (true, 16), (true, 17)] (by kernel_rfl) (by kernel_rfl) (Keeps.refl _ _).drew ?_
  simp only [mixItems, List.map_cons, List.map_nil, List.getD_cons_zero, List.getD_cons_succ]
  repeat (refine wpMix_free (fun K hK => ?_); go_simp; refine hK _ ?_; clear hK K)
  refine wpMix_yield (v := .int .i64 (i : Int)) (fun V hV => ?_) (fun K hK => ?_)
  · have y1 := hV.cell p0 (fun h => h)
    go_simp
  go_simp
  refine hK _ ?_
  clear hK K
  repeat (refine wpMix_free (fun K hK => ?_); go_simp; refine hK _ ?_; clear hK K)
  refine wpMix_yield (v := .int .i64 (i : Int)) (fun V hV => ?_) (fun K hK => ?_)
  · have y1 := hV.cell p0 (fun h => h)
    go_simp
  go_simp
  refine hK _ ?_
  clear hK K
  repeat (refine wpMix_free (fun K hK => ?_); go_simp; refine hK _ ?_; clear hK K)
  refine wpMix_yield (v := .agg #[.int .i64 (i : Int), .int .i64 ct, .slice ap m cp]) (fun V hV => ?_) (fun K hK => ?_)
  · have y0 := hV.cell (blk_cell P0 0 rfl) (fun h => h)
    have y1 := hV.cell (blk_cell P0 1 rfl) (fun h => h)
    have y2 := hV.cell (blk_cell P0 2 rfl) (fun h => h)
    go_simp
  go_simp
  refine hK _ ?_
  clear hK K
  refine wpMix_one (fun K hK => ?_)
  go_wp2_with fail
  refine ((fun V (K : Keeps Nothing w1 V) => hro V (K0.trans K (fun _ h _ => h))) _ (Keeps.refl _ _).drew).mono ?_
  rintro e v1 ⟨rfl, k1⟩
  have j1 : Keeps Nothing w1 v1 := ((Keeps.refl _ _).drew).trans k1 (fun _ h _ => h)
  go_wp2_with fail
  refine hK _ _ j1 ?_
  clear hK K k1
  refine wpMix_one (fun K hK => ?_)
  go_wp2_with fail
  refine ((fun V (K : Keeps Nothing w1 V) => hc1 V (K0.trans K (fun _ h _ => h))) _ j1).mono ?_
  rintro e v2 ⟨rfl, k1⟩
  have j2 : Keeps Nothing w1 v2 := (j1).trans k1 (fun _ h _ => h)
  go_wp2_with fail
  refine hK _ _ j2 ?_
  clear hK K k1
  repeat (refine wpMix_free (fun K hK => ?_); go_simp; refine hK _ ?_; clear hK K)
  refine wpMix_nil ?_
  have K1 := K0.trans j2 (fun _ h _ => h)
  have P1 := j2.blk P0 (fun h => h)
  have x0 := blk_cell P1 0 rfl
  clear hro hc1 j1 j2 p0 p1 p2 P0 K0
  cases C1 with
  | false =>
    have HE : Shut (E = none) := shut (by rw [← hE]; unfold extractL; rw [if_neg (fun q => by rw [hC1] at q; cases q.2)])
    go_wp2_with fail
    go_ret3
    have KK := K1
    exact ⟨none, 0, 0, none, 0, 0, by rw [HE.out]; rfl, KK, fun u v e => by rw [HE.out] at e; cases e⟩
  | true =>
    obtain ⟨xb, hxb⟩ : ∃ xb, rows[i]? = some xb := ⟨rows[i]'(by omega), by rw [List.getElem?_eq_getElem (by omega)]⟩
    have hEd : E = diffL (madeL b (i : Int) ct path) (madeL xb (i : Int) (n : Int) (pathL rows i)) := by
      rw [← hE]
      unfold extractL
      rw [if_pos ⟨by rw [hn]; exact hin, hC1⟩, Int.toNat_natCast, hn]
      rw [show rows.getD i [] = xb from by simp [List.getD, hxb]]
    have hxl : xb.length ≤ 1000 := hb xb (List.mem_of_getElem? hxb)
    clear hE hC1 hin
    go_wp2_with fail
    refine (prove_any (w := v2) (c := c) hn (by omega) hc hcm (hR.keepsN K1) hb (i : Int)).mono ?_
    rintro e w3 ⟨hp, -⟩
    obtain ⟨aq, cq, rfl, oq, k3, -⟩ := hp ⟨by omega, by rw [hn]; omega⟩
    rw [Int.toNat_natCast] at oq ⊢
    rw [hn]
    have h32 := pathL_32 rows.length rows i (Nat.le_refl _)
    have hLn := pathL_len rows.length rows i (Nat.le_refl _)
    obtain ⟨L, hL⟩ : ∃ L, (pathL rows i).length = L := ⟨_, rfl⟩
    obtain ⟨q1, q2⟩ := ownH_cap oq
    have Q3 := ownH_at oq h32
    generalize pathL rows i = pq at *
    rw [hL] at q1 hLn ⊢
    unfold proofV
    have K3 := K1.trans k3 (fun _ h _ => h)
    have P3 := k3.blk P1 (fun h => h)
    clear hp oq k3 K1 P1 x0
    go_wp2_with fail
    have kA := (Keeps.refl Nothing w3).alloc (.cells #[.int .i64 (i : Int), .int .i64 (n : Int), .slice aq L cq] 46)
    have K4 := K3.alloc (.cells #[.int .i64 (i : Int), .int .i64 (n : Int), .slice aq L cq] 46)
    have P4 := kA.blk P3 (fun h => h)
    have D4 := blk_new w3 #[.int .i64 (i : Int), .int .i64 (n : Int), .slice aq L cq] 46
    have Q4 := Q3.keepsN kA
    clear kA K3 P3 Q3
    generalize w3.alloc (.cells #[.int .i64 (i : Int), .int .i64 (n : Int), .slice aq L cq] 46) = w4 at *
    generalize w3.heap.size = g9 at *
    have hRy := hR.keepsN K4
    obtain ⟨b0, o0, rfl⟩ := hRy.head (by omega)
    obtain ⟨_, ax, cx, hcx, hBx, hx8, hx9⟩ := hRy.2 _ rfl i xb hxb
    rw [Addr.add_mid'] at hcx
    have hm1 := fun V (K : Keeps Nothing w4 V) => made_any (w := V) (cb := cb) (hB.keepsN (K4.trans K (fun _ h _ => h))) hnb (by omega) (i : Int) ct hix hct hm (hH.keepsN (K4.trans K (fun _ h _ => h))) hmc hmm (by omega)
    have hm2 := fun V (K : Keeps Nothing w4 V) => made_any (w := V) (cb := cx) (hBx.keepsN K) rfl hxl (i : Int) (n : Int) (by omega) (by omega) hL (Q4.keepsN K) q1 q2 (by omega)
    obtain ⟨f1, f2⟩ := madeL_len b (i : Int) ct path hH.all32
    obtain ⟨f3, f4⟩ := madeL_len xb (i : Int) (n : Int) pq Q4.all32
    rw [hm] at f1
    rw [hL] at f3
    obtain ⟨L1, hL1⟩ : ∃ L1, madeL b (i : Int) ct path = L1 := ⟨_, rfl⟩
    obtain ⟨L2, hL2⟩ : ∃ L2, madeL xb (i : Int) (n : Int) pq = L2 := ⟨_, rfl⟩
    rw [hL1] at f1 f2 hm1 hEd
    rw [hL2] at f3 f4 hm2 hEd
    have HED := shut hEd
    clear hEd hL1 hL2
    unfold MadePost at hm1 hm2
    go_wp2_with fail
    refine wp_region_mix (fun V => Keeps Nothing w4 V) [(true, 0), (true, 1), (true, 3), (true, 4), (true, 5), (true, 6), (true, 7), (true, 8), (false, 2), (false, 9), (true, 10), (true, 11)] (by kernel_rfl) (by kernel_rfl) (Keeps.refl _ _).drew ?_
    simp only [mixItems, List.map_cons, List.map_nil, List.getD_cons_zero, List.getD_cons_succ]
    repeat (refine wpMix_free (fun K hK => ?_); go_simp; refine hK _ ?_; clear hK K)
    refine wpMix_yield (v := .agg #[.int .i64 (i : Int), .int .i64 ct, .slice ap m cp]) (fun V hV => ?_) (fun K hK => ?_)
    · have y0 := hV.cell (blk_cell P4 0 rfl) (fun h => h)
      have y1 := hV.cell (blk_cell P4 1 rfl) (fun h => h)
      have y2 := hV.cell (blk_cell P4 2 rfl) (fun h => h)
      go_simp
    go_simp
    refine hK _ ?_
    clear hK K
    repeat (refine wpMix_free (fun K hK => ?_); go_simp; refine hK _ ?_; clear hK K)
    refine wpMix_yield (v := .int .i64 (i : Int)) (fun V hV => ?_) (fun K hK => ?_)
    · have y1 := hV.cell (blk_cell P4 0 rfl) (fun h => h)
      go_simp
    go_simp
    refine hK _ ?_
    clear hK K
    repeat (refine wpMix_free (fun K hK => ?_); go_simp; refine hK _ ?_; clear hK K)
    refine wpMix_yield (v := .slice ax xb.length cx) (fun V hV => ?_) (fun K hK => ?_)
    · have y1 := hV.cell hcx (fun h => h)
      go_simp
    go_simp
    refine hK _ ?_
    clear hK K
    refine wpMix_yield (v := .agg #[.int .i64 (i : Int), .int .i64 (n : Int), .slice aq L cq]) (fun V hV => ?_) (fun K hK => ?_)
    · have y0 := hV.cell (blk_cell D4 0 rfl) (fun h => h)
      have y1 := hV.cell (blk_cell D4 1 rfl) (fun h => h)
      have y2 := hV.cell (blk_cell D4 2 rfl) (fun h => h)
      go_simp
    go_simp
    refine hK _ ?_
    clear hK K
    refine wpMix_one (fun K hK => ?_)
    go_wp2_with fail
    refine (hm1 _ (Keeps.refl _ _).drew).mono ?_
    rintro e w5 ⟨a1, c1, vs1, rfl, O1, k5⟩
    have K5 : Keeps Nothing w4 w5 := ((Keeps.refl Nothing w4).drew).trans k5 (fun _ h _ => h)
    go_wp2_with fail
    refine hK _ _ K5 ?_
    clear hK K k5 hm1
    refine wpMix_one (fun K hK => ?_)
    go_wp2_with fail
    refine (hm2 _ K5).mono ?_
    rintro e w6 ⟨a2, c2, vs2, rfl, O2, k6⟩
    have K6 : Keeps Nothing w4 w6 := K5.trans k6 (fun _ h _ => h)
    have R1 := (ownS_rows O1).keepsN k6
    have R2 := ownS_rows O2
    obtain ⟨t1, t2⟩ := ownS_cap O1
    obtain ⟨t3, t4⟩ := ownS_cap O2
    obtain ⟨n1, hn1⟩ : ∃ n1, L1.length = n1 := ⟨_, rfl⟩
    obtain ⟨n2, hn2⟩ : ∃ n2, L2.length = n2 := ⟨_, rfl⟩
    rw [hn1] at t1 f1 ⊢
    rw [hn2] at t3 f3 ⊢
    go_wp2_with fail
    refine hK _ _ K6 ?_
    clear hK K k6 hm2 K5 O1 O2
    repeat (refine wpMix_free (fun K hK => ?_); go_simp; refine hK _ ?_; clear hK K)
    refine wpMix_nil ?_
    have KL := K4.trans K6 (fun _ h _ => h)
    clear K4 K6 P4 D4 Q4 hcx hBx hRy
    go_wp2_with fail
    go_loopw [13] (fun s13 wx => ∃ j : Nat, s13 = .int .i64 j ∧ j ≤ n1 ∧ j ≤ n2 ∧ Shut (E = diffL (L1.drop j) (L2.drop j)) ∧ Keeps Nothing w6 wx) (fun s13 _ => n1 - (intOf s13).toNat)
    case atStart => exact ⟨0, rfl, by omega, by omega, shut HED.out, Keeps.refl _ _⟩
    case round =>
      obtain ⟨j, rfl, hj1, hj2, HJ, KR⟩ := hrel
      by_cases h1 : j < n1
      · have u1 : (j : Int) < n1 := by omega
        have b1 : decide ((j : Int) < n1) = true := decide_eq_true u1
        by_cases h2 : j < n2
        · have u2 : (j : Int) < n2 := by omega
          obtain ⟨x, hx⟩ : ∃ x, L1[j]? = some x := ⟨L1[j]'(by omega), by rw [List.getElem?_eq_getElem (by omega)]⟩
          obtain ⟨y, hy⟩ : ∃ y, L2[j]? = some y := ⟨L2[j]'(by omega), by rw [List.getElem?_eq_getElem (by omega)]⟩
          obtain ⟨ga1, go1, rfl⟩ := R1.head (by omega)
          obtain ⟨ga2, go2, rfl⟩ := R2.head (by omega)
          obtain ⟨_, a8, c8, e8, B8, _, _⟩ := (R1.keepsN KR).2 _ rfl j x hx
          obtain ⟨_, a9, c9, e9, B9, _, _⟩ := (R2.keepsN KR).2 _ rfl j y hy
          rw [Addr.add_mid'] at e8 e9
          have HX := shut (f2 x (List.mem_of_getElem? hx))
          have HY := shut (f4 y (List.mem_of_getElem? hy))
          obtain ⟨l8, hl8⟩ : ∃ l8, x.length = l8 := ⟨_, rfl⟩
          obtain ⟨l9, hl9⟩ : ∃ l9, y.length = l9 := ⟨_, rfl⟩
          rw [hl8] at e8
          rw [hl9] at e9
          have HD := shut (diffL_drop hx hy)
          have heq := fun V (K : Keeps Nothing wr V) => equal_any V c8 c9 hl8 hl9 (B8.keepsN K) (B9.keepsN K)
          have HL8 := shut hl8
          have HL9 := shut hl9
          obtain ⟨q, hq⟩ : ∃ q, (x == y) = q := ⟨_, rfl⟩
          rw [hq] at heq
          clear hx hy hl8 hl9
          go_wp2_with fail
          refine wp_region_mix (fun V => Keeps Nothing wr V) [(true, 0), (true, 1), (true, 2), (true, 3), (true, 4), (true, 5), (true, 6), (true, 7), (false, 8), (true, 9)] (by kernel_rfl) (by kernel_rfl) (Keeps.refl _ _).drew ?_
          simp only [mixItems, List.map_cons, List.map_nil, List.getD_cons_zero, List.getD_cons_succ]
          repeat (refine wpMix_free (fun K hK => ?_); go_simp; refine hK _ ?_; clear hK K)
          refine wpMix_yield (v := .slice a8 l8 c8) (fun V hV => ?_) (fun K hK => ?_)
          · have y1 := hV.cell e8 (fun h => h)
            go_simp
          go_simp
          refine hK _ ?_
          clear hK K
          repeat (refine wpMix_free (fun K hK => ?_); go_simp; refine hK _ ?_; clear hK K)
          refine wpMix_yield (v := .slice a9 l9 c9) (fun V hV => ?_) (fun K hK => ?_)
          · have y1 := hV.cell e9 (fun h => h)
            go_simp
          go_simp
          refine hK _ ?_
          clear hK K
          refine wpMix_one (fun K hK => ?_)
          go_wp2_with fail
          refine (heq _ (Keeps.refl _ _).drew).mono ?_
          rintro e w8 ⟨rfl, rfl⟩
          go_wp2_with fail
          refine hK _ _ (Keeps.refl _ _).drew ?_
          clear hK K heq
          repeat (refine wpMix_free (fun K hK => ?_); go_simp; refine hK _ ?_; clear hK K)
          refine wpMix_nil ?_
          cases q with
          | true =>
            have HJ2 : Shut (E = diffL (L1.drop (j + 1)) (L2.drop (j + 1))) := shut (by rw [HJ.out, HD.out, if_pos (by simpa using hq)])
            go_wp2_with fail
            go_roundw
            case rel => exact ⟨j + 1, by go_num, by omega, by omega, HJ2, KR.drew⟩
            case measure => simp [intOf]; omega
          | false =>
            have hne : ¬ x = y := by simpa using hq
            have HEx : Shut (E = some (x, y)) := shut (by rw [HJ.out, HD.out, if_neg hne])
            have w0 := e8
            go_wp2_with fail
            refine wp_region_mix (fun V => Keeps Nothing wr V) [(true, 0), (true, 1), (true, 2), (true, 3), (true, 4), (true, 5), (true, 6), (true, 7), (true, 8), (true, 9), (true, 10)] (by kernel_rfl) (by kernel_rfl) (Keeps.refl _ _).drew.drew ?_
            simp only [mixItems, List.map_cons, List.map_nil, List.getD_cons_zero, List.getD_cons_succ]
            repeat (refine wpMix_free (fun K hK => ?_); go_simp; refine hK _ ?_; clear hK K)
            refine wpMix_yield (v := .slice a8 l8 c8) (fun V hV => ?_) (fun K hK => ?_)
            · have y1 := hV.cell e8 (fun h => h)
              go_simp
            go_simp
            refine hK _ ?_
            clear hK K
            repeat (refine wpMix_free (fun K hK => ?_); go_simp; refine hK _ ?_; clear hK K)
            refine wpMix_yield (v := .slice a9 l9 c9) (fun V hV => ?_) (fun K hK => ?_)
            · have y1 := hV.cell e9 (fun h => h)
              go_simp
            go_simp
            refine hK _ ?_
            clear hK K
            repeat (refine wpMix_free (fun K hK => ?_); go_simp; refine hK _ ?_; clear hK K)
            refine wpMix_nil ?_
            go_wp2_with fail
            go_ret3
            exact ⟨a8, l8, c8, a9, l9, c9, by rw [HEx.out]; rfl, (KL.trans KR (fun _ h _ => h)).drew.drew, fun u v e => by
              rw [HEx.out] at e
              simp only [Option.some.injEq, Prod.mk.injEq] at e
              obtain ⟨rfl, rfl⟩ := e
              exact ⟨HL8.out.symm, HL9.out.symm, B8.keepsN (Keeps.refl Nothing _).drew.drew, B9.keepsN (Keeps.refl Nothing _).drew.drew, by have := HX.out; omega, by have := HY.out; omega⟩⟩
        · have u2 : ¬ (j : Int) < n2 := by omega
          have HE : Shut (E = none) := shut (by rw [HJ.out, diffL_end (.inr (by omega))])
          have KK := KL.trans KR (fun _ h _ => h)
          go_wp2_with fail
          go_ret3
          exact ⟨none, 0, 0, none, 0, 0, by rw [HE.out]; rfl, KK, fun u v e => by rw [HE.out] at e; cases e⟩
      · have u1 : ¬ (j : Int) < n1 := by omega
        have b1 : decide ((j : Int) < n1) = false := decide_eq_false u1
        have HE : Shut (E = none) := shut (by rw [HJ.out, diffL_end (.inl (by omega))])
        have KK := KL.trans KR (fun _ h _ => h)
        go_wp2_with fail
        go_ret3
        exact ⟨none, 0, 0, none, 0, 0, by rw [HE.out]; rfl, KK, fun u v e => by rw [HE.out] at e; cases e⟩

end Go.Proofs.Ytdmfomjgmmkaeaa
