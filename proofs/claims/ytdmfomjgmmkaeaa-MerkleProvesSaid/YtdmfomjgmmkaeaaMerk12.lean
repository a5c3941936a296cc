/- merkle.Check. -/
import Derived.Test.YtdmfomjgmmkaeaaMerk11
import Derived.Test.YtdmfomjgmmkaeaaHashCmp
namespace Go.Proofs.Ytdmfomjgmmkaeaa
open Go.RowKit

attribute [local go_sem ↓] exec_mid_hash exec_load_hash exec_store_hash
attribute [local go_sem] rowOk_new World.setRow_alloc_new
def proofA (ix ct : Int) (ap : Option Addr) (m c : Nat) : Array Value := #[.int .i64 ix, .int .i64 ct, .slice ap m c]

theorem madeL_len (b : List UInt8) (ix ct : Int) (path : List (List UInt8)) (h32 : ∀ x ∈ path, x.length = 32) : (madeL b ix ct path).length ≤ path.length + 2 ∧ ∀ t ∈ madeL b ix ct path, t.length ≤ b.length + 65 := by
  unfold madeL
  split
  · obtain ⟨u1, u2, u3⟩ := upL_facts b path.length ix.toNat ct.toNat path rfl h32
    split
    · refine ⟨by simp only [List.length_cons, List.length_reverse]; omega, fun t ht => ?_⟩
      rcases List.mem_cons.1 ht with rfl | ht
      · unfold topB; simp [be8_len, u1]
      · exact u3 t (by simpa using ht)
    · exact ⟨by simp, fun t ht => by cases ht⟩
  · exact ⟨by simp, fun t ht => by cases ht⟩

set_option maxRecDepth 100000 in
set_option maxHeartbeats 4000000 in
theorem check_any {w : World} {root : List UInt8} (hr : root.length = 32) {R : Array Value} (eR : R = (root.map byteV).toArray) {ab : Option Addr} {nb cb : Nat} {b : List UInt8} (hB : BytesAt w ab b) (hnb : b.length = nb) (hnb9 : nb ≤ 1000) (ix ct : Int) (hix : -9223372036854775808 ≤ ix) (hct : ct < 9223372036854775808) {ap : Option Addr} {m c : Nat} {path : List (List UInt8)} (hm : path.length = m) (hH : HashesAt w ap path) (hmc : m ≤ c) (hcm : c ≤ maxLen) (hm9 : m ≤ 100000) :
    Calls Try.prog 30 #[.agg R, .slice ab nb cb, .agg #[.int .i64 ix, .int .i64 ct, .slice ap m c]] w fun e w' => e = .returned (.bool (checkL root b ix ct path)) ∧ Keeps Nothing w w' := by
  obtain ⟨l1, l2⟩ := madeL_len b ix ct path hH.all32
  have hmade := fun W (K : Keeps Nothing w W) => made_any (w := W) (cb := cb) (hB.keeps K (fun _ _ h => h)) hnb hnb9 ix ct hix hct hm (hH.keepsN K) hmc hcm hm9
  have hck : checkL root b ix ct path = match madeL b ix ct path with | [] => false | t :: _ => shaOf t == root := rfl
  obtain ⟨C, hC⟩ : ∃ C, checkL root b ix ct path = C := ⟨_, rfl⟩
  rw [hC] at hck ⊢
  have HCK := shut hck
  obtain ⟨L, hL⟩ : ∃ L, madeL b ix ct path = L := ⟨_, rfl⟩
  rw [hL] at hmade l1 l2
  have HLL := shut hL
  have hRs : R.size = 32 := by rw [eR]; simp [hr]
  have ER := shut eR
  have HRR := shut hr
  have Q3 : Blk ((w.alloc (.cells R 25)).alloc (.cells #[.int .i64 ix, .int .i64 ct, .slice ap m c] 46)) w.heap.size R 25 := blk_alloc (blk_new w _ _) _
  have P5 : Blk ((w.alloc (.cells R 25)).alloc (.cells #[.int .i64 ix, .int .i64 ct, .slice ap m c] 46)) (w.heap.size + 1) #[.int .i64 ix, .int .i64 ct, .slice ap m c] 46 := by have := blk_new (w.alloc (.cells R 25)) #[.int .i64 ix, .int .i64 ct, .slice ap m c] 46; rw [World.size_alloc] at this; exact this
  have K0 := ((Keeps.refl Nothing w).alloc (.cells R 25)).alloc (.cells #[.int .i64 ix, .int .i64 ct, .slice ap m c] 46)
  have b0 := blk_cell P5 0 (show (#[.int .i64 ix, .int .i64 ct, .slice ap m c] : Array Value)[0]? = some (.int .i64 ix) from rfl)
  have b1 := blk_cell P5 1 (show (#[.int .i64 ix, .int .i64 ct, .slice ap m c] : Array Value)[1]? = some (.int .i64 ct) from rfl)
  have b2 := blk_cell P5 2 (show (#[.int .i64 ix, .int .i64 ct, .slice ap m c] : Array Value)[2]? = some (.slice ap m c) from rfl)
  clear hck hC hL eR hr hB hH P5
  go_enter Try.func30, Try.ntmps30
  go_wp2_with fail
  refine (hmade _ K0).mono ?_
  rintro e w1 ⟨a1, c1, v1, rfl, o1, k1⟩
  have Q4 := k1.blk Q3 (fun h => h)
  have K1 := K0.trans k1 (fun _ h _ => h)
  clear K0 k1 Q3 b0 b1 b2 hmade
  generalize w.heap.size = g3 at *
  cases L with
  | nil =>
    have HC0 : Shut (C = false) := shut (by rw [HCK.out, HLL.out])
    have cb0 : decide ((0 : Int) < (([] : List (List UInt8)).length : Int)) = false := rfl
    rw [show ([] : List (List UInt8)).length = 0 from rfl]
    go_wp2_with fail
    go_quiet (fail)
    go_wp2_with fail
    go_ret
    exact ⟨by rw [HC0.out]; rfl, K1.drewN _⟩
  | cons t L =>
    have HC1 : Shut (C = (shaOf t == root)) := shut (by rw [HCK.out, HLL.out])
    obtain ⟨N, hN⟩ : ∃ N, (t :: L).length = N := ⟨_, rfl⟩
    have hN2 : 0 < N := by rw [← hN]; simp
    have hN1 : (0 : Int) < N := by omega
    have hN3 : decide (0 < N) = true := decide_eq_true hN2
    have hN4 : decide ((0 : Int) < (N : Int)) = true := decide_eq_true hN1
    obtain ⟨ae, ce, hve, hoe⟩ := o1.each 0 t rfl
    have htl : t.length ≤ 1000000 := by have := l2 t (by simp); omega
    have hse := fun W (K : Keeps Nothing w1 W) => sum_own (K.own hoe (fun _ _ h => h)) htl
    obtain ⟨X, hX, hXv, hXs, hag⟩ := hash_agg t
    rw [hXv] at hse
    obtain ⟨tl, htl2⟩ : ∃ tl, t.length = tl := ⟨_, rfl⟩
    rw [htl2] at hve hse
    have heq : ∀ W, (Op.equalIn 10000 25 (.agg X) (.agg R)).run Try.prog W = .ok C W := fun W => by
      rw [hX, ER.out, HC1.out]
      exact eql_hash_run (shaOf t) root (sha_len t) HRR.out W
    rcases ownS_head o1 with e4 | ⟨g4, e4⟩
    · have h9 := o1.own.2
      rw [e4] at h9
      rcases h9 with ⟨_, hn0⟩ | ⟨g', cap', cur, hv', _⟩
      · simp at hn0
      · simp at hv'
    · subst e4
      have hcell := World.ownsRow.cells o1.own (g := g4) rfl 0 _ hve
      rw [Addr.add_mid', Nat.zero_add] at hcell
      rw [hN]
      clear hve hoe o1 l1 l2 hX hXv htl2
      go_wp2_with fail
      refine wp_region_mixT (fun W => W.cell? ⟨g4, 0, none⟩ = some (.slice ae tl ce) ∧ Blk W g3 R 25) 11 (.take 0 (.take 1 (.take 2 (.take 3 (.take 4 (.take 5 (.take 6 (.take 8 (.one 7 (.take 9 (.take 10 (.one 11 .done)))))))))))) (by kernel_rfl) (by kernel_rfl) ⟨hcell, Q4⟩ ?_
      simp only [itemsT, PlanT.map, List.getD_cons_zero, List.getD_cons_succ, Nat.reduceBEq]
      repeat (refine wpMixT_free (fun K hK => ?_); go_simp; refine hK _ ?_; clear hK K)
      refine wpMixT_yield (v := .slice ae tl ce) (fun W hW => ?_) (fun K hK => ?_)
      · obtain ⟨z1, z2⟩ := hW
        go_simp
      go_simp
      refine hK _ ?_
      clear hK K
      refine wpMixT_yield (v := .agg R) (fun W hW => ?_) (fun K hK => ?_)
      · obtain ⟨z1, z2⟩ := hW
        have r1 := rowOk_blk z2 hRs
        have r2 := rowOf_blk z2
        go_simp
      go_simp
      refine hK _ ?_
      clear hK K
      refine wpMixT_one (fun K hK => ?_)
      go_wp2_with fail
      refine (hse w1.drew ((Keeps.refl _ _).drew)).mono ?_
      rintro e w2 ⟨rfl, k2⟩
      have K2 := K1.drew.trans k2 (fun _ h _ => h)
      have q1 := k2.cell (a := w1.drew) hcell (fun h => h)
      have q2 := k2.blk (a := w1.drew) Q4 (fun h => h)
      go_wp2_with fail
      refine hK _ _ (.inr ⟨q1, q2⟩) ?_
      clear hK K
      repeat (refine wpMixT_free (fun K hK => ?_); go_simp; refine hK _ ?_; clear hK K)
      refine wpMixT_one (fun K hK => ?_)
      go_wp2_with fail
      refine hK _ _ (.inl trivial) ?_
      clear hK K
      refine wpMixT_done ?_
      go_wp2_with fail
      go_ret
      exact ⟨rfl, K2⟩

end Go.Proofs.Ytdmfomjgmmkaeaa
