/- The document's Same, of two equal proofs. -/
import Derived.Test.YtdmfomjgmmkaeaaMerk19
namespace Go.Proofs.Ytdmfomjgmmkaeaa
open Go.RowKit

attribute [local go_sem ↓] exec_mid_hash exec_load_hash exec_store_hash
attribute [local go_sem] rowOk_new World.setRow_alloc_new

set_option maxRecDepth 100000 in
set_option maxHeartbeats 1000000 in
theorem rsame_true {w : World} (ix ct : Int) {ap aq : Option Addr} {m c d : Nat} {path : List (List UInt8)} (hm : path.length = m) (hm9 : m ≤ 1000000) (hc : m ≤ c) (hcm : c ≤ maxLen) (hd : m ≤ d) (hdm : d ≤ maxLen) (hA : HashesAt w ap path) (hB : HashesAt w aq path) :
    Calls Try.prog 28 #[.agg #[.int .i64 ix, .int .i64 ct, .slice ap m c], .agg #[.int .i64 ix, .int .i64 ct, .slice aq m d]] w fun e w' => e = .returned (.bool true) ∧ Keeps Nothing w w' := by
  have hcm9 : c ≤ 9223372036854775807 := by unfold maxLen at hcm; omega
  have hdm9 : d ≤ 9223372036854775807 := by unfold maxLen at hdm; omega
  have BA := blk_alloc (blk_new w #[.int .i64 ix, .int .i64 ct, .slice ap m c] 46) (.cells #[.int .i64 ix, .int .i64 ct, .slice aq m d] 46)
  have BB := blk_new (w.alloc (.cells #[.int .i64 ix, .int .i64 ct, .slice ap m c] 46)) #[.int .i64 ix, .int .i64 ct, .slice aq m d] 46
  rw [World.size_alloc] at BB
  have K0 := ((Keeps.refl Nothing w).alloc (.cells #[.int .i64 ix, .int .i64 ct, .slice ap m c] 46)).alloc (.cells #[.int .i64 ix, .int .i64 ct, .slice aq m d] 46)
  have hA0 := hA.keepsN K0
  have hB0 := hB.keepsN K0
  have x0 := blk_cell BA 0 rfl
  have x1 := blk_cell BA 1 rfl
  have x2 := blk_cell BA 2 rfl
  have y0 := blk_cell BB 0 rfl
  have y1 := blk_cell BB 1 rfl
  have y2 := blk_cell BB 2 rfl
  go_enter Try.func28, Try.ntmps28
  go_wp2_with fail
  generalize ((w.alloc (.cells #[.int .i64 ix, .int .i64 ct, .slice ap m c] 46)).alloc (.cells #[.int .i64 ix, .int .i64 ct, .slice aq m d] 46)) = w0 at *
  clear x0 x1 y0 y1 hA hB BA BB
  go_loopw [5] (fun s5 wx => ∃ i : Nat, s5 = .int .i64 i ∧ i ≤ m ∧ Keeps Nothing w0 wx) (fun s5 _ => m - (intOf s5).toNat)
  case atStart => exact ⟨0, rfl, by omega, Keeps.refl _ _⟩
  case round =>
    obtain ⟨i, rfl, hi, K⟩ := hrel
    have x2 := K.cell x2 (fun h => h)
    have y2 := K.cell y2 (fun h => h)
    by_cases hlt : i < m
    · have m1 : (i : Int) < m := by omega
      obtain ⟨x, hx⟩ : ∃ x, path[i]? = some x := ⟨path[i]'(by omega), by rw [List.getElem?_eq_getElem (by omega)]⟩
      obtain ⟨b1, o1, rfl⟩ := hA0.head (by omega)
      obtain ⟨b2, o2, rfl⟩ := hB0.head (by omega)
      obtain ⟨_, hx32, r1⟩ := (hA0.keepsN K).2 _ rfl i x hx
      obtain ⟨_, _, r2⟩ := (hB0.keepsN K).2 _ rfl i x hx
      obtain ⟨C, hC⟩ : ∃ C, C = (x.map byteV).toArray := ⟨_, rfl⟩
      have hxl : (x.map byteV).length = 32 := by rw [List.length_map]; exact hx32
      have heq : ∀ V, (Op.equalIn 10000 25 (.agg C) (.agg C)).run Try.prog V = .ok true V := fun V => by
        rw [hC, eql_hash_run _ _ hx32 hx32 V]; simp
      have HC := shut hC.symm
      clear hC hx32
      go_wp2_with fail
      refine wp_region_mix (fun V => Keeps Nothing wr V) [(true, 0), (true, 1), (true, 2), (true, 3), (true, 4), (true, 5), (true, 6), (true, 7), (true, 8), (true, 9), (true, 10)] (by kernel_rfl) (by kernel_rfl) (Keeps.refl _ _).drew ?_
      simp only [mixItems, List.map_cons, List.map_nil, List.getD_cons_zero, List.getD_cons_succ]
      repeat (refine wpMix_free (fun K hK => ?_); go_simp; refine hK _ ?_; clear hK K)
      refine wpMix_yield (v := .slice (some ⟨b1, o1, none⟩) m c) (fun V hV => ?_) (fun K hK => ?_)
      · have z1 := hV.cell x2 (fun h => h)
        go_simp
      go_simp
      refine hK _ ?_
      clear hK K
      repeat (refine wpMix_free (fun K hK => ?_); go_simp; refine hK _ ?_; clear hK K)
      refine wpMix_yield (v := .agg C) (fun V hV => ?_) (fun K hK => ?_)
      · have z1 := rangeAt_keeps r1 hV (fun h => h)
        have k1 := midOk_range z1
        have k2 := midOf_range z1
        rw [hxl] at k1 k2
        rw [HC.out] at k2
        go_simp
      go_simp
      refine hK _ ?_
      clear hK K
      repeat (refine wpMix_free (fun K hK => ?_); go_simp; refine hK _ ?_; clear hK K)
      refine wpMix_yield (v := .slice (some ⟨b2, o2, none⟩) m d) (fun V hV => ?_) (fun K hK => ?_)
      · have z1 := hV.cell y2 (fun h => h)
        go_simp
      go_simp
      refine hK _ ?_
      clear hK K
      repeat (refine wpMix_free (fun K hK => ?_); go_simp; refine hK _ ?_; clear hK K)
      refine wpMix_yield (v := .agg C) (fun V hV => ?_) (fun K hK => ?_)
      · have z1 := rangeAt_keeps r2 hV (fun h => h)
        have k1 := midOk_range z1
        have k2 := midOf_range z1
        rw [hxl] at k1 k2
        rw [HC.out] at k2
        go_simp
      go_simp
      refine hK _ ?_
      clear hK K
      repeat (refine wpMix_free (fun K hK => ?_); go_simp; refine hK _ ?_; clear hK K)
      refine wpMix_nil ?_
      go_wp2_with fail
      go_roundw
      case rel => exact ⟨i + 1, by go_num, by omega, K.drew⟩
      case measure => simp [intOf]; omega
    · obtain rfl : i = m := by omega
      have m1 : ¬ (i : Int) < i := by omega
      go_wp2_with fail
      go_ret
      exact ⟨rfl, K0.trans K (fun _ h _ => h)⟩

end Go.Proofs.Ytdmfomjgmmkaeaa
