/- usufructref25.SameMsg of one message; usufructlaw29.Great. -/
import Derived.Test.YteifmkfkekglpaaNet6
import Derived.Test.YteifmkfkekglpaaHashCmp
namespace Go.Proofs.Yteifmkfkekglpaa
open Go.RowKit

attribute [local go_sem ↓] exec_mid_msg exec_store_msg exec_mid_hash exec_load_hash exec_store_hash
attribute [local go_sem] rowOk_new World.setRow_alloc_new

def greatP (m : MsgT) : Prop := 500 < m.blob.length ∨ 500 < m.sig.length ∨ 70 < m.hashes.length ∨ 100 < m.name.length
instance (m : MsgT) : Decidable (greatP m) := by unfold greatP; infer_instance
set_option maxRecDepth 100000 in
theorem great_any {w : World} {C : Array Value} {m : MsgT} {ao : Option Addr} {cap : Nat} (hC : MsgC C m ao cap) :
    Calls Try.prog 7 #[.agg C] w fun e w' => e = .returned (.bool (decide (greatP m))) ∧ Keeps Nothing w w' := by
  have B := blk_new w C 26
  have K := (Keeps.refl Nothing w).alloc (.cells C 26)
  have c5 := blk_cell B 5 hC.c5
  have c38 := blk_cell B 38 hC.c38
  have c39 := blk_cell B 39 hC.c39
  have c40 := blk_cell B 40 hC.c40
  clear hC B
  obtain ⟨k, f, t, c, ep, nm, hs, hh, bl, sg⟩ := m
  simp only at c5 c38 c39 c40
  obtain ⟨Z, hZ⟩ : ∃ Z, decide (greatP ⟨k, f, t, c, ep, nm, hs, hh, bl, sg⟩) = Z := ⟨_, rfl⟩
  rw [hZ]
  have HZ := shut hZ
  clear hZ
  go_enter Try.func7, Try.ntmps7
  go_wp2_with fail
  all_goals go_ret
  all_goals refine ⟨ret_bool ?_, K⟩
  all_goals (rw [← HZ.out]; clear HZ K c5 c38 c39 c40)
  all_goals (rw [Bool.eq_iff_iff, decide_eq_true_iff (p := greatP _)]; simp [greatP] <;> first | omega | (constructor <;> intro hh0 <;> omega))

set_option maxRecDepth 100000 in
set_option maxHeartbeats 8000000 in
theorem same_true {w : World} {C D : Array Value} {m : MsgT} {ao1 ao2 : Option Addr} {cap1 cap2 : Nat} (hC : MsgC C m ao1 cap1) (hD : MsgC D m ao2 cap2) (hM : MsgAt w m ao1 cap1) (hN : MsgAt w m ao2 cap2) :
    Calls Try.prog 16 #[.agg C, .agg D] w fun e w' => e = .returned (.bool true) ∧ Keeps Nothing w w' := by
  have BC := blk_alloc (blk_new w C 26) (.cells D 26)
  have BD := blk_new (w.alloc (.cells C 26)) D 26
  rw [World.size_alloc] at BD
  have K0 := ((Keeps.refl Nothing w).alloc (.cells C 26)).alloc (.cells D 26)
  have c0 := blk_cell BC 0 hC.c0
  have c1 := blk_cell BC 1 hC.c1
  have c2 := blk_cell BC 2 hC.c2
  have c3 := blk_cell BC 3 hC.c3
  have c4 := blk_cell BC 4 hC.c4
  have c5 := blk_cell BC 5 hC.c5
  have c38 := blk_cell BC 38 hC.c38
  have c39 := blk_cell BC 39 hC.c39
  have c40 := blk_cell BC 40 hC.c40
  have d0 := blk_cell BD 0 hD.c0
  have d1 := blk_cell BD 1 hD.c1
  have d2 := blk_cell BD 2 hD.c2
  have d3 := blk_cell BD 3 hD.c3
  have d4 := blk_cell BD 4 hD.c4
  have d5 := blk_cell BD 5 hD.c5
  have d38 := blk_cell BD 38 hD.c38
  have d39 := blk_cell BD 39 hD.c39
  have d40 := blk_cell BD 40 hD.c40
  have h32 : (m.hash.map byteV).length = 32 := by rw [List.length_map]; exact hC.h32
  have r1 := msg_hash BC hC
  have r2 := msg_hash BD hD
  have k1 := midOk_range r1
  have k2 := midOf_range r1
  have k3 := midOk_range r2
  have k4 := midOf_range r2
  rw [h32] at k1 k2 k3 k4
  have hh32 := hC.h32
  have hat1 := hM.at'.keepsN K0
  have hat2 := hN.at'.keepsN K0
  have hle1 := hM.le
  have hcm9 : cap1 ≤ 9223372036854775807 := by have := hM.max; unfold maxLen at this; omega
  have hle2 := hN.le
  clear hC hD hM hN BC BD r1 r2 h32
  obtain ⟨k, f, t, c, ep, nm, hs, hh, bl, sg⟩ := m
  simp only at *
  obtain ⟨HT, hHT⟩ : ∃ HT, (hs.map byteV).toArray = HT := ⟨_, rfl⟩
  have heq : ∀ V, (Op.equalIn 10000 23 (.agg HT) (.agg HT)).run Try.prog V = .ok true V := fun V => by rw [← hHT, eql_hash_run _ _ hh32 hh32 V]; simp
  rw [hHT] at k2 k4
  clear hHT hh32
  go_enter Try.func16, Try.ntmps16
  go_wp2_with fail
  generalize ((w.alloc (.cells C 26)).alloc (.cells D 26)) = w0 at *
  clear c0 c1 c2 c3 c4 c5 c39 c40 d0 d1 d2 d3 d4 d5 d39 d40 k1 k2 k3 k4 heq
  obtain ⟨n, hn⟩ : ∃ n, hh.length = n := ⟨_, rfl⟩
  rw [hn] at c38 d38 hle1 hle2 ⊢
  go_loopw [5] (fun s5 wx => ∃ i : Nat, s5 = .int .i64 i ∧ i ≤ n ∧ Keeps Nothing w0 wx) (fun s5 _ => n - (intOf s5).toNat)
  case atStart => exact ⟨0, rfl, by omega, Keeps.refl _ _⟩
  case round =>
    obtain ⟨i, rfl, hi, K⟩ := hrel
    have x2 := K.cell c38 (fun h => h)
    have y2 := K.cell d38 (fun h => h)
    by_cases hlt : i < n
    · have m1 : (i : Int) < n := by omega
      obtain ⟨x, hx⟩ : ∃ x, hh[i]? = some x := ⟨hh[i]'(by omega), by rw [List.getElem?_eq_getElem (by omega)]⟩
      obtain ⟨b1, o1, rfl⟩ := hat1.head (by omega)
      obtain ⟨b2, o2, rfl⟩ := hat2.head (by omega)
      obtain ⟨_, hx32, r1⟩ := (hat1.keepsN K).2 _ rfl i x hx
      obtain ⟨_, _, r2⟩ := (hat2.keepsN K).2 _ rfl i x hx
      obtain ⟨X, hX⟩ : ∃ X, X = (x.map byteV).toArray := ⟨_, rfl⟩
      have hxl : (x.map byteV).length = 32 := by rw [List.length_map]; exact hx32
      have heq : ∀ V, (Op.equalIn 10000 23 (.agg X) (.agg X)).run Try.prog V = .ok true V := fun V => by
        rw [hX, eql_hash_run _ _ hx32 hx32 V]; simp
      have HC := shut hX.symm
      clear hX hx32
      go_wp2_with fail
      refine wp_region_mix (fun V => Keeps Nothing wr V) [(true, 0), (true, 1), (true, 2), (true, 3), (true, 4), (true, 5), (true, 6), (true, 7), (true, 8), (true, 9), (true, 10)] (by kernel_rfl) (by kernel_rfl) (Keeps.refl _ _).drew ?_
      simp only [mixItems, List.map_cons, List.map_nil, List.getD_cons_zero, List.getD_cons_succ]
      repeat (refine wpMix_free (fun K hK => ?_); go_simp; refine hK _ ?_; clear hK K)
      refine wpMix_yield (v := .slice (some ⟨b1, o1, none⟩) n cap1) (fun V hV => ?_) (fun K hK => ?_)
      · have z1 := hV.cell x2 (fun h => h)
        go_simp
      go_simp
      refine hK _ ?_
      clear hK K
      repeat (refine wpMix_free (fun K hK => ?_); go_simp; refine hK _ ?_; clear hK K)
      refine wpMix_yield (v := .agg X) (fun V hV => ?_) (fun K hK => ?_)
      · have z1 := rangeAt_keeps r1 hV (fun h => h)
        have k1 := midOk_range z1
        have k2 := midOf_range z1
        rw [hxl] at k1 k2
        rw [HC.out] at k2
        go_simp
      go_simp
      refine hK _ ?_
      clear hK K
      repeat (refine wpMix_free (fun K hK => ?_); go_simp; refine hK _ ?_; clear hK K)
      refine wpMix_yield (v := .slice (some ⟨b2, o2, none⟩) n cap2) (fun V hV => ?_) (fun K hK => ?_)
      · have z1 := hV.cell y2 (fun h => h)
        go_simp
      go_simp
      refine hK _ ?_
      clear hK K
      repeat (refine wpMix_free (fun K hK => ?_); go_simp; refine hK _ ?_; clear hK K)
      refine wpMix_yield (v := .agg X) (fun V hV => ?_) (fun K hK => ?_)
      · have z1 := rangeAt_keeps r2 hV (fun h => h)
        have k1 := midOk_range z1
        have k2 := midOf_range z1
        rw [hxl] at k1 k2
        rw [HC.out] at k2
        go_simp
      go_simp
      refine hK _ ?_
      clear hK K
      repeat (refine wpMix_free (fun K hK => ?_); go_simp; refine hK _ ?_; clear hK K)
      refine wpMix_nil ?_
      go_wp2_with fail
      go_roundw
      case rel => exact ⟨i + 1, by go_num, by omega, K.drew⟩
      case measure => simp [intOf]; omega
    · obtain rfl : i = n := by omega
      have m1 : ¬ (i : Int) < i := by omega
      go_wp2_with fail
      go_ret
      exact ⟨rfl, K0.trans K (fun _ h _ => h)⟩

end Go.Proofs.Yteifmkfkekglpaa
