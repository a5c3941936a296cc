/- sha.Hex. -/
import Derived.Test.YtdmfomjgmmkaeaaSha6
namespace Go.Proofs.Ytdmfomjgmmkaeaa
open Go.RowKit

attribute [local go_sem ↓] exec_load_hash exec_store_hash
attribute [local go_sem] rowOk_new World.setRow_alloc_new rowOk_new2 setRow_new2

def hexD (n : Nat) : UInt8 := if n < 10 then UInt8.ofNat (48 + n) else UInt8.ofNat (87 + n)
def hexC (c : UInt8) : List UInt8 := [hexD (c.toNat / 16), hexD (c.toNat % 16)]
def hexOf (h : List UInt8) : List UInt8 := h.flatMap hexC
theorem hexOf_snoc (l : List UInt8) (c : UInt8) : hexOf (l ++ [c]) = hexOf l ++ hexC c := by
  unfold hexOf; rw [List.flatMap_append]; simp
theorem hexOf_len (l : List UInt8) : (hexOf l).length = 2 * l.length := by
  induction l with
  | nil => rfl
  | cons c l ih => show (hexC c ++ hexOf l).length = _; rw [List.length_append, ih, List.length_cons]; show 2 + _ = _; omega

theorem bits_15 (c : UInt8) : bits BinOp.and IntKind.u8 (c.toNat : Int) 15 = (c.toNat : Int) % 16 := by
  have h : ∀ n : Nat, n < 256 → bits BinOp.and IntKind.u8 (n : Int) 15 = (n : Int) % 16 := by decide +kernel
  exact h c.toNat c.toNat_lt
/-- A digit out of the row of digits. -/
theorem dig_at (k : IntKind) (n : Nat) (hn : n < 16) (W : World) : (Instr.index 9 (.string ⟨#[48, 49, 50, 51, 52, 53, 54, 55, 56, 57, 97, 98, 99, 100, 101, 102]⟩) (.int k (n : Int))).run Try.prog W = .ok (byteV (hexD n)) W := by
  rcases (by omega : n = 0 ∨ n = 1 ∨ n = 2 ∨ n = 3 ∨ n = 4 ∨ n = 5 ∨ n = 6 ∨ n = 7 ∨ n = 8 ∨ n = 9 ∨ n = 10 ∨ n = 11 ∨ n = 12 ∨ n = 13 ∨ n = 14 ∨ n = 15) with rfl | rfl | rfl | rfl | rfl | rfl | rfl | rfl | rfl | rfl | rfl | rfl | rfl | rfl | rfl | rfl
  all_goals (rw [run_index_string W _ _ _ _ Try.underlying9]; rfl)
theorem dig_hi (k : IntKind) (c : UInt8) (W : World) : (Instr.index 9 (.string ⟨#[48, 49, 50, 51, 52, 53, 54, 55, 56, 57, 97, 98, 99, 100, 101, 102]⟩) (.int k ((c.toNat : Int) / 16))).run Try.prog W = .ok (.int .u8 ((hexD (c.toNat / 16)).toNat : Int)) W := by
  have h := c.toNat_lt
  have := dig_at k (c.toNat / 16) (by omega) W
  rw [show ((c.toNat / 16 : Nat) : Int) = (c.toNat : Int) / 16 by simp] at this
  exact this
theorem dig_lo (k : IntKind) (c : UInt8) (W : World) : (Instr.index 9 (.string ⟨#[48, 49, 50, 51, 52, 53, 54, 55, 56, 57, 97, 98, 99, 100, 101, 102]⟩) (.int k ((c.toNat : Int) % 16))).run Try.prog W = .ok (.int .u8 ((hexD (c.toNat % 16)).toNat : Int)) W := by
  have := dig_at k (c.toNat % 16) (by omega) W
  rw [show ((c.toNat % 16 : Nat) : Int) = (c.toNat : Int) % 16 by simp] at this
  exact this

theorem own8_nil (w : World) : Own8 w 5 none 0 [] := World.ownsRow_nil w _ _ _
theorem src_two (w : World) (b c : UInt8) {u v : Value} (hu : u = byteV b) (hv : v = byteV c) : Src Try.prog 1 22 (.slice (some ⟨w.heap.size, 0, none⟩) 2 2) [b, c].length ([b, c].map byteV) (w.alloc (.cells #[u, v] 5)) := by
  subst hu hv
  refine Src.ofSlice _ Try.underlying22 ⟨w.heap.size, 0, none⟩ 2 2 _ rfl ?_ (byteV_one _)
  intro j u hj
  match j, hj with
  | 0, hj => simp at hj; subst hj; simp [Addr.add]
  | 1, hj => simp at hj; subst hj; simp [Addr.add]
theorem idx_hash (W : World) {Y : Array Value} {t : Nat} {c : UInt8} (hY : Y[t]? = some (byteV c)) (ht : t < 32) (k : IntKind) : (Instr.index 25 (.agg Y) (.int k (t : Int))).run Try.prog W = .ok (byteV c) W := by
  have h8 : (sizeOf 5).run Try.prog W = .ok 1 W := by kernel_rfl
  simp [Instr.index, run_underlying Try.underlying25, asIntOf, ht, hY, h8, go_sem]

set_option maxRecDepth 100000 in
set_option maxHeartbeats 1000000 in
theorem hex_any (w : World) (h : List UInt8) (hl : h.length = 32) : Calls Try.prog 20 #[hashV h] w (SaysText w (hexOf h)) := by
  unfold hashV
  obtain ⟨Y, hY⟩ : ∃ Y, (h.map byteV).toArray = Y := ⟨_, rfl⟩
  have hYs : Y.size = 32 := by rw [← hY]; simp [hl]
  have hag := aggOk_agg 32 Y hYs (by rw [← hY]; exact bytes_all _)
  rw [hY]
  have HY := shut hY
  have HYS := shut hYs
  have HL := shut hl
  clear hY hYs hl
  go_enter Try.func20, Try.ntmps20
  have r1 : rowOk (w.alloc (.cells Y 25)) w.heap.size 32 = true := rowOk_blk (blk_new w Y _) HYS.out
  have r2 := rowOf_blk (blk_new w Y 25)
  have K0 : Keeps Nothing w (w.alloc (.cells Y 25)) := (Keeps.refl _ _).alloc _
  go_wp2_with fail
  generalize w.alloc (.cells Y 25) = W0 at *
  generalize w.heap.size = HB at *
  clear r1 r2
  go_loopw [3, 7] (fun s3 s7 wx => ∃ (t : Nat) (ao : Option Addr) (cap : Nat), s7 = .int .i64 t ∧ t ≤ 32 ∧ s3 = .slice ao (2 * t) cap ∧ Own8 wx 5 ao cap (hexOf (h.take t)) ∧ Keeps Nothing w wx ∧ (∀ g, blockOf ao = some g → w.heap.size ≤ g)) (fun _ s7 _ => 32 - (intOf s7).toNat)
  case atStart => exact ⟨0, none, 0, rfl, by omega, rfl, own8_nil _, K0, fun g hg => by simp [blockOf] at hg⟩
  case round =>
    clear K0
    obtain ⟨t, ao, cap, rfl, ht, rfl, HO, HK, HM⟩ := hrel
    by_cases ht32 : t < 32
    · obtain ⟨c, hc⟩ : ∃ c, h[t]? = some c := ⟨_, List.getElem?_eq_getElem (by rw [HL.out]; exact ht32)⟩
      have hy : Y[t]? = some (byteV c) := by rw [← HY.out]; simp [hc]
      have hd1 := fun k => dig_hi k c
      have hd2 := fun k => dig_lo k c
      have hbits := bits_15 c
      have hix := fun W k => idx_hash W hy ht32 k
      have hlen : (hexOf (h.take t)).length = 2 * t := by rw [hexOf_len, List.length_take, HL.out]; omega
      have HLEN := shut hlen
      clear hlen
      have hB : byteV c = .int .u8 (c.toNat : Int) := rfl
      rw [hB] at hix
      clear hB
      go_wp2_with fail
      refine wp_region_mix (fun _ => True) [(true, 0), (true, 1), (true, 2), (true, 3), (true, 4), (true, 5), (true, 6), (false, 7), (false, 8), (true, 9)] (by kernel_rfl) (by kernel_rfl) trivial ?_
      simp only [mixItems, List.map_cons, List.map_nil, List.getD_cons_zero, List.getD_cons_succ]
      change wpMix _ _ _ _ _ _ wr.drew
      have HO2 : Own8 wr.drew 5 ao cap (hexOf (h.take t)) := HO
      have HK2 := HK.drew
      clear HO HK
      generalize wr.drew = V at *
      repeat (refine wpMix_free (fun K hK => ?_); go_simp; refine hK _ ?_; clear hK K)
      refine wpMix_one (fun K hK => ?_)
      go_wp2_with fail
      refine hK _ _ trivial ?_
      clear hK K
      refine wpMix_one (fun K hK => ?_)
      go_wp2_with (at_builtin; refine wpList_app8 _ rfl (.tmp 10) (.tmp 17) 22 rfl ao cap (hexOf (h.take t)) (by rw [HLEN.out]; rfl) (World.ownsRow.alloc HO2 _) _ rfl [hexD (c.toNat / 16), hexD (c.toNat % 16)] (src_two V _ _ rfl rfl) (by rw [HLEN.out]; omega) (by simp) ?_)
      intro ao2 cap2 w2 o2 k2 m2
      have hap : hexOf (h.take (t + 1)) = hexOf (h.take t) ++ [hexD (c.toNat / 16), hexD (c.toNat % 16)] := by rw [take_succ_snoc hc, hexOf_snoc]; rfl
      have hK3 : Keeps Nothing w w2 := (HK2.alloc _).trans k2 (fun i hi hlt => by have := HM i hi; omega)
      have hM3 := m2.new (by have := HK2.size; omega) HM
      rw [← hap] at o2
      have e1 := HLEN.out
      clear hap k2 m2 HO2 HK2 HM
      go_wp2_with fail
      refine hK _ _ trivial ?_
      clear hK K
      repeat (refine wpMix_free (fun K hK => ?_); go_simp; refine hK _ ?_; clear hK K)
      refine wpMix_nil ?_
      go_wp2_with fail
      go_roundw
      case rel => exact ⟨t + 1, ao2, cap2, by go_num, by omega, rfl, o2, hK3, hM3⟩
      case measure => simp [intOf]; omega
    · have ht9 : t = 32 := by omega
      have hh : h.take t = h := List.take_of_length_le (by rw [HL.out]; omega)
      rw [hh] at HO
      have hst := run_str wr cap (hexOf h) (l := 64) (by rw [hexOf_len, HL.out]) (own8_at HO)
      go_wp2_with fail
      refine bodyPost_ret (v := .string ⟨(hexOf h).toArray⟩) (by kernel_rfl) rfl ⟨rfl, HK⟩

end Go.Proofs.Ytdmfomjgmmkaeaa
