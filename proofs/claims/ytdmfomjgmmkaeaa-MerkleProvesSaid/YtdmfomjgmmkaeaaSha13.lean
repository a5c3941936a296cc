/- usufructref3.Less, usufructref3.Hex. -/
import Derived.Test.YtdmfomjgmmkaeaaSha12
import Derived.Laws.Strings2
import Derived.BigQuiet
import Derived.Deep.QuietTactic
namespace Go.Proofs.Ytdmfomjgmmkaeaa
open Go.RowKit

attribute [local go_sem ↓] exec_load_hash exec_store_hash
attribute [local go_sem] rowOk_new World.setRow_alloc_new rowOk_new2 setRow_new2

set_option maxRecDepth 100000 in
set_option maxHeartbeats 1000000 in
theorem rless_any (w : World) (a b : List UInt8) (ha : a.length = 32) (hb : b.length = 32) : Calls Try.prog 22 #[hashV a, hashV b] w fun e w' => e = .returned (.bool (ltL a b)) ∧ Keeps Nothing w w' := by
  unfold hashV
  go_enter Try.func22, Try.ntmps22
  have B1 := blk_alloc (blk_new w (a.map byteV).toArray 25) (.cells (b.map byteV).toArray 25)
  have B2 := blk_new (w.alloc (.cells (a.map byteV).toArray 25)) (b.map byteV).toArray 25
  have K0 : Keeps Nothing w ((w.alloc (.cells (a.map byteV).toArray 25)).alloc (.cells (b.map byteV).toArray 25)) := ((Keeps.refl _ _).alloc _).alloc _
  rw [World.size_alloc] at B2
  go_wp2_with fail
  generalize (w.alloc (.cells (a.map byteV).toArray 25)).alloc (.cells (b.map byteV).toArray 25) = W0 at *
  generalize w.heap.size = g at *
  go_loopw [5] (fun s6 wx => ∃ t : Nat, s6 = .int .i64 t ∧ t ≤ 32 ∧ Shut (ltL a b = ltL (a.drop t) (b.drop t)) ∧ Blk wx g (a.map byteV).toArray 25 ∧ Blk wx (g + 1) (b.map byteV).toArray 25 ∧ Keeps Nothing w wx) (fun s6 _ => 32 - (intOf s6).toNat)
  case atStart => exact ⟨0, rfl, by omega, shut rfl, B1, B2, K0⟩
  case round =>
    clear B1 B2 K0
    obtain ⟨t, rfl, ht, HE, B1, B2, K0⟩ := hrel
    by_cases ht32 : t < 32
    · have hxt := List.getElem?_eq_getElem (l := a) (i := t) (by omega)
      have hyt := List.getElem?_eq_getElem (l := b) (i := t) (by omega)
      have hda := List.drop_eq_getElem_cons (l := a) (i := t) (by omega)
      have hdb := List.drop_eq_getElem_cons (l := b) (i := t) (by omega)
      generalize a[t] = x at *
      generalize b[t] = y at *
      have HDA := shut hda
      have HDB := shut hdb
      have ca : wr.cell? ⟨g, t, none⟩ = some (.int .u8 (x.toNat : Int)) := blk_cell B1 t (by simp [hxt]; rfl)
      have cb : wr.cell? ⟨g + 1, t, none⟩ = some (.int .u8 (y.toNat : Int)) := blk_cell B2 t (by simp [hyt]; rfl)
      have g0 : (0 : Int) ≤ t := by omega
      have l0 : (t : Int) < 32 := by omega
      clear hda hdb hxt hyt
      go_wp2_with fail
      go_still_tail 6, (by kernel_rfl)
      change wpList _ _ _ _ _ wr.drew
      have B1' : Blk wr.drew g (a.map byteV).toArray 25 := B1
      have B2' : Blk wr.drew (g + 1) (b.map byteV).toArray 25 := B2
      have K1 := K0.drew
      have ca' : wr.drew.cell? ⟨g, t, none⟩ = some (.int .u8 (x.toNat : Int)) := ca
      have cb' : wr.drew.cell? ⟨g + 1, t, none⟩ = some (.int .u8 (y.toNat : Int)) := cb
      clear B1 B2 K0 ca cb
      generalize wr.drew = V at *
      by_cases hxy : x = y
      · have hE2 : ltL a b = ltL (a.drop (t + 1)) (b.drop (t + 1)) := by rw [HE.out, HDA.out, HDB.out, ltL, if_pos hxy]
        have HE2 := shut hE2
        have hI : (x.toNat : Int) = y.toNat := by rw [hxy]
        go_wp2_with fail
        go_roundw
        case rel => exact ⟨t + 1, by go_num, by omega, HE2, B1', B2', K1⟩
        case measure => simp [intOf]; omega
      · have hE2 : ltL a b = decide (x.toNat < y.toNat) := by rw [HE.out, HDA.out, HDB.out, ltL, if_neg hxy]
        have HE2 := shut hE2
        have hI : ¬ (x.toNat : Int) = y.toNat := fun e => hxy (UInt8.toNat_inj.mp (by omega))
        have hb1 : ((x.toNat : Int) != y.toNat) = true := by rw [bne_iff_ne]; exact hI
        go_wp2_with fail
        go_still_tail 7, (by kernel_rfl)
        change wpList _ _ _ _ _ V.drew
        have K2 := K1.drew
        go_wp2_with fail
        exact bodyPost_ret (v := .bool (decide (x.toNat < y.toNat))) (by kernel_rfl) rfl ⟨by rw [HE2.out], K2⟩
    · have ht9 : t = 32 := by omega
      have hf : ltL a b = false := by rw [HE.out, ht9, List.drop_of_length_le (by omega)]; rfl
      go_wp2_with fail
      exact bodyPost_ret (v := .bool false) (by kernel_rfl) rfl ⟨by rw [hf], K0⟩


/-- One digit, as a text. -/
theorem cut_at (n : Nat) (hn : n < 16) (W : World) : (Instr.slice 9 (.string ⟨#[48, 49, 50, 51, 52, 53, 54, 55, 56, 57, 97, 98, 99, 100, 101, 102]⟩) (some (.int .u8 (n : Int))) (some (.int .u8 ((n : Int) + 1))) none).run Try.prog W = .ok (.string ⟨[hexD n].toArray⟩) W := by
  rw [run_slice_string W 9 _ .u8 .u8 _ _ Try.underlying9 (by omega) (by omega) (by show (n : Int) + 1 ≤ 16; omega)]
  rcases (by omega : n = 0 ∨ n = 1 ∨ n = 2 ∨ n = 3 ∨ n = 4 ∨ n = 5 ∨ n = 6 ∨ n = 7 ∨ n = 8 ∨ n = 9 ∨ n = 10 ∨ n = 11 ∨ n = 12 ∨ n = 13 ∨ n = 14 ∨ n = 15) with rfl | rfl | rfl | rfl | rfl | rfl | rfl | rfl | rfl | rfl | rfl | rfl | rfl | rfl | rfl | rfl
  all_goals rfl
theorem cut_hi (c : UInt8) (W : World) : (Instr.slice 9 (.string ⟨#[48, 49, 50, 51, 52, 53, 54, 55, 56, 57, 97, 98, 99, 100, 101, 102]⟩) (some (.int .u8 ((c.toNat : Int) / 16))) (some (.int .u8 ((c.toNat : Int) / 16 + 1))) none).run Try.prog W = .ok (.string ⟨[hexD (c.toNat / 16)].toArray⟩) W := by
  have h := c.toNat_lt
  have := cut_at (c.toNat / 16) (by omega) W
  rw [show ((c.toNat / 16 : Nat) : Int) = (c.toNat : Int) / 16 by simp] at this
  exact this
theorem cut_lo (c : UInt8) (W : World) : (Instr.slice 9 (.string ⟨#[48, 49, 50, 51, 52, 53, 54, 55, 56, 57, 97, 98, 99, 100, 101, 102]⟩) (some (.int .u8 ((c.toNat : Int) % 16))) (some (.int .u8 ((c.toNat : Int) % 16 + 1))) none).run Try.prog W = .ok (.string ⟨[hexD (c.toNat % 16)].toArray⟩) W := by
  have := cut_at (c.toNat % 16) (by omega) W
  rw [show ((c.toNat % 16 : Nat) : Int) = (c.toNat : Int) % 16 by simp] at this
  exact this

set_option maxRecDepth 100000 in
set_option maxHeartbeats 1000000 in
theorem rhex_any (w : World) (h : List UInt8) (hl : h.length = 32) : Calls Try.prog 16 #[hashV h] w (SaysText w (hexOf h)) := by
  unfold hashV
  go_enter Try.func16, Try.ntmps16
  have B1 := blk_new w (h.map byteV).toArray 25
  have K0 : Keeps Nothing w (w.alloc (.cells (h.map byteV).toArray 25)) := (Keeps.refl _ _).alloc _
  have HL := shut hl
  clear hl
  go_wp2_with fail
  generalize w.alloc (.cells (h.map byteV).toArray 25) = W0 at *
  generalize w.heap.size = g at *
  go_loopw [3, 4] (fun s3 s4 wx => ∃ t : Nat, s4 = .int .i64 t ∧ t ≤ 32 ∧ s3 = .string ⟨(hexOf (h.take t)).toArray⟩ ∧ Blk wx g (h.map byteV).toArray 25 ∧ Keeps Nothing w wx) (fun _ s4 _ => 32 - (intOf s4).toNat)
  case atStart => exact ⟨0, rfl, by omega, rfl, B1, K0⟩
  case round =>
    clear B1 K0
    obtain ⟨t, rfl, ht, rfl, B1, K0⟩ := hrel
    by_cases ht32 : t < 32
    · obtain ⟨c, hc⟩ : ∃ c, h[t]? = some c := ⟨_, List.getElem?_eq_getElem (by rw [HL.out]; exact ht32)⟩
      have hap : hexOf (h.take (t + 1)) = hexOf (h.take t) ++ [hexD (c.toNat / 16), hexD (c.toNat % 16)] := by rw [take_succ_snoc hc, hexOf_snoc]; rfl
      have HAP := shut hap
      have ca : wr.cell? ⟨g, t, none⟩ = some (.int .u8 (c.toNat : Int)) := blk_cell B1 t (by simp [hc]; rfl)
      have g0 : (0 : Int) ≤ t := by omega
      have l0 : (t : Int) < 32 := by omega
      have hcl := c.toNat_lt
      have h1 := cut_hi c
      have h2 := cut_lo c
      have q1 : (0 : Int) ≤ (c.toNat : Int) / 16 := by omega
      have q2 : (c.toNat : Int) / 16 < 16 := by omega
      have q3 : (0 : Int) ≤ (c.toNat : Int) % 16 := by omega
      have q4 : (c.toNat : Int) % 16 < 16 := by omega
      have v1 : IntKind.u8.wrap ((c.toNat : Int) / 16) = (c.toNat : Int) / 16 := IntWalk.u8_in _ (by omega)
      have v2 : IntKind.u8.wrap ((c.toNat : Int) / 16 + 1) = (c.toNat : Int) / 16 + 1 := IntWalk.u8_in _ (by omega)
      have v3 : IntKind.u8.wrap ((c.toNat : Int) % 16 + 1) = (c.toNat : Int) % 16 + 1 := IntWalk.u8_in _ (by omega)
      have v4 : IntKind.u8.wrap ((c.toNat : Int) % 16) = (c.toNat : Int) % 16 := IntWalk.u8_in _ (by omega)
      have z1 : (⟨(hexOf (h.take t)).toArray⟩ : ByteArray).size = 2 * t := by show (hexOf (h.take t)).toArray.size = _; rw [List.size_toArray, hexOf_len, List.length_take, HL.out]; omega
      clear hap hc
      go_wp2_with fail
      go_quiet (fail)
      have B2 : Blk (wr.drewN nq) g (h.map byteV).toArray 25 := B1
      have K2 := K0.drewN nq
      go_wp2_with fail
      go_roundw
      case rel => exact ⟨t + 1, by go_num, by omega, by rw [cat_eq, HAP.out]; simp, B2, K2⟩
      case measure => simp [intOf]; omega
    · have ht9 : t = 32 := by omega
      have hh : h.take t = h := List.take_of_length_le (by rw [HL.out]; omega)
      rw [hh]
      go_wp2_with fail
      refine bodyPost_ret (v := .string ⟨(hexOf h).toArray⟩) (by kernel_rfl) rfl ⟨rfl, K0⟩

end Go.Proofs.Ytdmfomjgmmkaeaa
