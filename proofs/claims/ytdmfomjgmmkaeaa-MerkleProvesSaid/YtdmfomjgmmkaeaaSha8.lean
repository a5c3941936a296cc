/- sha.digit, sha.Less. -/
import Derived.Test.YtdmfomjgmmkaeaaSha7
namespace Go.Proofs.Ytdmfomjgmmkaeaa
open Go.RowKit

/-- What a digit stands for. -/
def digF (c : UInt8) : Option UInt8 := if 48 ≤ c.toNat ∧ c.toNat ≤ 57 then some (UInt8.ofNat (c.toNat - 48)) else if 97 ≤ c.toNat ∧ c.toNat ≤ 102 then some (UInt8.ofNat (c.toNat - 87)) else none
/-- A row of bytes below another one. -/
def ltL : List UInt8 → List UInt8 → Bool
  | a :: l, b :: m => if a = b then ltL l m else decide (a.toNat < b.toNat)
  | _, _ => false

set_option maxRecDepth 100000 in
set_option maxHeartbeats 400000 in
theorem digit_any (w : World) (c : UInt8) : Calls Try.prog 39 #[.int .u8 (c.toNat : Int)] w fun e w' => e = .returned (.tuple #[byteV ((digF c).getD 0), .bool (digF c).isSome]) ∧ w' = w := by
  have hc := c.toNat_lt
  go_enter Try.func39, Try.ntmps39
  by_cases h1 : 48 ≤ c.toNat ∧ c.toNat ≤ 57
  · have e : digF c = some (UInt8.ofNat (c.toNat - 48)) := by unfold digF; rw [if_pos h1]
    rw [e]
    have hb := byteV_nat (y := c.toNat - 48) (by omega)
    rw [Option.getD_some, ← hb]
    have h2 : (48 : Int) ≤ c.toNat := by omega
    have h3 : (c.toNat : Int) ≤ 57 := by omega
    have h4 : ((c.toNat - 48 : Nat) : Int) = (c.toNat : Int) - 48 := by omega
    rw [h4]
    clear h4 hb e
    go_wp2_with fail
    exact bodyPost_ret (v := .tuple #[.int .u8 ((c.toNat : Int) - 48), .bool true]) (by kernel_rfl) rfl ⟨rfl, rfl⟩
  · by_cases h2 : 97 ≤ c.toNat ∧ c.toNat ≤ 102
    · have e : digF c = some (UInt8.ofNat (c.toNat - 87)) := by unfold digF; rw [if_neg h1, if_pos h2]
      rw [e]
      have hb := byteV_nat (y := c.toNat - 87) (by omega)
      rw [Option.getD_some, ← hb]
      have h4 : ((c.toNat - 87 : Nat) : Int) = (c.toNat : Int) - 97 + 10 := by omega
      rw [h4]
      have h5 : (97 : Int) ≤ c.toNat := by omega
      have h6 : (c.toNat : Int) ≤ 102 := by omega
      clear h4 hb e
      go_wp2_with fail
      exact bodyPost_ret (v := .tuple #[.int .u8 ((c.toNat : Int) - 97 + 10), .bool true]) (by kernel_rfl) rfl ⟨rfl, rfl⟩
    · have e : digF c = none := by unfold digF; rw [if_neg h1, if_neg h2]
      rw [e]
      clear e
      go_wp2_with fail
      all_goals first
        | exact bodyPost_ret (v := .tuple #[byteV 0, .bool false]) (by kernel_rfl) rfl ⟨rfl, rfl⟩
        | omega

attribute [local go_sem ↓] exec_load_hash exec_store_hash
attribute [local go_sem] rowOk_new World.setRow_alloc_new rowOk_new2 setRow_new2

set_option maxRecDepth 100000 in
set_option maxHeartbeats 1000000 in
theorem less_any (w : World) (a b : List UInt8) (ha : a.length = 32) (hb : b.length = 32) : Calls Try.prog 21 #[hashV a, hashV b] w fun e w' => e = .returned (.bool (ltL a b)) ∧ Keeps Nothing w w' := by
  unfold hashV
  go_enter Try.func21, Try.ntmps21
  have B1 := blk_alloc (blk_new w (a.map byteV).toArray 25) (.cells (b.map byteV).toArray 25)
  have B2 := blk_new (w.alloc (.cells (a.map byteV).toArray 25)) (b.map byteV).toArray 25
  have K0 : Keeps Nothing w ((w.alloc (.cells (a.map byteV).toArray 25)).alloc (.cells (b.map byteV).toArray 25)) := ((Keeps.refl _ _).alloc _).alloc _
  rw [World.size_alloc] at B2
  go_wp2_with fail
  generalize (w.alloc (.cells (a.map byteV).toArray 25)).alloc (.cells (b.map byteV).toArray 25) = W0 at *
  generalize w.heap.size = g at *
  go_loopw [6] (fun s6 wx => ∃ t : Nat, s6 = .int .i64 t ∧ t ≤ 32 ∧ Shut (ltL a b = ltL (a.drop t) (b.drop t)) ∧ Blk wx g (a.map byteV).toArray 25 ∧ Blk wx (g + 1) (b.map byteV).toArray 25 ∧ Keeps Nothing w wx) (fun s6 _ => 32 - (intOf s6).toNat)
  case atStart => exact ⟨0, rfl, by omega, shut rfl, B1, B2, K0⟩
  case round =>
    clear B1 B2 K0
    obtain ⟨t, rfl, ht, HE, B1, B2, K0⟩ := hrel
    by_cases ht32 : t < 32
    · have hxt := List.getElem?_eq_getElem (l := a) (i := t) (by omega)
      have hyt := List.getElem?_eq_getElem (l := b) (i := t) (by omega)
      have hda := List.drop_eq_getElem_cons (l := a) (i := t) (by omega)
      have hdb := List.drop_eq_getElem_cons (l := b) (i := t) (by omega)
      generalize a[t] = x at *
      generalize b[t] = y at *
      have HDA := shut hda
      have HDB := shut hdb
      have ca : wr.cell? ⟨g, t, none⟩ = some (.int .u8 (x.toNat : Int)) := blk_cell B1 t (by simp [hxt]; rfl)
      have cb : wr.cell? ⟨g + 1, t, none⟩ = some (.int .u8 (y.toNat : Int)) := blk_cell B2 t (by simp [hyt]; rfl)
      have g0 : (0 : Int) ≤ t := by omega
      have l0 : (t : Int) < 32 := by omega
      clear hda hdb hxt hyt
      go_wp2_with fail
      go_still_tail 6, (by kernel_rfl)
      change wpList _ _ _ _ _ wr.drew
      have B1' : Blk wr.drew g (a.map byteV).toArray 25 := B1
      have B2' : Blk wr.drew (g + 1) (b.map byteV).toArray 25 := B2
      have K1 := K0.drew
      have ca' : wr.drew.cell? ⟨g, t, none⟩ = some (.int .u8 (x.toNat : Int)) := ca
      have cb' : wr.drew.cell? ⟨g + 1, t, none⟩ = some (.int .u8 (y.toNat : Int)) := cb
      clear B1 B2 K0 ca cb
      generalize wr.drew = V at *
      by_cases hxy : x = y
      · have hE2 : ltL a b = ltL (a.drop (t + 1)) (b.drop (t + 1)) := by rw [HE.out, HDA.out, HDB.out, ltL, if_pos hxy]
        have HE2 := shut hE2
        have hI : (x.toNat : Int) = y.toNat := by rw [hxy]
        go_wp2_with fail
        go_roundw
        case rel => exact ⟨t + 1, by go_num, by omega, HE2, B1', B2', K1⟩
        case measure => simp [intOf]; omega
      · have hE2 : ltL a b = decide (x.toNat < y.toNat) := by rw [HE.out, HDA.out, HDB.out, ltL, if_neg hxy]
        have HE2 := shut hE2
        have hI : ¬ (x.toNat : Int) = y.toNat := fun e => hxy (UInt8.toNat_inj.mp (by omega))
        have hb1 : ((x.toNat : Int) != y.toNat) = true := by rw [bne_iff_ne]; exact hI
        go_wp2_with fail
        go_still_tail 7, (by kernel_rfl)
        change wpList _ _ _ _ _ V.drew
        have K2 := K1.drew
        go_wp2_with fail
        exact bodyPost_ret (v := .bool (decide (x.toNat < y.toNat))) (by kernel_rfl) rfl ⟨by rw [HE2.out], K2⟩
    · have ht9 : t = 32 := by omega
      have hf : ltL a b = false := by rw [HE.out, ht9, List.drop_of_length_le (by omega)]; rfl
      go_wp2_with fail
      exact bodyPost_ret (v := .bool false) (by kernel_rfl) rfl ⟨by rw [hf], K0⟩

end Go.Proofs.Ytdmfomjgmmkaeaa
