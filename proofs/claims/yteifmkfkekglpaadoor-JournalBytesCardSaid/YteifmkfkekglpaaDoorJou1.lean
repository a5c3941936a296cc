/- journal: frames. -/
import Derived.Test.YteifmkfkekglpaaDoorSha5
import Derived.Test.YteifmkfkekglpaaDoorWriter
import Derived.Test.YteifmkfkekglpaaDoorRefE
import Derived.Test.YteifmkfkekglpaaDoorMixJ
import Derived.Test.YteifmkfkekglpaaDoorStep
import Derived.Deep.Cut
import Derived.Deep.CutBlock
namespace Go.Proofs.YteifmkfkekglpaaDoor
open Go.RowKit

/-- A number's four bytes, the highest first. -/
def be4 (n : Nat) : List UInt8 := [UInt8.ofNat (n / 16777216 % 256), UInt8.ofNat (n / 65536 % 256), UInt8.ofNat (n / 256 % 256), UInt8.ofNat (n % 256)]
/-- A body with its length and its sum ahead. -/
def frameB (b : List UInt8) : List UInt8 := be4 b.length ++ (shaOf b).take 8 ++ b
theorem jsha_len (bs : List UInt8) : (shaOf bs).length = 32 := by unfold shaOf outOf; simp
theorem frameB_len (b : List UInt8) : (frameB b).length = 12 + b.length := by
  unfold frameB be4
  simp [jsha_len]
  omega
theorem jown8_spot {w : World} {e : TypeId} {ao : Option Addr} {cap : Nat} {bs : List UInt8} (h : Own8 w e ao cap bs) : ∀ a, ao = some a → a.spot = none := by
  intro a e
  subst e
  rcases h.2 with ⟨hv, _⟩ | ⟨g, cap', cur, hv, _⟩
  · simp at hv
  · simp only [Value.slice.injEq, Option.some.injEq] at hv
    rw [hv.1]

theorem be4_cells (n : Nat) (h : n ≤ 1000000) : (#[.int .u8 ((n : Int) / 16777216), .int .u8 ((n : Int) / 65536), .int .u8 ((n : Int) / 256 % 256), .int .u8 ((n : Int) % 256)] : Array Value) = ((be4 n).map byteV).toArray := by
  have e0 : Value.int .u8 ((n : Int) / 16777216) = byteV (UInt8.ofNat (n / 16777216 % 256)) := by
    rw [← byteV_nat (Nat.mod_lt _ (by decide)), show (n : Int) / 16777216 = ((n / 16777216 % 256 : Nat) : Int) by omega]
  have e1 : Value.int .u8 ((n : Int) / 65536) = byteV (UInt8.ofNat (n / 65536 % 256)) := by
    rw [← byteV_nat (Nat.mod_lt _ (by decide)), show (n : Int) / 65536 = ((n / 65536 % 256 : Nat) : Int) by omega]
  have e2 : Value.int .u8 ((n : Int) / 256 % 256) = byteV (UInt8.ofNat (n / 256 % 256)) := by
    rw [← byteV_nat (Nat.mod_lt _ (by decide)), show (n : Int) / 256 % 256 = ((n / 256 % 256 : Nat) : Int) by omega]
  have e3 : Value.int .u8 ((n : Int) % 256) = byteV (UInt8.ofNat (n % 256)) := by
    rw [← byteV_nat (Nat.mod_lt _ (by decide)), show (n : Int) % 256 = ((n % 256 : Nat) : Int) by omega]
  rw [e0, e1, e2, e3]
  rfl
theorem own8_lit (w : World) (bs : List UInt8) (h : bs.length ≤ 1000000) : Own8 (w.alloc (.cells (bs.map byteV).toArray 5)) 5 (some ⟨w.heap.size, 0, none⟩) bs.length bs :=
  ⟨by simp, .inr ⟨w.heap.size, bs.length, _, rfl, Nat.zero_le _, heap_alloc_new w _, Nat.le_refl _, by unfold maxLen; omega, by simp, by simp [List.take_of_length_le]⟩⟩

attribute [local go_sem ↓] exec_load_hash exec_store_hash
attribute [local go_sem] rowOk_new World.setRow_alloc_new

set_option maxRecDepth 100000 in
set_option maxHeartbeats 2000000 in
theorem framed_any {w : World} {ao : Option Addr} {c n : Nat} {b : List UInt8} (hn : b.length = n) (ho : Own8 w 5 ao c b) (hl : n ≤ 1000000) :
    Calls Tryd.prog 32 #[.slice ao n c] w fun e w' => ∃ a c', e = .returned (.slice a (frameB b).length c') ∧ Own8 w' 5 a c' (frameB b) ∧ Keeps Nothing w w' ∧ ∀ g, blockOf a = some g → w.heap.size ≤ g := by
  have hcap := own8_cap ho
  have hsum := sum_any c hn (own8_at ho) (jown8_spot ho) (by omega) (by unfold maxLen; omega) hl
  obtain ⟨X, hX⟩ : ∃ X, ((shaOf b).map byteV).toArray = X := ⟨_, rfl⟩
  have hXs : X.size = 32 := by rw [← hX]; simp [jsha_len]
  have hag : aggOk 32 (.agg X) = true := by rw [← hX]; exact aggOk_agg 32 _ (by simp [jsha_len]) (bytes_all _)
  unfold hashV at hsum
  rw [hX] at hsum
  have HX := shut hX
  clear hX
  go_enter Tryd.func32, Tryd.ntmps32
  go_wp2_with fail
  refine hsum.mono ?_
  rintro e w1 ⟨rfl, k1⟩
  clear hsum
  go_upto_region 2 with fail
  refine wp_region_list ?_
  repeat (refine wpList_val (fun K hK => ?_); have HK := shut hK; clear hK; go_simp; refine HK.out _ ?_; clear HK K)
  refine wpList_first (fun K hK => ?_)
  have HK := shut hK
  clear hK
  go_wp2_with fail
  rw [be4_cells n hl]
  have B1 := blk_new w1 X 70
  have k2 := k1.trans ((Keeps.refl Nothing w1).alloc (.cells X 70)) (fun _ h _ => h)
  have hb1 : BytesAt (w1.alloc (.cells X 70)) (some ⟨w1.heap.size, 0, none⟩) ((shaOf b).take 8) := by
    refine ⟨fun e => (by cases e), fun a e j x hj => ?_⟩
    obtain rfl := Option.some.inj e
    rw [List.getElem?_take] at hj
    rw [Addr.add_lit, Nat.zero_add]
    refine blk_cell B1 j ?_
    rw [← HX.out]
    split at hj
    · simp [hj]; rfl
    · cases hj
  have hsz2 : (w1.alloc (.cells X 70)).heap.size = w1.heap.size + 1 := World.size_alloc ..
  generalize w1.alloc (.cells X 70) = w2 at *
  generalize w1.heap.size = g4 at *
  have hbe : (be4 n).length = 4 := rfl
  have o3 := own8_lit w2 (be4 n) (by rw [hbe]; omega)
  have k3 := (Keeps.refl Nothing w2).alloc (.cells ((be4 n).map byteV).toArray 5)
  rw [hbe, hsz2] at o3
  have hb3 := hb1.keeps k3 (fun _ _ h => h)
  have hfr : w.heap.size ≤ w2.heap.size := k2.size
  refine HK.out _ _ ?_
  clear HK K B1 hb1
  have hg5 : w.heap.size ≤ g4 + 1 := by omega
  generalize w2.alloc (.cells ((be4 n).map byteV).toArray 5) = w3 at *
  have HSZ2 := shut hsz2
  clear hsz2
  generalize g4 + 1 = g5 at *
  repeat (refine wpList_val (fun K hK => ?_); have HK := shut hK; clear hK; go_simp; refine HK.out _ ?_; clear HK K)
  have h8 : ((shaOf b).take 8).length = 8 := by rw [List.length_take, jsha_len]; rfl
  have hs3 : Src Tryd.prog 1 25 (.slice (some ⟨g4, 0, none⟩) 8 32) ((shaOf b).take 8).length (((shaOf b).take 8).map byteV) w3 := by
    have h := src_at 32 hb3
    rw [show Value.slice (some ⟨g4, 0, none⟩) ((shaOf b).take 8).length 32 = Value.slice (some ⟨g4, 0, none⟩) 8 32 by rw [h8]] at h
    exact h
  refine wpList_app8 _ rfl (.tmp 21) (.tmp 22) 25 rfl (some ⟨g5, 0, none⟩) 4 (be4 n) rfl o3 _ rfl ((shaOf b).take 8) hs3 (by rw [hbe]; omega) (by rw [h8]; omega) ?_
  intro a4 c4 w4 o4 k4 m4
  have ho4 : Own8 w4 5 ao c b := k4.own (k3.own (k2.own ho (fun _ _ h => h)) (fun _ _ h => h)) (fun g hg h => by
    rw [ownBlock_eq] at hg
    have h1 := own_lt ho (by rw [ownBlock_eq]; exact hg)
    have h2 := Option.some.inj h
    simp only at h2
    omega)
  have hf4 : ∀ g, blockOf a4 = some g → w.heap.size ≤ g := m4.new (by have := k3.size; omega) (fun g hg => by have := Option.some.inj hg; simp only at this; omega)
  have K4 : Keeps Nothing w w4 := (k2.trans k3 (fun _ h _ => h)).trans k4 (fun i hi hlt => by have h2 := Option.some.inj hi; simp only at h2; omega)
  clear k4 m4 k3 k2 o3 hb3 hs3 ho k1
  obtain ⟨H4, hH4⟩ : ∃ H, be4 n ++ (shaOf b).take 8 = H := ⟨_, rfl⟩
  have hH4l : H4.length = 12 := by rw [← hH4, List.length_append, hbe, h8]
  rw [hH4] at o4 ⊢
  have HH := shut hH4
  have HL4 := shut hH4l
  clear hH4 hH4l
  have hso := src_own ho4
  rw [hn] at hso
  have hfb : H4 ++ b = frameB b := by rw [← HH.out, ← hn]; rfl
  go_wp2_with (at_builtin; refine wpList_app8 _ rfl (.tmp 24) (.tmp 25) 25 rfl a4 c4 H4 rfl o4 _ rfl b (by rw [hn]; exact hso) (by rw [HL4.out]; omega) (by omega) ?_)
  intro a5 c5 w5 o5 k5 m5
  skip
  have hf5 : ∀ g, blockOf a5 = some g → w.heap.size ≤ g := m5.new K4.size hf4
  have K5 : Keeps Nothing w w5 := K4.trans k5 (fun i hi hlt => by have := hf4 i hi; omega)
  clear hfb k5 m5 o4 hso
  go_wp2_with fail
  go_ret
  exact ⟨_, _, rfl, o5, K5, hf5⟩

end Go.Proofs.YteifmkfkekglpaaDoor
