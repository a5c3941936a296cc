/- usufructref2.Reader: Hash. -/
import Derived.Test.YteifmkfkekglpaaRefRd3
import Derived.StillTailTactics
import Derived.Laws.Rows
namespace Go.Proofs.Yteifmkfkekglpaa
open Go.RowKit

/-- The row while it is filled. -/
def rowAt (H : List UInt8) (i : Nat) : Array Value := ((H.take i ++ zeros32.drop i).map byteV).toArray
theorem rowAt_zero (H : List UInt8) : rowAt H 0 = (zeros32.map byteV).toArray := by unfold rowAt; simp
theorem rowAt_full {H : List UInt8} (hH : H.length = 32) : rowAt H 32 = (H.map byteV).toArray := by
  unfold rowAt
  rw [List.take_of_length_le (by omega), show zeros32.drop 32 = [] from rfl, List.append_nil]
theorem rowAt_size {H : List UInt8} (hH : H.length = 32) {i : Nat} (hi : i ≤ 32) : (rowAt H i).size = 32 := by
  unfold rowAt; simp [zeros32, hH]; omega
theorem rowAt_set {H : List UInt8} (hH : H.length = 32) {i : Nat} {c : UInt8} (hc : H[i]? = some c) : (rowAt H i).setIfInBounds i (byteV c) = rowAt H (i + 1) := by
  have hi : i < 32 := by have := (List.getElem?_eq_some_iff.1 hc).1; omega
  unfold rowAt
  rw [List.setIfInBounds_toArray, List.take_add_one, hc]
  congr 1
  have hz : zeros32.drop i = 0 :: zeros32.drop (i + 1) := by
    rw [List.drop_eq_getElem_cons (by show i < 32; omega)]
    congr 1
    show (List.replicate 32 (0 : UInt8))[i] = 0
    exact List.getElem_replicate ..
  rw [hz, List.map_append, List.set_append_right _ _ (by simp; omega)]
  simp [hH, Nat.min_eq_left (Nat.le_of_lt hi)]

theorem text_at (s : List UInt8) {t : Nat} {c : UInt8} (hc : s[t]? = some c) (k : IntKind) (W : World) : (Instr.index 9 (.string ⟨s.toArray⟩) (.int k (t : Int))).run Try.prog W = .ok (.int .u8 (c.toNat : Int)) W := by
  obtain ⟨h1, h2⟩ := List.getElem?_eq_some_iff.1 hc
  rw [run_index_string W _ _ _ _ Try.underlying9, dif_pos ⟨by omega, by show (t : Int) < s.length; omega⟩]
  subst h2
  rfl

attribute [local go_sem ↓] exec_load_hash exec_store_hash

set_option maxRecDepth 100000 in
set_option maxHeartbeats 1000000 in
theorem ref_hash_short {w : World} {x : Nat} {bs : List UInt8} {k : Nat} (h : RefR w x bs k 0 0) (hk : k ≤ bs.length) (hs : bs.length - k < 32) :
    Calls Try.prog 48 #[.pointer (some ⟨x, 0, none⟩)] w (RefPost w x bs (hashV zeros32) k 3 k) := by
  have hx := lt_of_block h
  have g2 := h.c2
  have hw1 : ((bs.length : Int) - k) < 32 := by omega
  go_enter Try.func48, Try.ntmps48
  go_wp2_with fail
  rw [← zeros32_lit]
  obtain ⟨Z, hZ⟩ : ∃ Z, Z = (zeros32.map byteV).toArray := ⟨_, rfl⟩
  rw [← hZ]
  have hZs : Z.size = 32 := by rw [hZ]; rfl
  have hZ1 : Z.all (·.oneCell') = true := by rw [hZ]; exact bytes_all _
  have HZ := Lib.hid hZ
  clear hZ
  obtain ⟨W, hW⟩ : ∃ W, W = (w.alloc (.cells Z 23)).alloc (.cells Z 23) := ⟨_, rfl⟩
  rw [← hW]
  have hR : RefR W x bs k 0 0 := hW ▸ blk_alloc (blk_alloc h _) _
  have b1 : Blk W w.heap.size Z 23 := hW ▸ (blk_alloc (blk_new w Z _) _)
  have b2 : Blk W (w.heap.size + 1) Z 23 := by rw [hW]; have := blk_new (w.alloc (.cells Z 23)) Z 23; rw [World.size_alloc] at this; exact this
  have hKW : Keeps Nothing w W := hW ▸ (((Keeps.refl _ _).alloc _).alloc _)
  clear hW g2
  have g2 := hR.c2
  have g1 := hR.c1
  have g0 := hR.c0
  go_wp2_with fail
  go_quiet (fail)
  go_wp2_with fail
  refine (ref_fail (hR.drewN _) 3 k).mono ?_
  rintro e w2 ⟨rfl, r, k1⟩
  have b1' := k1.blk (a := W.drewN nq) b1 (fun h => by omega)
  have b2' := k1.blk (a := W.drewN nq) b2 (fun h => by omega)
  have r1' := rowOk_blk b1' hZs
  have r2' := rowOk_blk b2' hZs
  have e2' := rowOf_blk b2'
  have hag := aggOk_agg 32 Z hZs hZ1
  go_wp2_with fail
  have b3 := blk_setRow (cs := Z) b1'
  refine bodyPost_ret (v := .agg Z) (results_cell_row rfl _ _ w.heap.size _ Z (0, 0) _ rfl b3 Try.underlying23 rfl (by rw [infoHash, hZs])) rfl ?_
  refine ⟨by rw [HZ.out]; rfl, blk_setRow_other r (by omega), ?_⟩
  exact Keeps.setRow (S := fun i => i = x) ((hKW.drewN _ |>.mono (fun _ h _ => h.elim)).trans k1 (fun _ h _ => h)) (fun h => absurd h (Nat.lt_irrefl _)) Z

set_option maxRecDepth 100000 in
set_option maxHeartbeats 1000000 in
theorem ref_hash_ok {w : World} {x : Nat} {bs : List UInt8} {k : Nat} (h : RefR w x bs k 0 0) (hl : bs.length ≤ 1000000) (hs : ¬ bs.length - k < 32) :
    Calls Try.prog 48 #[.pointer (some ⟨x, 0, none⟩)] w (RefPost w x bs (hashV ((bs.drop k).take 32)) (k + 32 : Nat) 0 0) := by
  have hx := lt_of_block h
  have g2 := h.c2
  have hw1 : ¬ ((bs.length : Int) - k) < 32 := by omega
  obtain ⟨H, hH⟩ : ∃ H, H = (bs.drop k).take 32 := ⟨_, rfl⟩
  rw [← hH]
  have hHl : H.length = 32 := by rw [hH, List.length_take, List.length_drop]; omega
  have hHi : ∀ i, i < 32 → ∃ c : UInt8, H[i]? = some c ∧ bs[k + i]? = some c := fun i hi => by
    refine ⟨bs[k + i]'(by omega), ?_, List.getElem?_eq_getElem (by omega)⟩
    rw [hH, List.getElem?_take_of_lt hi, List.getElem?_drop, List.getElem?_eq_getElem (by omega)]
  have HHL := Lib.hid hHl
  have HHI := Lib.hid hHi
  have hsize : (⟨bs.toArray⟩ : ByteArray).size = bs.length := by show bs.toArray.size = _; simp
  clear hH hHl hHi
  go_enter Try.func48, Try.ntmps48
  go_wp2_with fail
  rw [← zeros32_lit]
  obtain ⟨Z, hZ⟩ : ∃ Z, Z = (zeros32.map byteV).toArray := ⟨_, rfl⟩
  rw [← hZ]
  have hZs : Z.size = 32 := by rw [hZ]; rfl
  have hZ0 : Z = rowAt H 0 := by rw [hZ, rowAt_zero]
  have HZ := Lib.hid hZ0
  clear hZ hZ0
  obtain ⟨W, hW⟩ : ∃ W, W = (w.alloc (.cells Z 23)).alloc (.cells Z 23) := ⟨_, rfl⟩
  rw [← hW]
  have hR : RefR W x bs k 0 0 := hW ▸ blk_alloc (blk_alloc h _) _
  have b1 : Blk W w.heap.size Z 23 := hW ▸ (blk_alloc (blk_new w Z _) _)
  have b2 : Blk W (w.heap.size + 1) Z 23 := by rw [hW]; have := blk_new (w.alloc (.cells Z 23)) Z 23; rw [World.size_alloc] at this; exact this
  have hKW : Keeps Nothing w W := hW ▸ (((Keeps.refl _ _).alloc _).alloc _)
  clear hW g2
  have g2 := hR.c2
  have g1 := hR.c1
  have g0 := hR.c0
  go_wp2_with fail
  go_quiet (fail)
  go_wp2_with fail
  have hRn : RefR (W.drewN nq) x bs k 0 0 := hR
  have b1n : Blk (W.drewN nq) w.heap.size Z 23 := b1
  have b2n : Blk (W.drewN nq) (w.heap.size + 1) Z 23 := b2
  have hKn : Keeps Nothing w (W.drewN nq) := hKW.drewN _
  clear hR b1 b2 hKW g0 g1 g2
  generalize W.drewN nq = W2 at *
  go_loopw [4] (fun s wr => ∃ i : Nat, s = .int .i64 i ∧ i ≤ 32 ∧ RefR wr x bs k 0 0 ∧ Blk wr w.heap.size Z 23 ∧ Blk wr (w.heap.size + 1) (rowAt H i) 23 ∧ Keeps Nothing w wr) (fun s _ => 32 - (intOf s).toNat)
  case atStart => exact ⟨0, rfl, by omega, hRn, b1n, HZ.out ▸ b2n, hKn⟩
  case round =>
    clear hRn b1n b2n hKn
    obtain ⟨i, rfl, hi, hR, b1, b2, hK⟩ := hrel
    have g1 := hR.c1
    have g0 := hR.c0
    by_cases hlt : i < 32
    · obtain ⟨c, hc, hb⟩ := HHI.out i hlt
      have hki : k + i < bs.length := (List.getElem?_eq_some_iff.1 hb).1
      obtain ⟨j, hj⟩ : ∃ j, k + i = j := ⟨_, rfl⟩
      rw [hj] at hb
      have hix := fun kk W => text_at bs hb kk W
      have hji : (k : Int) + (i : Int) = (j : Int) := by omega
      have hset := rowAt_set HHL.out hc
      have HSET := Lib.hid hset
      have hcell : wr.cell? ⟨w.heap.size + 1, i, none⟩ = some ((rowAt H i)[i]'(by rw [rowAt_size HHL.out (by omega)]; exact hlt)) := blk_cell b2 i (Array.getElem?_eq_getElem _)
      have hfr := blk_free b2 i
      have hwk : IntKind.i64.wrap (j : Int) = (j : Int) := by rw [IntKind.wrap_i64]; omega
      have i0 : (0 : Int) ≤ i := by omega
      have i1 : (i : Int) < 32 := by omega
      clear hset hc hb hj
      go_wp2_with fail
      go_still_tail 13, (by kernel_rfl)
      change wpList _ _ _ _ _ wr.drew
      have hR2 : RefR wr.drew x bs k 0 0 := hR
      have b12 : Blk wr.drew w.heap.size Z 23 := b1
      have b22 : Blk wr.drew (w.heap.size + 1) (rowAt H i) 23 := b2
      have hK2 : Keeps Nothing w wr.drew := hK.drew
      have hcell2 : wr.drew.cell? ⟨w.heap.size + 1, i, none⟩ = some ((rowAt H i)[i]'(by rw [rowAt_size HHL.out (by omega)]; exact hlt)) := hcell
      have hfr2 : wr.drew.frozen? ⟨w.heap.size + 1, i, none⟩ = false := hfr
      clear hR b1 b2 hK hcell hfr g0 g1
      generalize wr.drew = U at *
      go_wp2_with fail
      go_roundw
      case rel =>
        refine ⟨i + 1, by go_num, by omega, blk_other hR2 _ (show x ≠ w.heap.size + 1 by omega) _, blk_other b12 _ (show w.heap.size ≠ w.heap.size + 1 by omega) _, ?_, hK2.setCell (fun h => absurd h (show ¬ w.heap.size + 1 < w.heap.size by omega)) _⟩
        have := blk_set b22 i (byteV c)
        rw [HSET.out] at this
        exact this
      case measure => simp [intOf]; omega
    · have hi32 : i = 32 := by omega
      rw [hi32, rowAt_full HHL.out] at b2
      obtain ⟨C, hC⟩ : ∃ C, (H.map byteV).toArray = C := ⟨_, rfl⟩
      rw [hC] at b2
      have hCs : C.size = 32 := by rw [← hC]; simp [HHL.out]
      have hag : aggOk 32 (.agg C) = true := aggOk_agg 32 C hCs (by rw [← hC]; exact bytes_all _)
      have HC := shut hC
      have n1 : ¬ (i : Int) < 32 := by omega
      have hZ32 : Z.size = 32 := by rw [HZ.out]; exact rowAt_size HHL.out (by omega)
      have f1 := blk_free hR 1
      have hR3 : RefR (wr.setCell ⟨x, 1, none⟩ (.int .i64 ((k : Int) + 32))) x bs ((k : Int) + 32) 0 0 := blk_set hR 1 _
      have b13 : Blk (wr.setCell ⟨x, 1, none⟩ (.int .i64 ((k : Int) + 32))) w.heap.size Z 23 := blk_other b1 _ (show w.heap.size ≠ x by omega) _
      have b23 : Blk (wr.setCell ⟨x, 1, none⟩ (.int .i64 ((k : Int) + 32))) (w.heap.size + 1) C 23 := blk_other b2 _ (show w.heap.size + 1 ≠ x by omega) _
      have hK3 : Keeps (fun i => i = x) w (wr.setCell ⟨x, 1, none⟩ (.int .i64 ((k : Int) + 32))) := Keeps.put (S := fun i => i = x) (hK.mono (fun _ h _ => h.elim)) rfl 1 _
      have r1 := rowOk_blk b13 hZ32
      have r2 := rowOk_blk b23 hCs
      have e2 := rowOf_blk b23
      clear hR b1 b2 hK
      go_wp2_with fail
      have b3 := blk_setRow (cs := C) b13
      refine bodyPost_ret (v := .agg C) (results_cell_row rfl _ _ w.heap.size _ C (0, 0) _ rfl b3 Try.underlying23 rfl (by rw [infoHash, hCs])) rfl ?_
      refine ⟨by rw [← HC.out]; rfl, blk_setRow_other hR3 (by omega), ?_⟩
      exact Keeps.setRow (S := fun i => i = x) hK3 (fun h => absurd h (Nat.lt_irrefl _)) C

end Go.Proofs.Yteifmkfkekglpaa
