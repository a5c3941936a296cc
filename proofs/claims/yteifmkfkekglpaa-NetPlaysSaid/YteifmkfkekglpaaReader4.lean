/- wire.Reader: Hash. -/
import Derived.Test.YteifmkfkekglpaaReader3
import Derived.Test.YteifmkfkekglpaaHash
namespace Go.Proofs.Yteifmkfkekglpaa
open Go.RowKit

attribute [local go_sem ↓] exec_load_hash exec_store_hash Go.wp_at_zero Go.wp_at_succ

set_option maxRecDepth 100000 in
set_option maxHeartbeats 1000000 in
theorem rHash_short {w : World} {p : Nat} {ao : Option Addr} {cap : Nat} {bs : List UInt8} {k : Nat} (h : Rd w p ao cap bs k) (hl : bs.length ≤ 1000000) (hs : bs.length - k < 32) :
    Calls Try.prog 55 #[.pointer (some ⟨p, 0, none⟩)] w (RdPost w p ao cap bs (hashV zeros32) 3 k k) := by
  have h0 : w.cell? ⟨p, 0, none⟩ = some (.slice ao bs.length cap) := blk_cell h.blk 0 rfl
  have h1 : w.cell? ⟨p, 1, none⟩ = some (.int .i64 k) := blk_cell h.blk 1 rfl
  have hlt := lt_of_block h.blk
  have hle := h.le
  go_enter Try.func55, Try.ntmps55
  go_wp2_with fail
  rw [← zeros32_lit]
  obtain ⟨Z, hZ⟩ : ∃ Z, Z = (zeros32.map byteV).toArray := ⟨_, rfl⟩
  rw [← hZ]
  have hZs : Z.size = 32 := by rw [hZ]; rfl
  have hZ1 : Z.all (·.oneCell') = true := by rw [hZ]; exact bytes_all _
  have HZ := Lib.hid hZ
  clear hZ
  go_quiet (fail)
  go_wp2_with fail
  obtain ⟨W, hW⟩ : ∃ W, W = ((w.alloc (.cells Z 23)).alloc (.cells Z 23)).drewN nq := ⟨_, rfl⟩
  rw [← hW]
  have hR : Rd W p ao cap bs k := hW ▸ (h.keepsN (((Keeps.refl _ _).alloc _).alloc _)).drewN nq
  have b1 : Blk W w.heap.size Z 23 := hW ▸ (blk_alloc (blk_new w Z _) _)
  have b2 : Blk W (w.heap.size + 1) Z 23 := by rw [hW]; have := blk_new (w.alloc (.cells Z 23)) Z 23; rw [World.size_alloc] at this; exact this
  have hKW : Keeps Nothing w W := hW ▸ (((Keeps.refl _ _).alloc _).alloc _).drewN nq
  clear hW h0 h1
  have r1 := rowOk_blk b1 hZs
  have r2 := rowOk_blk b2 hZs
  have e2 := rowOf_blk b2
  have hag := aggOk_agg 32 Z hZs hZ1
  go_region_with (go_at_call 58; refine (bad_any (w := W.drew) (hR.drewN 1) 3 rfl).mono ?_; rintro e w2 ⟨ev, rfl, hev, hK2⟩; have b1' := hK2.blk (a := W.drew) b1 (fun h => h); have b2' := hK2.blk (a := W.drew) b2 (fun h => h); have r1' := rowOk_blk b1' hZs; have r2' := rowOk_blk b2' hZs; have e2' := rowOf_blk b2')
  all_goals
    go_wp2_with fail
    have b3 := blk_setRow (cs := Z) b1'
    refine bodyPost_ret (v := .tuple #[.agg Z, ev]) (results_row_tmp rfl _ _ w.heap.size Z ev rfl rfl (loadVar_hash _ _ _ _ b3 hZs)) rfl ?_
    have hK3 : Keeps Nothing w (w2.setRow w.heap.size Z) := ((Keeps.drew hKW).trans hK2 (fun _ h _ => h)).setRow (fun h => absurd h (Nat.lt_irrefl _)) Z
    have hsz : w.heap.size < W.drew.heap.size := lt_of_block b1
    have hev' : IsErr W.drew.heap.size w2 ev 3 k := hev
    refine ⟨ev, by rw [HZ.out]; rfl, ?_, h.keepsN hK3, hK3.mono (fun _ h _ => h.elim)⟩
    exact (hev'.keeps (S := fun i => i = w.heap.size) (Keeps.setRow (S := fun i => i = w.heap.size) (g := w.heap.size) (Keeps.refl _ w2) (fun _ => rfl) Z) (fun i hi => by subst hi; exact hsz)).mono (Nat.le_of_lt hsz)

set_option maxRecDepth 100000 in
set_option maxHeartbeats 1000000 in
theorem rHash_ok {w : World} {p : Nat} {g : Nat} {cap : Nat} {bs : List UInt8} {k : Nat} (h : Rd w p (some ⟨g, 0, none⟩) cap bs k) (hl : bs.length ≤ 1000000) (hs : ¬ bs.length - k < 32) :
    Calls Try.prog 55 #[.pointer (some ⟨p, 0, none⟩)] w (RdPost w p (some ⟨g, 0, none⟩) cap bs (hashV ((bs.drop k).take 32)) 0 0 (k + 32)) := by
  have h0 : w.cell? ⟨p, 0, none⟩ = some (.slice (some ⟨g, 0, none⟩) bs.length cap) := blk_cell h.blk 0 rfl
  have h1 : w.cell? ⟨p, 1, none⟩ = some (.int .i64 k) := blk_cell h.blk 1 rfl
  have hlt := lt_of_block h.blk
  have hle := h.le
  have hcp := own8_cap h.own
  have hck : ¬ cap = k := by omega
  go_enter Try.func55, Try.ntmps55
  go_wp2_with fail
  rw [← zeros32_lit]
  obtain ⟨Z, hZ⟩ : ∃ Z, Z = (zeros32.map byteV).toArray := ⟨_, rfl⟩
  rw [← hZ]
  have hZs : Z.size = 32 := by rw [hZ]; rfl
  have hZ1 : Z.all (·.oneCell') = true := by rw [hZ]; exact bytes_all _
  have HZ := Lib.hid hZ
  clear hZ
  go_quiet (fail)
  go_wp2_with fail
  obtain ⟨W, hW⟩ : ∃ W, W = ((w.alloc (.cells Z 23)).alloc (.cells Z 23)).drewN nq := ⟨_, rfl⟩
  rw [← hW]
  have hKW : Keeps Nothing w W := hW ▸ (((Keeps.refl _ _).alloc _).alloc _).drewN nq
  have hR : Rd W p (some ⟨g, 0, none⟩) cap bs k := h.keepsN hKW
  have b1 : Blk W w.heap.size Z 23 := hW ▸ (blk_alloc (blk_new w Z _) _)
  have b2 : Blk W (w.heap.size + 1) Z 23 := by rw [hW]; have := blk_new (w.alloc (.cells Z 23)) Z 23; rw [World.size_alloc] at this; exact this
  clear hW h0 h1
  have h0 : W.cell? ⟨p, 0, none⟩ = some (.slice (some ⟨g, 0, none⟩) bs.length cap) := blk_cell hR.blk 0 rfl
  have h1 : W.cell? ⟨p, 1, none⟩ = some (.int .i64 k) := blk_cell hR.blk 1 rfl
  obtain ⟨H, hH⟩ : ∃ H, H = (bs.drop k).take 32 := ⟨_, rfl⟩
  have hHl : H.length = 32 := by rw [hH, List.length_take, List.length_drop]; omega
  have hsrc : ∀ j v, (H.map byteV)[j]? = some v → W.drew.cell? ((⟨g, k, none⟩ : Addr).add j) = some v := by
    intro j v hj
    rw [List.getElem?_map] at hj
    obtain ⟨c, hc, rfl⟩ := Option.map_eq_some_iff.1 hj
    have := (bytesAt_take (own8_at (hR.drewN 1).own) k 32).2 _ rfl j c (hH ▸ hc)
    rw [Nat.zero_add] at this
    exact this
  have HH := Lib.hid hH
  clear hH
  have hn : (H.map byteV).length = Nat.min (bs.length - k) 32 := by rw [List.length_map, hHl]; exact (Nat.min_eq_right (by omega)).symm
  have hfit : (H.map byteV).length = Z.size := by rw [List.length_map, hHl, hZs]
  have h32 : (H.map byteV).length = 32 := by rw [List.length_map, hHl]
  have HN := Lib.hid hn
  have HFIT := Lib.hid hfit
  have H32 := Lib.hid h32
  have HHL := Lib.hid hHl
  clear hn hfit h32 hHl
  go_region_law (refine step_copy_whole rfl (.tmp 23) (.tmp 32) 27 27 rfl 5 Try.underlying27 info8s (w.heap.size + 1) 32 32 ⟨g, k, none⟩ (bs.length - k) (cap - k) rfl rfl Z 23 b2 (H.map byteV) HN.out hsrc HFIT.out (byteV_one H) ?_)
  all_goals
    obtain ⟨C, hC⟩ : ∃ C, C = (H.map byteV).toArray := ⟨_, rfl⟩
    have hCs : C.size = 32 := by rw [hC]; simpa using H32.out
    have hC1 : C.all (·.oneCell') = true := by rw [hC]; exact bytes_all _
    rw [← hC]
    have HC := Lib.hid hC
    clear hC
    obtain ⟨W3, hW3⟩ : ∃ W3, W3 = W.drew.setRow (w.heap.size + 1) C := ⟨_, rfl⟩
    rw [← hW3]
    have hK3 : Keeps Nothing w W3 := hW3 ▸ (Keeps.drew hKW).setRow (fun h => by omega) C
    have hR3 : Rd W3 p (some ⟨g, 0, none⟩) cap bs k := h.keepsN hK3
    have c1 : Blk W3 w.heap.size Z 23 := by rw [hW3]; exact blk_setRow_other (w := W.drew) b1 (by omega)
    have c2 : Blk W3 (w.heap.size + 1) C 23 := by rw [hW3]; exact blk_setRow (w := W.drew) b2
    clear hW3 h0 h1 hsrc b1 b2
    have h1 : W3.cell? ⟨p, 1, none⟩ = some (.int .i64 k) := blk_cell hR3.blk 1 rfl
    have hf := blk_free hR3.blk 1
    have hR4 := hR3.put (k + 32) (z := (k : Int) + 32) (by omega) (by omega)
    have hne1 : w.heap.size ≠ p := by omega
    have hne2 : w.heap.size + 1 ≠ p := by omega
    have d1 : Blk (W3.setCell ⟨p, 1, none⟩ (.int .i64 ((k : Int) + 32))) w.heap.size Z 23 := blk_other c1 _ hne1 _
    have d2 : Blk (W3.setCell ⟨p, 1, none⟩ (.int .i64 ((k : Int) + 32))) (w.heap.size + 1) C 23 := blk_other c2 _ hne2 _
    have r1 := rowOk_blk d1 hZs
    have r2 := rowOk_blk d2 hCs
    have e2 := rowOf_blk d2
    have hag := aggOk_agg 32 C hCs hC1
    go_wp2_with fail
    have hZ' : C = ((((bs.drop k).take 32)).map byteV).toArray := by rw [HC.out, HH.out]
    refine bodyPost_ret (v := .tuple #[.agg C, .nilIface]) (results_row_tmp rfl _ _ w.heap.size C .nilIface rfl rfl (loadVar_hash _ _ _ _ (blk_setRow (cs := C) d1) hCs)) rfl ?_
    have hK5 : Keeps (fun i => i = p) w ((W3.setCell ⟨p, 1, none⟩ (.int .i64 ((k : Int) + 32))).setRow w.heap.size C) :=
      Keeps.setRow (S := fun i => i = p) (Keeps.put (S := fun i => i = p) (hK3.mono (fun _ h _ => h.elim)) rfl 1 _) (fun h => absurd h (Nat.lt_irrefl _)) C
    refine ⟨.nilIface, by rw [hZ']; rfl, isErr_nil _ _, ⟨blk_setRow_other hR4.blk (Ne.symm hne1), ?_, hR4.le⟩, hK5⟩
    exact (Keeps.setRow (S := fun i => i = w.heap.size) (Keeps.refl _ _) (fun _ => rfl) C).own hR4.own (fun i hi he => by subst he; have := own_lt h.own hi; omega)

theorem decHash_eq (l : List UInt8) : decHash l = if l.length < 32 then (3, zeros32, 0) else (0, l.take 32, 32) := rfl

theorem rHash_any {w : World} {p : Nat} {ao : Option Addr} {cap : Nat} {bs : List UInt8} {k : Nat} (h : Rd w p ao cap bs k) (hl : bs.length ≤ 1000000) :
    Calls Try.prog 55 #[.pointer (some ⟨p, 0, none⟩)] w
      (RdPost w p ao cap bs (hashV (decHash (bs.drop k)).2.1) (decHash (bs.drop k)).1 (posOf (decHash (bs.drop k)).1 k) (k + (decHash (bs.drop k)).2.2)) := by
  by_cases hs : bs.length - k < 32
  · have e : decHash (bs.drop k) = (3, zeros32, 0) := by rw [decHash_eq, if_pos (by rw [List.length_drop]; exact hs)]
    rw [e]
    exact rHash_short h hl hs
  · have e : decHash (bs.drop k) = (0, (bs.drop k).take 32, 32) := by rw [decHash_eq, if_neg (by rw [List.length_drop]; exact hs)]
    rw [e]
    have hne : bs ≠ [] := fun e => by rw [e] at hs; simp at hs
    obtain ⟨g, rfl⟩ := own8_head h.own hne
    exact rHash_ok h hl hs

end Go.Proofs.Yteifmkfkekglpaa
