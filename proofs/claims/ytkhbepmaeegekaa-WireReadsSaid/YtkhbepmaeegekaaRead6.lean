/- usufructlaw2.read: Hash. -/
import Derived.Test.YtkhbepmaeegekaaRead3
namespace Go.Proofs.Ytkhbepmaeegekaa
open Go.RowKit

theorem decHash_len (l : List UInt8) : (decHash l).2.1.length = 32 := by
  rw [decHash_eq]
  split
  · rfl
  · rename_i h; rw [List.length_take]; omega
theorem ref_hash_any {w : World} {x : Nat} {bs : List UInt8} {k : Nat} (h : RefR w x bs k 0 0) (hl : bs.length ≤ 1000000) (hk : k ≤ bs.length) :
    Calls Try.prog 65 #[.pointer (some ⟨x, 0, none⟩)] w (RefPost w x bs (hashV (decHash (bs.drop k)).2.1) (k + (decHash (bs.drop k)).2.2 : Nat) (decHash (bs.drop k)).1 (posOf (decHash (bs.drop k)).1 k)) := by
  by_cases hs : bs.length - k < 32
  · have e : decHash (bs.drop k) = (3, zeros32, 0) := by rw [decHash_eq, if_pos (by rw [List.length_drop]; exact hs)]
    rw [e]
    exact ref_hash_short h hk hs
  · have e : decHash (bs.drop k) = (0, (bs.drop k).take 32, 32) := by rw [decHash_eq, if_neg (by rw [List.length_drop]; exact hs)]
    rw [e]
    exact ref_hash_ok h hl hs
attribute [local go_sem ↓] exec_load_hash exec_store_hash
attribute [local go_sem] rowOk_new World.setRow_alloc_new

set_option maxRecDepth 100000 in
set_option maxHeartbeats 2000000 in
theorem read_5 {w : World} {p : Nat} {ao : Option Addr} {cap : Nat} {bs : List UInt8} {k x : Nat} {c0 a0 : Int} (h : Rd w p ao cap bs k) (hx : RefR w x bs k c0 a0) (o : OpD) (ho : o.Fit) (hl : bs.length ≤ 2000) (hc : kindN o = 5) :
    Calls Try.prog 42 #[.pointer (some ⟨p, 0, none⟩), .pointer (some ⟨x, 0, none⟩), .agg (opCells o).toArray] w (ReadPost w p x ao cap bs) := by
  have _fit := ho
  have hkd := kindN_walk o
  rw [hc] at hkd
  clear hc
  have hpx : p ≠ x := fun e => by subst e; have h1 := h.blk.symm.trans hx; simp at h1
  have hbx : blockOf ao ≠ some x := own8_ne h.own hx (by decide)
  have hplt := lt_of_block h.blk
  have hxlt := lt_of_block hx
  have hkle := h.le
  have cc0 : (opCells o).toArray[0]? = some (.int .i64 o.kind) := rfl
  have cc2 : (opCells o).toArray[2]? = some (.int .i64 o.most) := rfl
  generalize hC : (opCells o).toArray = C at *
  have HC := Lib.hid hC
  clear hC
  have m2 : w.cell? ⟨x, 2, none⟩ = some (.int .i64 c0) := hx.c2
  have m3 : w.cell? ⟨x, 3, none⟩ = some (.int .i64 a0) := hx.c3
  have f2 := blk_free hx 2
  have f3 := blk_free hx 3
  go_enter Try.func42, Try.ntmps42
  obtain ⟨D, hD⟩ : ∃ D, decHash (bs.drop k) = D := ⟨_, rfl⟩
  obtain ⟨dc, dv, dn⟩ := D
  have hsz : ((w.setCell ⟨x, 2, none⟩ (.int .i64 0)).setCell ⟨x, 3, none⟩ (.int .i64 0)).heap.size = w.heap.size := by simp only [World.size_setCell]
  have KX : Keeps (fun i => i = x) w ((w.setCell ⟨x, 2, none⟩ (.int .i64 0)).setCell ⟨x, 3, none⟩ (.int .i64 0)) := Keeps.put (S := fun i => i = x) (Keeps.put (S := fun i => i = x) (Keeps.refl _ _) rfl 2 _) rfl 3 _
  have X1 : RefR (((w.setCell ⟨x, 2, none⟩ (.int .i64 0)).setCell ⟨x, 3, none⟩ (.int .i64 0)).alloc (.cells C 61)) x bs k 0 0 := blk_alloc ((hx.setC 0).setA 0) _
  have R1a : Rd ((w.setCell ⟨x, 2, none⟩ (.int .i64 0)).setCell ⟨x, 3, none⟩ (.int .i64 0)) p ao cap bs k := ⟨KX.blk h.blk hpx, KX.own h.own (fun g hg e => by subst e; rw [ownBlock_eq] at hg; exact hbx hg), h.le⟩
  have R1 : Rd (((w.setCell ⟨x, 2, none⟩ (.int .i64 0)).setCell ⟨x, 3, none⟩ (.int .i64 0)).alloc (.cells C 61)) p ao cap bs k := R1a.keepsN ((Keeps.refl _ _).alloc _)
  have B1 : Blk (((w.setCell ⟨x, 2, none⟩ (.int .i64 0)).setCell ⟨x, 3, none⟩ (.int .i64 0)).alloc (.cells C 61)) w.heap.size C 61 := by have h9 := blk_new ((w.setCell ⟨x, 2, none⟩ (.int .i64 0)).setCell ⟨x, 3, none⟩ (.int .i64 0)) C 61; rw [hsz] at h9; exact h9
  have K1 : Keeps (fun i => i = p ∨ i = x) w (((w.setCell ⟨x, 2, none⟩ (.int .i64 0)).setCell ⟨x, 3, none⟩ (.int .i64 0)).alloc (.cells C 61)) := (KX.mono (fun i h _ => .inr h)).alloc _
  clear R1a KX
  go_wp2_with fail
  refine ((by have h9 := rHash_any R1 (by omega); rw [hD] at h9; exact h9 : Calls Try.prog 48 _ _ (RdPost _ p ao cap bs (hashV dv) dc (posOf dc k) (k + dn)))).mono ?_
  rintro e w2 ⟨ev, rfl, hev, R2, K2⟩
  have X2 : RefR w2 x bs k 0 0 := K2.blk X1 (fun e => hpx e.symm)
  have B2 := K2.blk B1 (fun e => by omega)
  
  have hdl : dv.length = 32 := by
    have h9 := decHash_len (bs.drop k)
    rw [hD] at h9
    exact h9
  obtain ⟨HA, hHA⟩ : ∃ HA, HA = (dv.map byteV).toArray := ⟨_, rfl⟩
  rw [show hashV dv = .agg HA from by rw [hHA]; rfl]
  have hHs : HA.size = 32 := by rw [hHA]; simp [hdl]
  have hag2 := aggOk_agg 32 HA hHs (by rw [hHA]; exact bytes_all _)
  have heq : ∀ W, (Op.equalIn 10000 59 (.agg HA) (.agg HA)).run Try.prog W = .ok true W := fun W => by
    rw [hHA, eql_hash_run dv dv hdl hdl W]
    simp
  have HHA := Lib.hid hHA
  clear hHA
  obtain ⟨Z, hZ⟩ : ∃ Z, Z = (zeros32.map byteV).toArray := ⟨_, rfl⟩
  have hZs : Z.size = 32 := by rw [hZ]; rfl
  have hzl := zeros32_lit
  rw [← hZ] at hzl
  clear hZ
  go_wp2_with fail
  have BH : Blk (w2.alloc (.cells HA 59)) w2.heap.size HA 59 := blk_new w2 HA _
  have X2a : RefR (w2.alloc (.cells HA 59)) x bs k 0 0 := blk_alloc X2 _
  have R2a := R2.keepsN ((Keeps.refl _ _).alloc (.cells HA 59))
  have hev2 := hev.keeps ((Keeps.refl Nothing _).alloc (.cells HA 59)) (fun _ h => h.elim)
  have K2a := K2.alloc (.cells HA 59)
  have hxg : x < w2.heap.size := lt_of_block X2
  clear R2 X2 hev K2 B2
  have R2 := R2a
  have K2 := K2a.drew
  clear R2a K2a
  generalize w2.alloc (.cells HA 59) = W5 at *
  generalize w2.heap.size = g5 at *
  refine wp_region_mix (fun W => Blk W g5 HA 59) [(true, 0), (true, 1), (true, 2), (false, 3), (true, 4), (true, 5), (true, 6)] (by kernel_rfl) (by kernel_rfl) BH ?_
  simp only [mixItems, List.map_cons, List.map_nil, List.getD_cons_zero, List.getD_cons_succ]
  repeat (refine wpMix_free (fun K hK => ?_); go_simp; refine hK _ ?_; clear hK K)
  refine wpMix_yield (v := .agg HA) (fun W hW => ?_) (fun K hK => ?_)
  · have r1 := rowOk_blk hW hHs
    have r2 := rowOf_blk hW
    go_simp
  go_simp
  refine hK _ ?_
  clear hK K
  repeat (refine wpMix_free (fun K hK => ?_); go_simp; refine hK _ ?_; clear hK K)
  refine wpMix_one (fun K hK => ?_)
  go_wp2_with fail
  have X2d : RefR W5.drew x bs k 0 0 := X2a
  have hrf := ref_hash_any X2d (by omega) hkle
  rw [hD] at hrf
  refine hrf.mono ?_
  rintro e w3 ⟨rfl, X3, K3⟩
  rw [show hashV (dc, dv, dn).2.1 = .agg HA from by rw [HHA.out]; rfl]
  have BH3 := K3.blk (a := W5.drew) BH (fun e => by omega)
  go_wp2_with fail
  refine hK _ _ BH3 ?_
  clear hK K
  repeat (refine wpMix_free (fun K hK => ?_); go_simp; refine hK _ ?_; clear hK K)
  refine wpMix_nil ?_
  have R3 : Rd w3 p ao cap bs (k + dn) := ⟨K3.blk R2.blk hpx, K3.own R2.own (fun g hg e => by subst e; rw [ownBlock_eq] at hg; exact hbx hg), R2.le⟩
  have hev3 := ((show IsErr _ W5.drew ev dc (posOf dc k) from hev2).keeps K3 (fun i hi => by have h9 := World.size_setCell; subst hi; have h8 := hplt; simp only [World.size_setCell, World.size_alloc]; omega))
  go_wp2_with fail
  have g1 := X3.c1
  have g2 := X3.c2
  have g3 := X3.c3
  obtain ⟨k3, hk3⟩ : ∃ k3 : Int, k3 = ((k + dn : Nat) : Int) := ⟨_, rfl⟩
  obtain ⟨cc, hcc⟩ : ∃ cc : Int, cc = (dc : Int) := ⟨_, rfl⟩
  obtain ⟨aa, haa⟩ : ∃ aa : Int, aa = posOf dc k := ⟨_, rfl⟩
  rw [← hk3] at g1
  rw [← hcc] at g2
  rw [← haa] at g3
  have HK3 := Lib.hid hk3
  have HCC := Lib.hid hcc
  have HAA := Lib.hid haa
  clear hk3 hcc haa
  refine wp_region_mix (fun W => W.cell? ⟨x, 1, none⟩ = some (.int .i64 k3) ∧ W.cell? ⟨x, 2, none⟩ = some (.int .i64 cc) ∧ W.cell? ⟨x, 3, none⟩ = some (.int .i64 aa)) [(true, 0), (true, 1), (true, 2), (true, 3), (true, 4), (true, 5), (true, 6), (true, 7), (true, 8), (true, 9), (true, 10), (false, 11), (true, 12), (true, 13), (true, 14), (true, 16), (true, 17), (true, 18), (true, 19), (false, 15), (true, 20), (true, 21), (true, 22)] (by kernel_rfl) (by kernel_rfl) ⟨g1, g2, g3⟩ ?_
  simp only [mixItems, List.map_cons, List.map_nil, List.getD_cons_zero, List.getD_cons_succ]
  repeat (refine wpMix_free (fun K hK => ?_); go_simp; refine hK _ ?_; clear hK K)
  refine wpMix_yield (v := .int .i64 cc) (fun W hW => ?_) (fun K hK => ?_)
  · obtain ⟨z1, z2, z3⟩ := hW
    go_simp
  go_simp
  refine hK _ ?_
  clear hK K
  repeat (refine wpMix_free (fun K hK => ?_); go_simp; refine hK _ ?_; clear hK K)
  refine wpMix_yield (v := .int .i64 aa) (fun W hW => ?_) (fun K hK => ?_)
  · obtain ⟨z1, z2, z3⟩ := hW
    go_simp
  go_simp
  refine hK _ ?_
  clear hK K
  refine wpMix_one (fun K hK => ?_)
  go_wp2_with fail
  have his := is_any (w := w3.drew) (hev3) cc aa
  refine his.mono ?_
  rintro e w5 ⟨rfl, n5, rfl⟩
  rw [show decide ((dc : Int) = cc ∧ posOf dc k = aa) = true from decide_eq_true ⟨HCC.out.symm, HAA.out.symm⟩]
  go_wp2_with fail
  refine hK _ _ ⟨g1, g2, g3⟩ ?_
  clear hK K
  repeat (refine wpMix_free (fun K hK => ?_); go_simp; refine hK _ ?_; clear hK K)
  refine wpMix_yield (v := .int .i64 k3) (fun W hW => ?_) (fun K hK => ?_)
  · obtain ⟨z1, z2, z3⟩ := hW
    go_simp
  go_simp
  refine hK _ ?_
  clear hK K
  refine wpMix_one (fun K hK => ?_)
  go_wp2_with fail
  have R4 : Rd (w3.drewN (1 + n5)) p ao cap bs (k + dn) := ⟨R3.blk, R3.own, R3.le⟩
  have hat := rAt_any R4
  rw [← HK3.out] at hat
  refine hat.mono ?_
  rintro e w6 ⟨rfl, rfl⟩
  go_wp2_with fail
  refine hK _ _ ⟨g1, g2, g3⟩ ?_
  clear hK K
  repeat (refine wpMix_free (fun K hK => ?_); go_simp; refine hK _ ?_; clear hK K)
  refine wpMix_nil ?_
  go_wp2_with fail
  go_ret
  refine ⟨rfl, k + dn, dc, posOf dc k, R4, X3, ?_⟩
  exact (((K1.trans K2 (fun i h _ => .inl h)).trans K3 (fun i h _ => .inr h))).drewN (1 + n5)

end Go.Proofs.Ytkhbepmaeegekaa
