/- usufructlaw2.read: both readers read alike. -/
import Derived.Test.YtkhbepmaeegekaaRefRd4
import Derived.Test.YtkhbepmaeegekaaMix
import Derived.Deep.CutBlock
import Derived.Deep.DeepCutAuto
namespace Go.Proofs.Ytkhbepmaeegekaa
open Go.RowKit

/-- True; both readers stand alike. -/
def ReadPost (w : World) (p x : Nat) (ao : Option Addr) (cap : Nat) (bs : List UInt8) (e : Ending) (w' : World) : Prop :=
  e = .returned (.bool true) ∧ ∃ (k : Nat) (c a : Int), Rd w' p ao cap bs k ∧ RefR w' x bs k c a ∧ Keeps (fun i => i = p ∨ i = x) w w'

set_option maxRecDepth 100000 in
set_option maxHeartbeats 2000000 in
theorem read_0 {w : World} {p : Nat} {ao : Option Addr} {cap : Nat} {bs : List UInt8} {k x : Nat} {c0 a0 : Int} (h : Rd w p ao cap bs k) (hx : RefR w x bs k c0 a0) (o : OpD) (ho : o.Fit) (hl : bs.length ≤ 2000) (hc : kindN o = 0) :
    Calls Try.prog 42 #[.pointer (some ⟨p, 0, none⟩), .pointer (some ⟨x, 0, none⟩), .agg (opCells o).toArray] w (ReadPost w p x ao cap bs) := by
  have _fit := ho
  have hkd := kindN_walk o
  rw [hc] at hkd
  clear hc
  have hpx : p ≠ x := fun e => by subst e; have h1 := h.blk.symm.trans hx; simp at h1
  have hbx : blockOf ao ≠ some x := own8_ne h.own hx (by decide)
  have hplt := lt_of_block h.blk
  have hxlt := lt_of_block hx
  have hkle := h.le
  have cc0 : (opCells o).toArray[0]? = some (.int .i64 o.kind) := rfl
  have cc2 : (opCells o).toArray[2]? = some (.int .i64 o.most) := rfl
  generalize hC : (opCells o).toArray = C at *
  have HC := Lib.hid hC
  clear hC
  have m2 : w.cell? ⟨x, 2, none⟩ = some (.int .i64 c0) := hx.c2
  have m3 : w.cell? ⟨x, 3, none⟩ = some (.int .i64 a0) := hx.c3
  have f2 := blk_free hx 2
  have f3 := blk_free hx 3
  go_enter Try.func42, Try.ntmps42
  obtain ⟨D, hD⟩ : ∃ D, decU (bs.drop k) = D := ⟨_, rfl⟩
  obtain ⟨dc, dv, dn⟩ := D
  have hsz : ((w.setCell ⟨x, 2, none⟩ (.int .i64 0)).setCell ⟨x, 3, none⟩ (.int .i64 0)).heap.size = w.heap.size := by simp only [World.size_setCell]
  have KX : Keeps (fun i => i = x) w ((w.setCell ⟨x, 2, none⟩ (.int .i64 0)).setCell ⟨x, 3, none⟩ (.int .i64 0)) := Keeps.put (S := fun i => i = x) (Keeps.put (S := fun i => i = x) (Keeps.refl _ _) rfl 2 _) rfl 3 _
  have X1 : RefR (((w.setCell ⟨x, 2, none⟩ (.int .i64 0)).setCell ⟨x, 3, none⟩ (.int .i64 0)).alloc (.cells C 61)) x bs k 0 0 := blk_alloc ((hx.setC 0).setA 0) _
  have R1a : Rd ((w.setCell ⟨x, 2, none⟩ (.int .i64 0)).setCell ⟨x, 3, none⟩ (.int .i64 0)) p ao cap bs k := ⟨KX.blk h.blk hpx, KX.own h.own (fun g hg e => by subst e; rw [ownBlock_eq] at hg; exact hbx hg), h.le⟩
  have R1 : Rd (((w.setCell ⟨x, 2, none⟩ (.int .i64 0)).setCell ⟨x, 3, none⟩ (.int .i64 0)).alloc (.cells C 61)) p ao cap bs k := R1a.keepsN ((Keeps.refl _ _).alloc _)
  have B1 : Blk (((w.setCell ⟨x, 2, none⟩ (.int .i64 0)).setCell ⟨x, 3, none⟩ (.int .i64 0)).alloc (.cells C 61)) w.heap.size C 61 := by have h9 := blk_new ((w.setCell ⟨x, 2, none⟩ (.int .i64 0)).setCell ⟨x, 3, none⟩ (.int .i64 0)) C 61; rw [hsz] at h9; exact h9
  have K1 : Keeps (fun i => i = p ∨ i = x) w (((w.setCell ⟨x, 2, none⟩ (.int .i64 0)).setCell ⟨x, 3, none⟩ (.int .i64 0)).alloc (.cells C 61)) := (KX.mono (fun i h _ => .inr h)).alloc _
  clear R1a KX
  go_wp2_with fail
  refine ((by have h9 := rUint R1 (by omega); rw [hD] at h9; exact h9 : Calls Try.prog 44 _ _ (RdPost _ p ao cap bs (.int .u64 dv) dc (posOf dc k) (k + dn)))).mono ?_
  rintro e w2 ⟨ev, rfl, hev, R2, K2⟩
  have X2 : RefR w2 x bs k 0 0 := K2.blk X1 (fun e => hpx e.symm)
  have B2 := K2.blk B1 (fun e => by omega)
  
  go_wp2_with fail
  refine ((by have h9 := ref_uint X2 (by omega) hkle; rw [hD] at h9; exact h9 : Calls Try.prog 60 _ _ (RefPost _ x bs (.int .u64 dv) (k + dn : Nat) dc (posOf dc k)))).mono ?_
  rintro e w3 ⟨rfl, X3, K3⟩
  have R3 : Rd w3 p ao cap bs (k + dn) := ⟨K3.blk R2.blk hpx, K3.own R2.own (fun g hg e => by subst e; rw [ownBlock_eq] at hg; exact hbx hg), R2.le⟩
  have hev3 := (hev.keeps K3 (fun i hi => by have h9 := World.size_setCell; subst hi; simp only [World.size_setCell, World.size_alloc]; omega))
  go_wp2_with fail
  have g1 := X3.c1
  have g2 := X3.c2
  have g3 := X3.c3
  obtain ⟨k3, hk3⟩ : ∃ k3 : Int, k3 = ((k + dn : Nat) : Int) := ⟨_, rfl⟩
  obtain ⟨cc, hcc⟩ : ∃ cc : Int, cc = (dc : Int) := ⟨_, rfl⟩
  obtain ⟨aa, haa⟩ : ∃ aa : Int, aa = posOf dc k := ⟨_, rfl⟩
  rw [← hk3] at g1
  rw [← hcc] at g2
  rw [← haa] at g3
  have HK3 := Lib.hid hk3
  have HCC := Lib.hid hcc
  have HAA := Lib.hid haa
  clear hk3 hcc haa
  refine wp_region_mix (fun W => W.cell? ⟨x, 1, none⟩ = some (.int .i64 k3) ∧ W.cell? ⟨x, 2, none⟩ = some (.int .i64 cc) ∧ W.cell? ⟨x, 3, none⟩ = some (.int .i64 aa)) [(true, 0), (true, 1), (true, 2), (true, 3), (true, 4), (true, 5), (true, 6), (true, 7), (true, 8), (true, 9), (true, 10), (false, 11), (true, 12), (true, 13), (true, 14), (true, 16), (true, 17), (true, 18), (true, 19), (false, 15), (true, 20), (true, 21), (true, 22)] (by kernel_rfl) (by kernel_rfl) ⟨g1, g2, g3⟩ ?_
  simp only [mixItems, List.map_cons, List.map_nil, List.getD_cons_zero, List.getD_cons_succ]
  repeat (refine wpMix_free (fun K hK => ?_); go_simp; refine hK _ ?_; clear hK K)
  refine wpMix_yield (v := .int .i64 cc) (fun W hW => ?_) (fun K hK => ?_)
  · obtain ⟨z1, z2, z3⟩ := hW
    go_simp
  go_simp
  refine hK _ ?_
  clear hK K
  repeat (refine wpMix_free (fun K hK => ?_); go_simp; refine hK _ ?_; clear hK K)
  refine wpMix_yield (v := .int .i64 aa) (fun W hW => ?_) (fun K hK => ?_)
  · obtain ⟨z1, z2, z3⟩ := hW
    go_simp
  go_simp
  refine hK _ ?_
  clear hK K
  refine wpMix_one (fun K hK => ?_)
  go_wp2_with fail
  have his := is_any (w := w3.drew) (hev3) cc aa
  refine his.mono ?_
  rintro e w5 ⟨rfl, n5, rfl⟩
  rw [show decide ((dc : Int) = cc ∧ posOf dc k = aa) = true from decide_eq_true ⟨HCC.out.symm, HAA.out.symm⟩]
  go_wp2_with fail
  refine hK _ _ ⟨g1, g2, g3⟩ ?_
  clear hK K
  repeat (refine wpMix_free (fun K hK => ?_); go_simp; refine hK _ ?_; clear hK K)
  refine wpMix_yield (v := .int .i64 k3) (fun W hW => ?_) (fun K hK => ?_)
  · obtain ⟨z1, z2, z3⟩ := hW
    go_simp
  go_simp
  refine hK _ ?_
  clear hK K
  refine wpMix_one (fun K hK => ?_)
  go_wp2_with fail
  have R4 : Rd (w3.drewN (1 + n5)) p ao cap bs (k + dn) := ⟨R3.blk, R3.own, R3.le⟩
  have hat := rAt_any R4
  rw [← HK3.out] at hat
  refine hat.mono ?_
  rintro e w6 ⟨rfl, rfl⟩
  go_wp2_with fail
  refine hK _ _ ⟨g1, g2, g3⟩ ?_
  clear hK K
  repeat (refine wpMix_free (fun K hK => ?_); go_simp; refine hK _ ?_; clear hK K)
  refine wpMix_nil ?_
  go_wp2_with fail
  go_ret
  refine ⟨rfl, k + dn, dc, posOf dc k, R4, X3, ?_⟩
  exact (((K1.trans K2 (fun i h _ => .inl h)).trans K3 (fun i h _ => .inr h))).drewN (1 + n5)

set_option maxRecDepth 100000 in
set_option maxHeartbeats 2000000 in
theorem read_1 {w : World} {p : Nat} {ao : Option Addr} {cap : Nat} {bs : List UInt8} {k x : Nat} {c0 a0 : Int} (h : Rd w p ao cap bs k) (hx : RefR w x bs k c0 a0) (o : OpD) (ho : o.Fit) (hl : bs.length ≤ 2000) (hc : kindN o = 1) :
    Calls Try.prog 42 #[.pointer (some ⟨p, 0, none⟩), .pointer (some ⟨x, 0, none⟩), .agg (opCells o).toArray] w (ReadPost w p x ao cap bs) := by
  have _fit := ho
  have hkd := kindN_walk o
  rw [hc] at hkd
  clear hc
  have hpx : p ≠ x := fun e => by subst e; have h1 := h.blk.symm.trans hx; simp at h1
  have hbx : blockOf ao ≠ some x := own8_ne h.own hx (by decide)
  have hplt := lt_of_block h.blk
  have hxlt := lt_of_block hx
  have hkle := h.le
  have cc0 : (opCells o).toArray[0]? = some (.int .i64 o.kind) := rfl
  have cc2 : (opCells o).toArray[2]? = some (.int .i64 o.most) := rfl
  generalize hC : (opCells o).toArray = C at *
  have HC := Lib.hid hC
  clear hC
  have m2 : w.cell? ⟨x, 2, none⟩ = some (.int .i64 c0) := hx.c2
  have m3 : w.cell? ⟨x, 3, none⟩ = some (.int .i64 a0) := hx.c3
  have f2 := blk_free hx 2
  have f3 := blk_free hx 3
  go_enter Try.func42, Try.ntmps42
  obtain ⟨D, hD⟩ : ∃ D, decI (bs.drop k) = D := ⟨_, rfl⟩
  obtain ⟨dc, dv, dn⟩ := D
  have hsz : ((w.setCell ⟨x, 2, none⟩ (.int .i64 0)).setCell ⟨x, 3, none⟩ (.int .i64 0)).heap.size = w.heap.size := by simp only [World.size_setCell]
  have KX : Keeps (fun i => i = x) w ((w.setCell ⟨x, 2, none⟩ (.int .i64 0)).setCell ⟨x, 3, none⟩ (.int .i64 0)) := Keeps.put (S := fun i => i = x) (Keeps.put (S := fun i => i = x) (Keeps.refl _ _) rfl 2 _) rfl 3 _
  have X1 : RefR (((w.setCell ⟨x, 2, none⟩ (.int .i64 0)).setCell ⟨x, 3, none⟩ (.int .i64 0)).alloc (.cells C 61)) x bs k 0 0 := blk_alloc ((hx.setC 0).setA 0) _
  have R1a : Rd ((w.setCell ⟨x, 2, none⟩ (.int .i64 0)).setCell ⟨x, 3, none⟩ (.int .i64 0)) p ao cap bs k := ⟨KX.blk h.blk hpx, KX.own h.own (fun g hg e => by subst e; rw [ownBlock_eq] at hg; exact hbx hg), h.le⟩
  have R1 : Rd (((w.setCell ⟨x, 2, none⟩ (.int .i64 0)).setCell ⟨x, 3, none⟩ (.int .i64 0)).alloc (.cells C 61)) p ao cap bs k := R1a.keepsN ((Keeps.refl _ _).alloc _)
  have B1 : Blk (((w.setCell ⟨x, 2, none⟩ (.int .i64 0)).setCell ⟨x, 3, none⟩ (.int .i64 0)).alloc (.cells C 61)) w.heap.size C 61 := by have h9 := blk_new ((w.setCell ⟨x, 2, none⟩ (.int .i64 0)).setCell ⟨x, 3, none⟩ (.int .i64 0)) C 61; rw [hsz] at h9; exact h9
  have K1 : Keeps (fun i => i = p ∨ i = x) w (((w.setCell ⟨x, 2, none⟩ (.int .i64 0)).setCell ⟨x, 3, none⟩ (.int .i64 0)).alloc (.cells C 61)) := (KX.mono (fun i h _ => .inr h)).alloc _
  clear R1a KX
  go_wp2_with fail
  refine ((by have h9 := rInt_any R1 (by omega); rw [hD] at h9; exact h9 : Calls Try.prog 45 _ _ (RdPost _ p ao cap bs (.int .i64 dv) dc (posOf dc k) (k + dn)))).mono ?_
  rintro e w2 ⟨ev, rfl, hev, R2, K2⟩
  have X2 : RefR w2 x bs k 0 0 := K2.blk X1 (fun e => hpx e.symm)
  have B2 := K2.blk B1 (fun e => by omega)
  
  go_wp2_with fail
  refine ((by have h9 := ref_int X2 (by omega) hkle; rw [hD] at h9; exact h9 : Calls Try.prog 61 _ _ (RefPost _ x bs (.int .i64 dv) (k + dn : Nat) dc (posOf dc k)))).mono ?_
  rintro e w3 ⟨rfl, X3, K3⟩
  have R3 : Rd w3 p ao cap bs (k + dn) := ⟨K3.blk R2.blk hpx, K3.own R2.own (fun g hg e => by subst e; rw [ownBlock_eq] at hg; exact hbx hg), R2.le⟩
  have hev3 := (hev.keeps K3 (fun i hi => by have h9 := World.size_setCell; subst hi; simp only [World.size_setCell, World.size_alloc]; omega))
  go_wp2_with fail
  have g1 := X3.c1
  have g2 := X3.c2
  have g3 := X3.c3
  obtain ⟨k3, hk3⟩ : ∃ k3 : Int, k3 = ((k + dn : Nat) : Int) := ⟨_, rfl⟩
  obtain ⟨cc, hcc⟩ : ∃ cc : Int, cc = (dc : Int) := ⟨_, rfl⟩
  obtain ⟨aa, haa⟩ : ∃ aa : Int, aa = posOf dc k := ⟨_, rfl⟩
  rw [← hk3] at g1
  rw [← hcc] at g2
  rw [← haa] at g3
  have HK3 := Lib.hid hk3
  have HCC := Lib.hid hcc
  have HAA := Lib.hid haa
  clear hk3 hcc haa
  refine wp_region_mix (fun W => W.cell? ⟨x, 1, none⟩ = some (.int .i64 k3) ∧ W.cell? ⟨x, 2, none⟩ = some (.int .i64 cc) ∧ W.cell? ⟨x, 3, none⟩ = some (.int .i64 aa)) [(true, 0), (true, 1), (true, 2), (true, 3), (true, 4), (true, 5), (true, 6), (true, 7), (true, 8), (true, 9), (true, 10), (false, 11), (true, 12), (true, 13), (true, 14), (true, 16), (true, 17), (true, 18), (true, 19), (false, 15), (true, 20), (true, 21), (true, 22)] (by kernel_rfl) (by kernel_rfl) ⟨g1, g2, g3⟩ ?_
  simp only [mixItems, List.map_cons, List.map_nil, List.getD_cons_zero, List.getD_cons_succ]
  repeat (refine wpMix_free (fun K hK => ?_); go_simp; refine hK _ ?_; clear hK K)
  refine wpMix_yield (v := .int .i64 cc) (fun W hW => ?_) (fun K hK => ?_)
  · obtain ⟨z1, z2, z3⟩ := hW
    go_simp
  go_simp
  refine hK _ ?_
  clear hK K
  repeat (refine wpMix_free (fun K hK => ?_); go_simp; refine hK _ ?_; clear hK K)
  refine wpMix_yield (v := .int .i64 aa) (fun W hW => ?_) (fun K hK => ?_)
  · obtain ⟨z1, z2, z3⟩ := hW
    go_simp
  go_simp
  refine hK _ ?_
  clear hK K
  refine wpMix_one (fun K hK => ?_)
  go_wp2_with fail
  have his := is_any (w := w3.drew) (hev3) cc aa
  refine his.mono ?_
  rintro e w5 ⟨rfl, n5, rfl⟩
  rw [show decide ((dc : Int) = cc ∧ posOf dc k = aa) = true from decide_eq_true ⟨HCC.out.symm, HAA.out.symm⟩]
  go_wp2_with fail
  refine hK _ _ ⟨g1, g2, g3⟩ ?_
  clear hK K
  repeat (refine wpMix_free (fun K hK => ?_); go_simp; refine hK _ ?_; clear hK K)
  refine wpMix_yield (v := .int .i64 k3) (fun W hW => ?_) (fun K hK => ?_)
  · obtain ⟨z1, z2, z3⟩ := hW
    go_simp
  go_simp
  refine hK _ ?_
  clear hK K
  refine wpMix_one (fun K hK => ?_)
  go_wp2_with fail
  have R4 : Rd (w3.drewN (1 + n5)) p ao cap bs (k + dn) := ⟨R3.blk, R3.own, R3.le⟩
  have hat := rAt_any R4
  rw [← HK3.out] at hat
  refine hat.mono ?_
  rintro e w6 ⟨rfl, rfl⟩
  go_wp2_with fail
  refine hK _ _ ⟨g1, g2, g3⟩ ?_
  clear hK K
  repeat (refine wpMix_free (fun K hK => ?_); go_simp; refine hK _ ?_; clear hK K)
  refine wpMix_nil ?_
  go_wp2_with fail
  go_ret
  refine ⟨rfl, k + dn, dc, posOf dc k, R4, X3, ?_⟩
  exact (((K1.trans K2 (fun i h _ => .inl h)).trans K3 (fun i h _ => .inr h))).drewN (1 + n5)

set_option maxRecDepth 100000 in
set_option maxHeartbeats 2000000 in
theorem read_3 {w : World} {p : Nat} {ao : Option Addr} {cap : Nat} {bs : List UInt8} {k x : Nat} {c0 a0 : Int} (h : Rd w p ao cap bs k) (hx : RefR w x bs k c0 a0) (o : OpD) (ho : o.Fit) (hl : bs.length ≤ 2000) (hc : kindN o = 3) :
    Calls Try.prog 42 #[.pointer (some ⟨p, 0, none⟩), .pointer (some ⟨x, 0, none⟩), .agg (opCells o).toArray] w (ReadPost w p x ao cap bs) := by
  have _fit := ho
  have hkd := kindN_walk o
  rw [hc] at hkd
  clear hc
  have hpx : p ≠ x := fun e => by subst e; have h1 := h.blk.symm.trans hx; simp at h1
  have hbx : blockOf ao ≠ some x := own8_ne h.own hx (by decide)
  have hplt := lt_of_block h.blk
  have hxlt := lt_of_block hx
  have hkle := h.le
  have cc0 : (opCells o).toArray[0]? = some (.int .i64 o.kind) := rfl
  have cc2 : (opCells o).toArray[2]? = some (.int .i64 o.most) := rfl
  generalize hC : (opCells o).toArray = C at *
  have HC := Lib.hid hC
  clear hC
  have m2 : w.cell? ⟨x, 2, none⟩ = some (.int .i64 c0) := hx.c2
  have m3 : w.cell? ⟨x, 3, none⟩ = some (.int .i64 a0) := hx.c3
  have f2 := blk_free hx 2
  have f3 := blk_free hx 3
  go_enter Try.func42, Try.ntmps42
  obtain ⟨D, hD⟩ : ∃ D, decBool (bs.drop k) = D := ⟨_, rfl⟩
  obtain ⟨dc, dv, dn⟩ := D
  have hsz : ((w.setCell ⟨x, 2, none⟩ (.int .i64 0)).setCell ⟨x, 3, none⟩ (.int .i64 0)).heap.size = w.heap.size := by simp only [World.size_setCell]
  have KX : Keeps (fun i => i = x) w ((w.setCell ⟨x, 2, none⟩ (.int .i64 0)).setCell ⟨x, 3, none⟩ (.int .i64 0)) := Keeps.put (S := fun i => i = x) (Keeps.put (S := fun i => i = x) (Keeps.refl _ _) rfl 2 _) rfl 3 _
  have X1 : RefR (((w.setCell ⟨x, 2, none⟩ (.int .i64 0)).setCell ⟨x, 3, none⟩ (.int .i64 0)).alloc (.cells C 61)) x bs k 0 0 := blk_alloc ((hx.setC 0).setA 0) _
  have R1a : Rd ((w.setCell ⟨x, 2, none⟩ (.int .i64 0)).setCell ⟨x, 3, none⟩ (.int .i64 0)) p ao cap bs k := ⟨KX.blk h.blk hpx, KX.own h.own (fun g hg e => by subst e; rw [ownBlock_eq] at hg; exact hbx hg), h.le⟩
  have R1 : Rd (((w.setCell ⟨x, 2, none⟩ (.int .i64 0)).setCell ⟨x, 3, none⟩ (.int .i64 0)).alloc (.cells C 61)) p ao cap bs k := R1a.keepsN ((Keeps.refl _ _).alloc _)
  have B1 : Blk (((w.setCell ⟨x, 2, none⟩ (.int .i64 0)).setCell ⟨x, 3, none⟩ (.int .i64 0)).alloc (.cells C 61)) w.heap.size C 61 := by have h9 := blk_new ((w.setCell ⟨x, 2, none⟩ (.int .i64 0)).setCell ⟨x, 3, none⟩ (.int .i64 0)) C 61; rw [hsz] at h9; exact h9
  have K1 : Keeps (fun i => i = p ∨ i = x) w (((w.setCell ⟨x, 2, none⟩ (.int .i64 0)).setCell ⟨x, 3, none⟩ (.int .i64 0)).alloc (.cells C 61)) := (KX.mono (fun i h _ => .inr h)).alloc _
  clear R1a KX
  go_wp2_with fail
  refine ((by have h9 := rBool_any R1 (by omega); rw [hD] at h9; exact h9 : Calls Try.prog 46 _ _ (RdPost _ p ao cap bs (.bool dv) dc (posOf dc k) (k + dn)))).mono ?_
  rintro e w2 ⟨ev, rfl, hev, R2, K2⟩
  have X2 : RefR w2 x bs k 0 0 := K2.blk X1 (fun e => hpx e.symm)
  have B2 := K2.blk B1 (fun e => by omega)
  
  go_wp2_with fail
  refine ((by have h9 := ref_bool X2 (by omega) hkle; rw [hD] at h9; exact h9 : Calls Try.prog 63 _ _ (RefPost _ x bs (.bool dv) (k + dn : Nat) dc (posOf dc k)))).mono ?_
  rintro e w3 ⟨rfl, X3, K3⟩
  have R3 : Rd w3 p ao cap bs (k + dn) := ⟨K3.blk R2.blk hpx, K3.own R2.own (fun g hg e => by subst e; rw [ownBlock_eq] at hg; exact hbx hg), R2.le⟩
  have hev3 := (hev.keeps K3 (fun i hi => by have h9 := World.size_setCell; subst hi; simp only [World.size_setCell, World.size_alloc]; omega))
  go_wp2_with fail
  have g1 := X3.c1
  have g2 := X3.c2
  have g3 := X3.c3
  obtain ⟨k3, hk3⟩ : ∃ k3 : Int, k3 = ((k + dn : Nat) : Int) := ⟨_, rfl⟩
  obtain ⟨cc, hcc⟩ : ∃ cc : Int, cc = (dc : Int) := ⟨_, rfl⟩
  obtain ⟨aa, haa⟩ : ∃ aa : Int, aa = posOf dc k := ⟨_, rfl⟩
  rw [← hk3] at g1
  rw [← hcc] at g2
  rw [← haa] at g3
  have HK3 := Lib.hid hk3
  have HCC := Lib.hid hcc
  have HAA := Lib.hid haa
  clear hk3 hcc haa
  refine wp_region_mix (fun W => W.cell? ⟨x, 1, none⟩ = some (.int .i64 k3) ∧ W.cell? ⟨x, 2, none⟩ = some (.int .i64 cc) ∧ W.cell? ⟨x, 3, none⟩ = some (.int .i64 aa)) [(true, 0), (true, 1), (true, 2), (true, 3), (true, 4), (true, 5), (true, 6), (true, 7), (true, 8), (true, 9), (true, 10), (false, 11), (true, 12), (true, 13), (true, 14), (true, 16), (true, 17), (true, 18), (true, 19), (false, 15), (true, 20), (true, 21), (true, 22)] (by kernel_rfl) (by kernel_rfl) ⟨g1, g2, g3⟩ ?_
  simp only [mixItems, List.map_cons, List.map_nil, List.getD_cons_zero, List.getD_cons_succ]
  repeat (refine wpMix_free (fun K hK => ?_); go_simp; refine hK _ ?_; clear hK K)
  refine wpMix_yield (v := .int .i64 cc) (fun W hW => ?_) (fun K hK => ?_)
  · obtain ⟨z1, z2, z3⟩ := hW
    go_simp
  go_simp
  refine hK _ ?_
  clear hK K
  repeat (refine wpMix_free (fun K hK => ?_); go_simp; refine hK _ ?_; clear hK K)
  refine wpMix_yield (v := .int .i64 aa) (fun W hW => ?_) (fun K hK => ?_)
  · obtain ⟨z1, z2, z3⟩ := hW
    go_simp
  go_simp
  refine hK _ ?_
  clear hK K
  refine wpMix_one (fun K hK => ?_)
  go_wp2_with fail
  have his := is_any (w := w3.drew) (hev3) cc aa
  refine his.mono ?_
  rintro e w5 ⟨rfl, n5, rfl⟩
  rw [show decide ((dc : Int) = cc ∧ posOf dc k = aa) = true from decide_eq_true ⟨HCC.out.symm, HAA.out.symm⟩]
  go_wp2_with fail
  refine hK _ _ ⟨g1, g2, g3⟩ ?_
  clear hK K
  repeat (refine wpMix_free (fun K hK => ?_); go_simp; refine hK _ ?_; clear hK K)
  refine wpMix_yield (v := .int .i64 k3) (fun W hW => ?_) (fun K hK => ?_)
  · obtain ⟨z1, z2, z3⟩ := hW
    go_simp
  go_simp
  refine hK _ ?_
  clear hK K
  refine wpMix_one (fun K hK => ?_)
  go_wp2_with fail
  have R4 : Rd (w3.drewN (1 + n5)) p ao cap bs (k + dn) := ⟨R3.blk, R3.own, R3.le⟩
  have hat := rAt_any R4
  rw [← HK3.out] at hat
  refine hat.mono ?_
  rintro e w6 ⟨rfl, rfl⟩
  go_wp2_with fail
  refine hK _ _ ⟨g1, g2, g3⟩ ?_
  clear hK K
  repeat (refine wpMix_free (fun K hK => ?_); go_simp; refine hK _ ?_; clear hK K)
  refine wpMix_nil ?_
  go_wp2_with fail
  go_ret
  refine ⟨rfl, k + dn, dc, posOf dc k, R4, X3, ?_⟩
  exact (((K1.trans K2 (fun i h _ => .inl h)).trans K3 (fun i h _ => .inr h))).drewN (1 + n5)

end Go.Proofs.Ytkhbepmaeegekaa
