/- The document: statements without places. The document: crates without places. -/
import Derived.Test.YtjbcagbnagefcaaTrO
namespace Go.Proofs.Ytjbcagbnagefcaa
open Go.RowKit

attribute [local irreducible] wpMix wpMixB wpList
attribute [local go_sem ↓] exec_mid_ty exec_store_ty exec_mid_pl exec_store_pl exec_mid_opr exec_store_opr exec_mid_val exec_store_val exec_mid_st exec_store_st exec_mid_fld exec_store_fld exec_mid_str exec_store_str exec_mid_lif exec_store_lif exec_mid_fun exec_store_fun exec_mid_cr exec_store_cr
attribute [local go_sem ↓] exec_into_pl exec_into_opr exec_into_ty exec_into_val
attribute [local go_sem] rowOk_new World.setRow_alloc_new

/-- Blocks of S, or new since N. -/
def ZS (S : Nat → Prop) (N : Nat) (v : World) (b : Nat) : Prop := (S b ∨ N ≤ b) ∧ b < v.heap.size
theorem zs_ok (S : Nat → Prop) (N : Nat) : SetOk (ZS S N) := ⟨fun _ _ h => h.2, fun _ _ _ _ K _ h => ⟨h.1, Nat.lt_of_lt_of_le h.2 K.size⟩⟩
/-- Statements without places, what else they have shared. -/
def RBP (S : Nat → Prop) (w : World) (l : List StD) (e : Ending) (w' : World) : Prop := ∃ (a : Option Addr) (c : Nat), e = .returned (.slice a l.length c) ∧ Keeps Nothing w w' ∧ SlIs (ZS S w.heap.size w') w' 32 (StIs (ZS S w.heap.size w') w') a (bareL l)
def RBareC (l : List StD) : Prop := ∀ {S : Nat → Prop} (w : World) (ar : Option Addr) (c : Nat), (∀ b, S b → b < w.heap.size) → SlIs S w 32 (StIs S w) ar l → Calls Try.prog 36 #[.slice ar l.length c] w (RBP S w l)

set_option maxRecDepth 100000 in
set_option linter.unusedSimpArgs false in
set_option maxHeartbeats 8000000 in
theorem rbare_of {l : List StD} (H : ∀ e ∈ l, RBareC e.thn ∧ RBareC e.els) : RBareC l := by
  intro S w ar c hS h
  have HL := shut h
  have HIH := shut H
  have HS := shut hS
  have hnb : l.length ≤ 100000000 := by have := h.1; unfold bigN at this; omega
  obtain ⟨n, hln⟩ : ∃ n, l.length = n := ⟨_, rfl⟩
  rw [hln] at hnb ⊢
  have HLN := shut hln
  clear h hln H hS
  go_enter Try.func36, Try.ntmps36
  go_wp2_with fail
  go_loopw [3, 4] (fun s3 s4 wx => ∃ (t : Nat) (ao : Option Addr) (cap : Nat), s4 = .int .i64 t ∧ s3 = .slice ao t cap ∧ t ≤ n ∧ Keeps (fun b => w.heap.size ≤ b) w wx ∧ Shut (OutR (ZS S w.heap.size) 46 32 StIs w.heap.size wx ao cap ((l.take t).map bareS))) (fun _ s4 _ => n - (intOf s4).toNat)
  case atStart => exact ⟨0, none, 0, rfl, rfl, Nat.zero_le _, Keeps.refl _ _, shut (outR_nil _ _ _ _ _ _)⟩
  case round =>
    obtain ⟨t, ao, cap, rfl, rfl, ht, KL, HO⟩ := hrel
    by_cases hlt : t < n
    rotate_left
    · obtain rfl : t = n := by omega
      have m1 : ¬ (t : Int) < t := by omega
      have HO1 : OutR (ZS S w.heap.size) 46 32 StIs w.heap.size wr ao cap (bareL l) := by have := HO.out; rw [List.take_of_length_le (Nat.le_of_eq HLN.out), ← bareL_map] at this; exact this
      have hfin : RBP S w l (.returned (.slice ao t cap)) wr := ⟨ao, cap, by rw [HLN.out], keepsHi KL, HO1.sl stOk (fun _ h => h) (fun g hg => ⟨.inr (HO1.new g hg), HO1.lt hg⟩) (by rw [bareL_len, HLN.out]; unfold bigN; omega)⟩
      have HF := shut hfin
      clear hfin HO1 HO HL
      go_wp2_with fail
      go_ret
      exact HF.out
    have m1 : (t : Int) < n := by omega
    have m0 : (0 : Int) ≤ t := by omega
    obtain ⟨x, hx⟩ : ∃ x, l[t]? = some x := ⟨_, List.getElem?_eq_getElem (by rw [HLN.out]; exact hlt)⟩
    obtain ⟨gl, ol, rfl, hSg, cs, hl1, r1, i1⟩ := HL.out.get hx
    have KWr := keepsHi KL
    have HX := shut hx
    have hxm := List.mem_of_getElem? hx
    clear hx
    have r1w : wr.rangeAt gl (ol + t * 32) cs := fun j v hj => KWr.cell (r1 j v hj) (fun h => h)
    have hk := midOk_range r1w
    have ho := midOf_range r1w
    rw [hl1] at hk ho
    have ag2 := agg_ok hl1 i1.one
    obtain ⟨x_kind, x_pos, x_mu, x_name, x_ty, x_has, x_place, x_val, x_cond, x_thn, x_els⟩ := x
    rw [stIs_iff] at i1
    obtain ⟨s4, s9, s11, s26, a30, c30, a31, c31, hcs, hxn, h1, h2, h3, h4, h5, h6⟩ := i1
    simp only [StD.kind, StD.pos, StD.mu, StD.name, StD.ty, StD.has, StD.place, StD.val, StD.cond, StD.thn, StD.els] at hcs hxn h1 h2 h3 h4 h5 h6
    unfold txV at hcs
    obtain ⟨nt, hnt⟩ : ∃ nt, x_thn.length = nt := ⟨_, rfl⟩
    obtain ⟨ne, hnE⟩ : ∃ ne, x_els.length = ne := ⟨_, rfl⟩
    rw [hnt, hnE] at hcs
    have HNT := shut hnt
    have HNE := shut hnE
    have al_ty := h1.len
    have al_pl := h2.len
    have al_val := h3.len
    have al_cond := h4.len
    have HTy := shut h1
    have HPl := shut h2
    have HVa := shut h3
    have HCo := shut h4
    have HTh := shut h5
    have HEl := shut h6
    have HXN := shut hxn
    have HI1 : Shut (RBareC x_thn) := shut (HIH.out _ hxm).1
    have HI2 : Shut (RBareC x_els) := shut (HIH.out _ hxm).2
    have kx1 : Keeps Nothing wr (wr.alloc (.cells cs.toArray 46)) := (Keeps.refl Nothing wr).alloc _
    have BX := blk_new wr cs.toArray 46
    have hsx : cs.toArray.size = 32 := by simpa using hl1
    have hw01 : wr.heap.size ≤ (wr.alloc (.cells cs.toArray 46)).heap.size := kx1.size
    obtain ⟨Cx, hCx⟩ : ∃ Cx, cs.toArray = Cx := ⟨_, rfl⟩
    have GX : Shut (Cx = (([.int .i64 x_kind, .int .i64 x_pos, .bool x_mu, .string ⟨x_name.toArray⟩] : List Value) ++ s4 ++ ([.bool x_has] : List Value) ++ s9 ++ s11 ++ s26 ++ ([.slice a30 nt c30, .slice a31 ne c31] : List Value)).toArray) := shut (by rw [← hCx, hcs])
    rw [hCx] at BX hsx kx1 ho ag2 hw01
    clear hCx hcs hxn h1 h2 h3 h4 h5 h6 hnt hnE r1 hl1 r1w
    go_upto_region 6 with fail
    clear hk ho ag2
    generalize wr.alloc (.cells Cx 46) = w1 at *
    have hgx := lt_of_block BX
    obtain ⟨gx, hgx0⟩ : ∃ gx, wr.heap.size = gx := ⟨_, rfl⟩
    have HGX : Shut (wr.heap.size ≤ gx) := shut (Nat.le_of_eq hgx0)
    have hwgx : w.heap.size ≤ gx := by rw [← hgx0]; exact KL.size
    have KW1 := KWr.trans kx1 (fun _ h _ => h)
    rw [hgx0] at BX hgx ⊢
    clear hgx0
    obtain ⟨-, e1, -, -, -, -, -, -, -, -, -⟩ := StB al_ty al_pl al_val al_cond GX.out BX
    have f1 := blk_free BX 1
    have BA : Blk (w1.setCell ⟨gx, 1, none⟩ (.int .i64 0)) gx (([.int .i64 x_kind, .int .i64 0, .bool x_mu, .string ⟨x_name.toArray⟩] : List Value) ++ s4 ++ ([.bool x_has] : List Value) ++ s9 ++ s11 ++ s26 ++ ([.slice a30 nt c30, .slice a31 ne c31] : List Value)).toArray 46 := by
      have e1 : (([.int .i64 x_kind, .int .i64 x_pos, .bool x_mu, .string ⟨x_name.toArray⟩] : List Value) ++ s4 ++ ([.bool x_has] : List Value) ++ s9 ++ s11 ++ s26 ++ ([.slice a30 nt c30, .slice a31 ne c31] : List Value) : List Value) = (([.int .i64 x_kind] : List Value)) ++ (.int .i64 x_pos :: (([.bool x_mu, .string ⟨x_name.toArray⟩] : List Value) ++ s4 ++ ([.bool x_has] : List Value) ++ s9 ++ s11 ++ s26 ++ ([.slice a30 nt c30, .slice a31 ne c31] : List Value))) := by simp
      have e2 : (([.int .i64 x_kind, .int .i64 0, .bool x_mu, .string ⟨x_name.toArray⟩] : List Value) ++ s4 ++ ([.bool x_has] : List Value) ++ s9 ++ s11 ++ s26 ++ ([.slice a30 nt c30, .slice a31 ne c31] : List Value) : List Value) = (([.int .i64 x_kind] : List Value)) ++ (.int .i64 0 :: (([.bool x_mu, .string ⟨x_name.toArray⟩] : List Value) ++ s4 ++ ([.bool x_has] : List Value) ++ s9 ++ s11 ++ s26 ++ ([.slice a30 nt c30, .slice a31 ne c31] : List Value))) := by simp
      rw [e2]
      exact box_set (pre := ([.int .i64 x_kind] : List Value)) (post := ([.bool x_mu, .string ⟨x_name.toArray⟩] : List Value) ++ s4 ++ ([.bool x_has] : List Value) ++ s9 ++ s11 ++ s26 ++ ([.slice a30 nt c30, .slice a31 ne c31] : List Value)) (v := .int .i64 x_pos) (u := .int .i64 0) BX (by rw [GX.out, e1]) (by simp)
    have KWA : Keeps Nothing w (w1.setCell ⟨gx, 1, none⟩ (.int .i64 0)) := KW1.setCell (p := ⟨gx, 1, none⟩) (fun h => absurd h (Nat.not_lt.2 hwgx)) _
    have kxA : Keeps Nothing wr (w1.setCell ⟨gx, 1, none⟩ (.int .i64 0)) := kx1.setCell (p := ⟨gx, 1, none⟩) (fun h => absurd h (Nat.not_lt.2 HGX.out)) _
    have hwA : w1.heap.size ≤ (w1.setCell ⟨gx, 1, none⟩ (.int .i64 0)).heap.size := by rw [World.size_setCell]; exact Nat.le_refl _
    go_upto_region 7 with fail
    any_goals try (rename_i hfz; simp [f1] at hfz; done)
    clear e1 f1 BX GX kx1 KW1 hsx
    generalize w1.setCell ⟨gx, 1, none⟩ (.int .i64 0) = wA at *
    obtain ⟨-, -, -, -, -, -, -, -, -, e30, -⟩ := StB al_ty al_pl al_val al_cond rfl BA
    have hc := HI1.out wA a30 c30 (fun b hb => Nat.lt_of_lt_of_le (HS.out b hb) KWA.size) (HTh.out.keeps (S' := S) (Q := StIs S wA) KWA (fun _ _ h => h) (fun _ h => h) (fun _ _ _ h => h.keeps KWA (fun _ _ h => h) (fun _ h => h)))
    rw [HNT.out] at hc
    go_wp2_with fail
    refine hc.mono ?_
    rintro e w2 ⟨b30, d30, rfl, k2, hR⟩
    rw [HNT.out]
    have BA2 := k2.blk BA (fun h => h)
    obtain ⟨-, -, -, -, -, -, -, -, -, e31, -⟩ := StB al_ty al_pl al_val al_cond rfl BA2
    have f30 := blk_free BA2 30
    have BB : Blk (w2.setCell ⟨gx, 30, none⟩ (.slice b30 nt d30)) gx (([.int .i64 x_kind, .int .i64 0, .bool x_mu, .string ⟨x_name.toArray⟩] : List Value) ++ s4 ++ ([.bool x_has] : List Value) ++ s9 ++ s11 ++ s26 ++ ([.slice b30 nt d30, .slice a31 ne c31] : List Value)).toArray 46 := by
      have e1 : (([.int .i64 x_kind, .int .i64 0, .bool x_mu, .string ⟨x_name.toArray⟩] : List Value) ++ s4 ++ ([.bool x_has] : List Value) ++ s9 ++ s11 ++ s26 ++ ([.slice a30 nt c30, .slice a31 ne c31] : List Value) : List Value) = (([.int .i64 x_kind, .int .i64 0, .bool x_mu, .string ⟨x_name.toArray⟩] : List Value) ++ s4 ++ ([.bool x_has] : List Value) ++ s9 ++ s11 ++ s26) ++ (.slice a30 nt c30 :: (([.slice a31 ne c31] : List Value))) := by simp
      have e2 : (([.int .i64 x_kind, .int .i64 0, .bool x_mu, .string ⟨x_name.toArray⟩] : List Value) ++ s4 ++ ([.bool x_has] : List Value) ++ s9 ++ s11 ++ s26 ++ ([.slice b30 nt d30, .slice a31 ne c31] : List Value) : List Value) = (([.int .i64 x_kind, .int .i64 0, .bool x_mu, .string ⟨x_name.toArray⟩] : List Value) ++ s4 ++ ([.bool x_has] : List Value) ++ s9 ++ s11 ++ s26) ++ (.slice b30 nt d30 :: (([.slice a31 ne c31] : List Value))) := by simp
      rw [e2]
      exact box_set (pre := ([.int .i64 x_kind, .int .i64 0, .bool x_mu, .string ⟨x_name.toArray⟩] : List Value) ++ s4 ++ ([.bool x_has] : List Value) ++ s9 ++ s11 ++ s26) (post := ([.slice a31 ne c31] : List Value)) (v := .slice a30 nt c30) (u := .slice b30 nt d30) BA2 (by rw [e1]) (by simp [al_ty, al_pl, al_val, al_cond])
    have KWB : Keeps Nothing w (w2.setCell ⟨gx, 30, none⟩ (.slice b30 nt d30)) := (KWA.trans k2 (fun _ h _ => h)).setCell (p := ⟨gx, 30, none⟩) (fun h => absurd h (Nat.not_lt.2 hwgx)) _
    have kxB : Keeps Nothing wr (w2.setCell ⟨gx, 30, none⟩ (.slice b30 nt d30)) := (kxA.trans k2 (fun _ h _ => h)).setCell (p := ⟨gx, 30, none⟩) (fun h => absurd h (Nat.not_lt.2 HGX.out)) _
    have k2B : Keeps (fun b => b = gx) w2 (w2.setCell ⟨gx, 30, none⟩ (.slice b30 nt d30)) := (Keeps.refl (fun b => b = gx) w2).setCell (p := ⟨gx, 30, none⟩) (fun _ => rfl) _
    have hwB : w1.heap.size ≤ (w2.setCell ⟨gx, 30, none⟩ (.slice b30 nt d30)).heap.size := Nat.le_trans (Nat.le_trans hwA k2.size) k2B.size
    have HR1 := shut hR
    clear hc hR e30
    go_upto_region 8 with fail
    any_goals try (rename_i hfz; simp [f30] at hfz; done)
    clear e31 f30 BA BA2 k2
    generalize w2.setCell ⟨gx, 30, none⟩ (.slice b30 nt d30) = wB at *
    obtain ⟨-, -, -, -, -, -, -, -, -, -, e30⟩ := StB al_ty al_pl al_val al_cond rfl BB
    have hc := HI2.out wB a31 c31 (fun b hb => Nat.lt_of_lt_of_le (HS.out b hb) KWB.size) (HEl.out.keeps (S' := S) (Q := StIs S wB) KWB (fun _ _ h => h) (fun _ h => h) (fun _ _ _ h => h.keeps KWB (fun _ _ h => h) (fun _ h => h)))
    rw [HNE.out] at hc
    go_wp2_with fail
    refine hc.mono ?_
    rintro e w4 ⟨b31, d31, rfl, k4, hR⟩
    rw [HNE.out]
    have BB2 := k4.blk BB (fun h => h)
    obtain ⟨-, -, -, -, -, -, -, -, -, -, e31⟩ := StB al_ty al_pl al_val al_cond rfl BB2
    have f31 := blk_free BB2 31
    have BC : Blk (w4.setCell ⟨gx, 31, none⟩ (.slice b31 ne d31)) gx (([.int .i64 x_kind, .int .i64 0, .bool x_mu, .string ⟨x_name.toArray⟩] : List Value) ++ s4 ++ ([.bool x_has] : List Value) ++ s9 ++ s11 ++ s26 ++ ([.slice b30 nt d30, .slice b31 ne d31] : List Value)).toArray 46 := by
      have e1 : (([.int .i64 x_kind, .int .i64 0, .bool x_mu, .string ⟨x_name.toArray⟩] : List Value) ++ s4 ++ ([.bool x_has] : List Value) ++ s9 ++ s11 ++ s26 ++ ([.slice b30 nt d30, .slice a31 ne c31] : List Value) : List Value) = (([.int .i64 x_kind, .int .i64 0, .bool x_mu, .string ⟨x_name.toArray⟩] : List Value) ++ s4 ++ ([.bool x_has] : List Value) ++ s9 ++ s11 ++ s26 ++ ([.slice b30 nt d30] : List Value)) ++ (.slice a31 ne c31 :: (([] : List Value))) := by simp
      have e2 : (([.int .i64 x_kind, .int .i64 0, .bool x_mu, .string ⟨x_name.toArray⟩] : List Value) ++ s4 ++ ([.bool x_has] : List Value) ++ s9 ++ s11 ++ s26 ++ ([.slice b30 nt d30, .slice b31 ne d31] : List Value) : List Value) = (([.int .i64 x_kind, .int .i64 0, .bool x_mu, .string ⟨x_name.toArray⟩] : List Value) ++ s4 ++ ([.bool x_has] : List Value) ++ s9 ++ s11 ++ s26 ++ ([.slice b30 nt d30] : List Value)) ++ (.slice b31 ne d31 :: (([] : List Value))) := by simp
      rw [e2]
      exact box_set (pre := ([.int .i64 x_kind, .int .i64 0, .bool x_mu, .string ⟨x_name.toArray⟩] : List Value) ++ s4 ++ ([.bool x_has] : List Value) ++ s9 ++ s11 ++ s26 ++ ([.slice b30 nt d30] : List Value)) (post := ([] : List Value)) (v := .slice a31 ne c31) (u := .slice b31 ne d31) BB2 (by rw [e1]) (by simp [al_ty, al_pl, al_val, al_cond])
    have KWC : Keeps Nothing w (w4.setCell ⟨gx, 31, none⟩ (.slice b31 ne d31)) := (KWB.trans k4 (fun _ h _ => h)).setCell (p := ⟨gx, 31, none⟩) (fun h => absurd h (Nat.not_lt.2 hwgx)) _
    have kxC : Keeps Nothing wr (w4.setCell ⟨gx, 31, none⟩ (.slice b31 ne d31)) := (kxB.trans k4 (fun _ h _ => h)).setCell (p := ⟨gx, 31, none⟩) (fun h => absurd h (Nat.not_lt.2 HGX.out)) _
    have k4C : Keeps (fun b => b = gx) w4 (w4.setCell ⟨gx, 31, none⟩ (.slice b31 ne d31)) := (Keeps.refl (fun b => b = gx) w4).setCell (p := ⟨gx, 31, none⟩) (fun _ => rfl) _
    have k2C : Keeps (fun b => b = gx) w2 (w4.setCell ⟨gx, 31, none⟩ (.slice b31 ne d31)) := (k2B.trans k4 (fun _ h _ => h.elim)).trans k4C (fun _ h _ => h)
    have hwC : w1.heap.size ≤ (w4.setCell ⟨gx, 31, none⟩ (.slice b31 ne d31)).heap.size := Nat.le_trans (Nat.le_trans hwB k4.size) k4C.size
    have hgA : gx < wA.heap.size := Nat.lt_of_lt_of_le hgx hwA
    have hgB : gx < wB.heap.size := Nat.lt_of_lt_of_le hgx hwB
    have hN : StIs (ZS S w1.heap.size (w4.setCell ⟨gx, 31, none⟩ (.slice b31 ne d31))) (w4.setCell ⟨gx, 31, none⟩ (.slice b31 ne d31)) (bareS (StD.mk x_kind x_pos x_mu x_name x_ty x_has x_place x_val x_cond x_thn x_els)) (([.int .i64 x_kind, .int .i64 0, .bool x_mu, .string ⟨x_name.toArray⟩] : List Value) ++ s4 ++ ([.bool x_has] : List Value) ++ s9 ++ s11 ++ s26 ++ ([.slice b30 nt d30, .slice b31 ne d31] : List Value)) := by
      have hSw : ∀ b, S b → b < w.heap.size := HS.out
      have hS2 : ∀ b, S b → ZS S w1.heap.size (w4.setCell ⟨gx, 31, none⟩ (.slice b31 ne d31)) b := fun b hb => ⟨.inl hb, Nat.lt_of_lt_of_le (hSw b hb) KWC.size⟩
      have t1 : ∀ b, ZS S wA.heap.size w2 b → ¬ b = gx := fun b hb q => by
        rcases hb.1 with h | h
        · have := hSw b h; omega
        · omega
      have t2 : ∀ b, ZS S wA.heap.size w2 b → ZS S w1.heap.size (w4.setCell ⟨gx, 31, none⟩ (.slice b31 ne d31)) b := fun b hb => ⟨hb.1.imp id (fun h => Nat.le_trans hwA h), Nat.lt_of_lt_of_le hb.2 k2C.size⟩
      have t3 : ∀ b, ZS S wB.heap.size w4 b → ¬ b = gx := fun b hb q => by
        rcases hb.1 with h | h
        · have := hSw b h; omega
        · omega
      have t4 : ∀ b, ZS S wB.heap.size w4 b → ZS S w1.heap.size (w4.setCell ⟨gx, 31, none⟩ (.slice b31 ne d31)) b := fun b hb => ⟨hb.1.imp id (fun h => Nat.le_trans hwB h), Nat.lt_of_lt_of_le hb.2 k4C.size⟩
      rw [stIs_iff]
      refine ⟨s4, s9, s11, s26, b30, d30, b31, d31, ?_, HXN.out, HTy.out.keeps KWC (fun _ _ h => h) hS2, HPl.out.keeps KWC (fun _ _ h => h) hS2, HVa.out.keeps KWC (fun _ _ h => h) hS2, HCo.out.keeps KWC (fun _ _ h => h) hS2, HR1.out.keeps k2C t1 t2 (fun _ _ _ h => h.keeps k2C t1 t2), hR.keeps k4C t3 t4 (fun _ _ _ h => h.keeps k4C t3 t4)⟩
      simp only [bareS, StD.kind, StD.pos, StD.mu, StD.name, StD.has, StD.thn, StD.els, bareL_len, HNT.out, HNE.out]
      rfl
    obtain ⟨cs2, hcs2⟩ : ∃ cs2, (([.int .i64 x_kind, .int .i64 0, .bool x_mu, .string ⟨x_name.toArray⟩] : List Value) ++ s4 ++ ([.bool x_has] : List Value) ++ s9 ++ s11 ++ s26 ++ ([.slice b30 nt d30, .slice b31 ne d31] : List Value)) = cs2 := ⟨_, rfl⟩
    rw [hcs2] at hN BC
    have HN := shut hN
    have hlc := hN.len
    obtain ⟨Cy, hCy⟩ : ∃ Cy, Cy = cs2.toArray := ⟨_, rfl⟩
    rw [← hCy] at BC
    have hsy : Cy.size = 32 := by rw [hCy]; simpa using hlc
    have GCy := shut hCy
    have agy : aggOk 32 (.agg Cy) = true := by rw [hCy]; exact agg_ok hN.len hN.one
    clear hc hR e30 hN hcs2 hCy
    go_upto_region 9 with fail
    any_goals try (rename_i hfz; simp [f31] at hfz; done)
    clear e31 f31 BB BB2 k4 k4C k2C k2B KWC KWB KWA HR1 kxA kxB
    generalize w4.setCell ⟨gx, 31, none⟩ (.slice b31 ne d31) = w6 at *
    obtain ⟨z1, z2⟩ := tblk_mid BC hsy
    have BBx := blk_new w6 Cy 46
    have kb : Keeps Nothing w6 (w6.alloc (.cells Cy 46)) := (Keeps.refl Nothing w6).alloc _
    have kx3 := kxC.trans kb (fun _ h _ => h)
    have HO3 := shut (HO.out.keepsN (zs_ok S _) stOk kx3)
    have hlao : ∀ g, blockOf ao = some g → g < wr.heap.size := fun g hg => HO.out.lt hg
    have hnao : ∀ g, blockOf ao = some g → w.heap.size ≤ g := HO.out.new
    have hww : w.heap.size ≤ wr.heap.size := KL.size
    have hel : StIs (InB (ZS S w.heap.size) (w6.alloc (.cells Cy 46)) ao) (w6.alloc (.cells Cy 46)) (bareS (StD.mk x_kind x_pos x_mu x_name x_ty x_has x_place x_val x_cond x_thn x_els)) cs2 := stOk.keep _ _ _ _ _ _ _ HN.out kb (fun _ _ h => h) (fun b hb => ⟨⟨hb.1.imp id (fun h => by omega), Nat.lt_of_lt_of_le hb.2 kb.size⟩, fun q => by
      have q1 := hlao b q
      have q2 := hnao b q
      rcases hb.1 with h | h
      · have := HS.out b h; omega
      · omega⟩)
    have HEL := shut hel
    have hlt3 : w.heap.size ≤ (w6.alloc (.cells Cy 46)).heap.size := Nat.le_trans hww kx3.size
    have htl : Shut (((l.take t).map bareS).length = t) := shut (by rw [List.length_map, List.length_take, HLN.out]; omega)
    have htb : t ≤ 1000000000 := by omega
    have HNEW := shut HO.out.new
    have HBB := shut BBx
    have KX3 : Keeps (fun b => w.heap.size ≤ b) w (w6.alloc (.cells Cy 46)) := KL.trans kx3 (fun _ h _ => h.elim)
    clear hel BBx KL HO kx3 kb HN kxC
    go_wp2_with (at_builtin; rw [fillN (n := 32) rfl hsy]; refine wpList_appD _ rfl (.tmp 25) (.tmp 27) 34 rfl Try.underlying34 iaSt (by decide) (zs_ok S _) stOk t htl.out rfl HO3.out hlt3 _ _ cs2 (bareS (StD.mk x_kind x_pos x_mu x_name x_ty x_has x_place x_val x_cond x_thn x_els)) GCy.out rfl HBB.out HEL.out htb ?_)
    intro a4 c4 w7 O4 k4 m4
    have HO4 : Shut (OutR (ZS S w.heap.size) 46 32 StIs w.heap.size w7 a4 c4 ((l.take (t + 1)).map bareS)) := shut (by
      have h1 : (l.take (t + 1)).map bareS = (l.take t).map bareS ++ [bareS (StD.mk x_kind x_pos x_mu x_name x_ty x_has x_place x_val x_cond x_thn x_els)] := by rw [List.take_add_one, HX.out, List.map_append]; rfl
      rw [h1]
      first
        | exact O4
        | (rw [← List.map_take] at O4; exact O4))
    have KL4 := KX3.trans k4 (fun g hg _ => HNEW.out g hg)
    clear O4 k4 m4 KX3 HO3 HEL HBB HNEW
    go_wp2_with fail
    go_roundw
    case rel => exact ⟨t + 1, a4, c4, by go_num, rfl, by omega, KL4, HO4⟩
    case measure => (simp [intOf]; try omega)
/-- The document's bare. -/
theorem rbare_any (l : List StD) : RBareC l := by
  have key : ∀ d : StD, RBareC d.thn ∧ RBareC d.els := by
    intro d
    refine StD.ind (P := fun d => RBareC d.thn ∧ RBareC d.els) ?_ d
    intro x_kind x_pos x_mu x_name x_ty x_has x_place x_val x_cond x_thn x_els h1 h2
    exact ⟨fun w ar c hS h => rbare_of h1 w ar c hS h, fun w ar c hS h => rbare_of h2 w ar c hS h⟩
  intro S w ar c hS h
  exact rbare_of (fun e _ => key e) w ar c hS h

end Go.Proofs.Ytjbcagbnagefcaa

namespace Go.Proofs.Ytjbcagbnagefcaa
open Go.RowKit

attribute [local irreducible] wpMix wpMixB wpList
attribute [local go_sem ↓] exec_mid_ty exec_store_ty exec_mid_pl exec_store_pl exec_mid_opr exec_store_opr exec_mid_val exec_store_val exec_mid_st exec_store_st exec_mid_fld exec_store_fld exec_mid_str exec_store_str exec_mid_lif exec_store_lif exec_mid_fun exec_store_fun exec_mid_cr exec_store_cr
attribute [local go_sem ↓] exec_into_pl exec_into_opr exec_into_ty exec_into_val
attribute [local go_sem] rowOk_new World.setRow_alloc_new

/-- A crate without places, what else it has shared. -/
def CRB (S : Nat → Prop) (w : World) (d : CrD) (e : Ending) (w' : World) : Prop := ∃ cs : List Value, e = .returned (.agg cs.toArray) ∧ Keeps Nothing w w' ∧ CrIs (ZS S w.heap.size w') w' d cs

set_option maxRecDepth 100000 in
set_option linter.unusedSimpArgs false in
set_option maxHeartbeats 8000000 in
theorem rbare_crate {S : Nat → Prop} (d : CrD) (w : World) (cs : List Value) (hS : ∀ b, S b → b < w.heap.size) (h : CrIs S w d cs) : Calls Try.prog 14 #[.agg cs.toArray] w (CRB S w (bareC d)) := by
  have ag1 := agg_ok h.len h.one
  have HS := shut hS
  obtain ⟨d_structs, d_funcs⟩ := d
  obtain ⟨a0, c0, a1, c1, hcs, h0, h1⟩ := h
  simp only at hcs h0 h1
  obtain ⟨ns, hns⟩ : ∃ ns, d_structs.length = ns := ⟨_, rfl⟩
  obtain ⟨nf, hnf⟩ : ∃ nf, d_funcs.length = nf := ⟨_, rfl⟩
  rw [hns, hnf] at hcs
  have HNS := shut hns
  have HNF := shut hnf
  have HL0 := shut h0
  have HL1 := shut h1
  have hnsb : ns ≤ 100000000 := by have := h0.1; unfold bigN at this; omega
  have hnfb : nf ≤ 100000000 := by have := h1.1; unfold bigN at this; omega
  obtain ⟨C, hC⟩ : ∃ C, C = cs.toArray := ⟨_, rfl⟩
  rw [← hC] at ag1 ⊢
  rw [hcs] at hC
  have GC := shut hC
  clear hC hcs hns hnf h0 h1 hS
  have B1 := blk_alloc (blk_alloc (blk_new w C 25) (.cells #[.slice none 0 0, .slice none 0 0] 25)) (.cells #[.slice none 0 0, .slice none 0 0] 25)
  have B2 := blk_alloc (blk_new (w.alloc (.cells C 25)) #[.slice none 0 0, .slice none 0 0] 25) (.cells #[.slice none 0 0, .slice none 0 0] 25)
  have B3 := blk_new ((w.alloc (.cells C 25)).alloc (.cells #[.slice none 0 0, .slice none 0 0] 25)) #[.slice none 0 0, .slice none 0 0] 25
  have KW : Keeps Nothing w (((w.alloc (.cells C 25)).alloc (.cells #[.slice none 0 0, .slice none 0 0] 25)).alloc (.cells #[.slice none 0 0, .slice none 0 0] 25)) := (((Keeps.refl Nothing w).alloc _).alloc _).alloc _
  have hm : (((w.alloc (.cells C 25)).alloc (.cells #[.slice none 0 0, .slice none 0 0] 25)).alloc (.cells #[.slice none 0 0, .slice none 0 0] 25)).heap.size = w.heap.size + 1 + 1 + 1 := by rw [World.size_alloc, World.size_alloc, World.size_alloc]
  rw [World.size_alloc] at B2
  rw [World.size_alloc, World.size_alloc] at B3
  go_enter Try.func14, Try.ntmps14
  go_upto_region 2 with fail
  clear ag1
  generalize (((w.alloc (.cells C 25)).alloc (.cells #[.slice none 0 0, .slice none 0 0] 25)).alloc (.cells #[.slice none 0 0, .slice none 0 0] 25)) = w0 at *
  have HG1 : Shut (w.heap.size ≤ w.heap.size) := shut (Nat.le_refl _)
  have HG2 : Shut (w.heap.size ≤ w.heap.size + 1) := shut (by omega)
  have HG3 : Shut (w.heap.size ≤ w.heap.size + 1 + 1) := shut (by omega)
  have n13 : w.heap.size ≠ w.heap.size + 1 + 1 := by omega
  have n23 : w.heap.size + 1 ≠ w.heap.size + 1 + 1 := by omega
  have n12 : w.heap.size ≠ w.heap.size + 1 := by omega
  have l1 : w.heap.size < w0.heap.size := by omega
  have l2 : w.heap.size + 1 < w0.heap.size := by omega
  have l3 : w.heap.size + 1 + 1 < w0.heap.size := by omega
  have HW0 : Shut (w.heap.size ≤ w0.heap.size) := shut (by omega)
  clear hm
  obtain ⟨g1, hg1⟩ : ∃ g, w.heap.size = g := ⟨_, rfl⟩
  obtain ⟨g2, hg2⟩ : ∃ g, w.heap.size + 1 = g := ⟨_, rfl⟩
  obtain ⟨g3, hg3⟩ : ∃ g, w.heap.size + 1 + 1 = g := ⟨_, rfl⟩
  rw [hg3] at B3 HG3 n13 n23 l3 ⊢
  rw [hg2] at B2 HG2 n23 n12 l2 ⊢
  have HG1' : Shut (w.heap.size ≤ g1) := shut (Nat.le_of_eq hg1)
  rw [hg1] at B1 n13 n12 l1 ⊢
  clear HG1
  have HG1 := HG1'
  clear HG1' hg1 hg2 hg3
  have H0 : Shut (∃ (ao : Option Addr) (cap : Nat), Blk w0 g3 #[.slice ao 0 cap, .slice none 0 0] 25 ∧ OutR (ZS S w0.heap.size) 48 5 StrIs w0.heap.size w0 ao cap ((d_structs.take 0).map bareStr)) := shut ⟨none, 0, B3, outR_nil _ _ _ _ _ _⟩
  go_wp2_with fail
  go_loopw [4] (fun s4 wx => ∃ t : Nat, s4 = .int .i64 t ∧ t ≤ ns ∧ Keeps (fun b => b = g3 ∨ w0.heap.size ≤ b) w0 wx ∧ Shut (∃ (ao : Option Addr) (cap : Nat), Blk wx g3 #[.slice ao t cap, .slice none 0 0] 25 ∧ OutR (ZS S w0.heap.size) 48 5 StrIs w0.heap.size wx ao cap ((d_structs.take t).map bareStr))) (fun s4 _ => ns - (intOf s4).toNat)
  case atStart => exact ⟨0, rfl, Nat.zero_le _, Keeps.refl _ _, H0⟩
  case round =>
    obtain ⟨t, rfl, ht, KL, HO⟩ := hrel
    clear H0
    obtain ⟨ao, cap, B3r, HO⟩ := HO.out
    have HO := shut HO
    have k0r : Keeps Nothing w wr := KW.trans KL (fun b hb hlt => by rcases hb with rfl | hb; have := HG3.out; omega; have := HW0.out; omega)
    have B1r := KL.blk B1 (fun q => by rcases q with q | q; exact n13 q; omega)
    have c10 := blk_cell B1r 0 (v := .slice a0 ns c0) (by rw [GC.out]; rfl)
    by_cases hlt : t < ns
    · have m0 : (0 : Int) ≤ t := by omega
      have m1 : (t : Int) < ns := by omega
      obtain ⟨x, hx⟩ : ∃ x, d_structs[t]? = some x := ⟨_, List.getElem?_eq_getElem (by rw [HNS.out]; exact hlt)⟩
      obtain ⟨gl, ol, rfl, -, cs, hl1, r1, i1⟩ := HL0.out.get hx
      have HX := shut hx
      clear hx
      have r1w : wr.rangeAt gl (ol + t * 5) cs := fun j v hj => k0r.cell (r1 j v hj) (fun h => h)
      have hk := midOk_range r1w
      have ho := midOf_range r1w
      rw [hl1] at hk ho
      have ag2 := agg_ok hl1 i1.one
      obtain ⟨b2, d2, b3, d3, hcs2, hxn, q2, q3⟩ := i1
      unfold txV at hcs2
      have kx1 : Keeps Nothing wr (wr.alloc (.cells cs.toArray 48)) := (Keeps.refl Nothing wr).alloc _
      have BX := blk_new wr cs.toArray 48
      have hw01 : wr.heap.size ≤ (wr.alloc (.cells cs.toArray 48)).heap.size := kx1.size
      obtain ⟨Cx, hCx⟩ : ∃ Cx, cs.toArray = Cx := ⟨_, rfl⟩
      have GX : Shut (Cx = #[.bool x.pub, .string ⟨x.name.toArray⟩, .slice b2 x.lives.length d2, .slice b3 x.fields.length d3, .int .i64 x.pos]) := shut (by rw [← hCx, hcs2])
      rw [hCx] at BX kx1 ho ag2 hw01
      clear hCx hcs2 r1 r1w hl1
      go_upto_region 6 with fail
      clear hk ho ag2
      generalize wr.alloc (.cells Cx 48) = w1 at *
      have hgx := lt_of_block BX
      obtain ⟨gx, hgx0⟩ : ∃ gx, wr.heap.size = gx := ⟨_, rfl⟩
      have HGX : Shut (wr.heap.size ≤ gx) := shut (Nat.le_of_eq hgx0)
      have hg3r : g3 < wr.heap.size := lt_of_block B3r
      rw [hgx0] at BX hgx hg3r ⊢
      clear hgx0
      have c4 := blk_cell BX 4 (v := .int .i64 x.pos) (by rw [GX.out]; rfl)
      have f4 := blk_free BX 4
      have BX4 : Blk (w1.setCell ⟨gx, 4, none⟩ (.int .i64 0)) gx #[.bool x.pub, .string ⟨x.name.toArray⟩, .slice b2 x.lives.length d2, .slice b3 x.fields.length d3, .int .i64 0] 48 := by
        have h9 := blk_set BX 4 (.int .i64 0)
        have e9 : Cx.setIfInBounds 4 (.int .i64 0) = #[.bool x.pub, .string ⟨x.name.toArray⟩, .slice b2 x.lives.length d2, .slice b3 x.fields.length d3, .int .i64 0] := by rw [GX.out]; rfl
        rwa [e9] at h9
      have kx : Keeps Nothing wr (w1.setCell ⟨gx, 4, none⟩ (.int .i64 0)) := kx1.setCell (p := ⟨gx, 4, none⟩) (fun h => absurd h (Nat.not_lt.2 HGX.out)) _
      have kw : Keeps Nothing w (w1.setCell ⟨gx, 4, none⟩ (.int .i64 0)) := k0r.trans kx (fun _ h _ => h)
      have hw12 : w1.heap.size ≤ (w1.setCell ⟨gx, 4, none⟩ (.int .i64 0)).heap.size := by rw [World.size_setCell]; exact Nat.le_refl _
      have hN3 : StrIs (ZS S w1.heap.size (w1.setCell ⟨gx, 4, none⟩ (.int .i64 0))) (w1.setCell ⟨gx, 4, none⟩ (.int .i64 0)) (bareStr x) ([.bool x.pub, .string ⟨x.name.toArray⟩, .slice b2 x.lives.length d2, .slice b3 x.fields.length d3, .int .i64 0] : List Value) := by
        have hS2 : ∀ b, S b → ZS S w1.heap.size (w1.setCell ⟨gx, 4, none⟩ (.int .i64 0)) b := fun b hb => ⟨.inl hb, Nat.lt_of_lt_of_le (HS.out b hb) kw.size⟩
        exact ⟨b2, d2, b3, d3, rfl, hxn, q2.keeps kw (fun _ _ h => h) hS2 (fun _ _ _ h => h), q3.keeps kw (fun _ _ h => h) hS2 (fun _ _ _ h => h.keeps kw (fun _ _ h => h) hS2)⟩
      have HN := shut hN3
      clear hN3 q2 q3 hxn kw
      go_upto_region 7 with fail
      any_goals try (rename_i hfz; simp [f4] at hfz; done)
      clear c4 f4 kx1 BX GX
      generalize w1.setCell ⟨gx, 4, none⟩ (.int .i64 0) = w3 at *
      have B3w := kx.blk B3r (fun h => h)
      have c30 := blk_cell B3w 0 (v := .slice ao t cap) rfl
      obtain ⟨z1, z2⟩ := tblk_mid BX4 (n := 5) rfl
      have BB := blk_new w3 #[.bool x.pub, .string ⟨x.name.toArray⟩, .slice b2 x.lives.length d2, .slice b3 x.fields.length d3, .int .i64 0] 48
      have kb : Keeps Nothing w3 (w3.alloc (.cells #[.bool x.pub, .string ⟨x.name.toArray⟩, .slice b2 x.lives.length d2, .slice b3 x.fields.length d3, .int .i64 0] 48)) := (Keeps.refl Nothing w3).alloc _
      have kx3 := kx.trans kb (fun _ h _ => h)
      have HO3 := shut (HO.out.keepsN (zs_ok S _) strOk kx3)
      have hWr : w0.heap.size ≤ wr.heap.size := KL.size
      have hlao : ∀ g, blockOf ao = some g → g < wr.heap.size := fun g hg => HO.out.lt hg
      have hel : StrIs (InB (ZS S w0.heap.size) (w3.alloc (.cells #[.bool x.pub, .string ⟨x.name.toArray⟩, .slice b2 x.lives.length d2, .slice b3 x.fields.length d3, .int .i64 0] 48)) ao) (w3.alloc (.cells #[.bool x.pub, .string ⟨x.name.toArray⟩, .slice b2 x.lives.length d2, .slice b3 x.fields.length d3, .int .i64 0] 48)) (bareStr x) ([.bool x.pub, .string ⟨x.name.toArray⟩, .slice b2 x.lives.length d2, .slice b3 x.fields.length d3, .int .i64 0] : List Value) := strOk.keep _ _ _ _ _ _ _ HN.out kb (fun _ _ h => h) (fun b hb => ⟨⟨hb.1.imp id (fun h => Nat.le_trans (Nat.le_trans hWr hw01) h), Nat.lt_of_lt_of_le hb.2 kb.size⟩, fun q => by
        have q1 := hlao b q
        have q2 := HO.out.new b q
        have q3 := HW0.out
        rcases hb.1 with h | h
        · have := HS.out b h; omega
        · omega⟩)
      have HEL := shut hel
      have hlt4 : w0.heap.size ≤ (w3.alloc (.cells #[.bool x.pub, .string ⟨x.name.toArray⟩, .slice b2 x.lives.length d2, .slice b3 x.fields.length d3, .int .i64 0] 48)).heap.size := Nat.le_trans (Nat.le_trans (Nat.le_trans hWr hw01) hw12) kb.size
      have htl : Shut (((d_structs.take t).map bareStr).length = t) := shut (by rw [List.length_map, List.length_take, HNS.out]; omega)
      have htb : t ≤ 1000000000 := by omega
      have HNEW := shut HO.out.new
      have HBB := shut BB
      have KX3 : Keeps (fun b => b = g3 ∨ w0.heap.size ≤ b) w0 (w3.alloc (.cells #[.bool x.pub, .string ⟨x.name.toArray⟩, .slice b2 x.lives.length d2, .slice b3 x.fields.length d3, .int .i64 0] 48)) := KL.trans kx3 (fun _ h _ => h.elim)
      have B3x := kb.blk B3w (fun h => h)
      clear hel BB KL HO kx3 kb HN
      go_wp2_with (at_builtin; refine wpList_appD _ rfl (.tmp 22) (.tmp 24) 22 rfl Try.underlying22 iaStr (by decide) (zs_ok S _) strOk t htl.out rfl HO3.out hlt4 _ _ ([.bool x.pub, .string ⟨x.name.toArray⟩, .slice b2 x.lives.length d2, .slice b3 x.fields.length d3, .int .i64 0] : List Value) (bareStr x) rfl rfl HBB.out HEL.out htb ?_)
      intro a4 c4 w4 O4 k4 m4
      have hg3n : ¬ blockOf ao = some g3 := fun q => by have := HNEW.out g3 q; omega
      have B3y := k4.blk B3x hg3n
      have c3y := blk_cell B3y 0 (v := .slice ao t cap) rfl
      have f3y := blk_free B3y 0
      have k5 : Keeps (fun b => b = g3) w4 (w4.setCell ⟨g3, 0, none⟩ (.slice a4 (t + 1) c4)) := (Keeps.refl (fun b => b = g3) w4).setCell (p := ⟨g3, 0, none⟩) (fun _ => rfl) _
      have B3z : Blk (w4.setCell ⟨g3, 0, none⟩ (.slice a4 (t + 1) c4)) g3 #[.slice a4 (t + 1) c4, .slice none 0 0] 25 := blk_set B3y 0 (.slice a4 (t + 1) c4)
      have O5 : OutR (ZS S w0.heap.size) 48 5 StrIs w0.heap.size (w4.setCell ⟨g3, 0, none⟩ (.slice a4 (t + 1) c4)) a4 c4 ((d_structs.take (t + 1)).map bareStr) := by
        have h1 : (d_structs.take (t + 1)).map bareStr = (d_structs.take t).map bareStr ++ [bareStr x] := by rw [List.take_add_one, HX.out, List.map_append]; rfl
        rw [h1]
        have h2 := O4.keeps (zs_ok S _) strOk k5 (fun b hb q => by
          have hq : b = g3 := q
          have q3 := HG3.out
          rcases hb.1 with h | h
          · have := HS.out b h; omega
          · omega) (fun g hg q => by have hq : g = g3 := q; have := O4.new g hg; omega)
        first
          | exact h2
          | (rw [← List.map_take] at h2; exact h2)
      have KL4 := (KX3.trans k4 (fun g hg _ => .inr (HNEW.out g hg))).trans k5 (fun g hg _ => .inl hg)
      have HF : Shut (∃ (ao : Option Addr) (cap : Nat), Blk (w4.setCell ⟨g3, 0, none⟩ (.slice a4 (t + 1) c4)) g3 #[.slice ao (t + 1) cap, .slice none 0 0] 25 ∧ OutR (ZS S w0.heap.size) 48 5 StrIs w0.heap.size (w4.setCell ⟨g3, 0, none⟩ (.slice a4 (t + 1) c4)) ao cap ((d_structs.take (t + 1)).map bareStr)) := shut ⟨a4, c4, B3z, O5⟩
      clear O4 O5 k4 m4 KX3 HO3 HEL HBB HNEW k5 B3z
      go_wp2_with fail
      any_goals try (rename_i hfz; simp [f3y] at hfz; done)
      go_roundw
      case rel => exact ⟨t + 1, by go_num, by omega, KL4, HF⟩
      case measure => (simp [intOf]; try omega)
    obtain rfl : t = ns := by omega
    have m1 : ¬ (t : Int) < t := by omega
    obtain ⟨wS, rfl⟩ : ∃ wS, wS = wr := ⟨_, rfl⟩
    have HOS : Shut (OutR (ZS S w0.heap.size) 48 5 StrIs w0.heap.size wS ao cap (d_structs.map bareStr)) := shut (by have := HO.out; rwa [List.take_of_length_le (Nat.le_of_eq HNS.out)] at this)
    have B1S := B1r
    have B2S := KL.blk B2 (fun q => by rcases q with q | q; exact n23 q; omega)
    have l3S : g3 < wS.heap.size := lt_of_block B3r
    have l2S : g2 < wS.heap.size := lt_of_block B2S
    have l1S : g1 < wS.heap.size := lt_of_block B1S
    have hw0S : w0.heap.size ≤ wS.heap.size := KL.size
    have HWS : Shut (w.heap.size ≤ wS.heap.size) := shut (Nat.le_trans HW0.out hw0S)
    have HWW0 := HW0
    have l02 : Shut (g2 < w0.heap.size) := shut l2
    have l03 : Shut (g3 < w0.heap.size) := shut l3
    have H0 : Shut (∃ (ao2 : Option Addr) (cap2 : Nat), Blk wS g3 #[.slice ao t cap, .slice ao2 0 cap2] 25 ∧ OutR (ZS S wS.heap.size) 36 10 FunIs wS.heap.size wS ao2 cap2 ((d_funcs.take 0).map bareF)) := shut ⟨none, 0, B3r, outR_nil _ _ _ _ _ _⟩
    have KW := k0r
    clear HO KL B1 B2 B3 l1 l2 k0r B3r B1r HW0
    have HW0 := HWS
    go_wp2_with fail
    go_loopw [6] (fun s6 wx => ∃ t2 : Nat, s6 = .int .i64 t2 ∧ t2 ≤ nf ∧ Keeps (fun b => b = g3 ∨ wS.heap.size ≤ b) wS wx ∧ Shut (∃ (ao2 : Option Addr) (cap2 : Nat), Blk wx g3 #[.slice ao t cap, .slice ao2 t2 cap2] 25 ∧ OutR (ZS S wS.heap.size) 36 10 FunIs wS.heap.size wx ao2 cap2 ((d_funcs.take t2).map bareF))) (fun s6 _ => nf - (intOf s6).toNat)
    case atStart => exact ⟨0, rfl, Nat.zero_le _, Keeps.refl _ _, H0⟩
    case round =>
      obtain ⟨t2, rfl, ht2, KL, HO⟩ := hrel
      clear H0 c10
      obtain ⟨ao2, cap2, B3r, HO⟩ := HO.out
      have HO := shut HO
      have k0r : Keeps Nothing w wr := KW.trans KL (fun b hb hlt => by rcases hb with rfl | hb; have := HG3.out; omega; have := HWS.out; omega)
      have B1r := KL.blk B1S (fun q => by rcases q with q | q; exact n13 q; omega)
      have c11 := blk_cell B1r 1 (v := .slice a1 nf c1) (by rw [GC.out]; rfl)
      by_cases hlt2 : t2 < nf
      · have m0 : (0 : Int) ≤ t2 := by omega
        have m2 : (t2 : Int) < nf := by omega
        obtain ⟨x, hx⟩ : ∃ x, d_funcs[t2]? = some x := ⟨_, List.getElem?_eq_getElem (by rw [HNF.out]; exact hlt2)⟩
        obtain ⟨gl, ol, rfl, -, cs, hl1, r1, i1⟩ := HL1.out.get hx
        have HX := shut hx
        clear hx
        have r1w : wr.rangeAt gl (ol + t2 * 10) cs := fun j v hj => k0r.cell (r1 j v hj) (fun h => h)
        have hk := midOk_range r1w
        have ho := midOf_range r1w
        rw [hl1] at hk ho
        have ag2 := agg_ok hl1 i1.one
        obtain ⟨b2, d2, b3, d3, s4, b8, d8, hcs2, hxn, q2, q3, q4, q8⟩ := i1
        have al_ty := q4.len
        unfold txV at hcs2
        obtain ⟨nb, hnb⟩ : ∃ nb, x.body.length = nb := ⟨_, rfl⟩
        rw [hnb] at hcs2
        have HNB := shut hnb
        have Q2 := shut q2
        have Q3 := shut q3
        have Q4 := shut q4
        have Q8 := shut q8
        have HXN := shut hxn
        have kx1 : Keeps Nothing wr (wr.alloc (.cells cs.toArray 36)) := (Keeps.refl Nothing wr).alloc _
        have BX := blk_new wr cs.toArray 36
        have hw01 : wr.heap.size ≤ (wr.alloc (.cells cs.toArray 36)).heap.size := kx1.size
        obtain ⟨Cx, hCx⟩ : ∃ Cx, cs.toArray = Cx := ⟨_, rfl⟩
        have GX : Shut (Cx = (([.bool x.pub, .string ⟨x.name.toArray⟩, .slice b2 x.lives.length d2, .slice b3 x.params.length d3] : List Value) ++ s4 ++ ([.slice b8 nb d8, .int .i64 x.pos] : List Value)).toArray) := shut (by rw [← hCx, hcs2])
        rw [hCx] at BX kx1 ho ag2 hw01
        clear hCx hcs2 hnb r1 r1w hl1 q2 q3 q4 q8 hxn
        go_upto_region 12 with fail
        clear hk ho ag2
        generalize wr.alloc (.cells Cx 36) = w1 at *
        have hgx := lt_of_block BX
        obtain ⟨gx, hgx0⟩ : ∃ gx, wr.heap.size = gx := ⟨_, rfl⟩
        have HGX : Shut (wr.heap.size ≤ gx) := shut (Nat.le_of_eq hgx0)
        have hg3r : g3 < wr.heap.size := lt_of_block B3r
        have hwgx : w.heap.size ≤ gx := by rw [← hgx0]; exact Nat.le_trans HWS.out KL.size
        rw [hgx0] at BX hgx hg3r ⊢
        clear hgx0
        obtain ⟨-, -, -, -, -, -, c9⟩ := FunB al_ty GX.out BX
        have f9 := blk_free BX 9
        have BX4 : Blk (w1.setCell ⟨gx, 9, none⟩ (.int .i64 0)) gx (([.bool x.pub, .string ⟨x.name.toArray⟩, .slice b2 x.lives.length d2, .slice b3 x.params.length d3] : List Value) ++ s4 ++ ([.slice b8 nb d8, .int .i64 0] : List Value)).toArray 36 := by
          have e1 : (([.bool x.pub, .string ⟨x.name.toArray⟩, .slice b2 x.lives.length d2, .slice b3 x.params.length d3] : List Value) ++ s4 ++ ([.slice b8 nb d8, .int .i64 0] : List Value)) = (([.bool x.pub, .string ⟨x.name.toArray⟩, .slice b2 x.lives.length d2, .slice b3 x.params.length d3] : List Value) ++ s4 ++ ([.slice b8 nb d8] : List Value)) ++ (.int .i64 0 :: []) := by simp
          rw [e1]
          exact box_set (v := .int .i64 x.pos) BX (by rw [GX.out]; simp) (by simp [al_ty])
        have kxT : Keeps Nothing wr (w1.setCell ⟨gx, 9, none⟩ (.int .i64 0)) := kx1.setCell (p := ⟨gx, 9, none⟩) (fun h => absurd h (Nat.not_lt.2 HGX.out)) _
        have hwT : w1.heap.size ≤ (w1.setCell ⟨gx, 9, none⟩ (.int .i64 0)).heap.size := by rw [World.size_setCell]; exact Nat.le_refl _
        go_upto_region 13 with fail
        any_goals try (rename_i hfz; simp [f9] at hfz; done)
        clear c9 f9 BX kx1 GX
        generalize w1.setCell ⟨gx, 9, none⟩ (.int .i64 0) = wT at *
        have KWT := k0r.trans kxT (fun _ h _ => h)
        obtain ⟨-, -, -, -, -, c8, -⟩ := FunB al_ty rfl BX4
        have hba := rbare_any x.body wT b8 d8 (fun b hb => Nat.lt_of_lt_of_le (HS.out b hb) KWT.size) (Q8.out.keeps (S' := S) (Q := StIs S wT) KWT (fun _ _ h => h) (fun _ h => h) (fun _ _ _ h => h.keeps KWT (fun _ _ h => h) (fun _ h => h)))
        rw [HNB.out] at hba
        go_wp2_with fail
        refine hba.mono ?_
        rintro e w2 ⟨b9, d9, rfl, k2, hR⟩
        rw [HNB.out]
        have BX5 := k2.blk BX4 (fun h => h)
        obtain ⟨-, -, -, -, -, c8b, -⟩ := FunB al_ty rfl BX5
        have f8 := blk_free BX5 8
        have BX6 : Blk (w2.setCell ⟨gx, 8, none⟩ (.slice b9 nb d9)) gx (([.bool x.pub, .string ⟨x.name.toArray⟩, .slice b2 x.lives.length d2, .slice b3 x.params.length d3] : List Value) ++ s4 ++ ([.slice b9 nb d9, .int .i64 0] : List Value)).toArray 36 := by
          have e1 : ∀ v : Value, (([.bool x.pub, .string ⟨x.name.toArray⟩, .slice b2 x.lives.length d2, .slice b3 x.params.length d3] : List Value) ++ s4 ++ ([v, .int .i64 0] : List Value)) = (([.bool x.pub, .string ⟨x.name.toArray⟩, .slice b2 x.lives.length d2, .slice b3 x.params.length d3] : List Value) ++ s4) ++ (v :: [.int .i64 0]) := fun v => by simp
          rw [e1]
          exact box_set (v := .slice b8 nb d8) BX5 (by rw [e1]) (by simp [al_ty])
        have k2C : Keeps (fun b => b = gx) w2 (w2.setCell ⟨gx, 8, none⟩ (.slice b9 nb d9)) := (Keeps.refl (fun b => b = gx) w2).setCell (p := ⟨gx, 8, none⟩) (fun _ => rfl) _
        have kx : Keeps Nothing wr (w2.setCell ⟨gx, 8, none⟩ (.slice b9 nb d9)) := (kxT.trans k2 (fun _ h _ => h)).setCell (p := ⟨gx, 8, none⟩) (fun h => absurd h (Nat.not_lt.2 HGX.out)) _
        have KWC : Keeps Nothing w (w2.setCell ⟨gx, 8, none⟩ (.slice b9 nb d9)) := k0r.trans kx (fun _ h _ => h)
        have hw12 : w1.heap.size ≤ (w2.setCell ⟨gx, 8, none⟩ (.slice b9 nb d9)).heap.size := Nat.le_trans (Nat.le_trans hwT k2.size) k2C.size
        obtain ⟨cz, hcz⟩ : ∃ cz, (([.bool x.pub, .string ⟨x.name.toArray⟩, .slice b2 x.lives.length d2, .slice b3 x.params.length d3] : List Value) ++ s4 ++ ([.slice b9 nb d9, .int .i64 0] : List Value)) = cz := ⟨_, rfl⟩
        have hlz : cz.length = 10 := by rw [← hcz]; simp [al_ty]
        have hN : FunIs (ZS S w1.heap.size (w2.setCell ⟨gx, 8, none⟩ (.slice b9 nb d9))) (w2.setCell ⟨gx, 8, none⟩ (.slice b9 nb d9)) (bareF x) cz := by
          have hS2 : ∀ b, S b → ZS S w1.heap.size (w2.setCell ⟨gx, 8, none⟩ (.slice b9 nb d9)) b := fun b hb => ⟨.inl hb, Nat.lt_of_lt_of_le (HS.out b hb) KWC.size⟩
          have t1 : ∀ b, ZS S wT.heap.size w2 b → ¬ b = gx := fun b hb q => by
            rcases hb.1 with h | h
            · have := HS.out b h; omega
            · omega
          have t2 : ∀ b, ZS S wT.heap.size w2 b → ZS S w1.heap.size (w2.setCell ⟨gx, 8, none⟩ (.slice b9 nb d9)) b := fun b hb => ⟨hb.1.imp id (fun h => Nat.le_trans hwT h), Nat.lt_of_lt_of_le hb.2 k2C.size⟩
          refine ⟨b2, d2, b3, d3, s4, b9, d9, ?_, HXN.out, Q2.out.keeps KWC (fun _ _ h => h) hS2 (fun _ _ _ h => h.keeps KWC (fun _ _ h => h) hS2), Q3.out.keeps KWC (fun _ _ h => h) hS2 (fun _ _ _ h => h.keeps KWC (fun _ _ h => h) hS2), Q4.out.keeps KWC (fun _ _ h => h) hS2, hR.keeps k2C t1 t2 (fun _ _ _ h => h.keeps k2C t1 t2)⟩
          rw [← hcz]
          show _ = ([.bool x.pub, txV x.name, .slice b2 x.lives.length d2, .slice b3 x.params.length d3] : List Value) ++ s4 ++ [.slice b9 (bareL x.body).length d9, .int .i64 0]
          rw [bareL_len, HNB.out]
          rfl
        rw [hcz] at BX6
        have agz := agg_ok hlz hN.one
        have HN := shut hN
        obtain ⟨Cz, hCz⟩ : ∃ Cz, Cz = cz.toArray := ⟨_, rfl⟩
        rw [← hCz] at BX6 agz
        have hsz : Cz.size = 10 := by rw [hCz]; simpa using hlz
        have GCz := shut hCz
        clear hba hR hN hcz hCz k2 k2C KWC KWT kxT BX4 BX5 c8 hlz
        go_upto_region 14 with fail
        any_goals try (rename_i hfz; simp [f8] at hfz; done)
        clear c8b f8
        generalize w2.setCell ⟨gx, 8, none⟩ (.slice b9 nb d9) = w3 at *
        have B3w := kx.blk B3r (fun h => h)
        have c30 := blk_cell B3w 1 (v := .slice ao2 t2 cap2) rfl
        obtain ⟨z1, z2⟩ := tblk_mid BX6 hsz
        have BB := blk_new w3 Cz 36
        have kb : Keeps Nothing w3 (w3.alloc (.cells Cz 36)) := (Keeps.refl Nothing w3).alloc _
        have kx3 := kx.trans kb (fun _ h _ => h)
        have HO3 := shut (HO.out.keepsN (zs_ok S _) funOk kx3)
        have hWr : wS.heap.size ≤ wr.heap.size := KL.size
        have hlao : ∀ g, blockOf ao2 = some g → g < wr.heap.size := fun g hg => HO.out.lt hg
        have hel : FunIs (InB (ZS S wS.heap.size) (w3.alloc (.cells Cz 36)) ao2) (w3.alloc (.cells Cz 36)) (bareF x) cz := funOk.keep _ _ _ _ _ _ _ HN.out kb (fun _ _ h => h) (fun b hb => ⟨⟨hb.1.imp id (fun h => Nat.le_trans (Nat.le_trans hWr hw01) h), Nat.lt_of_lt_of_le hb.2 kb.size⟩, fun q => by
          have q1 := hlao b q
          have q2 := HO.out.new b q
          have q3 := HW0.out
          rcases hb.1 with h | h
          · have := HS.out b h; omega
          · omega⟩)
        have HEL := shut hel
        have hlt4 : wS.heap.size ≤ (w3.alloc (.cells Cz 36)).heap.size := Nat.le_trans (Nat.le_trans (Nat.le_trans hWr hw01) hw12) kb.size
        have htl : Shut (((d_funcs.take t2).map bareF).length = t2) := shut (by rw [List.length_map, List.length_take, HNF.out]; omega)
        have htb : t2 ≤ 1000000000 := by omega
        have HNEW := shut HO.out.new
        have HBB := shut BB
        have KX3 : Keeps (fun b => b = g3 ∨ wS.heap.size ≤ b) wS (w3.alloc (.cells Cz 36)) := KL.trans kx3 (fun _ h _ => h.elim)
        have B3x := kb.blk B3w (fun h => h)
        clear hel BB KL HO kx3 kb HN
        go_wp2_with (at_builtin; rw [fillN (n := 10) rfl hsz]; refine wpList_appD _ rfl (.tmp 45) (.tmp 47) 23 rfl Try.underlying23 iaFun (by decide) (zs_ok S _) funOk t2 htl.out rfl HO3.out hlt4 _ _ cz (bareF x) GCz.out rfl HBB.out HEL.out htb ?_)
        intro a4 c4 w4 O4 k4 m4
        have hg3n : ¬ blockOf ao2 = some g3 := fun q => by have := HNEW.out g3 q; omega
        have B3y := k4.blk B3x hg3n
        have c3y := blk_cell B3y 1 (v := .slice ao2 t2 cap2) rfl
        have f3y := blk_free B3y 1
        have k5 : Keeps (fun b => b = g3) w4 (w4.setCell ⟨g3, 1, none⟩ (.slice a4 (t2 + 1) c4)) := (Keeps.refl (fun b => b = g3) w4).setCell (p := ⟨g3, 1, none⟩) (fun _ => rfl) _
        have B3z : Blk (w4.setCell ⟨g3, 1, none⟩ (.slice a4 (t2 + 1) c4)) g3 #[.slice ao t cap, .slice a4 (t2 + 1) c4] 25 := blk_set B3y 1 (.slice a4 (t2 + 1) c4)
        have O5 : OutR (ZS S wS.heap.size) 36 10 FunIs wS.heap.size (w4.setCell ⟨g3, 1, none⟩ (.slice a4 (t2 + 1) c4)) a4 c4 ((d_funcs.take (t2 + 1)).map bareF) := by
          have h1 : (d_funcs.take (t2 + 1)).map bareF = (d_funcs.take t2).map bareF ++ [bareF x] := by rw [List.take_add_one, HX.out, List.map_append]; rfl
          rw [h1]
          have h2 := O4.keeps (zs_ok S _) funOk k5 (fun b hb q => by
            have hq : b = g3 := q
            have q3 := HG3.out
            rcases hb.1 with h | h
            · have := HS.out b h; omega
            · omega) (fun g hg q => by have hq : g = g3 := q; have := O4.new g hg; omega)
          first
            | exact h2
            | (rw [← List.map_take] at h2; exact h2)
        have KL4 := (KX3.trans k4 (fun g hg _ => .inr (HNEW.out g hg))).trans k5 (fun g hg _ => .inl hg)
        have HF : Shut (∃ (ao2 : Option Addr) (cap2 : Nat), Blk (w4.setCell ⟨g3, 1, none⟩ (.slice a4 (t2 + 1) c4)) g3 #[.slice ao t cap, .slice ao2 (t2 + 1) cap2] 25 ∧ OutR (ZS S wS.heap.size) 36 10 FunIs wS.heap.size (w4.setCell ⟨g3, 1, none⟩ (.slice a4 (t2 + 1) c4)) ao2 cap2 ((d_funcs.take (t2 + 1)).map bareF)) := shut ⟨a4, c4, B3z, O5⟩
        clear O4 O5 k4 m4 KX3 HO3 HEL HBB HNEW k5 B3z
        go_wp2_with fail
        any_goals try (rename_i hfz; simp [f3y] at hfz; done)
        go_roundw
        case rel => exact ⟨t2 + 1, by go_num, by omega, KL4, HF⟩
        case measure => (simp [intOf]; try omega)
      obtain rfl : t2 = nf := by omega
      have m2 : ¬ (t2 : Int) < t2 := by omega
      have HOF : Shut (OutR (ZS S wS.heap.size) 36 10 FunIs wS.heap.size wr ao2 cap2 (d_funcs.map bareF)) := shut (by have := HO.out; rwa [List.take_of_length_le (Nat.le_of_eq HNF.out)] at this)
      have B2r := KL.blk B2S (fun q => by rcases q with q | q; exact n23 q; omega)
      obtain ⟨z1, z2⟩ := tblk_mid B3r (n := 2) rfl
      have y3 := rowOk_blk B2r (n := 2) rfl
      have agf : aggOk 2 (.agg #[.slice ao t cap, .slice ao2 t2 cap2]) = true := by simp [aggOk, Value.oneCell']
      have KF : Keeps Nothing w (wr.setRow g2 #[.slice ao t cap, .slice ao2 t2 cap2]) := k0r.setRow (g := g2) (fun h => absurd h (Nat.not_lt.2 HG2.out)) _
      have K2 : Keeps (fun b => b = g2) wr (wr.setRow g2 #[.slice ao t cap, .slice ao2 t2 cap2]) := (Keeps.refl (fun b => b = g2) wr).setRow (g := g2) (fun _ => rfl) _
      have hfin : CRB S w (bareC ⟨d_structs, d_funcs⟩) (.returned (.agg #[.slice ao t cap, .slice ao2 t2 cap2])) (wr.setRow g2 #[.slice ao t cap, .slice ao2 t2 cap2]) := by
        have KSf : Keeps (fun b => b = g2 ∨ b = g3 ∨ wS.heap.size ≤ b) wS (wr.setRow g2 #[.slice ao t cap, .slice ao2 t2 cap2]) := (KL.mono (S' := fun b => b = g2 ∨ b = g3 ∨ wS.heap.size ≤ b) (fun b hb _ => .inr hb)).trans K2 (fun b hb _ => .inl hb)
        have hT : ∀ b, ZS S w0.heap.size wS b → ¬ (b = g2 ∨ b = g3 ∨ wS.heap.size ≤ b) := fun b hb q => by
          have h2 := hb.2
          have h3 := l02.out
          have h4 := l03.out
          have h5 := HG2.out
          have h6 := HG3.out
          rcases hb.1 with h | h
          · have := HS.out b h; omega
          · omega
        have hT2 : ∀ b, ZS S wS.heap.size wr b → ¬ b = g2 := fun b hb q => by
          have h5 := HG2.out
          rcases hb.1 with h | h
          · have := HS.out b h; omega
          · omega
        have o1 := HOS.out.keeps (zs_ok S _) strOk KSf hT (fun g hg q => by have h1 := HOS.out.new g hg; have h2 := HOS.out.lt hg; have h3 := l02.out; have h4 := l03.out; omega)
        have o2 := HOF.out.keeps (zs_ok S _) funOk K2 hT2 (fun g hg q => by have hq : g = g2 := q; have := HOF.out.new g hg; omega)
        refine ⟨[.slice ao t cap, .slice ao2 t2 cap2], rfl, KF, ao, cap, ao2, cap2, ?_, ?_, ?_⟩
        · show _ = [Value.slice ao (d_structs.map bareStr).length cap, .slice ao2 (d_funcs.map bareF).length cap2]
          rw [List.length_map, List.length_map, HNS.out, HNF.out]
        · exact o1.sl strOk (fun b hb => ⟨hb.1.imp id (fun h => Nat.le_trans HWW0.out h), hb.2⟩) (fun g hg => ⟨.inr (Nat.le_trans HWW0.out (o1.new g hg)), o1.lt hg⟩) (by show (d_structs.map bareStr).length ≤ bigN; rw [List.length_map, HNS.out]; unfold bigN; omega)
        · exact o2.sl funOk (fun b hb => ⟨hb.1.imp id (fun h => Nat.le_trans HWS.out h), hb.2⟩) (fun g hg => ⟨.inr (Nat.le_trans HWS.out (o2.new g hg)), o2.lt hg⟩) (by show (d_funcs.map bareF).length ≤ bigN; rw [List.length_map, HNF.out]; unfold bigN; omega)
      have HF := shut hfin
      have BF := blk_setRow (cs := #[.slice ao t cap, .slice ao2 t2 cap2]) B2r
      clear hfin HO HOF HOS KF K2 KL k0r KW
      go_wp2_with fail
      refine bodyPost_ret (v := .agg #[.slice ao t cap, .slice ao2 t2 cap2]) (results_cell_row rfl _ _ g2 _ _ (0, 0) _ rfl BF Try.underlying25 rfl (by rw [infoCr]; rfl)) rfl ?_
      exact HF.out


end Go.Proofs.Ytjbcagbnagefcaa
