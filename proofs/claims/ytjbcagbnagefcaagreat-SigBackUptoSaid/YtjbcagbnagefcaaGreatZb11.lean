/- Sig14 Sig6 Sig15 -/
import Derived.Test.YtjbcagbnagefcaaGreatZb10
namespace Go.Proofs.YtjbcagbnagefcaaGreat
open Go.RowKit
attribute [local go_sem ↓] exec_mid_ty exec_store_ty exec_mid_pl exec_store_pl exec_mid_opr exec_store_opr exec_mid_val exec_store_val exec_mid_st exec_store_st exec_mid_fld exec_store_fld exec_mid_str exec_store_str exec_mid_lif exec_store_lif exec_mid_fun exec_store_fun exec_mid_cr exec_store_cr
attribute [local go_sem] rowOk_new World.setRow_alloc_new
attribute [local go_sem ↓] exec_into_pl exec_into_opr exec_into_ty exec_into_val
def HeadP (f : FunD) : Prop := f.pub = true ∧ f.pos = 0 ∧ f.body = [] ∧ FunP f
def GFun (w : World) (g p : Nat) (ao : Option Addr) (cap : Nat) (bs : List UInt8) (st : Option Nat) (e : Ending) (w' : World) : Prop :=
 ∃ (z : FunD) (cs : List Value) (st' : Option Nat), e = .returned (.agg cs.toArray) ∧ FunIs (NewA w.heap.size w') w' z cs ∧ Gt w' g p ao cap bs st' ∧ Keeps (GF g p) w w' ∧ ∀ f, HeadP f → Got bs st (encFun f) (z = f) st'
theorem got_mark {bs : List UInt8} {st st' : Option Nat} {z : Nat} (h : ∀ n, n ≤ 1 → Got bs st (encU n) (z = n) st') (m : Bool) : Got bs st [if m then 1 else 0] (decide ((z : Int) = 1) = m) st' := by
 cases m
 ·have := h 0 (by omega)
  rw [encU_lt (by decide)] at this
  exact this.mono (fun q => by subst q; rfl)
 ·have := h 1 (by omega)
  rw [encU_lt (by decide)] at this
  exact this.mono (fun q => by subst q; rfl)
set_option maxRecDepth 100000 in
set_option linter.unusedSimpArgs false in
set_option maxHeartbeats 8000000 in
theorem gfun_any {w : World} {g p : Nat} {ao : Option Addr} {cap : Nat} {bs : List UInt8} {st : Option Nat} (h : Gt w g p ao cap bs st) (hl : bs.length ≤ 1000000000) :
  Calls Tryz.prog 35 #[.pointer (some ⟨g, 0, none⟩)] w (GFun w g p ao cap bs st) := by
 have hlt := h.lt
 have hgw : g < w.heap.size := hlt.1
 have hpw : p < w.heap.size := hlt.2
 have hG := h
 have KR : Keeps (GF g p) w w := Keeps.refl _ _
 clear h hlt
 go_enter Tryz.func35, Tryz.ntmps35
 have ka : Keeps Nothing w (w.alloc (.cells #[.bool false, .string ⟨#[]⟩, .slice none 0 0, .slice none 0 0, .int .i64 0, .string ⟨#[]⟩, .slice none 0 0, .slice none 0 0, .slice none 0 0, .int .i64 0] 56)) := (Keeps.refl Nothing w).alloc _
 have B22 := blk_new w #[.bool false, .string ⟨#[]⟩, .slice none 0 0, .slice none 0 0, .int .i64 0, .string ⟨#[]⟩, .slice none 0 0, .slice none 0 0, .slice none 0 0, .int .i64 0] 56
 have KR2 := KR.trans ka (fun _ h _ => h.elim)
 have hG2 := hG.keepsN ka
 have HSZ2 : w.heap.size ≤ w.heap.size := KR.size
 have hgl := hG.lt
 go_upto_region 1 with fail
 obtain ⟨g2, hg2⟩ : ∃ q, w.heap.size = q := ⟨_, rfl⟩
 have hn2 : ¬ GF g p g2 := fun q => by rcases q with q | q <;> omega
 have HS2 : Shut (w.heap.size ≤ g2) := shut (by rw [← hg2]; exact HSZ2)
 rw [hg2] at B22
 try rw [hg2]
 clear KR hG ka hgl HSZ2 hg2 
 generalize (w.alloc (.cells #[.bool false, .string ⟨#[]⟩, .slice none 0 0, .slice none 0 0, .int .i64 0, .string ⟨#[]⟩, .slice none 0 0, .slice none 0 0, .slice none 0 0, .int .i64 0] 56)) = w0 at *
 have KR := KR2
 have hG := hG2
 have B2 := B22
 clear KR2 hG2 B22 
 have hc := gtext_any hG hl
 go_wp2_with fail
 refine hc.mono ?_
 rintro e w1 ⟨nm, s1, rfl, hnm, -, hG2, hK2, hgot⟩
 have HGOTw1 := shut hgot
 have KR2 := KR.trans hK2 (fun _ h _ => h)
 have B22 := hK2.blk B2 hn2
 clear hc KR hG hgot B2
 have KR := KR2
 have hG := hG2
 have B2 := B22
 clear KR2 hG2 B22
 have ka : Keeps Nothing w1 (w1.alloc (.cells #[.bool true, .string ⟨nm.toArray⟩, .slice none 0 0, .slice none 0 0, .int .i64 0, .string ⟨#[]⟩, .slice none 0 0, .slice none 0 0, .slice none 0 0, .int .i64 0] 56)) := (Keeps.refl Nothing w1).alloc _
 have B32 := blk_new w1 #[.bool true, .string ⟨nm.toArray⟩, .slice none 0 0, .slice none 0 0, .int .i64 0, .string ⟨#[]⟩, .slice none 0 0, .slice none 0 0, .slice none 0 0, .int .i64 0] 56
 have KR2 := KR.trans ka (fun _ h _ => h.elim)
 have hG2 := hG.keepsN ka
 have HSZ3 : w.heap.size ≤ w1.heap.size := KR.size
 have hgl := hG.lt
 have B22 := ka.blk B2 (fun h => h)
 go_upto_region 2 with fail
 obtain ⟨g3, hg3⟩ : ∃ q, w1.heap.size = q := ⟨_, rfl⟩
 have hn3 : ¬ GF g p g3 := fun q => by rcases q with q | q <;> omega
 have HS3 : Shut (w.heap.size ≤ g3) := shut (by rw [← hg3]; exact HSZ3)
 rw [hg3] at B32
 try rw [hg3]
 clear KR hG ka hgl HSZ3 hg3 B2
 generalize (w1.alloc (.cells #[.bool true, .string ⟨nm.toArray⟩, .slice none 0 0, .slice none 0 0, .int .i64 0, .string ⟨#[]⟩, .slice none 0 0, .slice none 0 0, .slice none 0 0, .int .i64 0] 56)) = w2 at *
 have KR := KR2
 have hG := hG2
 have B3 := B32
 have B2 := B22
 clear KR2 hG2 B32 B22
 have hc := gnum_any hG hl 64 (by omega)
 go_wp2_with fail
 refine hc.mono ?_
 rintro e w3 ⟨n1, s2, rfl, hn1, hG2, hK2, hgot⟩
 have HGOTw3 := shut hgot
 have KR2 := KR.trans hK2 (fun _ h _ => h)
 have B22 := hK2.blk B2 hn2
 have B32 := hK2.blk B3 hn3
 clear hc KR hG hgot B2 B3
 have KR := KR2
 have hG := hG2
 have B2 := B22
 have B3 := B32
 clear KR2 hG2 B22 B32
 have HNE : Shut (g2 ≠ g3) := shut (fun q => by subst q; have h1 := (show w3.heap[g2]? = some (.cells _ _ (0, 0)) from B2).symm.trans (show w3.heap[g2]? = some (.cells _ _ (0, 0)) from B3); simp at h1)
 have hZG : ∀ b, ¬ (b < w.heap.size ∨ b = g2 ∨ b = g3) → ¬ GF g p b := fun b hb q => hb (.inl (by rcases q with q | q <;> omega))
 have hNG : ∀ b, w.heap.size ≤ b → ¬ GF g p b := fun b hb q => by rcases q with q | q <;> omega
 have h23 : g2 ≠ g3 := fun q => by subst q; exact HNE.out rfl
 have H0 : Shut (∃ (L : List LifD) (aq : Option Addr) (cq : Nat), L.length = 0 ∧ Blk w3 g3 #[.bool true, .string ⟨nm.toArray⟩, .slice aq (0) cq, .slice none 0 0, .int .i64 0, .string ⟨#[]⟩, .slice none 0 0, .slice none 0 0, .slice none 0 0, .int .i64 0] 56 ∧ OutR (Zx (fun b => b < w.heap.size ∨ b = g2 ∨ b = g3)) 76 2 LifIs w.heap.size w3 aq cq L ∧ ∀ l : List LifD, (∀ x ∈ l, LifP x) → l.length = n1 → Got bs s2 ((l.take (0)).map encL).flatten (L = l.take (0)) s2) := shut ⟨[], none, 0, rfl, B3, outR_nil _ _ _ _ _ _, fun l _ _ => Got.nil rfl⟩
 have HG := shut hG
 have HKR := shut KR
 have HB2 := shut B2
 clear hG KR B2 B3
 go_wp2_with fail
 go_loopw [4, 11] (fun s4 s11 wx => ∃ (t : Nat) (sx : Option Nat), s11 = .int .i64 t ∧ t ≤ n1 ∧ Gt wx g p ao cap bs sx ∧ Keeps (GF g p) w wx ∧ Blk wx g2 #[.bool false, .string ⟨#[]⟩, .slice none 0 0, .slice none 0 0, .int .i64 0, .string ⟨#[]⟩, .slice none 0 0, .slice none 0 0, .slice none 0 0, .int .i64 0] 56 ∧ Shut (∃ (L : List LifD) (aq : Option Addr) (cq : Nat), L.length = t ∧ Blk wx g3 #[.bool true, .string ⟨nm.toArray⟩, .slice aq (t) cq, .slice none 0 0, .int .i64 0, .string ⟨#[]⟩, .slice none 0 0, .slice none 0 0, .slice none 0 0, .int .i64 0] 56 ∧ OutR (Zx (fun b => b < w.heap.size ∨ b = g2 ∨ b = g3)) 76 2 LifIs w.heap.size wx aq cq L ∧ ∀ l : List LifD, (∀ x ∈ l, LifP x) → l.length = n1 → Got bs s2 ((l.take (t)).map encL).flatten (L = l.take (t)) sx)) (fun _ s11 _ => n1 - (intOf s11).toNat)
 case atStart => exact ⟨0, s2, rfl, Nat.zero_le _, HG.out, HKR.out, HB2.out, H0⟩
 case round =>
  clear HG HKR HB2 H0
  obtain ⟨t, sx, rfl, ht, hG, KL, B2, HR⟩ := hrel
  obtain ⟨L, aL, cL, hLl, B3, HO, hgl⟩ := HR.out
  have HGL := shut hgl
  have HLL := shut hLl
  clear HR hgl hLl
  have HGOT0 := HGOTw3
  by_cases hltt : t < n1
  ·skip
   have KR0 : Keeps (GF g p) wr wr := Keeps.refl _ _
   have hc := gtext_any hG hl
   go_wp2_with fail
   refine hc.mono ?_
   rintro e v1 ⟨lnm, sa, rfl, hlnm, -, hG2, hK2, hgot⟩
   have HGOTv1 := shut hgot
   have KR2 := KR0.trans hK2 (fun _ h _ => h)
   clear hc KR0 hG hgot 
   have KR := KR2
   have hG := hG2
   clear KR2 hG2 
   have ka : Keeps Nothing v1 (v1.alloc (.cells #[.string ⟨lnm.toArray⟩, .slice none 0 0] 76)) := (Keeps.refl Nothing v1).alloc _
   have B42 := blk_new v1 #[.string ⟨lnm.toArray⟩, .slice none 0 0] 76
   have KR2 := KR.trans ka (fun _ h _ => h.elim)
   have hG2 := hG.keepsN ka
   have HSZ4 : wr.heap.size ≤ v1.heap.size := KR.size
   have hgl := hG.lt
   go_upto_region 5 with fail
   obtain ⟨g4, hg4⟩ : ∃ q, v1.heap.size = q := ⟨_, rfl⟩
   have hn4 : ¬ GF g p g4 := fun q => by rcases q with q | q <;> omega
   have HS4 : Shut (wr.heap.size ≤ g4) := shut (by rw [← hg4]; exact HSZ4)
   rw [hg4] at B42
   try rw [hg4]
   clear KR hG ka hgl HSZ4 hg4 
   generalize (v1.alloc (.cells #[.string ⟨lnm.toArray⟩, .slice none 0 0] 76)) = v2 at *
   have KR := KR2
   have hG := hG2
   have B4 := B42
   clear KR2 hG2 B42 
   have hv2 : Shut (wr.heap.size ≤ v2.heap.size) := shut KR.size
   have h4l := shut (lt_of_block B4)
   have hc := gtexts_any hG hl
   go_wp2_with fail
   refine hc.mono ?_
   rintro e v3 ⟨Lo, aV, cV, sb, rfl, hLo, hG2, hK2, hgot⟩
   have HGOTv3 := shut hgot
   have KR2 := KR.trans hK2 (fun _ h _ => h)
   have B42 := hK2.blk B4 hn4
   clear hc KR hG hgot B4
   have KR := KR2
   have hG := hG2
   have B4 := B42
   clear KR2 hG2 B42
   have e1 := blk_cell B4 1 (v := .slice none 0 0) rfl
   have f1 := blk_free B4 1
   have ks : Keeps (fun b => b = g4) v3 (v3.setCell ⟨g4, 1, none⟩ (.slice aV Lo.length cV)) := (Keeps.refl (fun b => b = g4) v3).setCell (p := ⟨g4, 1, none⟩) (fun _ => rfl) _
   have B42 := (blk_set B4 1 (.slice aV Lo.length cV) : Blk (v3.setCell ⟨g4, 1, none⟩ (.slice aV Lo.length cV)) g4 #[.string ⟨lnm.toArray⟩, .slice aV Lo.length cV] 76)
   have KR2 := KR.trans ks (fun b hb hlt => by have hb' : b = g4 := hb; have := HS4.out; omega)
   have hG2 := hG.box B4 (not_gT (by decide) (by decide) (by decide)) ks
   have HLO := shut (txNewA (N := wr.heap.size) hLo hv2.out ks (fun b hb q => by have q2 : b = g4 := q; have := h4l.out; omega))
   clear hLo
   clear KR hG ks B4 
   go_upto_region 6 with fail
   any_goals try (rename_i hfz; simp [f1] at hfz; done)
   clear e1 f1
   generalize (v3.setCell ⟨g4, 1, none⟩ (.slice aV Lo.length cV)) = v4 at *
   have KR := KR2
   have hG := hG2
   have B4 := B42
   clear KR2 hG2 B42 
   have HEL0 : Shut (LifIs (NewA wr.heap.size v4) v4 ⟨lnm, Lo⟩ [.string ⟨lnm.toArray⟩, .slice aV Lo.length cV]) := shut ⟨aV, cV, rfl, by show lnm.length ≤ bigN; unfold bigN; omega, HLO.out⟩
   have h3r := lt_of_block B3
   have h2r := lt_of_block B2
   have hszw := KL.size
   clear HLO
   have B3w := KR.blk B3 hn3
   have HOw := HO.keeps (zx_ok _) lifOk KR (fun b hb => hZG b hb.2) (fun b hb => hNG b (HO.new b hb))
   have c30 := blk_cell B3w 2 (v := .slice aL t cL) rfl
   obtain ⟨Cz, hCz⟩ : ∃ C, C = ([.string ⟨lnm.toArray⟩, .slice aV Lo.length cV] : List Value).toArray := ⟨_, rfl⟩
   have hlz : ([.string ⟨lnm.toArray⟩, .slice aV Lo.length cV] : List Value).length = 2 := HEL0.out.len
   have hsz : Cz.size = 2 := by rw [hCz, List.size_toArray]; exact hlz
   have agz : aggOk 2 (.agg Cz) = true := by rw [hCz]; exact agg_ok hlz HEL0.out.one
   have B4c : Blk v4 g4 Cz 76 := by rw [hCz]; exact B4
   have GCz := shut hCz
   clear hCz
   obtain ⟨z1, z2⟩ := tblk_mid B4c hsz
   have BB := blk_new v4 Cz 76
   have kb : Keeps Nothing v4 (v4.alloc (.cells Cz 76)) := (Keeps.refl Nothing v4).alloc _
   have HO3 := shut (HOw.keepsN (zx_ok _) lifOk kb)
   have hszr := KR.size
   have hlao : ∀ q, blockOf aL = some q → q < wr.heap.size := fun q hq => HO.lt hq
   have HNEW := shut HO.new
   have hel : LifIs (InB (Zx (fun b => b < w.heap.size ∨ b = g2 ∨ b = g3)) (v4.alloc (.cells Cz 76)) aL) (v4.alloc (.cells Cz 76)) ⟨lnm, Lo⟩ ([.string ⟨lnm.toArray⟩, .slice aV Lo.length cV] : List Value) := lifOk.keep _ _ _ _ _ _ _ HEL0.out kb (fun _ _ h => h) (fun b hb => ⟨⟨Nat.lt_of_lt_of_le hb.2 kb.size, fun q => by have := hb.1; rcases q with q | q | q <;> omega⟩, fun q => by have := hlao b q; have := hb.1; omega⟩)
   have HEL := shut hel
   have hGb := hG.keepsN kb
   have KRb := KR.trans kb (fun _ h _ => h.elim)
   have B3x := kb.blk B3w (fun h => h)
   have HBB := shut BB
   have hlt4 : w.heap.size ≤ (v4.alloc (.cells Cz 76)).heap.size := Nat.le_trans KL.size KRb.size
   clear hel BB HO HOw hG KR kb B3 B3w B4 HEL0
   go_wp2_with (at_builtin; rw [fillN (n := 2) rfl hsz]; refine wpList_appD _ rfl (.tmp 20) (.tmp 22) 50 rfl Tryz.underlying50 iaLif (by decide) (zx_ok _) lifOk t HLL.out rfl HO3.out hlt4 _ _ ([.string ⟨lnm.toArray⟩, .slice aV Lo.length cV]) ⟨lnm, Lo⟩ GCz.out rfl HBB.out HEL.out (by omega) ?_)
   intro a4 c4 w9 O4 k4 m4
   have hg3n : ¬ blockOf aL = some g3 := HO3.out.ne B3x (by decide)
   have B3y := k4.blk B3x hg3n
   have c3y := blk_cell B3y 2 (v := .slice aL t cL) rfl
   have f3y := blk_free B3y 2
   have k5 : Keeps (fun b => b = g3) w9 (w9.setCell ⟨g3, 2, none⟩ (.slice a4 (t + 1) c4)) := (Keeps.refl (fun b => b = g3) w9).setCell (p := ⟨g3, 2, none⟩) (fun _ => rfl) _
   have B3z : Blk (w9.setCell ⟨g3, 2, none⟩ (.slice a4 (t + 1) c4)) g3 #[.bool true, .string ⟨nm.toArray⟩, .slice a4 (t + 1) c4, .slice none 0 0, .int .i64 0, .string ⟨#[]⟩, .slice none 0 0, .slice none 0 0, .slice none 0 0, .int .i64 0] 56 := blk_set B3y 2 (.slice a4 (t + 1) c4)
   have O5 := O4.keeps (zx_ok _) lifOk k5 (fun b hb q => hb.2 (.inr (.inr q))) (fun q hq hq2 => by have hq' : q = g3 := hq2; subst hq'; exact O4.ne B3y (by decide) hq)
   have hG5 := (hGb.keeps k4 (fun i C ty hb ht q => HO3.out.ne hb (by rcases ht with rfl | rfl | rfl <;> decide) q)).box B3y (not_gT (by decide) (by decide) (by decide)) k5
   have KL4 : Keeps (GF g p) w (w9.setCell ⟨g3, 2, none⟩ (.slice a4 (t + 1) c4)) := ((KL.trans KRb (fun _ h _ => h)).trans k4 (fun q hq hlt => by have := HNEW.out q hq; omega)).trans k5 (fun q hq hlt => by have hq' : q = g3 := hq; have := HS3.out; omega)
   have B2y : Blk (w9.setCell ⟨g3, 2, none⟩ (.slice a4 (t + 1) c4)) g2 #[.bool false, .string ⟨#[]⟩, .slice none 0 0, .slice none 0 0, .int .i64 0, .string ⟨#[]⟩, .slice none 0 0, .slice none 0 0, .slice none 0 0, .int .i64 0] 56 := k5.blk (k4.blk (KRb.blk B2 hn2) (HO3.out.ne (KRb.blk B2 hn2) (by decide))) (fun q => HNE.out q)
   have HF : Shut (∃ (L : List LifD) (aq : Option Addr) (cq : Nat), L.length = t + 1 ∧ Blk (w9.setCell ⟨g3, 2, none⟩ (.slice a4 (t + 1) c4)) g3 #[.bool true, .string ⟨nm.toArray⟩, .slice aq (t + 1) cq, .slice none 0 0, .int .i64 0, .string ⟨#[]⟩, .slice none 0 0, .slice none 0 0, .slice none 0 0, .int .i64 0] 56 ∧ OutR (Zx (fun b => b < w.heap.size ∨ b = g2 ∨ b = g3)) 76 2 LifIs w.heap.size (w9.setCell ⟨g3, 2, none⟩ (.slice a4 (t + 1) c4)) aq cq L ∧ ∀ l : List LifD, (∀ x ∈ l, LifP x) → l.length = n1 → Got bs s2 ((l.take (t + 1)).map encL).flatten (L = l.take (t + 1)) sb) := shut ⟨L ++ [⟨lnm, Lo⟩], a4, c4, by rw [List.length_append, HLL.out]; rfl, B3z, O5, fun l hl hln => by
    obtain ⟨a, ha⟩ : ∃ a, l[t]? = some a := ⟨_, List.getElem?_eq_getElem (by omega)⟩
    have hap := hl a (List.mem_of_getElem? ha)
    rw [flat_take ha]
    refine Got.app (Q := (⟨lnm, Lo⟩ : LifD) = a) (HGL.out l hl hln) (fun _ => ?_) (fun p1 p2 => by rw [List.take_add_one, ha, p1, p2]; rfl)
    obtain ⟨anm, aov⟩ := a
    unfold encL
    exact (HGOTv1.out anm (by have := life_len hap.1; simp only at this; omega)).app (fun _ => HGOTv3.out aov (fun s hs => by have := life_len (hap.2.1 s hs); omega) hap.2.2) (fun p1 p2 => by rw [p1, p2])⟩
   clear O4 O5 k4 m4 k5 hGb KRb KL HO3 HEL HBB HNEW B3z B2
   go_wp2_with fail
   any_goals try (rename_i hfz; simp [f3y] at hfz; done)
   go_roundw
   case rel => exact ⟨t + 1, sb, by go_num, by omega, hG5, KL4, B2y, HF⟩
   case measure => (simp [intOf]; try omega)
  ·obtain rfl : t = n1 := by omega
   obtain ⟨n1, rfl⟩ : ∃ n, n = t := ⟨_, rfl⟩
   have m1 : ¬ (n1 : Int) < n1 := by omega
   obtain ⟨wS, rfl⟩ : ∃ wS, wS = wr := ⟨_, rfl⟩
   have HOS := shut HO
   have HB2S := shut B2
   have HB3S := shut B3
   have HL0 := HLL
   have HGL0 := HGL
   have HWS : Shut (w.heap.size ≤ wS.heap.size) := shut KL.size
   have h2S := lt_of_block B2
   have h3S := lt_of_block B3
   have hG' := hG
   have KR : Keeps (GF g p) wS wS := Keeps.refl _ _
   have KWS := shut KL
   clear HO KL
   have hc := gnum_any hG hl 64 (by omega)
   go_wp2_with fail
   refine hc.mono ?_
   rintro e u1 ⟨n2, s4, rfl, hn2', hG2, hK2, hgot⟩
   have HGOTu1 := shut hgot
   have KR2 := KR.trans hK2 (fun _ h _ => h)
   have B22 := hK2.blk B2 hn2
   have B32 := hK2.blk B3 hn3
   clear hc KR hG hgot B2 B3
   have KR := KR2
   have hG := hG2
   have B2 := B22
   have B3 := B32
   clear KR2 hG2 B22 B32
   have hZG : ∀ b, ¬ (b < wS.heap.size ∨ b = g2 ∨ b = g3) → ¬ GF g p b := fun b hb q => hb (.inl (by have := HWS.out; rcases q with q | q <;> omega))
   have hNG : ∀ b, wS.heap.size ≤ b → ¬ GF g p b := fun b hb q => by have := HWS.out; rcases q with q | q <;> omega
   have H0 : Shut (∃ (L2 : List FldD) (aq : Option Addr) (cq : Nat), L2.length = 0 ∧ Blk u1 g3 #[.bool true, .string ⟨nm.toArray⟩, .slice aL n1 cL, .slice aq (0) cq, .int .i64 0, .string ⟨#[]⟩, .slice none 0 0, .slice none 0 0, .slice none 0 0, .int .i64 0] 56 ∧ OutR (Zx (fun b => b < wS.heap.size ∨ b = g2 ∨ b = g3)) 73 6 FldIs wS.heap.size u1 aq cq L2 ∧ ∀ l : List FldD, (∀ x ∈ l, FldP true x) → l.length = n2 → Got bs s4 ((l.take (0)).map encPar).flatten (L2 = l.take (0)) s4) := shut ⟨[], none, 0, rfl, B3, outR_nil _ _ _ _ _ _, fun l _ _ => Got.nil rfl⟩
   have HG := shut hG
   have HKR := shut (KR.mono (S' := fun b => GF g p b ∨ b = g3) (fun _ h _ => .inl h))
   have HB2 := shut B2
   clear hG KR B2 B3 hG'
   go_wp2_with fail
   go_loopw [5, 28] (fun s5 s28 wx => ∃ (t : Nat) (sx : Option Nat), s28 = .int .i64 t ∧ t ≤ n2 ∧ Gt wx g p ao cap bs sx ∧ Keeps (fun b => GF g p b ∨ b = g3) wS wx ∧ Blk wx g2 #[.bool false, .string ⟨#[]⟩, .slice none 0 0, .slice none 0 0, .int .i64 0, .string ⟨#[]⟩, .slice none 0 0, .slice none 0 0, .slice none 0 0, .int .i64 0] 56 ∧ Shut (∃ (L2 : List FldD) (aq : Option Addr) (cq : Nat), L2.length = t ∧ Blk wx g3 #[.bool true, .string ⟨nm.toArray⟩, .slice aL n1 cL, .slice aq (t) cq, .int .i64 0, .string ⟨#[]⟩, .slice none 0 0, .slice none 0 0, .slice none 0 0, .int .i64 0] 56 ∧ OutR (Zx (fun b => b < wS.heap.size ∨ b = g2 ∨ b = g3)) 73 6 FldIs wS.heap.size wx aq cq L2 ∧ ∀ l : List FldD, (∀ x ∈ l, FldP true x) → l.length = n2 → Got bs s4 ((l.take (t)).map encPar).flatten (L2 = l.take (t)) sx)) (fun _ s28 _ => n2 - (intOf s28).toNat)
   case atStart => exact ⟨0, s4, rfl, Nat.zero_le _, HG.out, HKR.out, HB2.out, H0⟩
   case round =>
    clear HG HKR HB2 H0
    obtain ⟨t, sy, rfl, ht, hG, KL, B2, HR⟩ := hrel
    obtain ⟨L2, aM, cM, hLl, B3, HO, hgl⟩ := HR.out
    have HGM := shut hgl
    have HL1 := HLL
    clear HLL
    have HLL := shut hLl
    clear HR hgl hLl
    by_cases hltt : t < n2
    ·skip
     have KR0 : Keeps (GF g p) wr wr := Keeps.refl _ _
     have hc := gnum_any hG hl 1 (by omega)
     go_wp2_with fail
     refine hc.mono ?_
     rintro e v1 ⟨mu, sa, rfl, hmu, hG2, hK2, hgot⟩
     have HGOTv1 := shut hgot
     have KR2 := KR0.trans hK2 (fun _ h _ => h)
     clear hc KR0 hG hgot 
     have KR := KR2
     have hG := hG2
     clear KR2 hG2 
     obtain ⟨mb, hmb⟩ : ∃ b, decide ((mu : Int) = 1) = b := ⟨_, rfl⟩
     have hmb2 : ((mu : Int) == 1) = mb := by rw [← hmb]; rfl
     have HMB := shut hmb
     clear hmb
     have ka : Keeps Nothing v1 (v1.alloc (.cells #[.bool mb, .string ⟨#[]⟩, .int .i64 0, .string ⟨#[]⟩, .slice none 0 0, .slice none 0 0] 73)) := (Keeps.refl Nothing v1).alloc _
     have B52 := blk_new v1 #[.bool mb, .string ⟨#[]⟩, .int .i64 0, .string ⟨#[]⟩, .slice none 0 0, .slice none 0 0] 73
     have KR2 := KR.trans ka (fun _ h _ => h.elim)
     have hG2 := hG.keepsN ka
     have HSZ5 : wr.heap.size ≤ v1.heap.size := KR.size
     have hgl := hG.lt
     go_upto_region 11 with fail
     obtain ⟨g5, hg5⟩ : ∃ q, v1.heap.size = q := ⟨_, rfl⟩
     have hn5 : ¬ GF g p g5 := fun q => by rcases q with q | q <;> omega
     have HS5 : Shut (wr.heap.size ≤ g5) := shut (by rw [← hg5]; exact HSZ5)
     rw [hg5] at B52
     try rw [hg5]
     clear KR hG ka hgl HSZ5 hg5 
     generalize (v1.alloc (.cells #[.bool mb, .string ⟨#[]⟩, .int .i64 0, .string ⟨#[]⟩, .slice none 0 0, .slice none 0 0] 73)) = v2 at *
     have KR := KR2
     have hG := hG2
     have B5 := B52
     clear KR2 hG2 B52 
     clear hmb2
     have hc := gtext_any hG hl
     go_wp2_with fail
     refine hc.mono ?_
     rintro e v3 ⟨pnm, sb, rfl, hpnm, -, hG2, hK2, hgot⟩
     have HGOTv3 := shut hgot
     have KR2 := KR.trans hK2 (fun _ h _ => h)
     have B52 := hK2.blk B5 hn5
     clear hc KR hG hgot B5
     have KR := KR2
     have hG := hG2
     have B5 := B52
     clear KR2 hG2 B52
     have e1 := blk_cell B5 1 (v := .string ⟨#[]⟩) rfl
     have f1 := blk_free B5 1
     have ks : Keeps (fun b => b = g5) v3 (v3.setCell ⟨g5, 1, none⟩ (.string ⟨pnm.toArray⟩)) := (Keeps.refl (fun b => b = g5) v3).setCell (p := ⟨g5, 1, none⟩) (fun _ => rfl) _
     have B52 := (blk_set B5 1 (.string ⟨pnm.toArray⟩) : Blk (v3.setCell ⟨g5, 1, none⟩ (.string ⟨pnm.toArray⟩)) g5 #[.bool mb, .string ⟨pnm.toArray⟩, .int .i64 0, .string ⟨#[]⟩, .slice none 0 0, .slice none 0 0] 73)
     have KR2 := KR.trans ks (fun b hb hlt => by have hb' : b = g5 := hb; have := HS5.out; omega)
     have hG2 := hG.box B5 (not_gT (by decide) (by decide) (by decide)) ks
     clear KR hG ks B5 
     go_upto_region 12 with fail
     any_goals try (rename_i hfz; simp [f1] at hfz; done)
     clear e1 f1
     generalize (v3.setCell ⟨g5, 1, none⟩ (.string ⟨pnm.toArray⟩)) = v4 at *
     have KR := KR2
     have hG := hG2
     have B5 := B52
     clear KR2 hG2 B52 
     have hv4 : Shut (wr.heap.size ≤ v4.heap.size) := shut KR.size
     have h5l := shut (lt_of_block B5)
     have hc := gkind_any hG hl
     go_wp2_with fail
     refine hc.mono ?_
     rintro e v5 ⟨zt, ct, sc, rfl, hzt, hG2, hK2, hgot⟩
     have HGOTv5 := shut hgot
     have KR2 := KR.trans hK2 (fun _ h _ => h)
     have B52 := hK2.blk B5 hn5
     clear hc KR hG hgot B5
     have KR := KR2
     have hG := hG2
     have B5 := B52
     clear KR2 hG2 B52
     have lct := hzt.len
     have agn := agg_ok lct hzt.one
     have e1 := midFit_blk B5 (o := 2) (n := 4) (by simp)
     have ks : Keeps (fun b => b = g5) v5 (midSet v5 g5 2 ct.toArray) := midSet_keeps (Keeps.refl (fun b => b = g5) v5) (g := g5) (fun _ => rfl) _ _
     have B52 := (box_mid (pre := ([.bool mb, .string ⟨pnm.toArray⟩] : List Value)) (mid := ([.int .i64 0, .string ⟨#[]⟩, .slice none 0 0, .slice none 0 0] : List Value)) (post := ([] : List Value)) (new := ct) (o := 2) B5 (by rfl) rfl (by rw [lct]; rfl) : Blk (midSet v5 g5 2 ct.toArray) g5 ((([.bool mb, .string ⟨pnm.toArray⟩] : List Value)) ++ (ct ++ (([] : List Value)))).toArray 73)
     have KR2 := KR.trans ks (fun b hb hlt => by have hb' : b = g5 := hb; have := HS5.out; omega)
     have hG2 := hG.box B5 (not_gT (by decide) (by decide) (by decide)) ks
     have HZT := shut (tyNewA (N := wr.heap.size) hzt hv4.out ks (fun b hb q => by have q2 : b = g5 := q; have := h5l.out; omega))
     clear hzt
     clear KR hG ks B5 
     go_upto_region 13 with fail
     clear e1
     generalize (midSet v5 g5 2 ct.toArray) = v6 at *
     have KR := KR2
     have hG := hG2
     have B5 := B52
     clear KR2 hG2 B52 
     clear agn
     rw [List.append_nil] at B5
     have HEL0 : Shut (FldIs (NewA wr.heap.size v6) v6 ⟨mb, pnm, zt⟩ (([.bool mb, .string ⟨pnm.toArray⟩] : List Value) ++ ct)) := shut ⟨ct, rfl, by show pnm.length ≤ bigN; unfold bigN; omega, HZT.out⟩
     have h3r := lt_of_block B3
     have h2r := lt_of_block B2
     have hszw := KL.size
     clear HZT
     have B3w := KR.blk B3 hn3
     have HOw := HO.keeps (zx_ok _) fldOk KR (fun b hb => hZG b hb.2) (fun b hb => hNG b (HO.new b hb))
     have c30 := blk_cell B3w 3 (v := .slice aM t cM) rfl
     obtain ⟨Cz, hCz⟩ : ∃ C, C = (([.bool mb, .string ⟨pnm.toArray⟩] : List Value) ++ ct : List Value).toArray := ⟨_, rfl⟩
     have hlz : (([.bool mb, .string ⟨pnm.toArray⟩] : List Value) ++ ct : List Value).length = 6 := HEL0.out.len
     have hsz : Cz.size = 6 := by rw [hCz, List.size_toArray]; exact hlz
     have agz : aggOk 6 (.agg Cz) = true := by rw [hCz]; exact agg_ok hlz HEL0.out.one
     have B5c : Blk v6 g5 Cz 73 := by rw [hCz]; exact B5
     have GCz := shut hCz
     clear hCz
     obtain ⟨z1, z2⟩ := tblk_mid B5c hsz
     have BB := blk_new v6 Cz 73
     have kb : Keeps Nothing v6 (v6.alloc (.cells Cz 73)) := (Keeps.refl Nothing v6).alloc _
     have HO3 := shut (HOw.keepsN (zx_ok _) fldOk kb)
     have hszr := KR.size
     have hlao : ∀ q, blockOf aM = some q → q < wr.heap.size := fun q hq => HO.lt hq
     have HNEW := shut HO.new
     have hel : FldIs (InB (Zx (fun b => b < wS.heap.size ∨ b = g2 ∨ b = g3)) (v6.alloc (.cells Cz 73)) aM) (v6.alloc (.cells Cz 73)) ⟨mb, pnm, zt⟩ (([.bool mb, .string ⟨pnm.toArray⟩] : List Value) ++ ct : List Value) := fldOk.keep _ _ _ _ _ _ _ HEL0.out kb (fun _ _ h => h) (fun b hb => ⟨⟨Nat.lt_of_lt_of_le hb.2 kb.size, fun q => by have := hb.1; rcases q with q | q | q <;> omega⟩, fun q => by have := hlao b q; have := hb.1; omega⟩)
     have HEL := shut hel
     have hGb := hG.keepsN kb
     have KRb := KR.trans kb (fun _ h _ => h.elim)
     have B3x := kb.blk B3w (fun h => h)
     have HBB := shut BB
     have hlt4 : wS.heap.size ≤ (v6.alloc (.cells Cz 73)).heap.size := Nat.le_trans KL.size KRb.size
     clear hel BB HO HOw hG KR kb B3 B3w B5 HEL0
     go_wp2_with (at_builtin; rw [fillN (n := 6) rfl hsz]; refine wpList_appD _ rfl (.tmp 41) (.tmp 43) 47 rfl Tryz.underlying47 iaFld (by decide) (zx_ok _) fldOk t HLL.out rfl HO3.out hlt4 _ _ (([.bool mb, .string ⟨pnm.toArray⟩] : List Value) ++ ct) ⟨mb, pnm, zt⟩ GCz.out rfl HBB.out HEL.out (by omega) ?_)
     intro a4 c4 w9 O4 k4 m4
     have hg3n : ¬ blockOf aM = some g3 := HO3.out.ne B3x (by decide)
     have B3y := k4.blk B3x hg3n
     have c3y := blk_cell B3y 3 (v := .slice aM t cM) rfl
     have f3y := blk_free B3y 3
     have k5 : Keeps (fun b => b = g3) w9 (w9.setCell ⟨g3, 3, none⟩ (.slice a4 (t + 1) c4)) := (Keeps.refl (fun b => b = g3) w9).setCell (p := ⟨g3, 3, none⟩) (fun _ => rfl) _
     have B3z : Blk (w9.setCell ⟨g3, 3, none⟩ (.slice a4 (t + 1) c4)) g3 #[.bool true, .string ⟨nm.toArray⟩, .slice aL n1 cL, .slice a4 (t + 1) c4, .int .i64 0, .string ⟨#[]⟩, .slice none 0 0, .slice none 0 0, .slice none 0 0, .int .i64 0] 56 := blk_set B3y 3 (.slice a4 (t + 1) c4)
     have O5 := O4.keeps (zx_ok _) fldOk k5 (fun b hb q => hb.2 (.inr (.inr q))) (fun q hq hq2 => by have hq' : q = g3 := hq2; subst hq'; exact O4.ne B3y (by decide) hq)
     have hG5 := (hGb.keeps k4 (fun i C ty hb ht q => HO3.out.ne hb (by rcases ht with rfl | rfl | rfl <;> decide) q)).box B3y (not_gT (by decide) (by decide) (by decide)) k5
     have KL4 : Keeps (fun b => GF g p b ∨ b = g3) wS (w9.setCell ⟨g3, 3, none⟩ (.slice a4 (t + 1) c4)) := ((KL.trans KRb (fun _ h _ => .inl h)).trans k4 (fun q hq hlt => by have := HNEW.out q hq; omega)).trans k5 (fun q hq hlt => .inr hq)
     have B2y : Blk (w9.setCell ⟨g3, 3, none⟩ (.slice a4 (t + 1) c4)) g2 #[.bool false, .string ⟨#[]⟩, .slice none 0 0, .slice none 0 0, .int .i64 0, .string ⟨#[]⟩, .slice none 0 0, .slice none 0 0, .slice none 0 0, .int .i64 0] 56 := k5.blk (k4.blk (KRb.blk B2 hn2) (HO3.out.ne (KRb.blk B2 hn2) (by decide))) (fun q => HNE.out q)
     have HF : Shut (∃ (L2 : List FldD) (aq : Option Addr) (cq : Nat), L2.length = t + 1 ∧ Blk (w9.setCell ⟨g3, 3, none⟩ (.slice a4 (t + 1) c4)) g3 #[.bool true, .string ⟨nm.toArray⟩, .slice aL n1 cL, .slice aq (t + 1) cq, .int .i64 0, .string ⟨#[]⟩, .slice none 0 0, .slice none 0 0, .slice none 0 0, .int .i64 0] 56 ∧ OutR (Zx (fun b => b < wS.heap.size ∨ b = g2 ∨ b = g3)) 73 6 FldIs wS.heap.size (w9.setCell ⟨g3, 3, none⟩ (.slice a4 (t + 1) c4)) aq cq L2 ∧ ∀ l : List FldD, (∀ x ∈ l, FldP true x) → l.length = n2 → Got bs s4 ((l.take (t + 1)).map encPar).flatten (L2 = l.take (t + 1)) sc) := shut ⟨L2 ++ [⟨mb, pnm, zt⟩], a4, c4, by rw [List.length_append, HLL.out]; rfl, B3z, O5, fun l hl hln => by
      obtain ⟨a, ha⟩ : ∃ a, l[t]? = some a := ⟨_, List.getElem?_eq_getElem (by omega)⟩
      have hap := hl a (List.mem_of_getElem? ha)
      rw [flat_take ha]
      refine Got.app (Q := (⟨mb, pnm, zt⟩ : FldD) = a) (HGM.out l hl hln) (fun _ => ?_) (fun p1 p2 => by rw [List.take_add_one, ha, p1, p2]; rfl)
      obtain ⟨amu, anm, aty⟩ := a
      unfold encPar
      exact (got_mark HGOTv1.out amu).app (fun _ => (HGOTv3.out anm (by have := name_len hap.2.1; simp only at this; omega)).app (fun _ => HGOTv5.out aty (.inl hap.2.2)) (fun p1 p2 => (⟨p1, p2⟩ : pnm = anm ∧ zt = aty))) (fun p1 p2 => by rw [p2.1, p2.2, ← HMB.out, p1])⟩
     clear O4 O5 k4 m4 k5 hGb KRb KL HO3 HEL HBB HNEW B3z B2
     have HLL := HL1
     clear HL1
     go_wp2_with fail
     any_goals try (rename_i hfz; simp [f3y] at hfz; done)
     go_roundw
     case rel => exact ⟨t + 1, sc, by go_num, by omega, hG5, KL4, B2y, HF⟩
     case measure => (simp [intOf]; try omega)
    ·obtain rfl : t = n2 := by omega
     obtain ⟨n2, rfl⟩ : ∃ n, n = t := ⟨_, rfl⟩
     have m1 : ¬ (n2 : Int) < n2 := by omega
     obtain ⟨wT, rfl⟩ : ∃ wS, wS = wr := ⟨_, rfl⟩
     have HOT := shut HO
     have HLM := HLL
     have h2T := lt_of_block B2
     have h3T := lt_of_block B3
     have HWT : Shut (wS.heap.size ≤ wT.heap.size) := shut KL.size
     have KR : Keeps (GF g p) wT wT := Keeps.refl _ _
     have KST := shut KL
     clear HO KL
     have hc := gkind_any hG hl
     go_wp2_with fail
     refine hc.mono ?_
     rintro e u2 ⟨zt, ct, s6, rfl, hzt, hG2, hK2, hgot⟩
     have HGOTu2 := shut hgot
     have KR2 := KR.trans hK2 (fun _ h _ => h)
     have B22 := hK2.blk B2 hn2
     have B32 := hK2.blk B3 hn3
     clear hc KR hG hgot B2 B3
     have KR := KR2
     have hG := hG2
     have B2 := B22
     have B3 := B32
     clear KR2 hG2 B22 B32
     have lct := hzt.len
     have agn := agg_ok lct hzt.one
     have e1 := midFit_blk B3 (o := 4) (n := 4) (by simp)
     have B3n : Blk (midSet u2 g3 4 ct.toArray) g3 (([.bool true, .string ⟨nm.toArray⟩, .slice aL n1 cL, .slice aM n2 cM] : List Value) ++ (ct ++ ([.slice none 0 0, .int .i64 0] : List Value))).toArray 56 := box_mid (pre := ([.bool true, .string ⟨nm.toArray⟩, .slice aL n1 cL, .slice aM n2 cM] : List Value)) (mid := ([.int .i64 0, .string ⟨#[]⟩, .slice none 0 0, .slice none 0 0] : List Value)) (post := ([.slice none 0 0, .int .i64 0] : List Value)) (new := ct) (o := 4) B3 rfl rfl (by rw [lct]; rfl)
     have ks : Keeps (fun b => b = g3) u2 (midSet u2 g3 4 ct.toArray) := midSet_keeps (Keeps.refl (fun b => b = g3) u2) (g := g3) (fun _ => rfl) _ _
     have B2n := ks.blk B2 (fun q => HNE.out q)
     have KRn : Keeps (fun b => GF g p b ∨ b = g3) wT (midSet u2 g3 4 ct.toArray) := (KR.mono (S' := fun b => GF g p b ∨ b = g3) (fun _ h _ => .inl h)).trans ks (fun b hb _ => .inr hb)
     have hGn := hG.box B3 (not_gT (by decide) (by decide) (by decide)) ks
     have HZT := shut (tyNewA (N := wT.heap.size) hzt (Nat.le_refl _) ks (fun b hb q => by have q2 : b = g3 := q; omega))
     clear hzt hG KR B3 B2 ks
     go_upto_region 16 with fail
     clear e1 agn
     generalize midSet u2 g3 4 ct.toArray = u3 at *
     obtain ⟨CF, hCF⟩ : ∃ l, l = ([.bool true, .string ⟨nm.toArray⟩, .slice aL n1 cL, .slice aM n2 cM] : List Value) ++ (ct ++ ([.slice none 0 0, .int .i64 0] : List Value)) := ⟨_, rfl⟩
     rw [← hCF] at B3n
     have HCF : Shut (CF = ([.bool true, .string ⟨nm.toArray⟩, .slice aL n1 cL, .slice aM n2 cM] : List Value) ++ ct ++ ([.slice none 0 0, .int .i64 0] : List Value)) := shut (by rw [hCF]; simp)
     have hlF : CF.length = 10 := by rw [hCF]; simp [lct]
     obtain ⟨CA, hCA⟩ : ∃ C, C = CF.toArray := ⟨_, rfl⟩
     have hsA : CA.size = 10 := by rw [hCA]; simpa using hlF
     rw [← hCA] at B3n
     have GCA := shut hCA
     clear hCF hCA
     have KF0 : Keeps (GF g p) w u3 := (KWS.out.trans KST.out (fun b hb hlt => by rcases hb with hb | hb; exact hb; have := HS3.out; omega)).trans KRn (fun b hb hlt => by rcases hb with hb | hb; exact hb; have := HS3.out; omega)
     have hFun : FunIs (fun b => w.heap.size ≤ b ∧ b < u3.heap.size ∧ b ≠ g2) u3 ⟨true, nm, L, L2, zt, [], 0⟩ CF := by
      refine ⟨aL, cL, aM, cM, ct, none, 0, ?_, by show nm.length ≤ bigN; unfold bigN; omega, ?_, ?_, ?_, slIs_nil _ _ _ _ _⟩
      ·rw [HCF.out]
       show _ = ([.bool true, .string ⟨nm.toArray⟩, .slice aL L.length cL, .slice aM L2.length cM] : List Value) ++ ct ++ [.slice none 0 0, .int .i64 0]
       rw [HL0.out, HLM.out]
      ·have h1 := HOS.out.sl (S := fun b => w.heap.size ≤ b ∧ b < wS.heap.size ∧ b ≠ g2 ∧ b ≠ g3) lifOk (fun b hb => ⟨Nat.le_of_not_lt (fun q => hb.2 (.inl q)), hb.1, fun q => hb.2 (.inr (.inl q)), fun q => hb.2 (.inr (.inr q))⟩) (fun q hq => ⟨HOS.out.new q hq, HOS.out.lt hq, fun q2 => by subst q2; exact HOS.out.ne HB2S.out (by decide) hq, fun q2 => by subst q2; exact HOS.out.ne HB3S.out (by decide) hq⟩) (by rw [HL0.out]; unfold bigN; omega)
       have KQ : Keeps (fun b => GF g p b ∨ b = g3) wS u3 := KST.out.trans KRn (fun _ h _ => h)
       have hT : ∀ b, (w.heap.size ≤ b ∧ b < wS.heap.size ∧ b ≠ g2 ∧ b ≠ g3) → ¬ (fun b => GF g p b ∨ b = g3) b := fun b hb q => by rcases q with q | q; rcases q with q | q <;> omega; exact hb.2.2.2 q
       have hSS : ∀ b, (w.heap.size ≤ b ∧ b < wS.heap.size ∧ b ≠ g2 ∧ b ≠ g3) → (w.heap.size ≤ b ∧ b < u3.heap.size ∧ b ≠ g2) := fun b hb => ⟨hb.1, Nat.lt_of_lt_of_le hb.2.1 KQ.size, hb.2.2.1⟩
       exact h1.keeps KQ hT hSS (fun _ _ _ h => h.keeps KQ hT hSS)
      ·have h1 := HOT.out.sl (S := fun b => wS.heap.size ≤ b ∧ b < wT.heap.size ∧ b ≠ g2 ∧ b ≠ g3) fldOk (fun b hb => ⟨Nat.le_of_not_lt (fun q => hb.2 (.inl q)), hb.1, fun q => hb.2 (.inr (.inl q)), fun q => hb.2 (.inr (.inr q))⟩) (fun q hq => ⟨HOT.out.new q hq, HOT.out.lt hq, fun q2 => by have := HOT.out.new q hq; omega, fun q2 => by have := HOT.out.new q hq; omega⟩) (by rw [HLM.out]; unfold bigN; omega)
       have hT : ∀ b, (wS.heap.size ≤ b ∧ b < wT.heap.size ∧ b ≠ g2 ∧ b ≠ g3) → ¬ (fun b => GF g p b ∨ b = g3) b := fun b hb q => by have := HWS.out; rcases q with q | q; rcases q with q | q <;> omega; exact hb.2.2.2 q
       have hSS : ∀ b, (wS.heap.size ≤ b ∧ b < wT.heap.size ∧ b ≠ g2 ∧ b ≠ g3) → (w.heap.size ≤ b ∧ b < u3.heap.size ∧ b ≠ g2) := fun b hb => ⟨Nat.le_trans HWS.out hb.1, Nat.lt_of_lt_of_le hb.2.1 KRn.size, hb.2.2.1⟩
       exact h1.keeps KRn hT hSS (fun _ _ _ h => h.keeps KRn hT hSS)
      ·exact HZT.out.keeps (Keeps.refl Nothing u3) (fun _ _ h => h) (fun b hb => ⟨Nat.le_trans HWS.out (Nat.le_trans HWT.out hb.1), hb.2, fun q => by have := hb.1; omega⟩)
     have HALL : Shut (∀ f, HeadP f → Got bs st (encFun f) ((⟨true, nm, L, L2, zt, [], 0⟩ : FunD) = f) s6) := shut (fun f hf => by
      obtain ⟨f_pub, f_name, f_lives, f_params, f_result, f_body, f_pos⟩ := f
      obtain ⟨h1, h2, h3, hP⟩ := hf
      simp only at h1 h2 h3
      subst h1 h2 h3
      obtain ⟨q1, q2, q3, ⟨q4, q5⟩, q6, -, -⟩ := hP
      simp only at q1 q2 q3 q4 q5 q6
      unfold encFun
      refine (HGOTw1.out f_name (by have := name_len q2; omega)).app (fun _ => (HGOTw3.out f_lives.length q3).app (fun e1 => ((by have := HGL0.out f_lives q1 e1.symm; rwa [flat_all e1.symm, List.take_of_length_le (by omega)] at this) : Got bs s2 (f_lives.map encL).flatten (L = f_lives) sx).app (fun _ => (HGOTu1.out f_params.length q5).app (fun e2 => ((by have := HGM.out f_params q4 e2.symm; rwa [flat_all e2.symm, List.take_of_length_le (by omega)] at this) : Got bs s4 (f_params.map encPar).flatten (L2 = f_params) sy).app (fun _ => HGOTu2.out f_result (by
        rcases q6 with q6 | q6
        ·refine .inr ?_
         obtain ⟨k, nm', lv, el⟩ := f_result
         simp only [TyD.kind, TyD.name, TyD.lives, TyD.elem] at q6
         obtain ⟨rfl, rfl, rfl, rfl⟩ := q6
         rfl
        ·exact .inl q6)) (fun a b => (⟨a, b⟩ : L2 = f_params ∧ zt = f_result))) (fun _ b => b)) (fun a b => (⟨a, b⟩ : L = f_lives ∧ L2 = f_params ∧ zt = f_result))) (fun _ b => b)) (fun a b => by rw [a, b.1, b.2.1, b.2.2]))
     obtain ⟨y1, y2⟩ := tblk_mid B3n hsA
     have y3 := rowOk_blk B2n (n := 10) rfl
     have agf : aggOk 10 (.agg CA) = true := by rw [GCA.out]; exact agg_ok hlF hFun.one
     obtain ⟨WF, hWF⟩ : ∃ W, W = World.setRow u3 g2 CA := ⟨_, rfl⟩
     have K2 : Keeps (fun b => b = g2) u3 WF := by rw [hWF]; exact (Keeps.refl (fun b => b = g2) u3).setRow (g := g2) (fun _ => rfl) _
     have BF : Blk WF g2 CA 56 := by rw [hWF]; exact blk_setRow B2n
     have HF : Shut (GFun w g p ao cap bs st (.returned (.agg CA)) WF) := shut ⟨_, CF, s6, by rw [GCA.out], hFun.keeps K2 (fun b hb q => hb.2.2 q) (fun b hb => ⟨hb.1, Nat.lt_of_lt_of_le hb.2.1 K2.size⟩), hGn.box B2n (not_gT (by decide) (by decide) (by decide)) K2, KF0.trans K2 (fun b hb hlt => by have hb' : b = g2 := hb; have := HS2.out; omega), HALL.out⟩
     clear K2 HALL hFun hGn KF0 KRn HZT
     go_wp2_with fail
     rw [← hWF]
     refine bodyPost_ret (v := .agg CA) (results_cell_row rfl _ _ g2 _ _ (0, 0) _ rfl BF Tryz.underlying56 rfl (by rw [infoFun, hsA])) rfl ?_
     exact HF.out
end Go.Proofs.YtjbcagbnagefcaaGreat
namespace Go.Proofs.YtjbcagbnagefcaaGreat
open Go.RowKit
attribute [local go_sem ↓] exec_mid_ty exec_store_ty exec_mid_pl exec_store_pl exec_mid_opr exec_store_opr exec_mid_val exec_store_val exec_mid_st exec_store_st exec_mid_fld exec_store_fld exec_mid_str exec_store_str exec_mid_lif exec_store_lif exec_mid_fun exec_store_fun exec_mid_cr exec_store_cr
attribute [local go_sem] rowOk_new World.setRow_alloc_new
attribute [local go_sem ↓] exec_mid_sig exec_store_sig
def PutPost (w : World) (s : SigD) (e : Ending) (w1 : World) : Prop := Keeps Nothing w w1 ∧ ((MayS s ∧ ∃ ao cap, e = .returned (.tuple #[.slice ao (encSig s).length cap, .nilIface]) ∧ Own8 w1 5 ao cap (encSig s) ∧ ∀ g, blockOf ao = some g → w.heap.size ≤ g) ∨ (¬ MayS s ∧ ∃ ev, e = .returned (.tuple #[.slice none 0 0, ev]) ∧ IsErr w.heap.size w1 ev 1 0))
set_option maxRecDepth 100000 in
set_option linter.unusedSimpArgs false in
set_option maxHeartbeats 8000000 in
theorem put_any {S : Nat → Prop} (s : SigD) (w : World) (hM : MaxV w) (cs : List Value) (hS : ∀ b, S b → b < w.heap.size) (h : SigIs S w s cs) : Calls Tryz.prog 18 #[.agg cs.toArray] w (PutPost w s) := by
 have ag1 := agg_ok h.len h.one
 have HM := shut hM
 have HI := shut h
 have HS0 := shut hS
 obtain ⟨CS, hCS⟩ : ∃ C, C = cs.toArray := ⟨_, rfl⟩
 have hsS : CS.size = 3 := by rw [hCS]; simpa using h.len
 rw [← hCS] at ag1 ⊢
 have GS := shut hCS
 clear hCS h hM hS
 have BS := blk_new w CS 32
 have KW : Keeps Nothing w (w.alloc (.cells CS 32)) := (Keeps.refl Nothing w).alloc _
 go_enter Tryz.func18, Tryz.ntmps18
 go_upto_region 1 with fail
 clear ag1
 obtain ⟨gs, hgs⟩ : ∃ g, w.heap.size = g := ⟨_, rfl⟩
 have HGS : Shut (w.heap.size ≤ gs) := shut (Nat.le_of_eq hgs)
 rw [hgs] at BS ⊢
 clear hgs
 generalize w.alloc (.cells CS 32) = w0 at *
 obtain ⟨y1, y2⟩ := tblk_mid BS hsS
 have hc := smay_any s w0 (HM.out.keeps KW) cs (HI.out.keeps KW (fun _ _ h => h) (fun _ h => h))
 rw [← GS.out] at hc
 go_wp2_with fail
 refine hc.mono ?_
 rintro e w1 ⟨⟨z, rfl, hz⟩, k1⟩
 have KW1 := KW.trans k1 (fun _ h _ => h)
 have BS1 := k1.blk BS (fun h => h)
 have HZ := shut hz
 clear hc y1 y2 KW k1 BS hz
 cases z with
 | false =>
  have hno : Shut (¬ MayS s) := shut (fun h => by have := HZ.out.2 h; cases this)
  clear HZ
  have hc := new_err 1 0 w1 (by decide)
  go_wp2_with fail
  refine hc.mono ?_
  rintro e w2 ⟨rfl, rfl⟩
  have hF : Shut (PutPost w s (.returned (.tuple #[.slice none 0 0, .iface 130 (.pointer (some ⟨w1.heap.size, 0, none⟩))])) (w1.alloc (.cells #[.int .i64 1, .int .i64 0, .iface 90 (.int .i64 1)] 132))) := shut ⟨KW1.alloc _, .inr ⟨hno.out, _, rfl, (isErr_new w1 1 0 (by decide)).mono KW1.size⟩⟩
  clear hc
  go_wp2_with fail
  go_ret2
  exact hF.out
 | true =>
  have HP := shut (HZ.out.1 rfl)
  clear HZ
  have hbig := encSig_len HP.out
  have hc := newWriter_any w1
  go_wp2_with fail
  refine hc.mono ?_
  rintro e w2 ⟨rfl, hw2⟩
  clear hc
  have hW0 := wr_new w1
  rw [← hw2] at hW0
  have k12 : Keeps Nothing w1 w2 := by rw [hw2]; exact (Keeps.refl Nothing w1).alloc _
  obtain ⟨p, hp⟩ : ∃ p, w1.heap.size = p := ⟨_, rfl⟩
  have HWP : Shut (w.heap.size ≤ p) := shut (by rw [← hp]; exact KW1.size)
  rw [hp] at hW0 ⊢
  have HS : Shut (∀ b, S b → b < p) := shut (fun b hb => Nat.lt_of_lt_of_le (HS0.out b hb) HWP.out)
  have hgsp : gs < p := by have := lt_of_block BS1; omega
  have hWN : WN p w2 p none 0 [] := ⟨hW0, Nat.le_refl _, fun g hg => by cases hg⟩
  have KW2 := KW1.trans k12 (fun _ h _ => h)
  have BS2 := k12.blk BS1 (fun h => h)
  have T2 := shut (WT.refl hWN)
  have HB2 := shut BS2
  have HI2 := HI.out.keeps KW2 (fun _ _ h => h) (fun _ h => h) (S' := S)
  clear hw2 hp hW0 hWN k12 KW1 BS1
  obtain ⟨s_name, s_structs, s_funcs⟩ := s
  obtain ⟨a1, c1, a2, c2, hcs, hnm, h1, h2⟩ := HI2
  simp only at hcs hnm h1 h2
  obtain ⟨n1, hn1⟩ : ∃ n, s_structs.length = n := ⟨_, rfl⟩
  obtain ⟨n2, hn2⟩ : ∃ n, s_funcs.length = n := ⟨_, rfl⟩
  rw [hn1, hn2] at hcs
  have hb1 := h1.1
  have hb2 := h2.1
  unfold bigN at hb1 hb2
  rw [hn1] at hb1
  rw [hn2] at hb2
  have HN1 := shut hn1
  have HN2 := shut hn2
  have H1 := shut h1
  have H2 := shut h2
  unfold txV at hcs
  have GS2 : Shut (CS = [.string ⟨s_name.toArray⟩, .slice a1 n1 c1, .slice a2 n2 c2].toArray) := shut (by rw [GS.out, hcs])
  obtain ⟨F1, hF1⟩ : ∃ F, (s_structs.map encStr).flatten = F := ⟨_, rfl⟩
  obtain ⟨F2, hF2⟩ : ∃ F, (s_funcs.map encFun).flatten = F := ⟨_, rfl⟩
  obtain ⟨RT, hRT⟩ : ∃ F, encSig ⟨s_name, ⟨s_structs, s_funcs⟩⟩ = F := ⟨_, rfl⟩
  have HRT : Shut (RT = ((((([] ++ encS usig) ++ encS s_name) ++ encU n1) ++ F1) ++ encU n2) ++ F2) := shut (by rw [← hRT]; unfold encSig; simp only [hn1, hn2, hF1, hF2, List.append_assoc, List.nil_append])
  have hsum : (encS usig).length + (encS s_name).length + (encU n1).length + F1.length + (encU n2).length + F2.length ≤ 800000000 := by
   unfold encSig at hbig
   simp only [hn1, hn2, hF1, hF2, List.length_append] at hbig
   omega
  have HRS := shut hRT
  have HFA := shut hF1
  have HFB := shut hF2
  clear hcs hn1 hn2 h1 h2 hF1 hF2 hRT hbig HI
  have hu : usig = [85, 83, 73, 71] := rfl
  have hc := wtext_any T2.out.wn usig (by decide) (by simp)
  unfold usig at hc
  rw [← hu] at hc
  have HU := shut hu
  clear hu
  go_wp2_with fail
  refine hc.mono ?_
  rintro e w3 ⟨rfl, ao3, cap3, h3⟩
  have BS3 := h3.lo.blk BS2 (fun q => Nat.not_lt.2 q hgsp)
  have T3 := shut (T2.out.trans h3)
  clear hc T2 h3 BS2
  obtain ⟨e0, -, -⟩ := SigB GS2.out BS3
  have hc := wtext_any T3.out.wn s_name hnm (by (try simp only [List.length_append, List.length_nil]); omega)
  go_wp2_with fail
  refine hc.mono ?_
  rintro e w4 ⟨rfl, ao4, cap4, h4⟩
  have BS4 := h4.lo.blk BS3 (fun q => Nat.not_lt.2 q hgsp)
  have T4 := shut (T3.out.trans h4)
  clear hc T3 h4 BS3 e0
  obtain ⟨-, e1, -⟩ := SigB GS2.out BS4
  have hc := number_any T4.out.wn n1 (by omega) (by omega) (by (try simp only [List.length_append, List.length_nil]); omega)
  rw [Int.toNat_natCast] at hc
  go_wp2_with fail
  refine hc.mono ?_
  rintro e w5 ⟨rfl, ao5, cap5, h5⟩
  have BS5 := h5.lo.blk BS4 (fun q => Nat.not_lt.2 q hgsp)
  have T5 := shut (T4.out.trans h5)
  clear hc T4 h5 BS4 e1
  obtain ⟨-, e1, -⟩ := SigB GS2.out BS5
  obtain ⟨B1, hB1⟩ : ∃ B, [] ++ encS usig ++ encS s_name ++ encU n1 = B := ⟨_, rfl⟩
  have hb1 : B1.length = (encS usig).length + (encS s_name).length + (encU n1).length := by rw [← hB1]; simp only [List.length_append, List.length_nil]; omega
  rw [hB1] at T5 HRT
  clear hB1
  go_wp2_with fail
  go_loopw [6, 8, 30] (fun s6 s8 s30 wx => ∃ (t : Nat) (aoR : Option Addr) (capR : Nat), s30 = .int .i64 t ∧ t ≤ n1 ∧ WT p w2 p none wx aoR capR (B1 ++ ((s_structs.take t).map encStr).flatten)) (fun _ _ s30 _ => n1 - (intOf s30).toNat)
  case atStart => exact ⟨0, ao5, cap5, rfl, Nat.zero_le _, by simpa using T5.out⟩
  case round =>
   clear T5 e1
   obtain ⟨t, aoR, capR, rfl, ht, HR⟩ := hrel
   by_cases hlt : t < n1
   ·skip
    obtain ⟨dx, hdx⟩ : ∃ d, s_structs[t]? = some d := ⟨_, List.getElem?_eq_getElem (by rw [HN1.out]; exact hlt)⟩
    obtain ⟨g1x, o1x, rfl, hg1x, csx, l1x, r1x, i1x⟩ := H1.out.get hdx
    have HDX := shut hdx
    have m0x : (0 : Int) ≤ t := by omega
    have m1x : (t : Int) < n1 := by omega
    have agx := agg_ok l1x i1x.one
    have IX := shut i1x
    obtain ⟨CX, hCx⟩ : ∃ C, C = csx.toArray := ⟨_, rfl⟩
    obtain ⟨hkx, hox⟩ := sub_of (rangeAt_keeps r1x HR.lo (off_lo HS.out _ hg1x)) l1x
    rw [← hCx] at agx hox
    have GX := shut hCx
    clear hCx r1x hdx i1x hg1x
    have HR := shut HR
    go_upto_region 10 with fail
    have BX := blk_new wr CX 49
    have T6 := shut (HR.out.alloc (.cells CX 49))
    clear hkx hox agx HR
    obtain ⟨gx, hgx⟩ : ∃ g, wr.heap.size = g := ⟨_, rfl⟩
    rw [hgx] at BX ⊢
    clear hgx
    generalize wr.alloc (.cells CX 49) = w6 at *
    have hfl := flat_le (f := encStr) HDX.out
    rw [HFA.out] at hfl
    have HFX := shut (flat_take (f := encStr) HDX.out)
    have HTW := shut (str_tyW (HP.out.2.2.2.2.1 _ (List.mem_of_getElem? HDX.out)))
    clear HDX
    obtain ⟨d_pub, d_name, d_lives, d_fields, d_pos⟩ := dx
    obtain ⟨b1, k1, b2, k2, hcs1, hnm1, hlv1, hfd1⟩ := IX.out
    simp only at hcs1 hnm1 hlv1 hfd1 HTW
    obtain ⟨no, hno⟩ : ∃ n, d_lives.length = n := ⟨_, rfl⟩
    obtain ⟨nf, hnf⟩ : ∃ n, d_fields.length = n := ⟨_, rfl⟩
    rw [hno, hnf] at hcs1
    have hnf2 := hfd1.1
    unfold bigN at hnf2
    rw [hnf] at hnf2
    rw [hcs1] at GX
    have HNO := shut hno
    have HNF := shut hnf
    have HLV := shut hlv1
    have HFD := shut hfd1
    obtain ⟨FF, hFF⟩ : ∃ F, (d_fields.map encF).flatten = F := ⟨_, rfl⟩
    obtain ⟨Q, hQ⟩ : ∃ Q, B1 ++ ((s_structs.take t).map encStr).flatten = Q := ⟨_, rfl⟩
    have hQl : Q.length = B1.length + ((s_structs.take t).map encStr).flatten.length := by rw [← hQ, List.length_append]
    have HFX2 : Shut (B1 ++ ((s_structs.take (t + 1)).map encStr).flatten = Q ++ encS d_name ++ encTs d_lives ++ encU nf ++ FF) := shut (by rw [HFX.out, ← hQ]; unfold encStr; simp only [hnf, hFF, List.append_assoc])
    have hel : (encStr ⟨d_pub, d_name, d_lives, d_fields, d_pos⟩).length = (encS d_name).length + (encTs d_lives).length + (encU nf).length + FF.length := by unfold encStr; simp only [hnf, hFF, List.length_append]; omega
    have hq : Q.length + (encS d_name).length + (encTs d_lives).length + (encU nf).length + FF.length ≤ 850000000 := by omega
    rw [hQ] at T6
    have HFF := shut hFF
    clear hcs1 hlv1 hfd1 hno hnf IX HFX hFF hQ hQl hel hfl
    unfold txV at GX
    obtain ⟨-, e1, -, -, -⟩ := StrB GX.out BX
    have hc := wtext_any T6.out.wn d_name hnm1 (by (try simp only [List.length_append, List.length_nil]); omega)
    go_wp2_with fail
    refine hc.mono ?_
    rintro e w7 ⟨rfl, ao7, cap7, h7⟩
    have BX2 := T6.out.wn.box BX (by decide) (by decide) h7.k
    have T7 := shut (T6.out.trans h7)
    clear hc T6 h7 e1 BX
    have BX := BX2
    clear BX2
    obtain ⟨-, -, e2, -, -⟩ := StrB GX.out BX
    have hc := texts_any T7.out.wn k1 (HLV.out.keeps T7.out.lo (off_lo HS.out) (fun _ h => h) (fun _ _ _ h => h)) HS.out (by (try simp only [List.length_append, List.length_nil]); omega)
    rw [HNO.out] at hc
    go_wp2_with fail
    refine hc.mono ?_
    rintro e w8 ⟨rfl, ao8, cap8, h8⟩
    have BX2 := T7.out.wn.box BX (by decide) (by decide) h8.k
    have T8 := shut (T7.out.trans h8)
    clear hc T7 h8 e2 BX
    have BX := BX2
    clear BX2
    obtain ⟨-, -, -, e3, -⟩ := StrB GX.out BX
    have hc := number_any T8.out.wn nf (by omega) (by omega) (by (try simp only [List.length_append, List.length_nil]); omega)
    rw [Int.toNat_natCast] at hc
    go_wp2_with fail
    refine hc.mono ?_
    rintro e w9 ⟨rfl, ao9, cap9, h9⟩
    have BX2 := T8.out.wn.box BX (by decide) (by decide) h9.k
    have T9 := shut (T8.out.trans h9)
    clear hc T8 h9 e3 BX
    have BX := BX2
    clear BX2
    obtain ⟨-, -, -, e3, -⟩ := StrB GX.out BX
    obtain ⟨B2, hB2⟩ : ∃ B, Q ++ encS d_name ++ encTs d_lives ++ encU nf = B := ⟨_, rfl⟩
    have hb2 : B2.length = Q.length + (encS d_name).length + (encTs d_lives).length + (encU nf).length := by rw [← hB2]; simp only [List.length_append]
    rw [hB2] at T9 HFX2
    clear hB2
    go_wp2_with fail
    go_loopw [8, 50] (fun s8 s50 wx => ∃ (u : Nat) (aoR : Option Addr) (capR : Nat), s50 = .int .i64 u ∧ u ≤ nf ∧ WT p w2 p none wx aoR capR (B2 ++ ((d_fields.take u).map encF).flatten)) (fun _ s50 _ => nf - (intOf s50).toNat)
    case atStart => exact ⟨0, ao9, cap9, rfl, Nat.zero_le _, by simpa using T9.out⟩
    case round =>
     clear T9 e3 BX
     obtain ⟨u, aoR, capR, rfl, hu, HR⟩ := hrel
     by_cases hltu : u < nf
     ·skip
      obtain ⟨dy, hdy⟩ : ∃ d, d_fields[u]? = some d := ⟨_, List.getElem?_eq_getElem (by rw [HNF.out]; exact hltu)⟩
      obtain ⟨g1y, o1y, rfl, hg1y, csy, l1y, r1y, i1y⟩ := HFD.out.get hdy
      have HDY := shut hdy
      have m0y : (0 : Int) ≤ u := by omega
      have m1y : (u : Int) < nf := by omega
      have agy := agg_ok l1y i1y.one
      have IY := shut i1y
      obtain ⟨CY, hCy⟩ : ∃ C, C = csy.toArray := ⟨_, rfl⟩
      obtain ⟨hky, hoy⟩ := sub_of (rangeAt_keeps r1y HR.lo (off_lo HS.out _ hg1y)) l1y
      rw [← hCy] at agy hoy
      have GY := shut hCy
      clear hCy r1y hdy i1y hg1y
      have HR := shut HR
      go_upto_region 16 with fail
      have BY := blk_new wr CY 73
      have T10 := shut (HR.out.alloc (.cells CY 73))
      clear hky hoy agy HR
      obtain ⟨gy, hgy⟩ : ∃ g, wr.heap.size = g := ⟨_, rfl⟩
      rw [hgy] at BY ⊢
      clear hgy
      generalize wr.alloc (.cells CY 73) = w10 at *
      have hfl := flat_le (f := encF) HDY.out
      rw [HFF.out] at hfl
      have HFX := shut (flat_take (f := encF) HDY.out)
      have HTW1 := shut (HTW.out _ (List.mem_of_getElem? HDY.out))
      clear HDY
      obtain ⟨y_mu, y_name, y_ty⟩ := dy
      obtain ⟨s2, hcs1, hnm2, hty1⟩ := IY.out
      have hs2 := hty1.len
      simp only at hcs1 hnm2 hty1 HTW1
      rw [hcs1] at GY
      have HTY := shut hty1
      have hel : (encF ⟨y_mu, y_name, y_ty⟩).length = (encS y_name).length + (encT y_ty).length := by unfold encF; rw [List.length_append]
      have HFX3 : Shut (B2 ++ ((d_fields.take (u + 1)).map encF).flatten = (B2 ++ ((d_fields.take u).map encF).flatten) ++ encS y_name ++ encT y_ty) := shut (by rw [HFX.out]; unfold encF; simp only [List.append_assoc])
      clear hcs1 hty1 IY HFX
      unfold txV at GY
      obtain ⟨-, e1, -⟩ := FldB hs2 GY.out BY
      have hc := wtext_any T10.out.wn y_name hnm2 (by (try simp only [List.length_append, List.length_nil]); omega)
      go_wp2_with fail
      refine hc.mono ?_
      rintro e w11 ⟨rfl, ao11, cap11, h11⟩
      have BY2 := T10.out.wn.box BY (by decide) (by decide) h11.k
      have T11 := shut (T10.out.trans h11)
      clear hc T10 h11 e1 BY
      have BY := BY2
      clear BY2
      obtain ⟨-, -, y1, y2⟩ := FldB hs2 GY.out BY
      have hc := wkind_any HS.out y_ty w11 s2 ao11 cap11 _ HTW1.out (HTY.out.keeps T11.out.lo (off_lo HS.out) (fun _ h => h)) T11.out.wn (by (try simp only [List.length_append, List.length_nil]); omega)
      go_wp2_with fail
      refine hc.mono ?_
      rintro e w12 ⟨rfl, ao12, cap12, h12⟩
      have T12 := shut (T11.out.trans h12)
      clear hc T11 h12 y1 y2 BY 
      rw [← HFX3.out] at T12
      clear HFX3 hel hfl
      go_wp2_with fail
      go_roundw
      case rel => exact ⟨u + 1, ao12, cap12, by go_num, by omega, T12.out⟩
      case measure => simp [intOf]; omega
     ·obtain rfl : u = nf := by omega
      obtain ⟨nf, rfl⟩ : ∃ n, n = u := ⟨_, rfl⟩
      have m1 : ¬ (nf : Int) < nf := by omega
      rw [flat_all HNF.out, HFF.out, ← HFX2.out] at HR
      have T10 := shut HR
      clear HR HFX2
      go_wp2_with fail
      go_roundw
      case rel => exact ⟨t + 1, aoR, capR, by go_num, by omega, T10.out⟩
      case measure => simp [intOf]; omega
   ·obtain rfl : t = n1 := by omega
    obtain ⟨n1, rfl⟩ : ∃ n, n = t := ⟨_, rfl⟩
    have m1 : ¬ (n1 : Int) < n1 := by omega
    rw [flat_all HN1.out, HFA.out] at HR
    have T6 := shut HR
    have BS6 := HR.lo.blk HB2.out (fun q => Nat.not_lt.2 q hgsp)
    clear HR
    obtain ⟨w6, rfl⟩ : ∃ w6, w6 = wr := ⟨_, rfl⟩
    obtain ⟨-, -, e2⟩ := SigB GS2.out BS6
    have hc := number_any T6.out.wn n2 (by omega) (by omega) (by (try simp only [List.length_append, List.length_nil]); omega)
    rw [Int.toNat_natCast] at hc
    go_wp2_with fail
    refine hc.mono ?_
    rintro e w7 ⟨rfl, ao7, cap7, h7⟩
    have BS7 := h7.lo.blk BS6 (fun q => Nat.not_lt.2 q hgsp)
    have T7 := shut (T6.out.trans h7)
    clear hc T6 h7 BS6 e2
    obtain ⟨-, -, e2⟩ := SigB GS2.out BS7
    obtain ⟨B2, hB2⟩ : ∃ B, B1 ++ F1 ++ encU n2 = B := ⟨_, rfl⟩
    have hb2 : B2.length = B1.length + F1.length + (encU n2).length := by rw [← hB2]; simp only [List.length_append]
    rw [hB2] at T7 HRT
    clear hB2
    go_wp2_with fail
    go_loopw [10, 72] (fun s10 s72 wx => ∃ (t : Nat) (aoR : Option Addr) (capR : Nat), s72 = .int .i64 t ∧ t ≤ n2 ∧ WT p w2 p none wx aoR capR (B2 ++ ((s_funcs.take t).map encFun).flatten)) (fun _ s72 _ => n2 - (intOf s72).toNat)
    case atStart => exact ⟨0, ao7, cap7, rfl, Nat.zero_le _, by simpa using T7.out⟩
    case round =>
     clear T7 e2
     obtain ⟨t, aoR, capR, rfl, ht, HR⟩ := hrel
     by_cases hlt : t < n2
     ·skip
      obtain ⟨dx, hdx⟩ : ∃ d, s_funcs[t]? = some d := ⟨_, List.getElem?_eq_getElem (by rw [HN2.out]; exact hlt)⟩
      obtain ⟨g1x, o1x, rfl, hg1x, csx, l1x, r1x, i1x⟩ := H2.out.get hdx
      have HDX := shut hdx
      have m0x : (0 : Int) ≤ t := by omega
      have m1x : (t : Int) < n2 := by omega
      have agx := agg_ok l1x i1x.one
      have IX := shut i1x
      obtain ⟨CX, hCx⟩ : ∃ C, C = csx.toArray := ⟨_, rfl⟩
      obtain ⟨hkx, hox⟩ := sub_of (rangeAt_keeps r1x HR.lo (off_lo HS.out _ hg1x)) l1x
      rw [← hCx] at agx hox
      have GX := shut hCx
      clear hCx r1x hdx i1x hg1x
      have HR := shut HR
      go_upto_region 24 with fail
      have BX := blk_new wr CX 56
      have T8 := shut (HR.out.alloc (.cells CX 56))
      clear hkx hox agx HR
      obtain ⟨gx, hgx⟩ : ∃ g, wr.heap.size = g := ⟨_, rfl⟩
      rw [hgx] at BX ⊢
      clear hgx
      generalize wr.alloc (.cells CX 56) = w8 at *
      have hfl := flat_le (f := encFun) HDX.out
      rw [HFB.out] at hfl
      have HFX : Shut (B2 ++ ((s_funcs.take (t + 1)).map encFun).flatten = (B2 ++ ((s_funcs.take t).map encFun).flatten) ++ encFun dx) := shut (by rw [flat_take (f := encFun) HDX.out, List.append_assoc])
      have htw := fun_tyW (HP.out.2.2.2.2.2 _ (List.mem_of_getElem? HDX.out))
      clear HDX
      have hsX : CX.size = 10 := by rw [GX.out]; simpa using IX.out.len
      obtain ⟨y1, y2⟩ := tblk_mid BX hsX
      have hc := wfun_any HS.out dx w8 csx htw.1 htw.2 (IX.out.keeps T8.out.lo (off_lo HS.out) (fun _ h => h)) T8.out.wn (by (try simp only [List.length_append]); omega)
      rw [← GX.out] at hc
      go_wp2_with fail
      refine hc.mono ?_
      rintro e w9 ⟨rfl, ao9, cap9, h9⟩
      have T9 := shut (T8.out.trans h9)
      clear hc T8 h9 y1 y2 BX
      rw [← HFX.out] at T9
      clear HFX hfl htw
      go_wp2_with fail
      go_roundw
      case rel => exact ⟨t + 1, ao9, cap9, by go_num, by omega, T9.out⟩
      case measure => simp [intOf]; omega
     ·obtain rfl : t = n2 := by omega
      obtain ⟨n2, rfl⟩ : ∃ n, n = t := ⟨_, rfl⟩
      have m1 : ¬ (n2 : Int) < n2 := by omega
      rw [flat_all HN2.out, HFB.out, ← HRT.out] at HR
      have T8 := shut HR
      clear HR
      have hc := bytes_any T8.out.wn.wr (by rw [HRT.out]; simp only [List.length_append]; omega)
      go_wp2_with fail
      refine hc.mono ?_
      rintro e wf ⟨aoF, capF, rfl, hO, hK, hN⟩
      have hF : Shut (PutPost w ⟨s_name, ⟨s_structs, s_funcs⟩⟩ (.returned (.tuple #[.slice aoF RT.length capF, .nilIface])) wf) := shut ⟨(KW2.trans T8.out.lo (fun b hb hlt => by have hb' : p ≤ b := hb; have := HWP.out; omega)).trans hK (fun _ h _ => h), .inl ⟨HP.out, aoF, capF, by rw [HRS.out], by rw [HRS.out]; exact hO, fun g hg => Nat.le_trans KW2.size (Nat.le_trans T8.out.lo.size (hN g hg))⟩⟩
      clear hc hO hK hN
      go_wp2_with fail
      go_ret2
      exact hF.out
end Go.Proofs.YtjbcagbnagefcaaGreat
namespace Go.Proofs.YtjbcagbnagefcaaGreat
open Go.RowKit
attribute [local irreducible] wpMix wpMixG wpList
attribute [local go_sem ↓] exec_mid_ty exec_store_ty exec_mid_pl exec_store_pl exec_mid_opr exec_store_opr exec_mid_val exec_store_val exec_mid_st exec_store_st exec_mid_fld exec_store_fld exec_mid_str exec_store_str exec_mid_lif exec_store_lif exec_mid_fun exec_store_fun exec_mid_cr exec_store_cr
attribute [local go_sem] rowOk_new World.setRow_alloc_new
attribute [local go_sem ↓] exec_into_pl exec_into_opr exec_into_ty exec_into_val exec_mid_sig exec_store_sig
theorem sequal_any (w : World) {aa ab : Option Addr} {na nb : Nat} (ca cb : Nat) {a b : List UInt8} (hna : a.length = na) (hnb : b.length = nb) (hA : BytesAt w aa a) (hB : BytesAt w ab b) :
  Calls Tryz.prog 36 #[.slice aa na ca, .slice ab nb cb] w fun e w' => e = .returned (.bool (a == b)) ∧ w' = w := by
 have e1 := run_str w ca a hna hA
 have e2 := run_str w cb b hnb hB
 go_enter Tryz.func36, Tryz.ntmps36
 go_wp2_with fail
 go_ret
 exact ⟨rfl, rfl⟩
theorem loadVar_sig (w : World) (g : Nat) (cs : Array Value) (t : TypeId) (hb : Blk w g cs t) (hs : cs.size = 3) : (loadVar 32 ⟨g, 0, none⟩).run Tryz.prog w = .ok (.agg cs) w :=
 run_loadVar_row w g t _ cs (0, 0) _ hb Tryz.underlying32 rfl (by rw [infoSig, hs])
def ShowP (x : StrD) : Prop := x.pub = true ∧ x.pos = 0 ∧ StrP x
theorem mayS_show {s : SigD} (h : MayS s) : (∀ x ∈ s.cr.structs, ShowP x) ∧ (∀ f ∈ s.cr.funcs, HeadP f) ∧ s.name.length ≤ 66 ∧ s.cr.structs.length ≤ 256 ∧ s.cr.funcs.length ≤ 256 := by
 obtain ⟨h1, h2, h3, h4, h5, h6⟩ := h
 exact ⟨fun x hx => ⟨(h1 x hx).1, (h1 x hx).2, h5 x hx⟩, fun f hf => ⟨(h2 f hf).1, (h2 f hf).2.1, (h2 f hf).2.2, h6 f hf⟩, by have := name_len h3; omega, by omega, by omega⟩
def GetPost (w : World) (bs : List UInt8) (e : Ending) (w' : World) : Prop := Keeps Nothing w w' ∧ ((∃ (s : SigD) (cs : List Value), MayS s ∧ encSig s = bs ∧ e = .returned (.tuple #[.agg cs.toArray, .nilIface]) ∧ SigIs (fun b => b < w'.heap.size) w' s cs) ∨ ((∀ s, MayS s → encSig s ≠ bs) ∧ ∃ ev, e = .returned (.tuple #[.agg #[.string ⟨#[]⟩, .slice none 0 0, .slice none 0 0], ev]) ∧ IsErr w.heap.size w' ev 4 0))
set_option maxRecDepth 100000 in
set_option linter.unusedSimpArgs false in
set_option maxHeartbeats 16000000 in
theorem get_any (w : World) (hM : MaxV w) {ab : Option Addr} (cb : Nat) {bs : List UInt8} {nb : Nat} (hnb : bs.length = nb) (hB : BytesAt w ab bs) (hl : bs.length ≤ 1000000000) :
  Calls Tryz.prog 12 #[.slice ab nb cb] w (GetPost w bs) := by
 have HM := shut hM
 have HNB := shut hnb
 have HBY := shut hB
 have ka : Keeps Nothing w (w.alloc (.cells #[.string ⟨#[]⟩, .slice none 0 0, .slice none 0 0] 32)) := (Keeps.refl Nothing w).alloc _
 have B2 := blk_new w #[.string ⟨#[]⟩, .slice none 0 0, .slice none 0 0] 32
 have hc := newReader_len cb hnb (hB.keeps ka (fun _ _ h => h)) hl
 clear hM hB
 go_enter Tryz.func12, Tryz.ntmps12
 go_upto_region 1 with fail
 have H2w := lt_of_block B2
 obtain ⟨g2, hg2⟩ : ∃ q, w.heap.size = q := ⟨_, rfl⟩
 have HS2 : Shut (w.heap.size ≤ g2) := shut (Nat.le_of_eq hg2)
 rw [hg2] at B2 H2w
 try rw [hg2]
 clear hg2
 generalize w.alloc (.cells #[.string ⟨#[]⟩, .slice none 0 0, .slice none 0 0] 32) = w0 at *
 go_wp2_with (refine hc.mono ?_; rintro e w1 ⟨p, ao, cap, rfl, hR, k1, hpq, hnew⟩)
 have KW1 := ka.trans k1 (fun _ h _ => h)
 have B2a := k1.blk B2 (fun h => h)
 have B3 := blk_new w1 #[.pointer (some ⟨p, 0, none⟩), .bool false] 82
 have ka2 : Keeps Nothing w1 (w1.alloc (.cells #[.pointer (some ⟨p, 0, none⟩), .bool false] 82)) := (Keeps.refl Nothing w1).alloc _
 have hG : Gt (w1.alloc (.cells #[.pointer (some ⟨p, 0, none⟩), .bool false] 82)) w1.heap.size p ao cap bs (some 0) := ⟨B3, 0, hR.keepsN ka2, fun j hj => Option.some.inj hj⟩
 have B2b := ka2.blk B2a (fun h => h)
 have KW2 := KW1.trans ka2 (fun _ h _ => h)
 have hpl := lt_of_block hR.blk
 have h21 := lt_of_block B2a
 have hw01 := k1.size
 clear hc hR k1 KW1 B2 B2a ka
 go_upto_region 2 with fail
 obtain ⟨g, hg⟩ : ∃ q, w1.heap.size = q := ⟨_, rfl⟩
 rw [hg] at hG B3
 try rw [hg]
 have hgw : g < (w1.alloc (.cells #[.pointer (some ⟨p, 0, none⟩), .bool false] 82)).heap.size := hG.lt.1
 have hpw := hG.lt.2
 have hn2 : ¬ GF g p g2 := fun q => by rcases q with q | q <;> omega
 have HGN : Shut (w.heap.size ≤ g ∧ w.heap.size ≤ p) := shut (by have := HS2.out; omega)
 have h2b := lt_of_block B2b
 clear ka2 hg hpl h21 hw01 hpq hnew B3 H2w
 generalize w1.alloc (.cells #[.pointer (some ⟨p, 0, none⟩), .bool false] 82) = w2 at *
 have B2 := B2b
 clear B2b
 have HW2 : Shut (w.heap.size ≤ w2.heap.size) := shut KW2.size
 have KR : Keeps (GF g p) w2 w2 := Keeps.refl _ _
 have hc := gtext_any hG hl
 go_wp2_with fail
 refine hc.mono ?_
 rintro e w3 ⟨z0, s0, rfl, hz0, hz0n, hG2, hK2, hgot⟩
 have HGOTw3 := shut hgot
 have KR2 := KR.trans hK2 (fun _ h _ => h)
 have B22 := hK2.blk B2 hn2
 clear hc KR hG hgot B2
 have KR := KR2
 have hG := hG2
 have B2 := B22
 clear KR2 hG2 B22
 obtain ⟨zb, hzb⟩ : ∃ b, (z0 == ([85, 83, 73, 71] : List UInt8)) = b := ⟨_, rfl⟩
 obtain ⟨s1, hs1⟩ : ∃ s : Option Nat, s = (if zb = true then s0 else none) := ⟨_, rfl⟩
 have hzs : (!zb) = s1.isNone := by
  rw [hs1]
  cases zb with
  | false => rfl
  | true =>
   rw [if_pos rfl]
   cases s0 with
   | none =>
    rw [hz0n rfl] at hzb
    cases hzb
   | some j => rfl
 obtain ⟨hG2, hK2b, -, f1⟩ := gt_set hG (!zb) hzs (fun j hj => by rw [hs1] at hj; cases zb with | false => cases hj | true => exact hj)
 have c1 := blk_cell hG.blk 1 rfl
 have HG0 : Shut (Got bs (some 0) (encS usig) True s1) := shut (fun k r hk hr => by
  obtain ⟨q1, q2⟩ := HGOTw3.out usig (by decide) k r hk hr
  refine ⟨trivial, ?_⟩
  have q3 : zb = true := by rw [← hzb, q1]; rfl
  rw [hs1, if_pos q3]
  exact q2)
 have B22 := hK2b.blk B2 hn2
 have KR2 := KR.trans hK2b (fun _ h _ => h)
 have hzne : (z0 != ([85, 83, 73, 71] : List UInt8)) = !zb := by rw [← hzb]; rfl
 clear hG KR B2 hzs hs1 hz0n hK2b
 go_upto_region 3 with fail
 any_goals try (rename_i hfz; simp [f1] at hfz; done)
 clear c1 f1 hzb hzne
 generalize w3.setCell ⟨g, 1, none⟩ (.bool (!zb)) = w4 at *
 have hG := hG2
 have KR := KR2
 have B2 := B22
 clear hG2 KR2 B22
 have hc := gtext_any hG hl
 go_wp2_with fail
 refine hc.mono ?_
 rintro e w5 ⟨nm, s2, rfl, hnm, -, hG2, hK2, hgot⟩
 have HGOTw5 := shut hgot
 have KR2 := KR.trans hK2 (fun _ h _ => h)
 have B22 := hK2.blk B2 hn2
 clear hc KR hG hgot B2
 have KR := KR2
 have hG := hG2
 have B2 := B22
 clear KR2 hG2 B22
 have ka : Keeps Nothing w5 (w5.alloc (.cells #[.string ⟨nm.toArray⟩, .slice none 0 0, .slice none 0 0] 32)) := (Keeps.refl Nothing w5).alloc _
 have B52 := blk_new w5 #[.string ⟨nm.toArray⟩, .slice none 0 0, .slice none 0 0] 32
 have KR2 := KR.trans ka (fun _ h _ => h.elim)
 have hG2 := hG.keepsN ka
 have HSZ5 : w2.heap.size ≤ w5.heap.size := KR.size
 have hgl := hG.lt
 have B22 := ka.blk B2 (fun h => h)
 go_upto_region 4 with fail
 obtain ⟨g5, hg5⟩ : ∃ q, w5.heap.size = q := ⟨_, rfl⟩
 have hn5 : ¬ GF g p g5 := fun q => by rcases q with q | q <;> omega
 have HS5 : Shut (w2.heap.size ≤ g5) := shut (by rw [← hg5]; exact HSZ5)
 rw [hg5] at B52
 try rw [hg5]
 clear KR hG ka hgl HSZ5 hg5 B2
 generalize (w5.alloc (.cells #[.string ⟨nm.toArray⟩, .slice none 0 0, .slice none 0 0] 32)) = w6 at *
 have KR := KR2
 have hG := hG2
 have B5 := B52
 have B2 := B22
 clear KR2 hG2 B52 B22
 have hc := gnum_any hG hl 256 (by omega)
 go_wp2_with fail
 refine hc.mono ?_
 rintro e w7 ⟨n1, s3, rfl, hn1, hG2, hK2, hgot⟩
 have HGOTw7 := shut hgot
 have KR2 := KR.trans hK2 (fun _ h _ => h)
 have B22 := hK2.blk B2 hn2
 have B52 := hK2.blk B5 hn5
 clear hc KR hG hgot B2 B5
 have KR := KR2
 have hG := hG2
 have B2 := B22
 have B5 := B52
 clear KR2 hG2 B22 B52
 have HNE : Shut (g2 ≠ g5) := shut (fun q => by have := HS5.out; omega)
 have hZG : ∀ b, ¬ (b < w2.heap.size ∨ b = g2 ∨ b = g5) → ¬ GF g p b := fun b hb q => hb (.inl (by rcases q with q | q <;> omega))
 have hNG : ∀ b, w2.heap.size ≤ b → ¬ GF g p b := fun b hb q => by rcases q with q | q <;> omega
 have H0 : Shut (∃ (L : List StrD) (aq : Option Addr) (cq : Nat), L.length = 0 ∧ Blk w7 g5 #[.string ⟨nm.toArray⟩, .slice aq (0) cq, .slice none (0) 0] 32 ∧ OutR (Zx (fun b => b < w2.heap.size ∨ b = g2 ∨ b = g5)) 49 5 StrIs w2.heap.size w7 aq cq L ∧ ∀ l : List StrD, (∀ x ∈ l, ShowP x) → l.length = n1 → Got bs s3 ((l.take (0)).map encStr).flatten (L = l.take (0)) s3) := shut ⟨[], none, 0, rfl, B5, outR_nil _ _ _ _ _ _, fun l _ _ => Got.nil rfl⟩
 have HG := shut hG
 have HKR := shut KR
 have HB2 := shut B2
 clear hG KR B2 B5
 go_wp2_with fail
 go_loopw [6, 7, 25] (fun s6 s7 s25 wx => ∃ (t : Nat) (sx : Option Nat), s25 = .int .i64 t ∧ t ≤ n1 ∧ Gt wx g p ao cap bs sx ∧ Keeps (GF g p) w2 wx ∧ Blk wx g2 #[.string ⟨#[]⟩, .slice none 0 0, .slice none 0 0] 32 ∧ Shut (∃ (L : List StrD) (aq : Option Addr) (cq : Nat), L.length = t ∧ Blk wx g5 #[.string ⟨nm.toArray⟩, .slice aq (t) cq, .slice none (0) 0] 32 ∧ OutR (Zx (fun b => b < w2.heap.size ∨ b = g2 ∨ b = g5)) 49 5 StrIs w2.heap.size wx aq cq L ∧ ∀ l : List StrD, (∀ x ∈ l, ShowP x) → l.length = n1 → Got bs s3 ((l.take (t)).map encStr).flatten (L = l.take (t)) sx)) (fun _ _ s25 _ => n1 - (intOf s25).toNat)
 case atStart => exact ⟨0, s3, rfl, Nat.zero_le _, HG.out, HKR.out, HB2.out, H0⟩
 case round =>
  clear HG HKR HB2 H0
  obtain ⟨t, sx, rfl, ht, hG, KL, B2, HR⟩ := hrel
  obtain ⟨L, aL, cL, hLl, B5, HO, hgl⟩ := HR.out
  have HGL := shut hgl
  have HLL := shut hLl
  clear HR hgl hLl
  by_cases hltt : t < n1
  ·skip
   have KR0 : Keeps (GF g p) wr wr := Keeps.refl _ _
   have KLO := shut KL
   have hc := gtext_any hG hl
   go_wp2_with fail
   refine hc.mono ?_
   rintro e v1 ⟨xnm, sa, rfl, hxnm, -, hG2, hK2, hgot⟩
   have HGOTv1 := shut hgot
   have KR2 := KR0.trans hK2 (fun _ h _ => h)
   clear hc KR0 hG hgot 
   have KR := KR2
   have hG := hG2
   clear KR2 hG2 
   have ka : Keeps Nothing v1 (v1.alloc (.cells #[.bool true, .string ⟨xnm.toArray⟩, .slice none (0) 0, .slice none (0) 0, .int .i64 0] 49)) := (Keeps.refl Nothing v1).alloc _
   have B62 := blk_new v1 #[.bool true, .string ⟨xnm.toArray⟩, .slice none (0) 0, .slice none (0) 0, .int .i64 0] 49
   have KR2 := KR.trans ka (fun _ h _ => h.elim)
   have hG2 := hG.keepsN ka
   have HSZ6 : wr.heap.size ≤ v1.heap.size := KR.size
   have hgl := hG.lt
   go_upto_region 7 with fail
   obtain ⟨g6, hg6⟩ : ∃ q, v1.heap.size = q := ⟨_, rfl⟩
   have hn6 : ¬ GF g p g6 := fun q => by rcases q with q | q <;> omega
   have HS6 : Shut (wr.heap.size ≤ g6) := shut (by rw [← hg6]; exact HSZ6)
   rw [hg6] at B62
   try rw [hg6]
   clear KR hG ka hgl HSZ6 hg6 
   generalize (v1.alloc (.cells #[.bool true, .string ⟨xnm.toArray⟩, .slice none (0) 0, .slice none (0) 0, .int .i64 0] 49)) = v2 at *
   have KR := KR2
   have hG := hG2
   have B6 := B62
   clear KR2 hG2 B62 
   have hv2 : Shut (wr.heap.size ≤ v2.heap.size) := shut KR.size
   have h6l := shut (lt_of_block B6)
   have hc := gtexts_any hG hl
   go_wp2_with fail
   refine hc.mono ?_
   rintro e v3 ⟨Lo, aV, cV, sb, rfl, hLo, hG2, hK2, hgot⟩
   have HGOTv3 := shut hgot
   have HKV3 := shut hK2.size
   have KR2 := KR.trans hK2 (fun _ h _ => h)
   have B62 := hK2.blk B6 hn6
   clear hc KR hG hgot B6
   have KR := KR2
   have hG := hG2
   have B6 := B62
   clear KR2 hG2 B62
   have e1 := blk_cell B6 2 (v := .slice none 0 0) rfl
   have f1 := blk_free B6 2
   have ks : Keeps (fun b => b = g6) v3 (v3.setCell ⟨g6, 2, none⟩ (.slice aV Lo.length cV)) := (Keeps.refl (fun b => b = g6) v3).setCell (p := ⟨g6, 2, none⟩) (fun _ => rfl) _
   have B62 := (blk_set B6 2 (.slice aV Lo.length cV) : Blk (v3.setCell ⟨g6, 2, none⟩ (.slice aV Lo.length cV)) g6 #[.bool true, .string ⟨xnm.toArray⟩, .slice aV (Lo.length) cV, .slice none (0) 0, .int .i64 0] 49)
   have KR2 := KR.trans ks (fun b hb hlt => by have hb' : b = g6 := hb; have := HS6.out; omega)
   have hG2 := hG.box B6 (not_gT (by decide) (by decide) (by decide)) ks
   have HLO := shut (txNewA (N := v2.heap.size) hLo (Nat.le_refl _) ks (fun b hb q => by have q2 : b = g6 := q; have := h6l.out; omega))
   clear hLo
   have HLOS : v2.heap.size ≤ (v3.setCell ⟨g6, 2, none⟩ (.slice aV Lo.length cV)).heap.size := by rw [World.size_setCell]; exact HKV3.out
   clear KR hG ks B6 
   go_upto_region 8 with fail
   any_goals try (rename_i hfz; simp [f1] at hfz; done)
   clear e1 f1
   generalize (v3.setCell ⟨g6, 2, none⟩ (.slice aV Lo.length cV)) = v4 at *
   have KR := KR2
   have hG := hG2
   have B6 := B62
   clear KR2 hG2 B62 
   have h24 : v2.heap.size ≤ v4.heap.size := by have := HLOS; exact this
   have hc := gnum_any hG hl 64 (by omega)
   go_wp2_with fail
   refine hc.mono ?_
   rintro e v5 ⟨nf, sc, rfl, hnf, hG2, hK2, hgot⟩
   have HGOTv5 := shut hgot
   have KR2 := KR.trans hK2 (fun _ h _ => h)
   have B62 := hK2.blk B6 hn6
   clear hc KR hG hgot B6
   have KR := KR2
   have hG := hG2
   have B6 := B62
   clear KR2 hG2 B62
   have HLI := shut (HLO.out.keeps hK2 (fun b hb q => by have h1 := hb.1; have := hv2.out; have := KLO.out.size; rcases q with q | q <;> omega) (fun b hb => ⟨hb.1, Nat.lt_of_lt_of_le hb.2 hK2.size⟩) (fun _ _ _ h => h) : SlIs (NewA v2.heap.size v5) v5 1 TxIs aV Lo)
   have HV25 : Shut (v2.heap.size ≤ v5.heap.size) := shut (Nat.le_trans h24 hK2.size)
   have HGOTvI := HGOTv5
   obtain ⟨vI, rfl⟩ : ∃ v, v = v5 := ⟨_, rfl⟩
   have HRI : Shut (wr.heap.size ≤ vI.heap.size) := shut KR.size
   have h6I := lt_of_block B6
   have h2v : g2 < vI.heap.size := Nat.lt_of_lt_of_le (lt_of_block B2) KR.size
   have hszw := KL.size
   have HZO := shut hZG
   have HNO := shut hNG
   have hZG : ∀ b, ¬ (b < vI.heap.size ∨ b = g2 ∨ b = g6) → ¬ GF g p b := fun b hb q => hb (.inl (by have := HRI.out; rcases q with q | q <;> omega))
   have hNG : ∀ b, vI.heap.size ≤ b → ¬ GF g p b := fun b hb q => by have := HRI.out; rcases q with q | q <;> omega
   have H0 : Shut (∃ (M : List FldD) (aq : Option Addr) (cq : Nat), M.length = 0 ∧ Blk vI g6 #[.bool true, .string ⟨xnm.toArray⟩, .slice aV (Lo.length) cV, .slice aq (0) cq, .int .i64 0] 49 ∧ OutR (Zx (fun b => b < vI.heap.size ∨ b = g2 ∨ b = g6)) 73 6 FldIs vI.heap.size vI aq cq M ∧ ∀ l : List FldD, (∀ x ∈ l, FldP false x) → l.length = nf → Got bs sc ((l.take (0)).map encF).flatten (M = l.take (0)) sc) := shut ⟨[], none, 0, rfl, B6, outR_nil _ _ _ _ _ _, fun l _ _ => Got.nil rfl⟩
   have HG := shut hG
   have HKRI := shut KR
   have HLX := HLL
   have HXO := shut HO
   have HB5 := shut B5
   have HB2 := shut B2
   obtain ⟨wO, hwO⟩ : ∃ v, v = wr := ⟨_, rfl⟩
   rw [← hwO] at HKRI HXO HB5 HB2 KLO HRI hv2 HS6 hszw
   clear hG KR B6 HLO HLL HO B5 B2 KL h24 hwO
   go_wp2_with fail
   go_loopw [7, 35] (fun s7 s35 wx => ∃ (u : Nat) (sy : Option Nat), s35 = .int .i64 u ∧ u ≤ nf ∧ Gt wx g p ao cap bs sy ∧ Keeps (fun b => GF g p b ∨ b = g6) vI wx ∧ Shut (∃ (M : List FldD) (aq : Option Addr) (cq : Nat), M.length = u ∧ Blk wx g6 #[.bool true, .string ⟨xnm.toArray⟩, .slice aV (Lo.length) cV, .slice aq (u) cq, .int .i64 0] 49 ∧ OutR (Zx (fun b => b < vI.heap.size ∨ b = g2 ∨ b = g6)) 73 6 FldIs vI.heap.size wx aq cq M ∧ ∀ l : List FldD, (∀ x ∈ l, FldP false x) → l.length = nf → Got bs sc ((l.take (u)).map encF).flatten (M = l.take (u)) sy)) (fun _ s35 _ => nf - (intOf s35).toNat)
   case atStart => exact ⟨0, sc, rfl, Nat.zero_le _, HG.out, Keeps.refl _ _, H0⟩
   case round =>
    clear HG H0
    obtain ⟨u, sy, rfl, hu, hG, KL, HR⟩ := hrel
    obtain ⟨M, aM, cM, hLl, B6, HO, hgl⟩ := HR.out
    have HGM := shut hgl
    have HLL := shut hLl
    clear HR hgl hLl
    by_cases hltu : u < nf
    ·skip
     have KR0 : Keeps (GF g p) wr wr := Keeps.refl _ _
     have hc := gtext_any hG hl
     go_wp2_with fail
     refine hc.mono ?_
     rintro e x1 ⟨fnm, sd, rfl, hfnm, -, hG2, hK2, hgot⟩
     have HGOTx1 := shut hgot
     have KR2 := KR0.trans hK2 (fun _ h _ => h)
     clear hc KR0 hG hgot 
     have KR := KR2
     have hG := hG2
     clear KR2 hG2 
     have hgw0 := KL.size
     have ka : Keeps Nothing x1 (x1.alloc (.cells #[.bool false, .string ⟨fnm.toArray⟩, .int .i64 0, .string ⟨#[]⟩, .slice none 0 0, .slice none 0 0] 73)) := (Keeps.refl Nothing x1).alloc _
     have B72 := blk_new x1 #[.bool false, .string ⟨fnm.toArray⟩, .int .i64 0, .string ⟨#[]⟩, .slice none 0 0, .slice none 0 0] 73
     have KR2 := KR.trans ka (fun _ h _ => h.elim)
     have hG2 := hG.keepsN ka
     have HSZ7 : wr.heap.size ≤ x1.heap.size := KR.size
     have hgl := hG.lt
     go_upto_region 11 with fail
     obtain ⟨g7, hg7⟩ : ∃ q, x1.heap.size = q := ⟨_, rfl⟩
     have hn7 : ¬ GF g p g7 := fun q => by rcases q with q | q <;> omega
     have HS7 : Shut (wr.heap.size ≤ g7) := shut (by rw [← hg7]; exact HSZ7)
     rw [hg7] at B72
     try rw [hg7]
     clear KR hG ka hgl HSZ7 hg7 
     generalize (x1.alloc (.cells #[.bool false, .string ⟨fnm.toArray⟩, .int .i64 0, .string ⟨#[]⟩, .slice none 0 0, .slice none 0 0] 73)) = x2 at *
     have KR := KR2
     have hG := hG2
     have B7 := B72
     clear KR2 hG2 B72 
     have hx2 : Shut (wr.heap.size ≤ x2.heap.size) := shut KR.size
     have h7l := shut (lt_of_block B7)
     have hc := gkind_any hG hl
     go_wp2_with fail
     refine hc.mono ?_
     rintro e x3 ⟨zt, ct, se, rfl, hzt, hG2, hK2, hgot⟩
     have HGOTx3 := shut hgot
     have KR2 := KR.trans hK2 (fun _ h _ => h)
     have B72 := hK2.blk B7 hn7
     clear hc KR hG hgot B7
     have KR := KR2
     have hG := hG2
     have B7 := B72
     clear KR2 hG2 B72
     have lct := hzt.len
     have agn := agg_ok lct hzt.one
     have e1 := midFit_blk B7 (o := 2) (n := 4) (by simp)
     have ks : Keeps (fun b => b = g7) x3 (midSet x3 g7 2 ct.toArray) := midSet_keeps (Keeps.refl (fun b => b = g7) x3) (g := g7) (fun _ => rfl) _ _
     have B72 := (box_mid (pre := ([.bool false, .string ⟨fnm.toArray⟩] : List Value)) (mid := ([.int .i64 0, .string ⟨#[]⟩, .slice none 0 0, .slice none 0 0] : List Value)) (post := ([] : List Value)) (new := ct) (o := 2) B7 (by rfl) rfl (by rw [lct]; rfl) : Blk (midSet x3 g7 2 ct.toArray) g7 ((([.bool false, .string ⟨fnm.toArray⟩] : List Value)) ++ (ct ++ (([] : List Value)))).toArray 73)
     have KR2 := KR.trans ks (fun b hb hlt => by have hb' : b = g7 := hb; have := HS7.out; omega)
     have hG2 := hG.box B7 (not_gT (by decide) (by decide) (by decide)) ks
     have HZT := shut (tyNewA (N := wr.heap.size) hzt hx2.out ks (fun b hb q => by have q2 : b = g7 := q; have := h7l.out; omega))
     clear hzt
     clear KR hG ks B7 
     go_upto_region 12 with fail
     clear e1
     generalize (midSet x3 g7 2 ct.toArray) = x4 at *
     have KR := KR2
     have hG := hG2
     have B7 := B72
     clear KR2 hG2 B72 
     clear agn
     rw [List.append_nil] at B7
     have HEL0 : Shut (FldIs (NewA wr.heap.size x4) x4 ⟨false, fnm, zt⟩ (([.bool false, .string ⟨fnm.toArray⟩] : List Value) ++ ct)) := shut ⟨ct, rfl, by show fnm.length ≤ bigN; unfold bigN; omega, HZT.out⟩
     have h6r := lt_of_block B6
     have hszw2 := KL.size
     clear HZT
     have B6w := KR.blk B6 hn6
     have HOw := HO.keeps (zx_ok _) fldOk KR (fun b hb => hZG b hb.2) (fun b hb => hNG b (HO.new b hb))
     have c30 := blk_cell B6w 3 (v := .slice aM u cM) rfl
     obtain ⟨Cz, hCz⟩ : ∃ C, C = (([.bool false, .string ⟨fnm.toArray⟩] : List Value) ++ ct : List Value).toArray := ⟨_, rfl⟩
     have hlz : (([.bool false, .string ⟨fnm.toArray⟩] : List Value) ++ ct : List Value).length = 6 := HEL0.out.len
     have hsz : Cz.size = 6 := by rw [hCz, List.size_toArray]; exact hlz
     have agz : aggOk 6 (.agg Cz) = true := by rw [hCz]; exact agg_ok hlz HEL0.out.one
     have B7c : Blk x4 g7 Cz 73 := by rw [hCz]; exact B7
     have GCz := shut hCz
     clear hCz
     obtain ⟨z1, z2⟩ := tblk_mid B7c hsz
     have BB := blk_new x4 Cz 73
     have kb : Keeps Nothing x4 (x4.alloc (.cells Cz 73)) := (Keeps.refl Nothing x4).alloc _
     have HO3 := shut (HOw.keepsN (zx_ok _) fldOk kb)
     have hszr := KR.size
     have hlao : ∀ q, blockOf aM = some q → q < wr.heap.size := fun q hq => HO.lt hq
     have HNEW := shut HO.new
     have hel : FldIs (InB (Zx (fun b => b < vI.heap.size ∨ b = g2 ∨ b = g6)) (x4.alloc (.cells Cz 73)) aM) (x4.alloc (.cells Cz 73)) ⟨false, fnm, zt⟩ (([.bool false, .string ⟨fnm.toArray⟩] : List Value) ++ ct : List Value) := fldOk.keep _ _ _ _ _ _ _ HEL0.out kb (fun _ _ h => h) (fun b hb => ⟨⟨Nat.lt_of_lt_of_le hb.2 kb.size, fun q => by have := hb.1; rcases q with q | q | q <;> omega⟩, fun q => by have := hlao b q; have := hb.1; omega⟩)
     have HEL := shut hel
     have hGb := hG.keepsN kb
     have KRb := KR.trans kb (fun _ h _ => h.elim)
     have B6x := kb.blk B6w (fun h => h)
     have HBB := shut BB
     have hlt4 : vI.heap.size ≤ (x4.alloc (.cells Cz 73)).heap.size := Nat.le_trans KL.size KRb.size
     clear hel BB HO HOw hG KR kb B6 B6w B7 HEL0
     go_wp2_with (at_builtin; rw [fillN (n := 6) rfl hsz]; refine wpList_appD _ rfl (.tmp 44) (.tmp 46) 47 rfl Tryz.underlying47 iaFld (by decide) (zx_ok _) fldOk u HLL.out rfl HO3.out hlt4 _ _ (([.bool false, .string ⟨fnm.toArray⟩] : List Value) ++ ct) ⟨false, fnm, zt⟩ GCz.out rfl HBB.out HEL.out (by omega) ?_)
     intro a4 c4 w9 O4 k4 m4
     have hg3n : ¬ blockOf aM = some g6 := HO3.out.ne B6x (by decide)
     have B6y := k4.blk B6x hg3n
     have c3y := blk_cell B6y 3 (v := .slice aM u cM) rfl
     have f3y := blk_free B6y 3
     have k5 : Keeps (fun b => b = g6) w9 (w9.setCell ⟨g6, 3, none⟩ (.slice a4 (u + 1) c4)) := (Keeps.refl (fun b => b = g6) w9).setCell (p := ⟨g6, 3, none⟩) (fun _ => rfl) _
     have B6z : Blk (w9.setCell ⟨g6, 3, none⟩ (.slice a4 (u + 1) c4)) g6 #[.bool true, .string ⟨xnm.toArray⟩, .slice aV (Lo.length) cV, .slice a4 (u + 1) c4, .int .i64 0] 49 := blk_set B6y 3 (.slice a4 (u + 1) c4)
     have O5 := O4.keeps (zx_ok _) fldOk k5 (fun b hb q => hb.2 (.inr (.inr q))) (fun q hq hq2 => by have hq' : q = g6 := hq2; subst hq'; exact O4.ne B6y (by decide) hq)
     have hG5 := (hGb.keeps k4 (fun i C ty hb ht q => HO3.out.ne hb (by rcases ht with rfl | rfl | rfl <;> decide) q)).box B6y (not_gT (by decide) (by decide) (by decide)) k5
     have KL4 : Keeps (fun b => GF g p b ∨ b = g6) vI (w9.setCell ⟨g6, 3, none⟩ (.slice a4 (u + 1) c4)) := ((KL.trans KRb (fun _ h _ => .inl h)).trans k4 (fun q hq hlt => by have := HNEW.out q hq; omega)).trans k5 (fun q hq hlt => .inr hq)
     have HF : Shut (∃ (M : List FldD) (aq : Option Addr) (cq : Nat), M.length = u + 1 ∧ Blk (w9.setCell ⟨g6, 3, none⟩ (.slice a4 (u + 1) c4)) g6 #[.bool true, .string ⟨xnm.toArray⟩, .slice aV (Lo.length) cV, .slice aq (u + 1) cq, .int .i64 0] 49 ∧ OutR (Zx (fun b => b < vI.heap.size ∨ b = g2 ∨ b = g6)) 73 6 FldIs vI.heap.size (w9.setCell ⟨g6, 3, none⟩ (.slice a4 (u + 1) c4)) aq cq M ∧ ∀ l : List FldD, (∀ x ∈ l, FldP false x) → l.length = nf → Got bs sc ((l.take (u + 1)).map encF).flatten (M = l.take (u + 1)) se) := shut ⟨M ++ [⟨false, fnm, zt⟩], a4, c4, by rw [List.length_append, HLL.out]; rfl, B6z, O5, fun l hl hln => by
      obtain ⟨a, ha⟩ : ∃ a, l[u]? = some a := ⟨_, List.getElem?_eq_getElem (by omega)⟩
      have hap := hl a (List.mem_of_getElem? ha)
      rw [flat_take ha]
      refine Got.app (Q := (⟨false, fnm, zt⟩ : FldD) = a) (HGM.out l hl hln) (fun _ => ?_) (fun p1 p2 => by rw [List.take_add_one, ha, p1, p2]; rfl)
      obtain ⟨amu, anm, aty⟩ := a
      have hmu : amu = false := by cases amu with | false => rfl | true => exact absurd (hap.1 rfl) (by decide)
      subst hmu
      unfold encF
      exact (HGOTx1.out anm (by have := name_len hap.2.1; simp only at this; omega)).app (fun _ => HGOTx3.out aty (.inl hap.2.2)) (fun p1 p2 => by rw [p1, p2])⟩
     clear O4 O5 k4 m4 k5 hGb KRb KL HO3 HEL HBB HNEW B6z
     go_wp2_with fail
     any_goals try (rename_i hfz; simp [f3y] at hfz; done)
     go_roundw
     case rel => exact ⟨u + 1, se, by go_num, by omega, hG5, KL4, HF⟩
     case measure => (simp [intOf]; try omega)
    ·obtain rfl : u = nf := by omega
     obtain ⟨nf, rfl⟩ : ∃ n, n = u := ⟨_, rfl⟩
     have m1 : ¬ (nf : Int) < nf := by omega
     obtain ⟨xE, rfl⟩ : ∃ v, v = wr := ⟨_, rfl⟩
     have HL3 := HLL
     have h6E := lt_of_block B6
     have KR : Keeps (GF g p) wO xE := HKRI.out.trans KL (fun b hb hlt => by rcases hb with hb | hb; exact hb; have := HS6.out; omega)
     have hEL : StrIs (NewA wO.heap.size xE) xE ⟨true, xnm, Lo, M, 0⟩ [.bool true, .string ⟨xnm.toArray⟩, .slice aV (Lo.length) cV, .slice aM (nf) cM, .int .i64 0] := by
      refine ⟨aV, cV, aM, cM, by show _ = ([.bool true, txV xnm, .slice aV Lo.length cV, .slice aM M.length cM, .int .i64 0] : List Value); rw [HL3.out]; rfl, by show xnm.length ≤ bigN; unfold bigN; omega, ?_, ?_⟩
      ·exact HLI.out.keeps KL (fun b hb q => by have h1 := hb.1; have := hv2.out; have := h6l.out; rcases q with q | q; rcases q with q | q <;> omega; omega) (fun b hb => ⟨by have := hb.1; have := hv2.out; omega, Nat.lt_of_lt_of_le hb.2 KL.size⟩) (fun _ _ _ h => h)
      ·exact HO.sl (S := NewA wO.heap.size xE) fldOk (fun b hb => ⟨Nat.le_trans HRI.out (Nat.le_of_not_lt (fun q => hb.2 (.inl q))), hb.1⟩) (fun q hq => ⟨Nat.le_trans HRI.out (HO.new q hq), HO.lt hq⟩) (by rw [HL3.out]; unfold bigN; omega)
     have HEL0 := shut hEL
     have HGM2 := HGM
     have HLL := HLX
     have hZG := HZO.out
     have hNG := HNO.out
     have B5 := HB5.out
     have HO := HXO.out
     have h5r := lt_of_block B5
     clear hEL KL HL3
     go_upto_region 14 with fail
     have B5w := KR.blk B5 hn5
     have HOw := HO.keeps (zx_ok _) strOk KR (fun b hb => hZG b hb.2) (fun b hb => hNG b (HO.new b hb))
     have c30 := blk_cell B5w 1 (v := .slice aL t cL) rfl
     obtain ⟨Cz, hCz⟩ : ∃ C, C = ([.bool true, .string ⟨xnm.toArray⟩, .slice aV (Lo.length) cV, .slice aM (nf) cM, .int .i64 0] : List Value).toArray := ⟨_, rfl⟩
     have hlz : ([.bool true, .string ⟨xnm.toArray⟩, .slice aV (Lo.length) cV, .slice aM (nf) cM, .int .i64 0] : List Value).length = 5 := HEL0.out.len
     have hsz : Cz.size = 5 := by rw [hCz, List.size_toArray]; exact hlz
     have agz : aggOk 5 (.agg Cz) = true := by rw [hCz]; exact agg_ok hlz HEL0.out.one
     have B6c : Blk xE g6 Cz 49 := by rw [hCz]; exact B6
     have GCz := shut hCz
     clear hCz
     obtain ⟨z1, z2⟩ := tblk_mid B6c hsz
     have BB := blk_new xE Cz 49
     have kb : Keeps Nothing xE (xE.alloc (.cells Cz 49)) := (Keeps.refl Nothing xE).alloc _
     have HO3 := shut (HOw.keepsN (zx_ok _) strOk kb)
     have hszr := KR.size
     have hlao : ∀ q, blockOf aL = some q → q < wO.heap.size := fun q hq => HO.lt hq
     have HNEW := shut HO.new
     have hel : StrIs (InB (Zx (fun b => b < w2.heap.size ∨ b = g2 ∨ b = g5)) (xE.alloc (.cells Cz 49)) aL) (xE.alloc (.cells Cz 49)) ⟨true, xnm, Lo, M, 0⟩ ([.bool true, .string ⟨xnm.toArray⟩, .slice aV (Lo.length) cV, .slice aM (nf) cM, .int .i64 0] : List Value) := strOk.keep _ _ _ _ _ _ _ HEL0.out kb (fun _ _ h => h) (fun b hb => ⟨⟨Nat.lt_of_lt_of_le hb.2 kb.size, fun q => by have := hb.1; rcases q with q | q | q <;> omega⟩, fun q => by have := hlao b q; have := hb.1; omega⟩)
     have HEL := shut hel
     have hGb := hG.keepsN kb
     have KRb := KR.trans kb (fun _ h _ => h.elim)
     have B5x := kb.blk B5w (fun h => h)
     have HBB := shut BB
     have hlt4 : w2.heap.size ≤ (xE.alloc (.cells Cz 49)).heap.size := Nat.le_trans KLO.out.size KRb.size
     clear hel BB HO HOw hG KR kb B5 B5w B6 HEL0
     go_wp2_with (at_builtin; rw [fillN (n := 5) rfl hsz]; refine wpList_appD _ rfl (.tmp 51) (.tmp 53) 23 rfl Tryz.underlying23 iaStr (by decide) (zx_ok _) strOk t HLL.out rfl HO3.out hlt4 _ _ ([.bool true, .string ⟨xnm.toArray⟩, .slice aV (Lo.length) cV, .slice aM (nf) cM, .int .i64 0]) ⟨true, xnm, Lo, M, 0⟩ GCz.out rfl HBB.out HEL.out (by omega) ?_)
     intro a4 c4 w9 O4 k4 m4
     have hg3n : ¬ blockOf aL = some g5 := HO3.out.ne B5x (by decide)
     have B5y := k4.blk B5x hg3n
     have c3y := blk_cell B5y 1 (v := .slice aL t cL) rfl
     have f3y := blk_free B5y 1
     have k5 : Keeps (fun b => b = g5) w9 (w9.setCell ⟨g5, 1, none⟩ (.slice a4 (t + 1) c4)) := (Keeps.refl (fun b => b = g5) w9).setCell (p := ⟨g5, 1, none⟩) (fun _ => rfl) _
     have B5z : Blk (w9.setCell ⟨g5, 1, none⟩ (.slice a4 (t + 1) c4)) g5 #[.string ⟨nm.toArray⟩, .slice a4 (t + 1) c4, .slice none (0) 0] 32 := blk_set B5y 1 (.slice a4 (t + 1) c4)
     have O5 := O4.keeps (zx_ok _) strOk k5 (fun b hb q => hb.2 (.inr (.inr q))) (fun q hq hq2 => by have hq' : q = g5 := hq2; subst hq'; exact O4.ne B5y (by decide) hq)
     have hG5 := (hGb.keeps k4 (fun i C ty hb ht q => HO3.out.ne hb (by rcases ht with rfl | rfl | rfl <;> decide) q)).box B5y (not_gT (by decide) (by decide) (by decide)) k5
     have KL4 : Keeps (GF g p) w2 (w9.setCell ⟨g5, 1, none⟩ (.slice a4 (t + 1) c4)) := ((KLO.out.trans KRb (fun _ h _ => h)).trans k4 (fun q hq hlt => by have := HNEW.out q hq; omega)).trans k5 (fun q hq hlt => by have hq' : q = g5 := hq; have := HS5.out; omega)
     have B2y : Blk (w9.setCell ⟨g5, 1, none⟩ (.slice a4 (t + 1) c4)) g2 #[.string ⟨#[]⟩, .slice none 0 0, .slice none 0 0] 32 := k5.blk (k4.blk (KRb.blk HB2.out hn2) (HO3.out.ne (KRb.blk HB2.out hn2) (by decide))) (fun q => HNE.out q)
     have HF : Shut (∃ (L : List StrD) (aq : Option Addr) (cq : Nat), L.length = t + 1 ∧ Blk (w9.setCell ⟨g5, 1, none⟩ (.slice a4 (t + 1) c4)) g5 #[.string ⟨nm.toArray⟩, .slice aq (t + 1) cq, .slice none (0) 0] 32 ∧ OutR (Zx (fun b => b < w2.heap.size ∨ b = g2 ∨ b = g5)) 49 5 StrIs w2.heap.size (w9.setCell ⟨g5, 1, none⟩ (.slice a4 (t + 1) c4)) aq cq L ∧ ∀ l : List StrD, (∀ x ∈ l, ShowP x) → l.length = n1 → Got bs s3 ((l.take (t + 1)).map encStr).flatten (L = l.take (t + 1)) sy) := shut ⟨L ++ [⟨true, xnm, Lo, M, 0⟩], a4, c4, by rw [List.length_append, HLL.out]; rfl, B5z, O5, fun l hl hln => by
      obtain ⟨a, ha⟩ : ∃ a, l[t]? = some a := ⟨_, List.getElem?_eq_getElem (by omega)⟩
      have hap := hl a (List.mem_of_getElem? ha)
      rw [flat_take ha]
      refine Got.app (Q := (⟨true, xnm, Lo, M, 0⟩ : StrD) = a) (HGL.out l hl hln) (fun _ => ?_) (fun p1 p2 => by rw [List.take_add_one, ha, p1, p2]; rfl)
      obtain ⟨a_pub, a_name, a_lives, a_fields, a_pos⟩ := a
      obtain ⟨h1, h2, h3, h4, h5, h6⟩ := hap
      simp only at h1 h2 h3 h4 h5 h6
      subst h1 h2
      unfold encStr
      refine (HGOTv1.out a_name (by have := name_len h3; omega)).app (fun _ => (HGOTv3.out a_lives (fun s hs => by have := life_len (h4.1 s hs); omega) h4.2).app (fun _ => (HGOTvI.out a_fields.length h6).app (fun e1 => ((by have := HGM2.out a_fields h5 e1.symm; rwa [flat_all e1.symm, List.take_of_length_le (by omega)] at this) : Got bs sc (a_fields.map encF).flatten (M = a_fields) sy)) (fun _ b => b)) (fun a b => (⟨a, b⟩ : Lo = a_lives ∧ M = a_fields))) (fun a b => by rw [a, b.1, b.2])⟩
     clear O4 O5 k4 m4 k5 hGb KRb HO3 HEL HBB HNEW B5z
     go_wp2_with fail
     any_goals try (rename_i hfz; simp [f3y] at hfz; done)
     go_roundw
     case rel => exact ⟨t + 1, sy, by go_num, by omega, hG5, KL4, B2y, HF⟩
     case measure => (simp [intOf]; try omega)
  ·obtain rfl : t = n1 := by omega
   obtain ⟨n1, rfl⟩ : ∃ n, n = t := ⟨_, rfl⟩
   have m1 : ¬ (n1 : Int) < n1 := by omega
   obtain ⟨wS, rfl⟩ : ∃ wS, wS = wr := ⟨_, rfl⟩
   have HOS := shut HO
   have HL0 := HLL
   have HGL0 := HGL
   have HWS : Shut (w2.heap.size ≤ wS.heap.size) := shut KL.size
   have h2S := lt_of_block B2
   have h5S := lt_of_block B5
   have HB5S := shut B5
   have KR : Keeps (GF g p) wS wS := Keeps.refl _ _
   have KWS := shut KL
   clear HO KL HLL
   have hc := gnum_any hG hl 256 (by omega)
   go_wp2_with fail
   refine hc.mono ?_
   rintro e u1 ⟨n2, s4, rfl, hn2', hG2, hK2, hgot⟩
   have HGOTu1 := shut hgot
   have KR2 := KR.trans hK2 (fun _ h _ => h)
   have B22 := hK2.blk B2 hn2
   have B52 := hK2.blk B5 hn5
   clear hc KR hG hgot B2 B5
   have KR := KR2
   have hG := hG2
   have B2 := B22
   have B5 := B52
   clear KR2 hG2 B22 B52
   have hZG : ∀ b, ¬ (b < wS.heap.size ∨ b = g2 ∨ b = g5) → ¬ GF g p b := fun b hb q => hb (.inl (by have := HWS.out; rcases q with q | q <;> omega))
   have hNG : ∀ b, wS.heap.size ≤ b → ¬ GF g p b := fun b hb q => by have := HWS.out; rcases q with q | q <;> omega
   have H0 : Shut (∃ (L2 : List FunD) (aq : Option Addr) (cq : Nat), L2.length = 0 ∧ Blk u1 g5 #[.string ⟨nm.toArray⟩, .slice aL (n1) cL, .slice aq (0) cq] 32 ∧ OutR (Zx (fun b => b < wS.heap.size ∨ b = g2 ∨ b = g5)) 56 10 FunIs wS.heap.size u1 aq cq L2 ∧ ∀ l : List FunD, (∀ x ∈ l, HeadP x) → l.length = n2 → Got bs s4 ((l.take (0)).map encFun).flatten (L2 = l.take (0)) s4) := shut ⟨[], none, 0, rfl, B5, outR_nil _ _ _ _ _ _, fun l _ _ => Got.nil rfl⟩
   have HG := shut hG
   have HKR := shut (KR.mono (S' := fun b => GF g p b ∨ b = g5) (fun _ h _ => .inl h))
   have HB2 := shut B2
   clear hG KR B2 B5
   go_wp2_with fail
   go_loopw [59] (fun s59 wx => ∃ (t : Nat) (sx : Option Nat), s59 = .int .i64 t ∧ t ≤ n2 ∧ Gt wx g p ao cap bs sx ∧ Keeps (fun b => GF g p b ∨ b = g5) wS wx ∧ Blk wx g2 #[.string ⟨#[]⟩, .slice none 0 0, .slice none 0 0] 32 ∧ Shut (∃ (L2 : List FunD) (aq : Option Addr) (cq : Nat), L2.length = t ∧ Blk wx g5 #[.string ⟨nm.toArray⟩, .slice aL (n1) cL, .slice aq (t) cq] 32 ∧ OutR (Zx (fun b => b < wS.heap.size ∨ b = g2 ∨ b = g5)) 56 10 FunIs wS.heap.size wx aq cq L2 ∧ ∀ l : List FunD, (∀ x ∈ l, HeadP x) → l.length = n2 → Got bs s4 ((l.take (t)).map encFun).flatten (L2 = l.take (t)) sx)) (fun s59 _ => n2 - (intOf s59).toNat)
   case atStart => exact ⟨0, s4, rfl, Nat.zero_le _, HG.out, HKR.out, HB2.out, H0⟩
   case round =>
    clear HG HKR HB2 H0
    obtain ⟨t, sz, rfl, ht, hG, KL, B2, HR⟩ := hrel
    obtain ⟨L2, aM, cM, hLl, B5, HO, hgl⟩ := HR.out
    have HGM := shut hgl
    have HLL := shut hLl
    clear HR hgl hLl
    by_cases hltt : t < n2
    ·have m1 : (t : Int) < n2 := by omega
     go_upto_region 18 with fail
     have kd : Keeps Nothing wr wr.drew := (Keeps.refl Nothing wr).drew
     have hlao : ∀ q, blockOf aM = some q → q < wr.heap.size := fun q hq => HO.lt hq
     have HNEW := shut HO.new
     have hg5n : ¬ blockOf aM = some g5 := HO.ne B5 (by decide)
     have hg2n : ¬ blockOf aM = some g2 := HO.ne B2 (by decide)
     have HCW : Shut (wr.cell? ⟨g5, 2, none⟩ = some (.slice aM t cM)) := shut (blk_cell B5 2 rfl)
     have h5r := lt_of_block B5
     have h2r := lt_of_block B2
     have hszw := KL.size
     refine wp_region_mixG (fun V => Keeps (fun b => GF g p b ∨ blockOf aM = some b) wr V) 7 (.take 0 (.take 1 (.take 2 (.one 3 (.one 4 (.one 5 (.take 6 (.one 7 .done)))))))) (by kernel_rfl) (by kernel_rfl) (kd.mono (fun _ h _ => h.elim)) ?_
     simp only [itemsG, PlanG.map, List.map_cons, List.map_nil, List.getD_cons_zero, List.getD_cons_succ, Nat.reduceBEq]
     refine wpMixG_free (fun K hK => ?_)
     go_simp
     refine hK _ ?_
     clear hK K
     refine wpMixG_yield (v := .slice aM t cM) (fun W hW => ?_) (fun K hK => ?_)
     ·have y1 := hW.cell HCW.out (fun q => by rcases q with q | q; exact hn5 q; exact hg5n q)
      go_simp
     go_simp
     refine hK _ ?_
     clear hK K
     refine wpMixG_free (fun K hK => ?_)
     go_simp
     refine hK _ ?_
     clear hK K
     refine wpMixG_one (fun K hK => ?_)
     have hc := gfun_any (hG.keepsN kd) hl
     go_wp2_with fail
     refine hc.mono ?_
     rintro e v1 ⟨fz, cf, sf, rfl, hFz, hG1, hK1, hgot⟩
     have HGOTv1 := shut hgot
     have KR : Keeps (GF g p) wr v1 := (kd.mono (fun _ h _ => h.elim)).trans hK1 (fun _ h _ => h)
     have lcf := hFz.len
     have HFZ := shut hFz
     obtain ⟨Cz, hCz⟩ : ∃ C, C = cf.toArray := ⟨_, rfl⟩
     have hsz : Cz.size = 10 := by rw [hCz, List.size_toArray]; exact lcf
     rw [← hCz]
     have GCz := shut hCz
     clear hc hG hgot hK1 hFz hCz kd
     go_wp2_with fail
     refine hK _ _ (.inr (KR.mono (fun _ h _ => .inl h))) ?_
     clear hK K
     refine wpMixG_one (fun K hK => ?_)
     go_wp2_with fail
     rw [fillN (n := 10) rfl hsz]
     have kb : Keeps Nothing v1 (v1.alloc (.cells Cz 56)) := (Keeps.refl Nothing v1).alloc _
     have KRb := KR.trans kb (fun _ h _ => h.elim)
     have BB := shut (blk_new v1 Cz 56)
     have hG2 := hG1.keepsN kb
     have HOw := HO.keeps (zx_ok _) funOk KR (fun b hb => hZG b hb.2) (fun b hb => hNG b (HO.new b hb))
     have HO3 := shut (HOw.keepsN (zx_ok _) funOk kb)
     have hszr := KR.size
     have hsd : wr.drew.heap.size = wr.heap.size := rfl
     have hel : FunIs (InB (Zx (fun b => b < wS.heap.size ∨ b = g2 ∨ b = g5)) (v1.alloc (.cells Cz 56)) aM) (v1.alloc (.cells Cz 56)) fz cf := funOk.keep _ _ _ _ _ _ _ HFZ.out kb (fun _ _ h => h) (fun b hb => ⟨⟨Nat.lt_of_lt_of_le hb.2 kb.size, fun q => by have h1 := hb.1; rw [hsd] at h1; rcases q with q | q | q <;> omega⟩, fun q => by have h1 := hb.1; rw [hsd] at h1; have := hlao b q; omega⟩)
     have HEL := shut hel
     refine hK _ _ (.inr (KRb.mono (fun _ h _ => .inl h))) ?_
     have hlt4 : wS.heap.size ≤ (v1.alloc (.cells Cz 56)).heap.size := Nat.le_trans hszw KRb.size
     clear hK K hel HFZ HO HOw hG1 KR kb
     refine wpMixG_one (fun K hK => ?_)
     go_wp2_with (at_builtin; refine wpList_appD _ rfl (.tmp 62) (.tmp 65) 24 rfl Tryz.underlying24 iaFun (by decide) (zx_ok _) funOk t HLL.out rfl HO3.out hlt4 _ _ cf fz GCz.out rfl BB.out HEL.out (by omega) ?_)
     intro a4 c4 w9 O4 k4 m4
     go_wp2_with fail
     refine hK _ _ (.inr ((KRb.mono (S' := fun b => GF g p b ∨ blockOf aM = some b) (fun _ h _ => .inl h)).trans k4 (fun _ h _ => .inr h))) ?_
     clear hK K
     refine wpMixG_free (fun K hK => ?_)
     go_simp
     refine hK _ ?_
     clear hK K
     have B5x := KRb.blk B5 hn5
     have B5y := k4.blk B5x hg5n
     have c3y := blk_cell B5y 2 (v := .slice aM t cM) rfl
     have f3y := blk_free B5y 2
     refine wpMixG_one (fun K hK => ?_)
     go_wp2_with fail
     any_goals try (rename_i hfz; simp [f3y] at hfz; done)
     have k5 : Keeps (fun b => b = g5) w9 (w9.setCell ⟨g5, 2, none⟩ (.slice a4 (t + 1) c4)) := (Keeps.refl (fun b => b = g5) w9).setCell (p := ⟨g5, 2, none⟩) (fun _ => rfl) _
     have B5z : Blk (w9.setCell ⟨g5, 2, none⟩ (.slice a4 (t + 1) c4)) g5 #[.string ⟨nm.toArray⟩, .slice aL (n1) cL, .slice a4 (t + 1) c4] 32 := blk_set B5y 2 (.slice a4 (t + 1) c4)
     have O5 := O4.keeps (zx_ok _) funOk k5 (fun b hb q => hb.2 (.inr (.inr q))) (fun q hq hq2 => by have hq' : q = g5 := hq2; subst hq'; exact O4.ne B5y (by decide) hq)
     have hG5 := (hG2.keeps k4 (fun i C ty hb ht q => HO3.out.ne hb (by rcases ht with rfl | rfl | rfl <;> decide) q)).box B5y (not_gT (by decide) (by decide) (by decide)) k5
     have KL4 : Keeps (fun b => GF g p b ∨ b = g5) wS (w9.setCell ⟨g5, 2, none⟩ (.slice a4 (t + 1) c4)) := ((KL.trans KRb (fun _ h _ => .inl h)).trans k4 (fun q hq hlt => by have := HNEW.out q hq; omega)).trans k5 (fun q hq hlt => .inr hq)
     have B2y : Blk (w9.setCell ⟨g5, 2, none⟩ (.slice a4 (t + 1) c4)) g2 #[.string ⟨#[]⟩, .slice none 0 0, .slice none 0 0] 32 := k5.blk (k4.blk (KRb.blk B2 hn2) hg2n) (fun q => HNE.out q)
     have HF : Shut (∃ (L2 : List FunD) (aq : Option Addr) (cq : Nat), L2.length = t + 1 ∧ Blk (w9.setCell ⟨g5, 2, none⟩ (.slice a4 (t + 1) c4)) g5 #[.string ⟨nm.toArray⟩, .slice aL (n1) cL, .slice aq (t + 1) cq] 32 ∧ OutR (Zx (fun b => b < wS.heap.size ∨ b = g2 ∨ b = g5)) 56 10 FunIs wS.heap.size (w9.setCell ⟨g5, 2, none⟩ (.slice a4 (t + 1) c4)) aq cq L2 ∧ ∀ l : List FunD, (∀ x ∈ l, HeadP x) → l.length = n2 → Got bs s4 ((l.take (t + 1)).map encFun).flatten (L2 = l.take (t + 1)) sf) := shut ⟨L2 ++ [fz], a4, c4, by rw [List.length_append, HLL.out]; rfl, B5z, O5, fun l hl hln => by
      obtain ⟨a, ha⟩ : ∃ a, l[t]? = some a := ⟨_, List.getElem?_eq_getElem (by omega)⟩
      rw [flat_take ha]
      exact Got.app (Q := fz = a) (HGM.out l hl hln) (fun _ => HGOTv1.out a (hl a (List.mem_of_getElem? ha))) (fun p1 p2 => by rw [List.take_add_one, ha, p1, p2]; rfl)⟩
     refine hK _ _ (.inl trivial) ?_
     clear hK K O4 O5 k4 m4 k5 hG2 KRb KL HO3 HEL BB HNEW B5z B2 B5 B5x B5y c3y f3y HCW
     refine wpMixG_done ?_
     go_wp2_with fail
     go_roundw
     case rel => exact ⟨t + 1, sf, by go_num, by omega, hG5, KL4, B2y, HF⟩
     case measure => (simp [intOf]; try omega)
    ·obtain rfl : t = n2 := by omega
     obtain ⟨n2, rfl⟩ : ∃ n, n = t := ⟨_, rfl⟩
     have m1 : ¬ (n2 : Int) < n2 := by omega
     obtain ⟨wT, rfl⟩ : ∃ wS, wS = wr := ⟨_, rfl⟩
     have h2T := lt_of_block B2
     have h5T := lt_of_block B5
     have hWT := KL.size
     have KWT : Keeps Nothing w wT := (KW2.trans KWS.out (fun b hb hlt => by have h1 := HGN.out; rcases hb with hb | hb <;> omega)).trans KL (fun b hb hlt => by have h1 := HGN.out; have h2 := HS5.out; have h3 := HW2.out; rcases hb with hb | hb; rcases hb with hb | hb <;> omega; omega)
     have hSig : SigIs (fun b => b < wT.heap.size ∧ b ≠ g2 ∧ ¬ GF g p b) wT ⟨nm, ⟨L, L2⟩⟩ [.string ⟨nm.toArray⟩, .slice aL (n1) cL, .slice aM (n2) cM] := by
      refine ⟨aL, cL, aM, cM, ?_, by show nm.length ≤ bigN; unfold bigN; omega, ?_, ?_⟩
      ·show _ = ([.string ⟨nm.toArray⟩, .slice aL L.length cL, .slice aM L2.length cM] : List Value)
       rw [HL0.out, HLL.out]
      ·have h1 := HOS.out.sl (S := fun b => w2.heap.size ≤ b ∧ b < wS.heap.size ∧ b ≠ g2 ∧ b ≠ g5) strOk (fun b hb => ⟨Nat.le_of_not_lt (fun q => hb.2 (.inl q)), hb.1, fun q => hb.2 (.inr (.inl q)), fun q => hb.2 (.inr (.inr q))⟩) (fun q hq => ⟨HOS.out.new q hq, HOS.out.lt hq, fun q2 => by have := HOS.out.new q hq; omega, fun q2 => by subst q2; exact HOS.out.ne HB5S.out (by decide) hq⟩) (by rw [HL0.out]; unfold bigN; omega)
       have hT : ∀ b, (w2.heap.size ≤ b ∧ b < wS.heap.size ∧ b ≠ g2 ∧ b ≠ g5) → ¬ (fun b => GF g p b ∨ b = g5) b := fun b hb q => by rcases q with q | q; rcases q with q | q <;> omega; exact hb.2.2.2 q
       have hSS : ∀ b, (w2.heap.size ≤ b ∧ b < wS.heap.size ∧ b ≠ g2 ∧ b ≠ g5) → (b < wT.heap.size ∧ b ≠ g2 ∧ ¬ GF g p b) := fun b hb => ⟨Nat.lt_of_lt_of_le hb.2.1 hWT, hb.2.2.1, fun q => by rcases q with q | q <;> omega⟩
       exact h1.keeps KL hT hSS (fun _ _ _ h => h.keeps KL hT hSS)
      ·exact HO.sl (S := fun b => b < wT.heap.size ∧ b ≠ g2 ∧ ¬ GF g p b) funOk (fun b hb => ⟨hb.1, fun q => hb.2 (.inr (.inl q)), hZG b hb.2⟩) (fun q hq => ⟨HO.lt hq, fun q2 => by have := HO.new q hq; have := HWS.out; omega, hNG q (HO.new q hq)⟩) (by rw [HLL.out]; unfold bigN; omega)
     have HSIG := shut hSig
     have HALL : Shut (∀ s, MayS s → encSig s = bs → (⟨nm, ⟨L, L2⟩⟩ : SigD) = s ∧ ∃ k, sz = some k) := shut (fun s hs he => by
      obtain ⟨s_name, s_structs, s_funcs⟩ := s
      obtain ⟨q1, q2, q3, q4, q5⟩ := mayS_show hs
      simp only at q1 q2 q3 q4 q5
      have hgot : Got bs (some 0) (encSig ⟨s_name, ⟨s_structs, s_funcs⟩⟩) (nm = s_name ∧ L = s_structs ∧ L2 = s_funcs) sz := by
       unfold encSig
       exact HG0.out.app (fun _ => (HGOTw5.out s_name q3).app (fun _ => (HGOTw7.out s_structs.length q4).app (fun e1 => ((by have := HGL0.out s_structs q1 e1.symm; rwa [flat_all e1.symm, List.take_of_length_le (by omega)] at this) : Got bs s3 (s_structs.map encStr).flatten (L = s_structs) sx).app (fun _ => (HGOTu1.out s_funcs.length q5).app (fun e2 => ((by have := HGM.out s_funcs q2 e2.symm; rwa [flat_all e2.symm, List.take_of_length_le (by omega)] at this) : Got bs s4 (s_funcs.map encFun).flatten (L2 = s_funcs) sz)) (fun _ b => b)) (fun a b => (⟨a, b⟩ : L = s_structs ∧ L2 = s_funcs))) (fun _ b => b)) (fun a b => (⟨a, b⟩ : nm = s_name ∧ L = s_structs ∧ L2 = s_funcs))) (fun _ b => b)
      obtain ⟨h1, h2⟩ := hgot 0 [] rfl (by rw [List.drop_zero, List.append_nil, he])
      exact ⟨by rw [h1.1, h1.2.1, h1.2.2], _, h2⟩)
     have HKWT := shut KWT
     have c1 := blk_cell hG.blk 1 rfl
     clear HO KL hSig KWT HG0 HGOTw5 HGOTw7 HGL0 HGOTu1 HGM HGL HOS hZG hNG
     cases sz with
     | none =>
      have HNO : Shut (∀ s, MayS s → encSig s ≠ bs) := shut (fun s hs he => by
       obtain ⟨-, k, hk⟩ := HALL.out s hs he
       cases hk)
      simp only [Option.isNone_none] at c1
      have KE := HKWT.out
      have H2L : Shut (g2 < wT.heap.size) := shut h2T
      clear HALL HKWT
      go_upto_region 24 with fail
      clear c1
      have hc := new_err 4 0 wT (by decide)
      go_wp2_with fail
      refine hc.mono ?_
      rintro e we ⟨rfl, hwe⟩
      clear hc
      have kE : Keeps Nothing wT we := by rw [hwe]; exact (Keeps.refl Nothing wT).alloc _
      have hIE : IsErr wT.heap.size we (.iface 130 (.pointer (some ⟨wT.heap.size, 0, none⟩))) 4 0 := by rw [hwe]; exact isErr_new wT 4 0 (by decide)
      have B2e := kE.blk B2 (fun h => h)
      have y3 := rowOk_blk B2e (n := 3) rfl
      have agz : aggOk 3 (.agg #[.string ⟨#[]⟩, .slice none 0 0, .slice none 0 0]) = true := by simp [aggOk, Value.oneCell']
      obtain ⟨WF, hWF⟩ : ∃ W, W = World.setRow we g2 #[.string ⟨#[]⟩, .slice none 0 0, .slice none 0 0] := ⟨_, rfl⟩
      have K2 : Keeps (fun b => b = g2) we WF := by rw [hWF]; exact (Keeps.refl (fun b => b = g2) we).setRow (g := g2) (fun _ => rfl) _
      have BF : Blk WF g2 #[.string ⟨#[]⟩, .slice none 0 0, .slice none 0 0] 32 := by rw [hWF]; exact blk_setRow B2e
      have HF : Shut (GetPost w bs (.returned (.tuple #[.agg #[.string ⟨#[]⟩, .slice none 0 0, .slice none 0 0], .iface 130 (.pointer (some ⟨wT.heap.size, 0, none⟩))])) WF) := shut ⟨(KE.trans kE (fun _ h _ => h)).trans K2 (fun b hb hlt => by have hb' : b = g2 := hb; have := HS2.out; omega), .inr ⟨HNO.out, _, rfl, (hIE.keeps K2 (fun b hb => by have hb' : b = g2 := hb; have := H2L.out; omega)).mono KE.size⟩⟩
      clear K2 hIE kE KE hwe
      go_wp2_with fail
      rw [← hWF]
      refine bodyPost_ret (v := .tuple #[.agg #[.string ⟨#[]⟩, .slice none 0 0, .slice none 0 0], .iface 130 (.pointer (some ⟨wT.heap.size, 0, none⟩))]) (results_row_tmp rfl _ _ g2 _ _ rfl rfl (loadVar_sig _ _ _ _ BF rfl)) rfl ?_
      exact HF.out
     | some kz =>
      simp only [Option.isNone_some] at c1
      obtain ⟨y1, y2⟩ := tblk_mid B5 (n := 3) rfl
      have hc := put_any ⟨nm, ⟨L, L2⟩⟩ wT (HM.out.keeps HKWT.out) _ (fun b hb => hb.1) HSIG.out
      go_wp2_with fail
      refine hc.mono ?_
      rintro e x1 ⟨kp, hp⟩
      have KE0 := HKWT.out.trans kp (fun _ h _ => h)
      have B2x := kp.blk B2 (fun h => h)
      have B5x := kp.blk B5 (fun h => h)
      have hGx := hG.keepsN kp
      have hx1 := kp.size
      have HSG1 := shut (HSIG.out.keeps kp (fun _ _ h => h) (fun b hb => ⟨Nat.lt_of_lt_of_le hb.1 hx1, hb.2⟩) : SigIs (fun b => b < x1.heap.size ∧ b ≠ g2 ∧ ¬ GF g p b) x1 ⟨nm, ⟨L, L2⟩⟩ [.string ⟨nm.toArray⟩, .slice aL (n1) cL, .slice aM (n2) cM])
      have HBX := shut (HBY.out.keeps KE0 (fun _ _ h => h))
      clear hc y1 y2 hG B2 B5 HKWT HSIG kp c1
      have c1 := blk_cell hGx.blk 1 rfl
      simp only [Option.isNone_some] at c1
      have f1 := blk_free hGx.blk 1
      rcases hp with ⟨hmay, aP, cP, rfl, hO, hOn⟩ | ⟨hmay, ev, rfl, hE⟩
      ·have HMAY := shut hmay
       obtain ⟨lP, hlP⟩ : ∃ n, (encSig ⟨nm, ⟨L, L2⟩⟩).length = n := ⟨_, rfl⟩
       have HQ := sequal_any x1 cP cb hlP HNB.out (own8_at hO) HBX.out
       obtain ⟨zq, hzq⟩ : ∃ b, (encSig ⟨nm, ⟨L, L2⟩⟩ == bs) = b := ⟨_, rfl⟩
       rw [hzq] at HQ
       have HZQ := shut hzq
       rw [hlP]
       clear hzq hO hOn hmay hlP
       go_wp2_with fail
       refine HQ.mono ?_
       rintro e x2 ⟨rfl, hx2⟩
       obtain rfl : x2 = x1 := hx2
       clear HQ
       cases zq with
       | true =>
        have hEQ : Shut (encSig ⟨nm, ⟨L, L2⟩⟩ = bs) := shut (eq_of_beq HZQ.out)
        obtain ⟨hG2, hK2b, -, -⟩ := gt_set hGx false (st' := some kz) rfl (fun j hj => hj)
        have B22 := hK2b.blk B2x hn2
        have B52 := hK2b.blk B5x hn5
        have KE := KE0.trans hK2b (fun b hb hlt => by have h1 := HGN.out; rcases hb with hb | hb <;> omega)
        have HSG2 := shut (HSG1.out.keeps hK2b (fun b hb q => hb.2.2 q) (fun b hb => ⟨Nat.lt_of_lt_of_le hb.1 hK2b.size, hb.2.1⟩) : SigIs (fun b => b < (World.setCell x2 ⟨g, 1, none⟩ (.bool false)).heap.size ∧ b ≠ g2) (World.setCell x2 ⟨g, 1, none⟩ (.bool false)) ⟨nm, ⟨L, L2⟩⟩ [.string ⟨nm.toArray⟩, .slice aL (n1) cL, .slice aM (n2) cM])
        have c2 := blk_cell hG2.blk 1 rfl
        simp only [Option.isNone_some] at c2
        clear HALL HSG1 HBX KE0 hK2b hGx B2x B5x HZQ
        go_upto_region 23 with fail
        any_goals try (rename_i hfz; simp [f1] at hfz; done)
        clear c1 f1
        generalize World.setCell x2 ⟨g, 1, none⟩ (.bool false) = x3 at *
        go_upto_region 25 with fail
        clear c2
        obtain ⟨y1, y2⟩ := tblk_mid B52 (n := 3) rfl
        have y3 := rowOk_blk B22 (n := 3) rfl
        have agf : aggOk 3 (.agg #[.string ⟨nm.toArray⟩, .slice aL (n1) cL, .slice aM (n2) cM]) = true := by simp [aggOk, Value.oneCell']
        obtain ⟨WF, hWF⟩ : ∃ W, W = World.setRow x3 g2 #[.string ⟨nm.toArray⟩, .slice aL (n1) cL, .slice aM (n2) cM] := ⟨_, rfl⟩
        have K2 : Keeps (fun b => b = g2) x3 WF := by rw [hWF]; exact (Keeps.refl (fun b => b = g2) x3).setRow (g := g2) (fun _ => rfl) _
        have BF : Blk WF g2 #[.string ⟨nm.toArray⟩, .slice aL (n1) cL, .slice aM (n2) cM] 32 := by rw [hWF]; exact blk_setRow B22
        have HF : Shut (GetPost w bs (.returned (.tuple #[.agg #[.string ⟨nm.toArray⟩, .slice aL (n1) cL, .slice aM (n2) cM], .nilIface])) WF) := shut ⟨KE.trans K2 (fun b hb hlt => by have hb' : b = g2 := hb; have := HS2.out; omega), .inl ⟨⟨nm, ⟨L, L2⟩⟩, [.string ⟨nm.toArray⟩, .slice aL (n1) cL, .slice aM (n2) cM], HMAY.out, hEQ.out, rfl, HSG2.out.keeps K2 (fun b hb q => hb.2 q) (fun b hb => Nat.lt_of_lt_of_le hb.1 K2.size)⟩⟩
        clear K2 KE HSG2
        go_wp2_with fail
        rw [← hWF]
        refine bodyPost_ret (v := .tuple #[.agg #[.string ⟨nm.toArray⟩, .slice aL (n1) cL, .slice aM (n2) cM], .nilIface]) (results_row_tmp rfl _ _ g2 _ _ rfl rfl (loadVar_sig _ _ _ _ BF rfl)) rfl ?_
        exact HF.out
       | false =>
        have HNO : Shut (∀ s, MayS s → encSig s ≠ bs) := shut (fun s hs he => by
         obtain ⟨h1, -⟩ := HALL.out s hs he
         have h2 := HZQ.out
         rw [h1, he, beq_self_eq_true] at h2
         cases h2)
        obtain ⟨hG2, hK2b, -, -⟩ := gt_set hGx true (st' := none) rfl (fun j hj => by cases hj)
        have B2 := hK2b.blk B2x hn2
        have KE := KE0.trans hK2b (fun b hb hlt => by have h1 := HGN.out; rcases hb with hb | hb <;> omega)
        have c2 := blk_cell hG2.blk 1 rfl
        simp only [Option.isNone_none] at c2
        have H2L := shut (lt_of_block B2)
        clear HALL HSG1 HBX KE0 hK2b hGx B2x B5x
        go_upto_region 23 with fail
        any_goals try (rename_i hfz; simp [f1] at hfz; done)
        clear c1 f1
        generalize World.setCell x2 ⟨g, 1, none⟩ (.bool true) = x3 at *
        go_upto_region 24 with fail
        clear c2
        have hc := new_err 4 0 x3 (by decide)
        go_wp2_with fail
        refine hc.mono ?_
        rintro e we ⟨rfl, hwe⟩
        clear hc
        have kE : Keeps Nothing x3 we := by rw [hwe]; exact (Keeps.refl Nothing x3).alloc _
        have hIE : IsErr x3.heap.size we (.iface 130 (.pointer (some ⟨x3.heap.size, 0, none⟩))) 4 0 := by rw [hwe]; exact isErr_new x3 4 0 (by decide)
        have B2e := kE.blk B2 (fun h => h)
        have y3 := rowOk_blk B2e (n := 3) rfl
        have agz : aggOk 3 (.agg #[.string ⟨#[]⟩, .slice none 0 0, .slice none 0 0]) = true := by simp [aggOk, Value.oneCell']
        obtain ⟨WF, hWF⟩ : ∃ W, W = World.setRow we g2 #[.string ⟨#[]⟩, .slice none 0 0, .slice none 0 0] := ⟨_, rfl⟩
        have K2 : Keeps (fun b => b = g2) we WF := by rw [hWF]; exact (Keeps.refl (fun b => b = g2) we).setRow (g := g2) (fun _ => rfl) _
        have BF : Blk WF g2 #[.string ⟨#[]⟩, .slice none 0 0, .slice none 0 0] 32 := by rw [hWF]; exact blk_setRow B2e
        have HF : Shut (GetPost w bs (.returned (.tuple #[.agg #[.string ⟨#[]⟩, .slice none 0 0, .slice none 0 0], .iface 130 (.pointer (some ⟨x3.heap.size, 0, none⟩))])) WF) := shut ⟨(KE.trans kE (fun _ h _ => h)).trans K2 (fun b hb hlt => by have hb' : b = g2 := hb; have := HS2.out; omega), .inr ⟨HNO.out, _, rfl, (hIE.keeps K2 (fun b hb => by have hb' : b = g2 := hb; have := H2L.out; omega)).mono KE.size⟩⟩
        clear K2 hIE kE KE hwe
        go_wp2_with fail
        rw [← hWF]
        refine bodyPost_ret (v := .tuple #[.agg #[.string ⟨#[]⟩, .slice none 0 0, .slice none 0 0], .iface 130 (.pointer (some ⟨x3.heap.size, 0, none⟩))]) (results_row_tmp rfl _ _ g2 _ _ rfl rfl (loadVar_sig _ _ _ _ BF rfl)) rfl ?_
        exact HF.out
      ·have HNO : Shut (∀ s, MayS s → encSig s ≠ bs) := shut (fun s hs he => by
        obtain ⟨h1, -⟩ := HALL.out s hs he
        exact hmay (h1 ▸ hs))
       obtain ⟨be, rfl⟩ := isErr_yes hE (by decide)
       clear hE hmay
       obtain ⟨x2, rfl⟩ : ∃ v, v = x1 := ⟨_, rfl⟩
       obtain ⟨hG2, hK2b, -, -⟩ := gt_set hGx true (st' := none) rfl (fun j hj => by cases hj)
       have B2 := hK2b.blk B2x hn2
       have KE := KE0.trans hK2b (fun b hb hlt => by have h1 := HGN.out; rcases hb with hb | hb <;> omega)
       have c2 := blk_cell hG2.blk 1 rfl
       simp only [Option.isNone_none] at c2
       have H2L := shut (lt_of_block B2)
       clear HALL HSG1 HBX KE0 hK2b hGx B2x B5x
       go_upto_region 23 with fail
       any_goals try (rename_i hfz; simp [f1] at hfz; done)
       clear c1 f1
       generalize World.setCell x2 ⟨g, 1, none⟩ (.bool true) = x3 at *
       go_upto_region 24 with fail
       clear c2
       have hc := new_err 4 0 x3 (by decide)
       go_wp2_with fail
       refine hc.mono ?_
       rintro e we ⟨rfl, hwe⟩
       clear hc
       have kE : Keeps Nothing x3 we := by rw [hwe]; exact (Keeps.refl Nothing x3).alloc _
       have hIE : IsErr x3.heap.size we (.iface 130 (.pointer (some ⟨x3.heap.size, 0, none⟩))) 4 0 := by rw [hwe]; exact isErr_new x3 4 0 (by decide)
       have B2e := kE.blk B2 (fun h => h)
       have y3 := rowOk_blk B2e (n := 3) rfl
       have agz : aggOk 3 (.agg #[.string ⟨#[]⟩, .slice none 0 0, .slice none 0 0]) = true := by simp [aggOk, Value.oneCell']
       obtain ⟨WF, hWF⟩ : ∃ W, W = World.setRow we g2 #[.string ⟨#[]⟩, .slice none 0 0, .slice none 0 0] := ⟨_, rfl⟩
       have K2 : Keeps (fun b => b = g2) we WF := by rw [hWF]; exact (Keeps.refl (fun b => b = g2) we).setRow (g := g2) (fun _ => rfl) _
       have BF : Blk WF g2 #[.string ⟨#[]⟩, .slice none 0 0, .slice none 0 0] 32 := by rw [hWF]; exact blk_setRow B2e
       have HF : Shut (GetPost w bs (.returned (.tuple #[.agg #[.string ⟨#[]⟩, .slice none 0 0, .slice none 0 0], .iface 130 (.pointer (some ⟨x3.heap.size, 0, none⟩))])) WF) := shut ⟨(KE.trans kE (fun _ h _ => h)).trans K2 (fun b hb hlt => by have hb' : b = g2 := hb; have := HS2.out; omega), .inr ⟨HNO.out, _, rfl, (hIE.keeps K2 (fun b hb => by have hb' : b = g2 := hb; have := H2L.out; omega)).mono KE.size⟩⟩
       clear K2 hIE kE KE hwe
       go_wp2_with fail
       rw [← hWF]
       refine bodyPost_ret (v := .tuple #[.agg #[.string ⟨#[]⟩, .slice none 0 0, .slice none 0 0], .iface 130 (.pointer (some ⟨x3.heap.size, 0, none⟩))]) (results_row_tmp rfl _ _ g2 _ _ rfl rfl (loadVar_sig _ _ _ _ BF rfl)) rfl ?_
       exact HF.out
end Go.Proofs.YtjbcagbnagefcaaGreat
