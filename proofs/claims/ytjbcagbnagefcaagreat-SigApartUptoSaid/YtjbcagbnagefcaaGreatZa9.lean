/- Sig15 Tree6 Tree7 -/
import Derived.Test.YtjbcagbnagefcaaGreatZa8
import Derived.Test.YtjbcagbnagefcaaGreatZa7
import Derived.Test.YtjbcagbnagefcaaGreatZa2
namespace Go.Proofs.YtjbcagbnagefcaaGreat
open Go.RowKit
attribute [local irreducible] wpMix wpMixG wpList
attribute [local go_sem ↓] exec_mid_ty exec_store_ty exec_mid_pl exec_store_pl exec_mid_opr exec_store_opr exec_mid_val exec_store_val exec_mid_st exec_store_st exec_mid_fld exec_store_fld exec_mid_str exec_store_str exec_mid_lif exec_store_lif exec_mid_fun exec_store_fun exec_mid_cr exec_store_cr
attribute [local go_sem] rowOk_new World.setRow_alloc_new
attribute [local go_sem ↓] exec_into_pl exec_into_opr exec_into_ty exec_into_val exec_mid_sig exec_store_sig

theorem sequal_any (w : World) {aa ab : Option Addr} {na nb : Nat} (ca cb : Nat) {a b : List UInt8} (hna : a.length = na) (hnb : b.length = nb) (hA : BytesAt w aa a) (hB : BytesAt w ab b) :
    Calls Tryz.prog 36 #[.slice aa na ca, .slice ab nb cb] w fun e w' => e = .returned (.bool (a == b)) ∧ w' = w := by
  have e1 := run_str w ca a hna hA
  have e2 := run_str w cb b hnb hB
  go_enter Tryz.func36, Tryz.ntmps36
  go_wp2_with fail
  go_ret
  exact ⟨rfl, rfl⟩
theorem loadVar_sig (w : World) (g : Nat) (cs : Array Value) (t : TypeId) (hb : Blk w g cs t) (hs : cs.size = 3) : (loadVar 32 ⟨g, 0, none⟩).run Tryz.prog w = .ok (.agg cs) w :=
  run_loadVar_row w g t _ cs (0, 0) _ hb Tryz.underlying32 rfl (by rw [infoSig, hs])
/-- A struct as a sig shows it. -/
def ShowP (x : StrD) : Prop := x.pub = true ∧ x.pos = 0 ∧ StrP x
theorem mayS_show {s : SigD} (h : MayS s) : (∀ x ∈ s.cr.structs, ShowP x) ∧ (∀ f ∈ s.cr.funcs, HeadP f) ∧ s.name.length ≤ 66 ∧ s.cr.structs.length ≤ 256 ∧ s.cr.funcs.length ≤ 256 := by
  obtain ⟨h1, h2, h3, h4, h5, h6⟩ := h
  exact ⟨fun x hx => ⟨(h1 x hx).1, (h1 x hx).2, h5 x hx⟩, fun f hf => ⟨(h2 f hf).1, (h2 f hf).2.1, (h2 f hf).2.2, h6 f hf⟩, by have := name_len h3; omega, by omega, by omega⟩
/-- What Get leaves: the one sig of these bytes, or an error. -/
def GetPost (w : World) (bs : List UInt8) (e : Ending) (w' : World) : Prop := Keeps Nothing w w' ∧ ((∃ (s : SigD) (cs : List Value), MayS s ∧ encSig s = bs ∧ e = .returned (.tuple #[.agg cs.toArray, .nilIface]) ∧ SigIs (fun b => b < w'.heap.size) w' s cs) ∨ ((∀ s, MayS s → encSig s ≠ bs) ∧ ∃ ev, e = .returned (.tuple #[.agg #[.string ⟨#[]⟩, .slice none 0 0, .slice none 0 0], ev]) ∧ IsErr w.heap.size w' ev 4 0))

set_option maxRecDepth 100000 in
set_option linter.unusedSimpArgs false in
set_option maxHeartbeats 16000000 in
theorem get_any (w : World) (hM : MaxV w) {ab : Option Addr} (cb : Nat) {bs : List UInt8} {nb : Nat} (hnb : bs.length = nb) (hB : BytesAt w ab bs) (hl : bs.length ≤ 1000000000) :
    Calls Tryz.prog 12 #[.slice ab nb cb] w (GetPost w bs) := by
  have HM := shut hM
  have HNB := shut hnb
  have HBY := shut hB
  have ka : Keeps Nothing w (w.alloc (.cells #[.string ⟨#[]⟩, .slice none 0 0, .slice none 0 0] 32)) := (Keeps.refl Nothing w).alloc _
  have B2 := blk_new w #[.string ⟨#[]⟩, .slice none 0 0, .slice none 0 0] 32
  have hc := newReader_len cb hnb (hB.keeps ka (fun _ _ h => h)) hl
  clear hM hB
  go_enter Tryz.func12, Tryz.ntmps12
  go_upto_region 1 with fail
  have H2w := lt_of_block B2
  obtain ⟨g2, hg2⟩ : ∃ q, w.heap.size = q := ⟨_, rfl⟩
  have HS2 : Shut (w.heap.size ≤ g2) := shut (Nat.le_of_eq hg2)
  rw [hg2] at B2 H2w
  try rw [hg2]
  clear hg2
  generalize w.alloc (.cells #[.string ⟨#[]⟩, .slice none 0 0, .slice none 0 0] 32) = w0 at *
  go_wp2_with (refine hc.mono ?_; rintro e w1 ⟨p, ao, cap, rfl, hR, k1, hpq, hnew⟩)
  have KW1 := ka.trans k1 (fun _ h _ => h)
  have B2a := k1.blk B2 (fun h => h)
  have B3 := blk_new w1 #[.pointer (some ⟨p, 0, none⟩), .bool false] 82
  have ka2 : Keeps Nothing w1 (w1.alloc (.cells #[.pointer (some ⟨p, 0, none⟩), .bool false] 82)) := (Keeps.refl Nothing w1).alloc _
  have hG : Gt (w1.alloc (.cells #[.pointer (some ⟨p, 0, none⟩), .bool false] 82)) w1.heap.size p ao cap bs (some 0) := ⟨B3, 0, hR.keepsN ka2, fun j hj => Option.some.inj hj⟩
  have B2b := ka2.blk B2a (fun h => h)
  have KW2 := KW1.trans ka2 (fun _ h _ => h)
  have hpl := lt_of_block hR.blk
  have h21 := lt_of_block B2a
  have hw01 := k1.size
  clear hc hR k1 KW1 B2 B2a ka
  go_upto_region 2 with fail
  obtain ⟨g, hg⟩ : ∃ q, w1.heap.size = q := ⟨_, rfl⟩
  rw [hg] at hG B3
  try rw [hg]
  have hgw : g < (w1.alloc (.cells #[.pointer (some ⟨p, 0, none⟩), .bool false] 82)).heap.size := hG.lt.1
  have hpw := hG.lt.2
  have hn2 : ¬ GF g p g2 := fun q => by rcases q with q | q <;> omega
  have HGN : Shut (w.heap.size ≤ g ∧ w.heap.size ≤ p) := shut (by have := HS2.out; omega)
  have h2b := lt_of_block B2b
  clear ka2 hg hpl h21 hw01 hpq hnew B3 H2w
  generalize w1.alloc (.cells #[.pointer (some ⟨p, 0, none⟩), .bool false] 82) = w2 at *
  have B2 := B2b
  clear B2b
  have HW2 : Shut (w.heap.size ≤ w2.heap.size) := shut KW2.size
  have KR : Keeps (GF g p) w2 w2 := Keeps.refl _ _
  have hc := gtext_any hG hl
  go_wp2_with fail
  refine hc.mono ?_
  rintro e w3 ⟨z0, s0, rfl, hz0, hz0n, hG2, hK2, hgot⟩
  have HGOTw3 := shut hgot
  have KR2 := KR.trans hK2 (fun _ h _ => h)
  have B22 := hK2.blk B2 hn2
  clear hc KR hG hgot B2
  have KR := KR2
  have hG := hG2
  have B2 := B22
  clear KR2 hG2 B22
  obtain ⟨zb, hzb⟩ : ∃ b, (z0 == ([85, 83, 73, 71] : List UInt8)) = b := ⟨_, rfl⟩
  obtain ⟨s1, hs1⟩ : ∃ s : Option Nat, s = (if zb = true then s0 else none) := ⟨_, rfl⟩
  have hzs : (!zb) = s1.isNone := by
    rw [hs1]
    cases zb with
    | false => rfl
    | true =>
      rw [if_pos rfl]
      cases s0 with
      | none =>
        rw [hz0n rfl] at hzb
        cases hzb
      | some j => rfl
  obtain ⟨hG2, hK2b, -, f1⟩ := gt_set hG (!zb) hzs (fun j hj => by rw [hs1] at hj; cases zb with | false => cases hj | true => exact hj)
  have c1 := blk_cell hG.blk 1 rfl
  have HG0 : Shut (Got bs (some 0) (encS usig) True s1) := shut (fun k r hk hr => by
    obtain ⟨q1, q2⟩ := HGOTw3.out usig (by decide) k r hk hr
    refine ⟨trivial, ?_⟩
    have q3 : zb = true := by rw [← hzb, q1]; rfl
    rw [hs1, if_pos q3]
    exact q2)
  have B22 := hK2b.blk B2 hn2
  have KR2 := KR.trans hK2b (fun _ h _ => h)
  have hzne : (z0 != ([85, 83, 73, 71] : List UInt8)) = !zb := by rw [← hzb]; rfl
  clear hG KR B2 hzs hs1 hz0n hK2b
  go_upto_region 3 with fail
  any_goals try (rename_i hfz; simp [f1] at hfz; done)
  clear c1 f1 hzb hzne
  generalize w3.setCell ⟨g, 1, none⟩ (.bool (!zb)) = w4 at *
  have hG := hG2
  have KR := KR2
  have B2 := B22
  clear hG2 KR2 B22
  have hc := gtext_any hG hl
  go_wp2_with fail
  refine hc.mono ?_
  rintro e w5 ⟨nm, s2, rfl, hnm, -, hG2, hK2, hgot⟩
  have HGOTw5 := shut hgot
  have KR2 := KR.trans hK2 (fun _ h _ => h)
  have B22 := hK2.blk B2 hn2
  clear hc KR hG hgot B2
  have KR := KR2
  have hG := hG2
  have B2 := B22
  clear KR2 hG2 B22
  have ka : Keeps Nothing w5 (w5.alloc (.cells #[.string ⟨nm.toArray⟩, .slice none 0 0, .slice none 0 0] 32)) := (Keeps.refl Nothing w5).alloc _
  have B52 := blk_new w5 #[.string ⟨nm.toArray⟩, .slice none 0 0, .slice none 0 0] 32
  have KR2 := KR.trans ka (fun _ h _ => h.elim)
  have hG2 := hG.keepsN ka
  have HSZ5 : w2.heap.size ≤ w5.heap.size := KR.size
  have hgl := hG.lt
  have B22 := ka.blk B2 (fun h => h)
  go_upto_region 4 with fail
  obtain ⟨g5, hg5⟩ : ∃ q, w5.heap.size = q := ⟨_, rfl⟩
  have hn5 : ¬ GF g p g5 := fun q => by rcases q with q | q <;> omega
  have HS5 : Shut (w2.heap.size ≤ g5) := shut (by rw [← hg5]; exact HSZ5)
  rw [hg5] at B52
  try rw [hg5]
  clear KR hG ka hgl HSZ5 hg5 B2
  generalize (w5.alloc (.cells #[.string ⟨nm.toArray⟩, .slice none 0 0, .slice none 0 0] 32)) = w6 at *
  have KR := KR2
  have hG := hG2
  have B5 := B52
  have B2 := B22
  clear KR2 hG2 B52 B22
  have hc := gnum_any hG hl 256 (by omega)
  go_wp2_with fail
  refine hc.mono ?_
  rintro e w7 ⟨n1, s3, rfl, hn1, hG2, hK2, hgot⟩
  have HGOTw7 := shut hgot
  have KR2 := KR.trans hK2 (fun _ h _ => h)
  have B22 := hK2.blk B2 hn2
  have B52 := hK2.blk B5 hn5
  clear hc KR hG hgot B2 B5
  have KR := KR2
  have hG := hG2
  have B2 := B22
  have B5 := B52
  clear KR2 hG2 B22 B52
  have HNE : Shut (g2 ≠ g5) := shut (fun q => by have := HS5.out; omega)
  have hZG : ∀ b, ¬ (b < w2.heap.size ∨ b = g2 ∨ b = g5) → ¬ GF g p b := fun b hb q => hb (.inl (by rcases q with q | q <;> omega))
  have hNG : ∀ b, w2.heap.size ≤ b → ¬ GF g p b := fun b hb q => by rcases q with q | q <;> omega
  have H0 : Shut (∃ (L : List StrD) (aq : Option Addr) (cq : Nat), L.length = 0 ∧ Blk w7 g5 #[.string ⟨nm.toArray⟩, .slice aq (0) cq, .slice none (0) 0] 32 ∧ OutR (Zx (fun b => b < w2.heap.size ∨ b = g2 ∨ b = g5)) 49 5 StrIs w2.heap.size w7 aq cq L ∧ ∀ l : List StrD, (∀ x ∈ l, ShowP x) → l.length = n1 → Got bs s3 ((l.take (0)).map encStr).flatten (L = l.take (0)) s3) := shut ⟨[], none, 0, rfl, B5, outR_nil _ _ _ _ _ _, fun l _ _ => Got.nil rfl⟩
  have HG := shut hG
  have HKR := shut KR
  have HB2 := shut B2
  clear hG KR B2 B5
  go_wp2_with fail
  go_loopw [6, 7, 25] (fun s6 s7 s25 wx => ∃ (t : Nat) (sx : Option Nat), s25 = .int .i64 t ∧ t ≤ n1 ∧ Gt wx g p ao cap bs sx ∧ Keeps (GF g p) w2 wx ∧ Blk wx g2 #[.string ⟨#[]⟩, .slice none 0 0, .slice none 0 0] 32 ∧ Shut (∃ (L : List StrD) (aq : Option Addr) (cq : Nat), L.length = t ∧ Blk wx g5 #[.string ⟨nm.toArray⟩, .slice aq (t) cq, .slice none (0) 0] 32 ∧ OutR (Zx (fun b => b < w2.heap.size ∨ b = g2 ∨ b = g5)) 49 5 StrIs w2.heap.size wx aq cq L ∧ ∀ l : List StrD, (∀ x ∈ l, ShowP x) → l.length = n1 → Got bs s3 ((l.take (t)).map encStr).flatten (L = l.take (t)) sx)) (fun _ _ s25 _ => n1 - (intOf s25).toNat)
  case atStart => exact ⟨0, s3, rfl, Nat.zero_le _, HG.out, HKR.out, HB2.out, H0⟩
  case round =>
    clear HG HKR HB2 H0
    obtain ⟨t, sx, rfl, ht, hG, KL, B2, HR⟩ := hrel
    obtain ⟨L, aL, cL, hLl, B5, HO, hgl⟩ := HR.out
    have HGL := shut hgl
    have HLL := shut hLl
    clear HR hgl hLl
    by_cases hltt : t < n1
    · skip
      have KR0 : Keeps (GF g p) wr wr := Keeps.refl _ _
      have KLO := shut KL
      have hc := gtext_any hG hl
      go_wp2_with fail
      refine hc.mono ?_
      rintro e v1 ⟨xnm, sa, rfl, hxnm, -, hG2, hK2, hgot⟩
      have HGOTv1 := shut hgot
      have KR2 := KR0.trans hK2 (fun _ h _ => h)
      clear hc KR0 hG hgot 
      have KR := KR2
      have hG := hG2
      clear KR2 hG2 
      have ka : Keeps Nothing v1 (v1.alloc (.cells #[.bool true, .string ⟨xnm.toArray⟩, .slice none (0) 0, .slice none (0) 0, .int .i64 0] 49)) := (Keeps.refl Nothing v1).alloc _
      have B62 := blk_new v1 #[.bool true, .string ⟨xnm.toArray⟩, .slice none (0) 0, .slice none (0) 0, .int .i64 0] 49
      have KR2 := KR.trans ka (fun _ h _ => h.elim)
      have hG2 := hG.keepsN ka
      have HSZ6 : wr.heap.size ≤ v1.heap.size := KR.size
      have hgl := hG.lt
      go_upto_region 7 with fail
      obtain ⟨g6, hg6⟩ : ∃ q, v1.heap.size = q := ⟨_, rfl⟩
      have hn6 : ¬ GF g p g6 := fun q => by rcases q with q | q <;> omega
      have HS6 : Shut (wr.heap.size ≤ g6) := shut (by rw [← hg6]; exact HSZ6)
      rw [hg6] at B62
      try rw [hg6]
      clear KR hG ka hgl HSZ6 hg6 
      generalize (v1.alloc (.cells #[.bool true, .string ⟨xnm.toArray⟩, .slice none (0) 0, .slice none (0) 0, .int .i64 0] 49)) = v2 at *
      have KR := KR2
      have hG := hG2
      have B6 := B62
      clear KR2 hG2 B62 
      have hv2 : Shut (wr.heap.size ≤ v2.heap.size) := shut KR.size
      have h6l := shut (lt_of_block B6)
      have hc := gtexts_any hG hl
      go_wp2_with fail
      refine hc.mono ?_
      rintro e v3 ⟨Lo, aV, cV, sb, rfl, hLo, hG2, hK2, hgot⟩
      have HGOTv3 := shut hgot
      have HKV3 := shut hK2.size
      have KR2 := KR.trans hK2 (fun _ h _ => h)
      have B62 := hK2.blk B6 hn6
      clear hc KR hG hgot B6
      have KR := KR2
      have hG := hG2
      have B6 := B62
      clear KR2 hG2 B62
      have e1 := blk_cell B6 2 (v := .slice none 0 0) rfl
      have f1 := blk_free B6 2
      have ks : Keeps (fun b => b = g6) v3 (v3.setCell ⟨g6, 2, none⟩ (.slice aV Lo.length cV)) := (Keeps.refl (fun b => b = g6) v3).setCell (p := ⟨g6, 2, none⟩) (fun _ => rfl) _
      have B62 := (blk_set B6 2 (.slice aV Lo.length cV) : Blk (v3.setCell ⟨g6, 2, none⟩ (.slice aV Lo.length cV)) g6 #[.bool true, .string ⟨xnm.toArray⟩, .slice aV (Lo.length) cV, .slice none (0) 0, .int .i64 0] 49)
      have KR2 := KR.trans ks (fun b hb hlt => by have hb' : b = g6 := hb; have := HS6.out; omega)
      have hG2 := hG.box B6 (not_gT (by decide) (by decide) (by decide)) ks
      have HLO := shut (txNewA (N := v2.heap.size) hLo (Nat.le_refl _) ks (fun b hb q => by have q2 : b = g6 := q; have := h6l.out; omega))
      clear hLo
      have HLOS : v2.heap.size ≤ (v3.setCell ⟨g6, 2, none⟩ (.slice aV Lo.length cV)).heap.size := by rw [World.size_setCell]; exact HKV3.out
      clear KR hG ks B6 
      go_upto_region 8 with fail
      any_goals try (rename_i hfz; simp [f1] at hfz; done)
      clear e1 f1
      generalize (v3.setCell ⟨g6, 2, none⟩ (.slice aV Lo.length cV)) = v4 at *
      have KR := KR2
      have hG := hG2
      have B6 := B62
      clear KR2 hG2 B62 
      have h24 : v2.heap.size ≤ v4.heap.size := by have := HLOS; exact this
      have hc := gnum_any hG hl 64 (by omega)
      go_wp2_with fail
      refine hc.mono ?_
      rintro e v5 ⟨nf, sc, rfl, hnf, hG2, hK2, hgot⟩
      have HGOTv5 := shut hgot
      have KR2 := KR.trans hK2 (fun _ h _ => h)
      have B62 := hK2.blk B6 hn6
      clear hc KR hG hgot B6
      have KR := KR2
      have hG := hG2
      have B6 := B62
      clear KR2 hG2 B62
      have HLI := shut (HLO.out.keeps hK2 (fun b hb q => by have h1 := hb.1; have := hv2.out; have := KLO.out.size; rcases q with q | q <;> omega) (fun b hb => ⟨hb.1, Nat.lt_of_lt_of_le hb.2 hK2.size⟩) (fun _ _ _ h => h) : SlIs (NewA v2.heap.size v5) v5 1 TxIs aV Lo)
      have HV25 : Shut (v2.heap.size ≤ v5.heap.size) := shut (Nat.le_trans h24 hK2.size)
      have HGOTvI := HGOTv5
      obtain ⟨vI, rfl⟩ : ∃ v, v = v5 := ⟨_, rfl⟩
      have HRI : Shut (wr.heap.size ≤ vI.heap.size) := shut KR.size
      have h6I := lt_of_block B6
      have h2v : g2 < vI.heap.size := Nat.lt_of_lt_of_le (lt_of_block B2) KR.size
      have hszw := KL.size
      have HZO := shut hZG
      have HNO := shut hNG
      have hZG : ∀ b, ¬ (b < vI.heap.size ∨ b = g2 ∨ b = g6) → ¬ GF g p b := fun b hb q => hb (.inl (by have := HRI.out; rcases q with q | q <;> omega))
      have hNG : ∀ b, vI.heap.size ≤ b → ¬ GF g p b := fun b hb q => by have := HRI.out; rcases q with q | q <;> omega
      have H0 : Shut (∃ (M : List FldD) (aq : Option Addr) (cq : Nat), M.length = 0 ∧ Blk vI g6 #[.bool true, .string ⟨xnm.toArray⟩, .slice aV (Lo.length) cV, .slice aq (0) cq, .int .i64 0] 49 ∧ OutR (Zx (fun b => b < vI.heap.size ∨ b = g2 ∨ b = g6)) 73 6 FldIs vI.heap.size vI aq cq M ∧ ∀ l : List FldD, (∀ x ∈ l, FldP false x) → l.length = nf → Got bs sc ((l.take (0)).map encF).flatten (M = l.take (0)) sc) := shut ⟨[], none, 0, rfl, B6, outR_nil _ _ _ _ _ _, fun l _ _ => Got.nil rfl⟩
      have HG := shut hG
      have HKRI := shut KR
      have HLX := HLL
      have HXO := shut HO
      have HB5 := shut B5
      have HB2 := shut B2
      obtain ⟨wO, hwO⟩ : ∃ v, v = wr := ⟨_, rfl⟩
      rw [← hwO] at HKRI HXO HB5 HB2 KLO HRI hv2 HS6 hszw
      clear hG KR B6 HLO HLL HO B5 B2 KL h24 hwO
      go_wp2_with fail
      go_loopw [7, 35] (fun s7 s35 wx => ∃ (u : Nat) (sy : Option Nat), s35 = .int .i64 u ∧ u ≤ nf ∧ Gt wx g p ao cap bs sy ∧ Keeps (fun b => GF g p b ∨ b = g6) vI wx ∧ Shut (∃ (M : List FldD) (aq : Option Addr) (cq : Nat), M.length = u ∧ Blk wx g6 #[.bool true, .string ⟨xnm.toArray⟩, .slice aV (Lo.length) cV, .slice aq (u) cq, .int .i64 0] 49 ∧ OutR (Zx (fun b => b < vI.heap.size ∨ b = g2 ∨ b = g6)) 73 6 FldIs vI.heap.size wx aq cq M ∧ ∀ l : List FldD, (∀ x ∈ l, FldP false x) → l.length = nf → Got bs sc ((l.take (u)).map encF).flatten (M = l.take (u)) sy)) (fun _ s35 _ => nf - (intOf s35).toNat)
      case atStart => exact ⟨0, sc, rfl, Nat.zero_le _, HG.out, Keeps.refl _ _, H0⟩
      case round =>
        clear HG H0
        obtain ⟨u, sy, rfl, hu, hG, KL, HR⟩ := hrel
        obtain ⟨M, aM, cM, hLl, B6, HO, hgl⟩ := HR.out
        have HGM := shut hgl
        have HLL := shut hLl
        clear HR hgl hLl
        by_cases hltu : u < nf
        · skip
          have KR0 : Keeps (GF g p) wr wr := Keeps.refl _ _
          have hc := gtext_any hG hl
          go_wp2_with fail
          refine hc.mono ?_
          rintro e x1 ⟨fnm, sd, rfl, hfnm, -, hG2, hK2, hgot⟩
          have HGOTx1 := shut hgot
          have KR2 := KR0.trans hK2 (fun _ h _ => h)
          clear hc KR0 hG hgot 
          have KR := KR2
          have hG := hG2
          clear KR2 hG2 
          have hgw0 := KL.size
          have ka : Keeps Nothing x1 (x1.alloc (.cells #[.bool false, .string ⟨fnm.toArray⟩, .int .i64 0, .string ⟨#[]⟩, .slice none 0 0, .slice none 0 0] 73)) := (Keeps.refl Nothing x1).alloc _
          have B72 := blk_new x1 #[.bool false, .string ⟨fnm.toArray⟩, .int .i64 0, .string ⟨#[]⟩, .slice none 0 0, .slice none 0 0] 73
          have KR2 := KR.trans ka (fun _ h _ => h.elim)
          have hG2 := hG.keepsN ka
          have HSZ7 : wr.heap.size ≤ x1.heap.size := KR.size
          have hgl := hG.lt
          go_upto_region 11 with fail
          obtain ⟨g7, hg7⟩ : ∃ q, x1.heap.size = q := ⟨_, rfl⟩
          have hn7 : ¬ GF g p g7 := fun q => by rcases q with q | q <;> omega
          have HS7 : Shut (wr.heap.size ≤ g7) := shut (by rw [← hg7]; exact HSZ7)
          rw [hg7] at B72
          try rw [hg7]
          clear KR hG ka hgl HSZ7 hg7 
          generalize (x1.alloc (.cells #[.bool false, .string ⟨fnm.toArray⟩, .int .i64 0, .string ⟨#[]⟩, .slice none 0 0, .slice none 0 0] 73)) = x2 at *
          have KR := KR2
          have hG := hG2
          have B7 := B72
          clear KR2 hG2 B72 
          have hx2 : Shut (wr.heap.size ≤ x2.heap.size) := shut KR.size
          have h7l := shut (lt_of_block B7)
          have hc := gkind_any hG hl
          go_wp2_with fail
          refine hc.mono ?_
          rintro e x3 ⟨zt, ct, se, rfl, hzt, hG2, hK2, hgot⟩
          have HGOTx3 := shut hgot
          have KR2 := KR.trans hK2 (fun _ h _ => h)
          have B72 := hK2.blk B7 hn7
          clear hc KR hG hgot B7
          have KR := KR2
          have hG := hG2
          have B7 := B72
          clear KR2 hG2 B72
          have lct := hzt.len
          have agn := agg_ok lct hzt.one
          have e1 := midFit_blk B7 (o := 2) (n := 4) (by simp)
          have ks : Keeps (fun b => b = g7) x3 (midSet x3 g7 2 ct.toArray) := midSet_keeps (Keeps.refl (fun b => b = g7) x3) (g := g7) (fun _ => rfl) _ _
          have B72 := (box_mid (pre := ([.bool false, .string ⟨fnm.toArray⟩] : List Value)) (mid := ([.int .i64 0, .string ⟨#[]⟩, .slice none 0 0, .slice none 0 0] : List Value)) (post := ([] : List Value)) (new := ct) (o := 2) B7 (by rfl) rfl (by rw [lct]; rfl) : Blk (midSet x3 g7 2 ct.toArray) g7 ((([.bool false, .string ⟨fnm.toArray⟩] : List Value)) ++ (ct ++ (([] : List Value)))).toArray 73)
          have KR2 := KR.trans ks (fun b hb hlt => by have hb' : b = g7 := hb; have := HS7.out; omega)
          have hG2 := hG.box B7 (not_gT (by decide) (by decide) (by decide)) ks
          have HZT := shut (tyNewA (N := wr.heap.size) hzt hx2.out ks (fun b hb q => by have q2 : b = g7 := q; have := h7l.out; omega))
          clear hzt
          clear KR hG ks B7 
          go_upto_region 12 with fail
          clear e1
          generalize (midSet x3 g7 2 ct.toArray) = x4 at *
          have KR := KR2
          have hG := hG2
          have B7 := B72
          clear KR2 hG2 B72 
          clear agn
          rw [List.append_nil] at B7
          have HEL0 : Shut (FldIs (NewA wr.heap.size x4) x4 ⟨false, fnm, zt⟩ (([.bool false, .string ⟨fnm.toArray⟩] : List Value) ++ ct)) := shut ⟨ct, rfl, by show fnm.length ≤ bigN; unfold bigN; omega, HZT.out⟩
          have h6r := lt_of_block B6
          have hszw2 := KL.size
          clear HZT
          have B6w := KR.blk B6 hn6
          have HOw := HO.keeps (zx_ok _) fldOk KR (fun b hb => hZG b hb.2) (fun b hb => hNG b (HO.new b hb))
          have c30 := blk_cell B6w 3 (v := .slice aM u cM) rfl
          obtain ⟨Cz, hCz⟩ : ∃ C, C = (([.bool false, .string ⟨fnm.toArray⟩] : List Value) ++ ct : List Value).toArray := ⟨_, rfl⟩
          have hlz : (([.bool false, .string ⟨fnm.toArray⟩] : List Value) ++ ct : List Value).length = 6 := HEL0.out.len
          have hsz : Cz.size = 6 := by rw [hCz, List.size_toArray]; exact hlz
          have agz : aggOk 6 (.agg Cz) = true := by rw [hCz]; exact agg_ok hlz HEL0.out.one
          have B7c : Blk x4 g7 Cz 73 := by rw [hCz]; exact B7
          have GCz := shut hCz
          clear hCz
          obtain ⟨z1, z2⟩ := tblk_mid B7c hsz
          have BB := blk_new x4 Cz 73
          have kb : Keeps Nothing x4 (x4.alloc (.cells Cz 73)) := (Keeps.refl Nothing x4).alloc _
          have HO3 := shut (HOw.keepsN (zx_ok _) fldOk kb)
          have hszr := KR.size
          have hlao : ∀ q, blockOf aM = some q → q < wr.heap.size := fun q hq => HO.lt hq
          have HNEW := shut HO.new
          have hel : FldIs (InB (Zx (fun b => b < vI.heap.size ∨ b = g2 ∨ b = g6)) (x4.alloc (.cells Cz 73)) aM) (x4.alloc (.cells Cz 73)) ⟨false, fnm, zt⟩ (([.bool false, .string ⟨fnm.toArray⟩] : List Value) ++ ct : List Value) := fldOk.keep _ _ _ _ _ _ _ HEL0.out kb (fun _ _ h => h) (fun b hb => ⟨⟨Nat.lt_of_lt_of_le hb.2 kb.size, fun q => by have := hb.1; rcases q with q | q | q <;> omega⟩, fun q => by have := hlao b q; have := hb.1; omega⟩)
          have HEL := shut hel
          have hGb := hG.keepsN kb
          have KRb := KR.trans kb (fun _ h _ => h.elim)
          have B6x := kb.blk B6w (fun h => h)
          have HBB := shut BB
          have hlt4 : vI.heap.size ≤ (x4.alloc (.cells Cz 73)).heap.size := Nat.le_trans KL.size KRb.size
          clear hel BB HO HOw hG KR kb B6 B6w B7 HEL0
          go_wp2_with (at_builtin; rw [fillN (n := 6) rfl hsz]; refine wpList_appD _ rfl (.tmp 44) (.tmp 46) 47 rfl Tryz.underlying47 iaFld (by decide) (zx_ok _) fldOk u HLL.out rfl HO3.out hlt4 _ _ (([.bool false, .string ⟨fnm.toArray⟩] : List Value) ++ ct) ⟨false, fnm, zt⟩ GCz.out rfl HBB.out HEL.out (by omega) ?_)
          intro a4 c4 w9 O4 k4 m4
          have hg3n : ¬ blockOf aM = some g6 := HO3.out.ne B6x (by decide)
          have B6y := k4.blk B6x hg3n
          have c3y := blk_cell B6y 3 (v := .slice aM u cM) rfl
          have f3y := blk_free B6y 3
          have k5 : Keeps (fun b => b = g6) w9 (w9.setCell ⟨g6, 3, none⟩ (.slice a4 (u + 1) c4)) := (Keeps.refl (fun b => b = g6) w9).setCell (p := ⟨g6, 3, none⟩) (fun _ => rfl) _
          have B6z : Blk (w9.setCell ⟨g6, 3, none⟩ (.slice a4 (u + 1) c4)) g6 #[.bool true, .string ⟨xnm.toArray⟩, .slice aV (Lo.length) cV, .slice a4 (u + 1) c4, .int .i64 0] 49 := blk_set B6y 3 (.slice a4 (u + 1) c4)
          have O5 := O4.keeps (zx_ok _) fldOk k5 (fun b hb q => hb.2 (.inr (.inr q))) (fun q hq hq2 => by have hq' : q = g6 := hq2; subst hq'; exact O4.ne B6y (by decide) hq)
          have hG5 := (hGb.keeps k4 (fun i C ty hb ht q => HO3.out.ne hb (by rcases ht with rfl | rfl | rfl <;> decide) q)).box B6y (not_gT (by decide) (by decide) (by decide)) k5
          have KL4 : Keeps (fun b => GF g p b ∨ b = g6) vI (w9.setCell ⟨g6, 3, none⟩ (.slice a4 (u + 1) c4)) := ((KL.trans KRb (fun _ h _ => .inl h)).trans k4 (fun q hq hlt => by have := HNEW.out q hq; omega)).trans k5 (fun q hq hlt => .inr hq)
          have HF : Shut (∃ (M : List FldD) (aq : Option Addr) (cq : Nat), M.length = u + 1 ∧ Blk (w9.setCell ⟨g6, 3, none⟩ (.slice a4 (u + 1) c4)) g6 #[.bool true, .string ⟨xnm.toArray⟩, .slice aV (Lo.length) cV, .slice aq (u + 1) cq, .int .i64 0] 49 ∧ OutR (Zx (fun b => b < vI.heap.size ∨ b = g2 ∨ b = g6)) 73 6 FldIs vI.heap.size (w9.setCell ⟨g6, 3, none⟩ (.slice a4 (u + 1) c4)) aq cq M ∧ ∀ l : List FldD, (∀ x ∈ l, FldP false x) → l.length = nf → Got bs sc ((l.take (u + 1)).map encF).flatten (M = l.take (u + 1)) se) := shut ⟨M ++ [⟨false, fnm, zt⟩], a4, c4, by rw [List.length_append, HLL.out]; rfl, B6z, O5, fun l hl hln => by
            obtain ⟨a, ha⟩ : ∃ a, l[u]? = some a := ⟨_, List.getElem?_eq_getElem (by omega)⟩
            have hap := hl a (List.mem_of_getElem? ha)
            rw [flat_take ha]
            refine Got.app (Q := (⟨false, fnm, zt⟩ : FldD) = a) (HGM.out l hl hln) (fun _ => ?_) (fun p1 p2 => by rw [List.take_add_one, ha, p1, p2]; rfl)
            obtain ⟨amu, anm, aty⟩ := a
            have hmu : amu = false := by cases amu with | false => rfl | true => exact absurd (hap.1 rfl) (by decide)
            subst hmu
            unfold encF
            exact (HGOTx1.out anm (by have := name_len hap.2.1; simp only at this; omega)).app (fun _ => HGOTx3.out aty (.inl hap.2.2)) (fun p1 p2 => by rw [p1, p2])⟩
          clear O4 O5 k4 m4 k5 hGb KRb KL HO3 HEL HBB HNEW B6z
          go_wp2_with fail
          any_goals try (rename_i hfz; simp [f3y] at hfz; done)
          go_roundw
          case rel => exact ⟨u + 1, se, by go_num, by omega, hG5, KL4, HF⟩
          case measure => (simp [intOf]; try omega)
        · obtain rfl : u = nf := by omega
          obtain ⟨nf, rfl⟩ : ∃ n, n = u := ⟨_, rfl⟩
          have m1 : ¬ (nf : Int) < nf := by omega
          obtain ⟨xE, rfl⟩ : ∃ v, v = wr := ⟨_, rfl⟩
          have HL3 := HLL
          have h6E := lt_of_block B6
          have KR : Keeps (GF g p) wO xE := HKRI.out.trans KL (fun b hb hlt => by rcases hb with hb | hb; exact hb; have := HS6.out; omega)
          have hEL : StrIs (NewA wO.heap.size xE) xE ⟨true, xnm, Lo, M, 0⟩ [.bool true, .string ⟨xnm.toArray⟩, .slice aV (Lo.length) cV, .slice aM (nf) cM, .int .i64 0] := by
            refine ⟨aV, cV, aM, cM, by show _ = ([.bool true, txV xnm, .slice aV Lo.length cV, .slice aM M.length cM, .int .i64 0] : List Value); rw [HL3.out]; rfl, by show xnm.length ≤ bigN; unfold bigN; omega, ?_, ?_⟩
            · exact HLI.out.keeps KL (fun b hb q => by have h1 := hb.1; have := hv2.out; have := h6l.out; rcases q with q | q; rcases q with q | q <;> omega; omega) (fun b hb => ⟨by have := hb.1; have := hv2.out; omega, Nat.lt_of_lt_of_le hb.2 KL.size⟩) (fun _ _ _ h => h)
            · exact HO.sl (S := NewA wO.heap.size xE) fldOk (fun b hb => ⟨Nat.le_trans HRI.out (Nat.le_of_not_lt (fun q => hb.2 (.inl q))), hb.1⟩) (fun q hq => ⟨Nat.le_trans HRI.out (HO.new q hq), HO.lt hq⟩) (by rw [HL3.out]; unfold bigN; omega)
          have HEL0 := shut hEL
          have HGM2 := HGM
          have HLL := HLX
          have hZG := HZO.out
          have hNG := HNO.out
          have B5 := HB5.out
          have HO := HXO.out
          have h5r := lt_of_block B5
          clear hEL KL HL3
          go_upto_region 14 with fail
          have B5w := KR.blk B5 hn5
          have HOw := HO.keeps (zx_ok _) strOk KR (fun b hb => hZG b hb.2) (fun b hb => hNG b (HO.new b hb))
          have c30 := blk_cell B5w 1 (v := .slice aL t cL) rfl
          obtain ⟨Cz, hCz⟩ : ∃ C, C = ([.bool true, .string ⟨xnm.toArray⟩, .slice aV (Lo.length) cV, .slice aM (nf) cM, .int .i64 0] : List Value).toArray := ⟨_, rfl⟩
          have hlz : ([.bool true, .string ⟨xnm.toArray⟩, .slice aV (Lo.length) cV, .slice aM (nf) cM, .int .i64 0] : List Value).length = 5 := HEL0.out.len
          have hsz : Cz.size = 5 := by rw [hCz, List.size_toArray]; exact hlz
          have agz : aggOk 5 (.agg Cz) = true := by rw [hCz]; exact agg_ok hlz HEL0.out.one
          have B6c : Blk xE g6 Cz 49 := by rw [hCz]; exact B6
          have GCz := shut hCz
          clear hCz
          obtain ⟨z1, z2⟩ := tblk_mid B6c hsz
          have BB := blk_new xE Cz 49
          have kb : Keeps Nothing xE (xE.alloc (.cells Cz 49)) := (Keeps.refl Nothing xE).alloc _
          have HO3 := shut (HOw.keepsN (zx_ok _) strOk kb)
          have hszr := KR.size
          have hlao : ∀ q, blockOf aL = some q → q < wO.heap.size := fun q hq => HO.lt hq
          have HNEW := shut HO.new
          have hel : StrIs (InB (Zx (fun b => b < w2.heap.size ∨ b = g2 ∨ b = g5)) (xE.alloc (.cells Cz 49)) aL) (xE.alloc (.cells Cz 49)) ⟨true, xnm, Lo, M, 0⟩ ([.bool true, .string ⟨xnm.toArray⟩, .slice aV (Lo.length) cV, .slice aM (nf) cM, .int .i64 0] : List Value) := strOk.keep _ _ _ _ _ _ _ HEL0.out kb (fun _ _ h => h) (fun b hb => ⟨⟨Nat.lt_of_lt_of_le hb.2 kb.size, fun q => by have := hb.1; rcases q with q | q | q <;> omega⟩, fun q => by have := hlao b q; have := hb.1; omega⟩)
          have HEL := shut hel
          have hGb := hG.keepsN kb
          have KRb := KR.trans kb (fun _ h _ => h.elim)
          have B5x := kb.blk B5w (fun h => h)
          have HBB := shut BB
          have hlt4 : w2.heap.size ≤ (xE.alloc (.cells Cz 49)).heap.size := Nat.le_trans KLO.out.size KRb.size
          clear hel BB HO HOw hG KR kb B5 B5w B6 HEL0
          go_wp2_with (at_builtin; rw [fillN (n := 5) rfl hsz]; refine wpList_appD _ rfl (.tmp 51) (.tmp 53) 23 rfl Tryz.underlying23 iaStr (by decide) (zx_ok _) strOk t HLL.out rfl HO3.out hlt4 _ _ ([.bool true, .string ⟨xnm.toArray⟩, .slice aV (Lo.length) cV, .slice aM (nf) cM, .int .i64 0]) ⟨true, xnm, Lo, M, 0⟩ GCz.out rfl HBB.out HEL.out (by omega) ?_)
          intro a4 c4 w9 O4 k4 m4
          have hg3n : ¬ blockOf aL = some g5 := HO3.out.ne B5x (by decide)
          have B5y := k4.blk B5x hg3n
          have c3y := blk_cell B5y 1 (v := .slice aL t cL) rfl
          have f3y := blk_free B5y 1
          have k5 : Keeps (fun b => b = g5) w9 (w9.setCell ⟨g5, 1, none⟩ (.slice a4 (t + 1) c4)) := (Keeps.refl (fun b => b = g5) w9).setCell (p := ⟨g5, 1, none⟩) (fun _ => rfl) _
          have B5z : Blk (w9.setCell ⟨g5, 1, none⟩ (.slice a4 (t + 1) c4)) g5 #[.string ⟨nm.toArray⟩, .slice a4 (t + 1) c4, .slice none (0) 0] 32 := blk_set B5y 1 (.slice a4 (t + 1) c4)
          have O5 := O4.keeps (zx_ok _) strOk k5 (fun b hb q => hb.2 (.inr (.inr q))) (fun q hq hq2 => by have hq' : q = g5 := hq2; subst hq'; exact O4.ne B5y (by decide) hq)
          have hG5 := (hGb.keeps k4 (fun i C ty hb ht q => HO3.out.ne hb (by rcases ht with rfl | rfl | rfl <;> decide) q)).box B5y (not_gT (by decide) (by decide) (by decide)) k5
          have KL4 : Keeps (GF g p) w2 (w9.setCell ⟨g5, 1, none⟩ (.slice a4 (t + 1) c4)) := ((KLO.out.trans KRb (fun _ h _ => h)).trans k4 (fun q hq hlt => by have := HNEW.out q hq; omega)).trans k5 (fun q hq hlt => by have hq' : q = g5 := hq; have := HS5.out; omega)
          have B2y : Blk (w9.setCell ⟨g5, 1, none⟩ (.slice a4 (t + 1) c4)) g2 #[.string ⟨#[]⟩, .slice none 0 0, .slice none 0 0] 32 := k5.blk (k4.blk (KRb.blk HB2.out hn2) (HO3.out.ne (KRb.blk HB2.out hn2) (by decide))) (fun q => HNE.out q)
          have HF : Shut (∃ (L : List StrD) (aq : Option Addr) (cq : Nat), L.length = t + 1 ∧ Blk (w9.setCell ⟨g5, 1, none⟩ (.slice a4 (t + 1) c4)) g5 #[.string ⟨nm.toArray⟩, .slice aq (t + 1) cq, .slice none (0) 0] 32 ∧ OutR (Zx (fun b => b < w2.heap.size ∨ b = g2 ∨ b = g5)) 49 5 StrIs w2.heap.size (w9.setCell ⟨g5, 1, none⟩ (.slice a4 (t + 1) c4)) aq cq L ∧ ∀ l : List StrD, (∀ x ∈ l, ShowP x) → l.length = n1 → Got bs s3 ((l.take (t + 1)).map encStr).flatten (L = l.take (t + 1)) sy) := shut ⟨L ++ [⟨true, xnm, Lo, M, 0⟩], a4, c4, by rw [List.length_append, HLL.out]; rfl, B5z, O5, fun l hl hln => by
            obtain ⟨a, ha⟩ : ∃ a, l[t]? = some a := ⟨_, List.getElem?_eq_getElem (by omega)⟩
            have hap := hl a (List.mem_of_getElem? ha)
            rw [flat_take ha]
            refine Got.app (Q := (⟨true, xnm, Lo, M, 0⟩ : StrD) = a) (HGL.out l hl hln) (fun _ => ?_) (fun p1 p2 => by rw [List.take_add_one, ha, p1, p2]; rfl)
            obtain ⟨a_pub, a_name, a_lives, a_fields, a_pos⟩ := a
            obtain ⟨h1, h2, h3, h4, h5, h6⟩ := hap
            simp only at h1 h2 h3 h4 h5 h6
            subst h1 h2
            unfold encStr
            refine (HGOTv1.out a_name (by have := name_len h3; omega)).app (fun _ => (HGOTv3.out a_lives (fun s hs => by have := life_len (h4.1 s hs); omega) h4.2).app (fun _ => (HGOTvI.out a_fields.length h6).app (fun e1 => ((by have := HGM2.out a_fields h5 e1.symm; rwa [flat_all e1.symm, List.take_of_length_le (by omega)] at this) : Got bs sc (a_fields.map encF).flatten (M = a_fields) sy)) (fun _ b => b)) (fun a b => (⟨a, b⟩ : Lo = a_lives ∧ M = a_fields))) (fun a b => by rw [a, b.1, b.2])⟩
          clear O4 O5 k4 m4 k5 hGb KRb HO3 HEL HBB HNEW B5z
          go_wp2_with fail
          any_goals try (rename_i hfz; simp [f3y] at hfz; done)
          go_roundw
          case rel => exact ⟨t + 1, sy, by go_num, by omega, hG5, KL4, B2y, HF⟩
          case measure => (simp [intOf]; try omega)
    · obtain rfl : t = n1 := by omega
      obtain ⟨n1, rfl⟩ : ∃ n, n = t := ⟨_, rfl⟩
      have m1 : ¬ (n1 : Int) < n1 := by omega
      obtain ⟨wS, rfl⟩ : ∃ wS, wS = wr := ⟨_, rfl⟩
      have HOS := shut HO
      have HL0 := HLL
      have HGL0 := HGL
      have HWS : Shut (w2.heap.size ≤ wS.heap.size) := shut KL.size
      have h2S := lt_of_block B2
      have h5S := lt_of_block B5
      have HB5S := shut B5
      have KR : Keeps (GF g p) wS wS := Keeps.refl _ _
      have KWS := shut KL
      clear HO KL HLL
      have hc := gnum_any hG hl 256 (by omega)
      go_wp2_with fail
      refine hc.mono ?_
      rintro e u1 ⟨n2, s4, rfl, hn2', hG2, hK2, hgot⟩
      have HGOTu1 := shut hgot
      have KR2 := KR.trans hK2 (fun _ h _ => h)
      have B22 := hK2.blk B2 hn2
      have B52 := hK2.blk B5 hn5
      clear hc KR hG hgot B2 B5
      have KR := KR2
      have hG := hG2
      have B2 := B22
      have B5 := B52
      clear KR2 hG2 B22 B52
      have hZG : ∀ b, ¬ (b < wS.heap.size ∨ b = g2 ∨ b = g5) → ¬ GF g p b := fun b hb q => hb (.inl (by have := HWS.out; rcases q with q | q <;> omega))
      have hNG : ∀ b, wS.heap.size ≤ b → ¬ GF g p b := fun b hb q => by have := HWS.out; rcases q with q | q <;> omega
      have H0 : Shut (∃ (L2 : List FunD) (aq : Option Addr) (cq : Nat), L2.length = 0 ∧ Blk u1 g5 #[.string ⟨nm.toArray⟩, .slice aL (n1) cL, .slice aq (0) cq] 32 ∧ OutR (Zx (fun b => b < wS.heap.size ∨ b = g2 ∨ b = g5)) 56 10 FunIs wS.heap.size u1 aq cq L2 ∧ ∀ l : List FunD, (∀ x ∈ l, HeadP x) → l.length = n2 → Got bs s4 ((l.take (0)).map encFun).flatten (L2 = l.take (0)) s4) := shut ⟨[], none, 0, rfl, B5, outR_nil _ _ _ _ _ _, fun l _ _ => Got.nil rfl⟩
      have HG := shut hG
      have HKR := shut (KR.mono (S' := fun b => GF g p b ∨ b = g5) (fun _ h _ => .inl h))
      have HB2 := shut B2
      clear hG KR B2 B5
      go_wp2_with fail
      go_loopw [59] (fun s59 wx => ∃ (t : Nat) (sx : Option Nat), s59 = .int .i64 t ∧ t ≤ n2 ∧ Gt wx g p ao cap bs sx ∧ Keeps (fun b => GF g p b ∨ b = g5) wS wx ∧ Blk wx g2 #[.string ⟨#[]⟩, .slice none 0 0, .slice none 0 0] 32 ∧ Shut (∃ (L2 : List FunD) (aq : Option Addr) (cq : Nat), L2.length = t ∧ Blk wx g5 #[.string ⟨nm.toArray⟩, .slice aL (n1) cL, .slice aq (t) cq] 32 ∧ OutR (Zx (fun b => b < wS.heap.size ∨ b = g2 ∨ b = g5)) 56 10 FunIs wS.heap.size wx aq cq L2 ∧ ∀ l : List FunD, (∀ x ∈ l, HeadP x) → l.length = n2 → Got bs s4 ((l.take (t)).map encFun).flatten (L2 = l.take (t)) sx)) (fun s59 _ => n2 - (intOf s59).toNat)
      case atStart => exact ⟨0, s4, rfl, Nat.zero_le _, HG.out, HKR.out, HB2.out, H0⟩
      case round =>
        clear HG HKR HB2 H0
        obtain ⟨t, sz, rfl, ht, hG, KL, B2, HR⟩ := hrel
        obtain ⟨L2, aM, cM, hLl, B5, HO, hgl⟩ := HR.out
        have HGM := shut hgl
        have HLL := shut hLl
        clear HR hgl hLl
        by_cases hltt : t < n2
        · have m1 : (t : Int) < n2 := by omega
          go_upto_region 18 with fail
          have kd : Keeps Nothing wr wr.drew := (Keeps.refl Nothing wr).drew
          have hlao : ∀ q, blockOf aM = some q → q < wr.heap.size := fun q hq => HO.lt hq
          have HNEW := shut HO.new
          have hg5n : ¬ blockOf aM = some g5 := HO.ne B5 (by decide)
          have hg2n : ¬ blockOf aM = some g2 := HO.ne B2 (by decide)
          have HCW : Shut (wr.cell? ⟨g5, 2, none⟩ = some (.slice aM t cM)) := shut (blk_cell B5 2 rfl)
          have h5r := lt_of_block B5
          have h2r := lt_of_block B2
          have hszw := KL.size
          refine wp_region_mixG (fun V => Keeps (fun b => GF g p b ∨ blockOf aM = some b) wr V) 7 (.take 0 (.take 1 (.take 2 (.one 3 (.one 4 (.one 5 (.take 6 (.one 7 .done)))))))) (by kernel_rfl) (by kernel_rfl) (kd.mono (fun _ h _ => h.elim)) ?_
          simp only [itemsG, PlanG.map, List.map_cons, List.map_nil, List.getD_cons_zero, List.getD_cons_succ, Nat.reduceBEq]
          refine wpMixG_free (fun K hK => ?_)
          go_simp
          refine hK _ ?_
          clear hK K
          refine wpMixG_yield (v := .slice aM t cM) (fun W hW => ?_) (fun K hK => ?_)
          · have y1 := hW.cell HCW.out (fun q => by rcases q with q | q; exact hn5 q; exact hg5n q)
            go_simp
          go_simp
          refine hK _ ?_
          clear hK K
          refine wpMixG_free (fun K hK => ?_)
          go_simp
          refine hK _ ?_
          clear hK K
          refine wpMixG_one (fun K hK => ?_)
          have hc := gfun_any (hG.keepsN kd) hl
          go_wp2_with fail
          refine hc.mono ?_
          rintro e v1 ⟨fz, cf, sf, rfl, hFz, hG1, hK1, hgot⟩
          have HGOTv1 := shut hgot
          have KR : Keeps (GF g p) wr v1 := (kd.mono (fun _ h _ => h.elim)).trans hK1 (fun _ h _ => h)
          have lcf := hFz.len
          have HFZ := shut hFz
          obtain ⟨Cz, hCz⟩ : ∃ C, C = cf.toArray := ⟨_, rfl⟩
          have hsz : Cz.size = 10 := by rw [hCz, List.size_toArray]; exact lcf
          rw [← hCz]
          have GCz := shut hCz
          clear hc hG hgot hK1 hFz hCz kd
          go_wp2_with fail
          refine hK _ _ (.inr (KR.mono (fun _ h _ => .inl h))) ?_
          clear hK K
          refine wpMixG_one (fun K hK => ?_)
          go_wp2_with fail
          rw [fillN (n := 10) rfl hsz]
          have kb : Keeps Nothing v1 (v1.alloc (.cells Cz 56)) := (Keeps.refl Nothing v1).alloc _
          have KRb := KR.trans kb (fun _ h _ => h.elim)
          have BB := shut (blk_new v1 Cz 56)
          have hG2 := hG1.keepsN kb
          have HOw := HO.keeps (zx_ok _) funOk KR (fun b hb => hZG b hb.2) (fun b hb => hNG b (HO.new b hb))
          have HO3 := shut (HOw.keepsN (zx_ok _) funOk kb)
          have hszr := KR.size
          have hsd : wr.drew.heap.size = wr.heap.size := rfl
          have hel : FunIs (InB (Zx (fun b => b < wS.heap.size ∨ b = g2 ∨ b = g5)) (v1.alloc (.cells Cz 56)) aM) (v1.alloc (.cells Cz 56)) fz cf := funOk.keep _ _ _ _ _ _ _ HFZ.out kb (fun _ _ h => h) (fun b hb => ⟨⟨Nat.lt_of_lt_of_le hb.2 kb.size, fun q => by have h1 := hb.1; rw [hsd] at h1; rcases q with q | q | q <;> omega⟩, fun q => by have h1 := hb.1; rw [hsd] at h1; have := hlao b q; omega⟩)
          have HEL := shut hel
          refine hK _ _ (.inr (KRb.mono (fun _ h _ => .inl h))) ?_
          have hlt4 : wS.heap.size ≤ (v1.alloc (.cells Cz 56)).heap.size := Nat.le_trans hszw KRb.size
          clear hK K hel HFZ HO HOw hG1 KR kb
          refine wpMixG_one (fun K hK => ?_)
          go_wp2_with (at_builtin; refine wpList_appD _ rfl (.tmp 62) (.tmp 65) 24 rfl Tryz.underlying24 iaFun (by decide) (zx_ok _) funOk t HLL.out rfl HO3.out hlt4 _ _ cf fz GCz.out rfl BB.out HEL.out (by omega) ?_)
          intro a4 c4 w9 O4 k4 m4
          go_wp2_with fail
          refine hK _ _ (.inr ((KRb.mono (S' := fun b => GF g p b ∨ blockOf aM = some b) (fun _ h _ => .inl h)).trans k4 (fun _ h _ => .inr h))) ?_
          clear hK K
          refine wpMixG_free (fun K hK => ?_)
          go_simp
          refine hK _ ?_
          clear hK K
          have B5x := KRb.blk B5 hn5
          have B5y := k4.blk B5x hg5n
          have c3y := blk_cell B5y 2 (v := .slice aM t cM) rfl
          have f3y := blk_free B5y 2
          refine wpMixG_one (fun K hK => ?_)
          go_wp2_with fail
          any_goals try (rename_i hfz; simp [f3y] at hfz; done)
          have k5 : Keeps (fun b => b = g5) w9 (w9.setCell ⟨g5, 2, none⟩ (.slice a4 (t + 1) c4)) := (Keeps.refl (fun b => b = g5) w9).setCell (p := ⟨g5, 2, none⟩) (fun _ => rfl) _
          have B5z : Blk (w9.setCell ⟨g5, 2, none⟩ (.slice a4 (t + 1) c4)) g5 #[.string ⟨nm.toArray⟩, .slice aL (n1) cL, .slice a4 (t + 1) c4] 32 := blk_set B5y 2 (.slice a4 (t + 1) c4)
          have O5 := O4.keeps (zx_ok _) funOk k5 (fun b hb q => hb.2 (.inr (.inr q))) (fun q hq hq2 => by have hq' : q = g5 := hq2; subst hq'; exact O4.ne B5y (by decide) hq)
          have hG5 := (hG2.keeps k4 (fun i C ty hb ht q => HO3.out.ne hb (by rcases ht with rfl | rfl | rfl <;> decide) q)).box B5y (not_gT (by decide) (by decide) (by decide)) k5
          have KL4 : Keeps (fun b => GF g p b ∨ b = g5) wS (w9.setCell ⟨g5, 2, none⟩ (.slice a4 (t + 1) c4)) := ((KL.trans KRb (fun _ h _ => .inl h)).trans k4 (fun q hq hlt => by have := HNEW.out q hq; omega)).trans k5 (fun q hq hlt => .inr hq)
          have B2y : Blk (w9.setCell ⟨g5, 2, none⟩ (.slice a4 (t + 1) c4)) g2 #[.string ⟨#[]⟩, .slice none 0 0, .slice none 0 0] 32 := k5.blk (k4.blk (KRb.blk B2 hn2) hg2n) (fun q => HNE.out q)
          have HF : Shut (∃ (L2 : List FunD) (aq : Option Addr) (cq : Nat), L2.length = t + 1 ∧ Blk (w9.setCell ⟨g5, 2, none⟩ (.slice a4 (t + 1) c4)) g5 #[.string ⟨nm.toArray⟩, .slice aL (n1) cL, .slice aq (t + 1) cq] 32 ∧ OutR (Zx (fun b => b < wS.heap.size ∨ b = g2 ∨ b = g5)) 56 10 FunIs wS.heap.size (w9.setCell ⟨g5, 2, none⟩ (.slice a4 (t + 1) c4)) aq cq L2 ∧ ∀ l : List FunD, (∀ x ∈ l, HeadP x) → l.length = n2 → Got bs s4 ((l.take (t + 1)).map encFun).flatten (L2 = l.take (t + 1)) sf) := shut ⟨L2 ++ [fz], a4, c4, by rw [List.length_append, HLL.out]; rfl, B5z, O5, fun l hl hln => by
            obtain ⟨a, ha⟩ : ∃ a, l[t]? = some a := ⟨_, List.getElem?_eq_getElem (by omega)⟩
            rw [flat_take ha]
            exact Got.app (Q := fz = a) (HGM.out l hl hln) (fun _ => HGOTv1.out a (hl a (List.mem_of_getElem? ha))) (fun p1 p2 => by rw [List.take_add_one, ha, p1, p2]; rfl)⟩
          refine hK _ _ (.inl trivial) ?_
          clear hK K O4 O5 k4 m4 k5 hG2 KRb KL HO3 HEL BB HNEW B5z B2 B5 B5x B5y c3y f3y HCW
          refine wpMixG_done ?_
          go_wp2_with fail
          go_roundw
          case rel => exact ⟨t + 1, sf, by go_num, by omega, hG5, KL4, B2y, HF⟩
          case measure => (simp [intOf]; try omega)
        · obtain rfl : t = n2 := by omega
          obtain ⟨n2, rfl⟩ : ∃ n, n = t := ⟨_, rfl⟩
          have m1 : ¬ (n2 : Int) < n2 := by omega
          obtain ⟨wT, rfl⟩ : ∃ wS, wS = wr := ⟨_, rfl⟩
          have h2T := lt_of_block B2
          have h5T := lt_of_block B5
          have hWT := KL.size
          have KWT : Keeps Nothing w wT := (KW2.trans KWS.out (fun b hb hlt => by have h1 := HGN.out; rcases hb with hb | hb <;> omega)).trans KL (fun b hb hlt => by have h1 := HGN.out; have h2 := HS5.out; have h3 := HW2.out; rcases hb with hb | hb; rcases hb with hb | hb <;> omega; omega)
          have hSig : SigIs (fun b => b < wT.heap.size ∧ b ≠ g2 ∧ ¬ GF g p b) wT ⟨nm, ⟨L, L2⟩⟩ [.string ⟨nm.toArray⟩, .slice aL (n1) cL, .slice aM (n2) cM] := by
            refine ⟨aL, cL, aM, cM, ?_, by show nm.length ≤ bigN; unfold bigN; omega, ?_, ?_⟩
            · show _ = ([.string ⟨nm.toArray⟩, .slice aL L.length cL, .slice aM L2.length cM] : List Value)
              rw [HL0.out, HLL.out]
            · have h1 := HOS.out.sl (S := fun b => w2.heap.size ≤ b ∧ b < wS.heap.size ∧ b ≠ g2 ∧ b ≠ g5) strOk (fun b hb => ⟨Nat.le_of_not_lt (fun q => hb.2 (.inl q)), hb.1, fun q => hb.2 (.inr (.inl q)), fun q => hb.2 (.inr (.inr q))⟩) (fun q hq => ⟨HOS.out.new q hq, HOS.out.lt hq, fun q2 => by have := HOS.out.new q hq; omega, fun q2 => by subst q2; exact HOS.out.ne HB5S.out (by decide) hq⟩) (by rw [HL0.out]; unfold bigN; omega)
              have hT : ∀ b, (w2.heap.size ≤ b ∧ b < wS.heap.size ∧ b ≠ g2 ∧ b ≠ g5) → ¬ (fun b => GF g p b ∨ b = g5) b := fun b hb q => by rcases q with q | q; rcases q with q | q <;> omega; exact hb.2.2.2 q
              have hSS : ∀ b, (w2.heap.size ≤ b ∧ b < wS.heap.size ∧ b ≠ g2 ∧ b ≠ g5) → (b < wT.heap.size ∧ b ≠ g2 ∧ ¬ GF g p b) := fun b hb => ⟨Nat.lt_of_lt_of_le hb.2.1 hWT, hb.2.2.1, fun q => by rcases q with q | q <;> omega⟩
              exact h1.keeps KL hT hSS (fun _ _ _ h => h.keeps KL hT hSS)
            · exact HO.sl (S := fun b => b < wT.heap.size ∧ b ≠ g2 ∧ ¬ GF g p b) funOk (fun b hb => ⟨hb.1, fun q => hb.2 (.inr (.inl q)), hZG b hb.2⟩) (fun q hq => ⟨HO.lt hq, fun q2 => by have := HO.new q hq; have := HWS.out; omega, hNG q (HO.new q hq)⟩) (by rw [HLL.out]; unfold bigN; omega)
          have HSIG := shut hSig
          have HALL : Shut (∀ s, MayS s → encSig s = bs → (⟨nm, ⟨L, L2⟩⟩ : SigD) = s ∧ ∃ k, sz = some k) := shut (fun s hs he => by
            obtain ⟨s_name, s_structs, s_funcs⟩ := s
            obtain ⟨q1, q2, q3, q4, q5⟩ := mayS_show hs
            simp only at q1 q2 q3 q4 q5
            have hgot : Got bs (some 0) (encSig ⟨s_name, ⟨s_structs, s_funcs⟩⟩) (nm = s_name ∧ L = s_structs ∧ L2 = s_funcs) sz := by
              unfold encSig
              exact HG0.out.app (fun _ => (HGOTw5.out s_name q3).app (fun _ => (HGOTw7.out s_structs.length q4).app (fun e1 => ((by have := HGL0.out s_structs q1 e1.symm; rwa [flat_all e1.symm, List.take_of_length_le (by omega)] at this) : Got bs s3 (s_structs.map encStr).flatten (L = s_structs) sx).app (fun _ => (HGOTu1.out s_funcs.length q5).app (fun e2 => ((by have := HGM.out s_funcs q2 e2.symm; rwa [flat_all e2.symm, List.take_of_length_le (by omega)] at this) : Got bs s4 (s_funcs.map encFun).flatten (L2 = s_funcs) sz)) (fun _ b => b)) (fun a b => (⟨a, b⟩ : L = s_structs ∧ L2 = s_funcs))) (fun _ b => b)) (fun a b => (⟨a, b⟩ : nm = s_name ∧ L = s_structs ∧ L2 = s_funcs))) (fun _ b => b)
            obtain ⟨h1, h2⟩ := hgot 0 [] rfl (by rw [List.drop_zero, List.append_nil, he])
            exact ⟨by rw [h1.1, h1.2.1, h1.2.2], _, h2⟩)
          have HKWT := shut KWT
          have c1 := blk_cell hG.blk 1 rfl
          clear HO KL hSig KWT HG0 HGOTw5 HGOTw7 HGL0 HGOTu1 HGM HGL HOS hZG hNG
          cases sz with
          | none =>
            have HNO : Shut (∀ s, MayS s → encSig s ≠ bs) := shut (fun s hs he => by
              obtain ⟨-, k, hk⟩ := HALL.out s hs he
              cases hk)
            simp only [Option.isNone_none] at c1
            have KE := HKWT.out
            have H2L : Shut (g2 < wT.heap.size) := shut h2T
            clear HALL HKWT
            go_upto_region 24 with fail
            clear c1
            have hc := new_err 4 0 wT (by decide)
            go_wp2_with fail
            refine hc.mono ?_
            rintro e we ⟨rfl, hwe⟩
            clear hc
            have kE : Keeps Nothing wT we := by rw [hwe]; exact (Keeps.refl Nothing wT).alloc _
            have hIE : IsErr wT.heap.size we (.iface 130 (.pointer (some ⟨wT.heap.size, 0, none⟩))) 4 0 := by rw [hwe]; exact isErr_new wT 4 0 (by decide)
            have B2e := kE.blk B2 (fun h => h)
            have y3 := rowOk_blk B2e (n := 3) rfl
            have agz : aggOk 3 (.agg #[.string ⟨#[]⟩, .slice none 0 0, .slice none 0 0]) = true := by simp [aggOk, Value.oneCell']
            obtain ⟨WF, hWF⟩ : ∃ W, W = World.setRow we g2 #[.string ⟨#[]⟩, .slice none 0 0, .slice none 0 0] := ⟨_, rfl⟩
            have K2 : Keeps (fun b => b = g2) we WF := by rw [hWF]; exact (Keeps.refl (fun b => b = g2) we).setRow (g := g2) (fun _ => rfl) _
            have BF : Blk WF g2 #[.string ⟨#[]⟩, .slice none 0 0, .slice none 0 0] 32 := by rw [hWF]; exact blk_setRow B2e
            have HF : Shut (GetPost w bs (.returned (.tuple #[.agg #[.string ⟨#[]⟩, .slice none 0 0, .slice none 0 0], .iface 130 (.pointer (some ⟨wT.heap.size, 0, none⟩))])) WF) := shut ⟨(KE.trans kE (fun _ h _ => h)).trans K2 (fun b hb hlt => by have hb' : b = g2 := hb; have := HS2.out; omega), .inr ⟨HNO.out, _, rfl, (hIE.keeps K2 (fun b hb => by have hb' : b = g2 := hb; have := H2L.out; omega)).mono KE.size⟩⟩
            clear K2 hIE kE KE hwe
            go_wp2_with fail
            rw [← hWF]
            refine bodyPost_ret (v := .tuple #[.agg #[.string ⟨#[]⟩, .slice none 0 0, .slice none 0 0], .iface 130 (.pointer (some ⟨wT.heap.size, 0, none⟩))]) (results_row_tmp rfl _ _ g2 _ _ rfl rfl (loadVar_sig _ _ _ _ BF rfl)) rfl ?_
            exact HF.out
          | some kz =>
            simp only [Option.isNone_some] at c1
            obtain ⟨y1, y2⟩ := tblk_mid B5 (n := 3) rfl
            have hc := put_any ⟨nm, ⟨L, L2⟩⟩ wT (HM.out.keeps HKWT.out) _ (fun b hb => hb.1) HSIG.out
            go_wp2_with fail
            refine hc.mono ?_
            rintro e x1 ⟨kp, hp⟩
            have KE0 := HKWT.out.trans kp (fun _ h _ => h)
            have B2x := kp.blk B2 (fun h => h)
            have B5x := kp.blk B5 (fun h => h)
            have hGx := hG.keepsN kp
            have hx1 := kp.size
            have HSG1 := shut (HSIG.out.keeps kp (fun _ _ h => h) (fun b hb => ⟨Nat.lt_of_lt_of_le hb.1 hx1, hb.2⟩) : SigIs (fun b => b < x1.heap.size ∧ b ≠ g2 ∧ ¬ GF g p b) x1 ⟨nm, ⟨L, L2⟩⟩ [.string ⟨nm.toArray⟩, .slice aL (n1) cL, .slice aM (n2) cM])
            have HBX := shut (HBY.out.keeps KE0 (fun _ _ h => h))
            clear hc y1 y2 hG B2 B5 HKWT HSIG kp c1
            have c1 := blk_cell hGx.blk 1 rfl
            simp only [Option.isNone_some] at c1
            have f1 := blk_free hGx.blk 1
            rcases hp with ⟨hmay, aP, cP, rfl, hO, hOn⟩ | ⟨hmay, ev, rfl, hE⟩
            · have HMAY := shut hmay
              obtain ⟨lP, hlP⟩ : ∃ n, (encSig ⟨nm, ⟨L, L2⟩⟩).length = n := ⟨_, rfl⟩
              have HQ := sequal_any x1 cP cb hlP HNB.out (own8_at hO) HBX.out
              obtain ⟨zq, hzq⟩ : ∃ b, (encSig ⟨nm, ⟨L, L2⟩⟩ == bs) = b := ⟨_, rfl⟩
              rw [hzq] at HQ
              have HZQ := shut hzq
              rw [hlP]
              clear hzq hO hOn hmay hlP
              go_wp2_with fail
              refine HQ.mono ?_
              rintro e x2 ⟨rfl, hx2⟩
              obtain rfl : x2 = x1 := hx2
              clear HQ
              cases zq with
              | true =>
                have hEQ : Shut (encSig ⟨nm, ⟨L, L2⟩⟩ = bs) := shut (eq_of_beq HZQ.out)
                obtain ⟨hG2, hK2b, -, -⟩ := gt_set hGx false (st' := some kz) rfl (fun j hj => hj)
                have B22 := hK2b.blk B2x hn2
                have B52 := hK2b.blk B5x hn5
                have KE := KE0.trans hK2b (fun b hb hlt => by have h1 := HGN.out; rcases hb with hb | hb <;> omega)
                have HSG2 := shut (HSG1.out.keeps hK2b (fun b hb q => hb.2.2 q) (fun b hb => ⟨Nat.lt_of_lt_of_le hb.1 hK2b.size, hb.2.1⟩) : SigIs (fun b => b < (World.setCell x2 ⟨g, 1, none⟩ (.bool false)).heap.size ∧ b ≠ g2) (World.setCell x2 ⟨g, 1, none⟩ (.bool false)) ⟨nm, ⟨L, L2⟩⟩ [.string ⟨nm.toArray⟩, .slice aL (n1) cL, .slice aM (n2) cM])
                have c2 := blk_cell hG2.blk 1 rfl
                simp only [Option.isNone_some] at c2
                clear HALL HSG1 HBX KE0 hK2b hGx B2x B5x HZQ
                go_upto_region 23 with fail
                any_goals try (rename_i hfz; simp [f1] at hfz; done)
                clear c1 f1
                generalize World.setCell x2 ⟨g, 1, none⟩ (.bool false) = x3 at *
                go_upto_region 25 with fail
                clear c2
                obtain ⟨y1, y2⟩ := tblk_mid B52 (n := 3) rfl
                have y3 := rowOk_blk B22 (n := 3) rfl
                have agf : aggOk 3 (.agg #[.string ⟨nm.toArray⟩, .slice aL (n1) cL, .slice aM (n2) cM]) = true := by simp [aggOk, Value.oneCell']
                obtain ⟨WF, hWF⟩ : ∃ W, W = World.setRow x3 g2 #[.string ⟨nm.toArray⟩, .slice aL (n1) cL, .slice aM (n2) cM] := ⟨_, rfl⟩
                have K2 : Keeps (fun b => b = g2) x3 WF := by rw [hWF]; exact (Keeps.refl (fun b => b = g2) x3).setRow (g := g2) (fun _ => rfl) _
                have BF : Blk WF g2 #[.string ⟨nm.toArray⟩, .slice aL (n1) cL, .slice aM (n2) cM] 32 := by rw [hWF]; exact blk_setRow B22
                have HF : Shut (GetPost w bs (.returned (.tuple #[.agg #[.string ⟨nm.toArray⟩, .slice aL (n1) cL, .slice aM (n2) cM], .nilIface])) WF) := shut ⟨KE.trans K2 (fun b hb hlt => by have hb' : b = g2 := hb; have := HS2.out; omega), .inl ⟨⟨nm, ⟨L, L2⟩⟩, [.string ⟨nm.toArray⟩, .slice aL (n1) cL, .slice aM (n2) cM], HMAY.out, hEQ.out, rfl, HSG2.out.keeps K2 (fun b hb q => hb.2 q) (fun b hb => Nat.lt_of_lt_of_le hb.1 K2.size)⟩⟩
                clear K2 KE HSG2
                go_wp2_with fail
                rw [← hWF]
                refine bodyPost_ret (v := .tuple #[.agg #[.string ⟨nm.toArray⟩, .slice aL (n1) cL, .slice aM (n2) cM], .nilIface]) (results_row_tmp rfl _ _ g2 _ _ rfl rfl (loadVar_sig _ _ _ _ BF rfl)) rfl ?_
                exact HF.out
              | false =>
                have HNO : Shut (∀ s, MayS s → encSig s ≠ bs) := shut (fun s hs he => by
                  obtain ⟨h1, -⟩ := HALL.out s hs he
                  have h2 := HZQ.out
                  rw [h1, he, beq_self_eq_true] at h2
                  cases h2)
                obtain ⟨hG2, hK2b, -, -⟩ := gt_set hGx true (st' := none) rfl (fun j hj => by cases hj)
                have B2 := hK2b.blk B2x hn2
                have KE := KE0.trans hK2b (fun b hb hlt => by have h1 := HGN.out; rcases hb with hb | hb <;> omega)
                have c2 := blk_cell hG2.blk 1 rfl
                simp only [Option.isNone_none] at c2
                have H2L := shut (lt_of_block B2)
                clear HALL HSG1 HBX KE0 hK2b hGx B2x B5x
                go_upto_region 23 with fail
                any_goals try (rename_i hfz; simp [f1] at hfz; done)
                clear c1 f1
                generalize World.setCell x2 ⟨g, 1, none⟩ (.bool true) = x3 at *
                go_upto_region 24 with fail
                clear c2
                have hc := new_err 4 0 x3 (by decide)
                go_wp2_with fail
                refine hc.mono ?_
                rintro e we ⟨rfl, hwe⟩
                clear hc
                have kE : Keeps Nothing x3 we := by rw [hwe]; exact (Keeps.refl Nothing x3).alloc _
                have hIE : IsErr x3.heap.size we (.iface 130 (.pointer (some ⟨x3.heap.size, 0, none⟩))) 4 0 := by rw [hwe]; exact isErr_new x3 4 0 (by decide)
                have B2e := kE.blk B2 (fun h => h)
                have y3 := rowOk_blk B2e (n := 3) rfl
                have agz : aggOk 3 (.agg #[.string ⟨#[]⟩, .slice none 0 0, .slice none 0 0]) = true := by simp [aggOk, Value.oneCell']
                obtain ⟨WF, hWF⟩ : ∃ W, W = World.setRow we g2 #[.string ⟨#[]⟩, .slice none 0 0, .slice none 0 0] := ⟨_, rfl⟩
                have K2 : Keeps (fun b => b = g2) we WF := by rw [hWF]; exact (Keeps.refl (fun b => b = g2) we).setRow (g := g2) (fun _ => rfl) _
                have BF : Blk WF g2 #[.string ⟨#[]⟩, .slice none 0 0, .slice none 0 0] 32 := by rw [hWF]; exact blk_setRow B2e
                have HF : Shut (GetPost w bs (.returned (.tuple #[.agg #[.string ⟨#[]⟩, .slice none 0 0, .slice none 0 0], .iface 130 (.pointer (some ⟨x3.heap.size, 0, none⟩))])) WF) := shut ⟨(KE.trans kE (fun _ h _ => h)).trans K2 (fun b hb hlt => by have hb' : b = g2 := hb; have := HS2.out; omega), .inr ⟨HNO.out, _, rfl, (hIE.keeps K2 (fun b hb => by have hb' : b = g2 := hb; have := H2L.out; omega)).mono KE.size⟩⟩
                clear K2 hIE kE KE hwe
                go_wp2_with fail
                rw [← hWF]
                refine bodyPost_ret (v := .tuple #[.agg #[.string ⟨#[]⟩, .slice none 0 0, .slice none 0 0], .iface 130 (.pointer (some ⟨x3.heap.size, 0, none⟩))]) (results_row_tmp rfl _ _ g2 _ _ rfl rfl (loadVar_sig _ _ _ _ BF rfl)) rfl ?_
                exact HF.out
            · have HNO : Shut (∀ s, MayS s → encSig s ≠ bs) := shut (fun s hs he => by
                obtain ⟨h1, -⟩ := HALL.out s hs he
                exact hmay (h1 ▸ hs))
              obtain ⟨be, rfl⟩ := isErr_yes hE (by decide)
              clear hE hmay
              obtain ⟨x2, rfl⟩ : ∃ v, v = x1 := ⟨_, rfl⟩
              obtain ⟨hG2, hK2b, -, -⟩ := gt_set hGx true (st' := none) rfl (fun j hj => by cases hj)
              have B2 := hK2b.blk B2x hn2
              have KE := KE0.trans hK2b (fun b hb hlt => by have h1 := HGN.out; rcases hb with hb | hb <;> omega)
              have c2 := blk_cell hG2.blk 1 rfl
              simp only [Option.isNone_none] at c2
              have H2L := shut (lt_of_block B2)
              clear HALL HSG1 HBX KE0 hK2b hGx B2x B5x
              go_upto_region 23 with fail
              any_goals try (rename_i hfz; simp [f1] at hfz; done)
              clear c1 f1
              generalize World.setCell x2 ⟨g, 1, none⟩ (.bool true) = x3 at *
              go_upto_region 24 with fail
              clear c2
              have hc := new_err 4 0 x3 (by decide)
              go_wp2_with fail
              refine hc.mono ?_
              rintro e we ⟨rfl, hwe⟩
              clear hc
              have kE : Keeps Nothing x3 we := by rw [hwe]; exact (Keeps.refl Nothing x3).alloc _
              have hIE : IsErr x3.heap.size we (.iface 130 (.pointer (some ⟨x3.heap.size, 0, none⟩))) 4 0 := by rw [hwe]; exact isErr_new x3 4 0 (by decide)
              have B2e := kE.blk B2 (fun h => h)
              have y3 := rowOk_blk B2e (n := 3) rfl
              have agz : aggOk 3 (.agg #[.string ⟨#[]⟩, .slice none 0 0, .slice none 0 0]) = true := by simp [aggOk, Value.oneCell']
              obtain ⟨WF, hWF⟩ : ∃ W, W = World.setRow we g2 #[.string ⟨#[]⟩, .slice none 0 0, .slice none 0 0] := ⟨_, rfl⟩
              have K2 : Keeps (fun b => b = g2) we WF := by rw [hWF]; exact (Keeps.refl (fun b => b = g2) we).setRow (g := g2) (fun _ => rfl) _
              have BF : Blk WF g2 #[.string ⟨#[]⟩, .slice none 0 0, .slice none 0 0] 32 := by rw [hWF]; exact blk_setRow B2e
              have HF : Shut (GetPost w bs (.returned (.tuple #[.agg #[.string ⟨#[]⟩, .slice none 0 0, .slice none 0 0], .iface 130 (.pointer (some ⟨x3.heap.size, 0, none⟩))])) WF) := shut ⟨(KE.trans kE (fun _ h _ => h)).trans K2 (fun b hb hlt => by have hb' : b = g2 := hb; have := HS2.out; omega), .inr ⟨HNO.out, _, rfl, (hIE.keeps K2 (fun b hb => by have hb' : b = g2 := hb; have := H2L.out; omega)).mono KE.size⟩⟩
              clear K2 hIE kE KE hwe
              go_wp2_with fail
              rw [← hWF]
              refine bodyPost_ret (v := .tuple #[.agg #[.string ⟨#[]⟩, .slice none 0 0, .slice none 0 0], .iface 130 (.pointer (some ⟨x3.heap.size, 0, none⟩))]) (results_row_tmp rfl _ _ g2 _ _ rfl rfl (loadVar_sig _ _ _ _ BF rfl)) rfl ?_
              exact HF.out

end Go.Proofs.YtjbcagbnagefcaaGreat

namespace Go.Proofs.YtjbcagbnagefcaaGreat
open Go.RowKit

attribute [local go_sem ↓] exec_mid_ty exec_store_ty exec_mid_pl exec_store_pl exec_mid_opr exec_store_opr exec_mid_val exec_store_val exec_mid_st exec_store_st exec_mid_fld exec_store_fld exec_mid_str exec_store_str exec_mid_lif exec_store_lif exec_mid_fun exec_store_fun exec_mid_cr exec_store_cr
attribute [local go_sem] rowOk_new World.setRow_alloc_new
set_option maxRecDepth 100000 in
set_option maxHeartbeats 2000000 in
theorem rtexts_any (w : World) {S S' : Nat → Prop} {ax ay : Option Addr} {l m : List (List UInt8)} (cx cy : Nat) (hx : SlIs S w 1 TxIs ax l) (hy : SlIs S' w 1 TxIs ay m) :
    Calls Tryz.prog 93 #[.slice ax l.length cx, .slice ay m.length cy] w (Tells w (l = m)) := by
  have hlx := hx.1
  have hly := hy.1
  unfold bigN at hlx hly
  have HX := shut hx
  have HY := shut hy
  clear hx hy
  by_cases hne : l.length = m.length
  · obtain ⟨n, hn⟩ : ∃ n, l.length = n := ⟨_, rfl⟩
    have hm : m.length = n := by omega
    rw [hn, hm]
    rw [hn] at hlx
    clear hne hly
    have HN := shut hn
    have HM := shut hm
    clear hn hm
    go_enter Tryz.func93, Tryz.ntmps93
    go_wp2_with fail
    go_loopw [5] (fun s13 wx => ∃ t : Nat, s13 = .int .i64 t ∧ t ≤ n ∧ Keeps Nothing w wx ∧ Shut (l.take t = m.take t)) (fun s13 _ => n - (intOf s13).toNat)
    case atStart => exact ⟨0, rfl, Nat.zero_le _, Keeps.refl _ _, shut (by simp)⟩
    case round =>
      obtain ⟨t, rfl, ht, K, HT⟩ := hrel
      by_cases hlt : t < n
      · obtain ⟨a, ha⟩ : ∃ a, l[t]? = some a := ⟨_, List.getElem?_eq_getElem (by rw [HN.out]; exact hlt)⟩
        obtain ⟨b, hb⟩ : ∃ b, m[t]? = some b := ⟨_, List.getElem?_eq_getElem (by rw [HM.out]; exact hlt)⟩
        obtain ⟨g1, o1, rfl, e1, -⟩ := tx_cell (HX.out.keeps K (fun _ _ h => h) (fun _ h => h) (fun _ _ _ h => h)) ha
        obtain ⟨g2, o2, rfl, e2, -⟩ := tx_cell (HY.out.keeps K (fun _ _ h => h) (fun _ h => h) (fun _ _ _ h => h)) hb
        have HA := shut ha
        have HB := shut hb
        clear ha hb
        have m0 : (0 : Int) ≤ t := by omega
        have m1 : (t : Int) < n := by omega
        by_cases hab : a = b
        · subst hab
          have hbq : (a == a) = true := beq_self_eq_true _
          go_wp2_with fail
          go_quiet (fail)
          go_wp2_with fail
          go_roundw
          case rel => exact ⟨t + 1, by go_num, by omega, K.drewN _, shut (take_eq HA.out HB.out HT.out rfl)⟩
          case measure => simp [intOf]; omega
        · have hbq : (a == b) = false := by rw [beq_eq_false_iff_ne]; exact hab
          have HAB := shut hab
          clear hab
          go_wp2_with fail
          go_quiet (fail)
          go_wp2_with fail
          go_ret
          exact tells_f (ne_at HA.out HB.out HAB.out) (K.drewN _)
      · obtain rfl : t = n := by omega
        have m1 : ¬ (t : Int) < t := by omega
        go_wp2_with fail
        go_ret
        refine tells_t ?_ K
        have h := HT.out
        rwa [List.take_of_length_le (Nat.le_of_eq HN.out), List.take_of_length_le (Nat.le_of_eq HM.out)] at h
  · have hne' : ¬ (l.length : Int) = m.length := by omega
    have hl : l ≠ m := fun h => hne (by rw [h])
    go_enter Tryz.func93, Tryz.ntmps93
    go_wp2_with fail
    go_ret
    exact tells_f hl (Keeps.refl _ _)

set_option maxRecDepth 100000 in
set_option maxHeartbeats 4000000 in
theorem rsameType_any {S S' : Nat → Prop} : ∀ (a b : TyD) (w : World) (cs ds : List Value), TyIs S w a cs → TyIs S' w b ds → Calls Tryz.prog 72 #[.agg cs.toArray, .agg ds.toArray] w (Tells w (a = b)) := by
  refine TyD.ind ?_
  intro a_kind a_name a_lives a_elem ih_elem b w cs ds ha hb
  obtain ⟨b_kind, b_name, b_lives, b_elem⟩ := b
  have hih_elem : ∀ a ∈ a_elem, ∀ b ∈ b_elem, ∀ (W : World) (cs ds : List Value), TyIs S W a cs → TyIs S' W b ds → Calls Tryz.prog 72 #[.agg cs.toArray, .agg ds.toArray] W (Tells W (a = b)) := fun a h b _ W cs ds => ih_elem a h b W cs ds
  have HI_elem := shut hih_elem
  clear hih_elem ih_elem
  have ag1 := agg_ok ha.len ha.one
  have ag2 := agg_ok hb.len hb.one
  rw [tyIs_iff] at ha hb
  obtain ⟨p2, q2, p3, q3, hcs, ah_name, ah_lives, ah_elem⟩ := ha
  have HCA := shut hcs
  clear hcs
  obtain ⟨x2, y2, x3, y3, hcs, bh_name, bh_lives, bh_elem⟩ := hb
  have HCB := shut hcs
  clear hcs
  simp only [TyD.kind, TyD.name, TyD.lives, TyD.elem] at ah_name bh_name ah_lives bh_lives ah_elem bh_elem HCA HCB
  have HE : Shut ((TyD.mk a_kind a_name a_lives a_elem) = (TyD.mk b_kind b_name b_lives b_elem) ↔ a_kind = b_kind ∧ a_name = b_name ∧ a_lives = b_lives ∧ a_elem = b_elem) := shut (by rw [TyD.mk.injEq])
  obtain ⟨XA, hXA⟩ : ∃ X, X = TyD.mk a_kind a_name a_lives a_elem := ⟨_, rfl⟩
  obtain ⟨XB, hXB⟩ : ∃ X, X = TyD.mk b_kind b_name b_lives b_elem := ⟨_, rfl⟩
  rw [← hXA, ← hXB] at HE ⊢
  clear hXA hXB
  obtain ⟨CA, hCA⟩ : ∃ C, C = cs.toArray := ⟨_, rfl⟩
  obtain ⟨CB, hCB⟩ : ∃ C, C = ds.toArray := ⟨_, rfl⟩
  rw [← hCA] at ag1 ⊢
  rw [← hCB] at ag2 ⊢
  rw [HCA.out] at hCA
  rw [HCB.out] at hCB
  have GCA := shut hCA
  have GCB := shut hCB
  clear hCA hCB HCA HCB
  have KW : Keeps Nothing w ((w.alloc (.cells CA 53)).alloc (.cells CB 53)) := ((Keeps.refl Nothing w).alloc _).alloc _
  have BA : Blk ((w.alloc (.cells CA 53)).alloc (.cells CB 53)) w.heap.size CA 53 := blk_alloc (blk_new w CA 53) _
  have BB : Blk ((w.alloc (.cells CA 53)).alloc (.cells CB 53)) (w.heap.size + 1) CB 53 := by have h := blk_new (w.alloc (.cells CA 53)) CB 53; rwa [World.size_alloc] at h
  go_enter Tryz.func72, Tryz.ntmps72
  obtain ⟨ae0, ae1, ae2, -⟩ := TyB  GCA.out BA
  obtain ⟨be0, be1, be2, -⟩ := TyB  GCB.out BB
  have ac0 := blk_inv BA ae0
  have bc0 := blk_inv BB be0
  have ac1 := blk_inv BA ae1
  have bc1 := blk_inv BB be1
  have ac2 := blk_inv BA ae2
  have bc2 := blk_inv BB be2
  by_cases e_kind : a_kind = b_kind
  rotate_left
  · have hno : Shut (¬ XA = XB) := shut (fun h => e_kind ((HE.out.1 h).1))
    clear HE GCA GCB BA BB
    unfold txV at *
    go_wp2_with fail
    go_ret
    exact tells_f hno.out KW
  subst e_kind
  by_cases e_name : a_name = b_name
  rotate_left
  · have hno : Shut (¬ XA = XB) := shut (fun h => e_name ((HE.out.1 h).2.1))
    clear HE GCA GCB BA BB
    have hq : (a_name == b_name) = false := by rw [beq_eq_false_iff_ne]; exact e_name
    unfold txV at *
    go_wp2_with fail
    go_ret
    exact tells_f hno.out KW
  subst e_name
  have hq_name : (a_name == a_name) = true := beq_self_eq_true _
  have hc := rtexts_any ((w.alloc (.cells CA 53)).alloc (.cells CB 53)) q2 y2 (ah_lives.keeps KW (fun _ _ h => h) (fun _ h => h) (fun _ _ _ h => h)) (bh_lives.keeps KW (fun _ _ h => h) (fun _ h => h) (fun _ _ _ h => h))
  unfold txV at *
  go_wp2_with fail
  refine hc.mono ?_
  rintro e w1 ⟨⟨z, rfl, hz⟩, k1⟩
  have KW := KW.trans k1 (fun _ h _ => h)
  have BA := k1.blk BA (fun h => h)
  have BB := k1.blk BB (fun h => h)
  clear hc k1 ae0 ac0 be0 bc0 ae1 ac1 be1 bc1 ae2 ac2 be2 bc2 hq_name
  cases z
  · have hno : Shut (¬ XA = XB) := shut (fun h => by have h2 := hz.2 ((HE.out.1 h).2.2.1); cases h2)
    clear HE GCA GCB BA BB hz
    go_wp2_with fail
    go_ret
    exact tells_f hno.out KW
  have E_lives := shut (hz.1 rfl)
  clear hz
  obtain ⟨-, -, -, ae3⟩ := TyB  GCA.out BA
  obtain ⟨-, -, -, be3⟩ := TyB  GCB.out BB
  by_cases e_elem : a_elem.length = b_elem.length
  rotate_left
  · have hno : Shut (¬ XA = XB) := shut (fun h => e_elem (congrArg List.length ((HE.out.1 h).2.2.2)))
    have hlq : ¬ (a_elem.length : Int) = b_elem.length := by omega
    clear HE GCA GCB BA BB
    go_wp2_with fail
    go_ret
    exact tells_f hno.out KW
  have el_elem : (a_elem.length : Int) = b_elem.length := by omega
  obtain ⟨n, hn⟩ : ∃ n, a_elem.length = n := ⟨_, rfl⟩
  have hm : b_elem.length = n := by omega
  have hnb : n ≤ bigN := by rw [← hn]; exact ah_elem.1
  unfold bigN at hnb
  go_wp2_with fail
  clear ae3 be3 el_elem
  rw [hn] at GCA
  rw [hm] at GCB
  try rw [hn]
  try rw [hm]
  have HN := shut hn
  have HM := shut hm
  clear hn hm e_elem
  obtain ⟨wb, hwb⟩ : ∃ W, W = w1 := ⟨_, rfl⟩
  rw [← hwb] at KW BA BB ⊢
  clear hwb
  go_loopw [5] (fun s wx => ∃ t : Nat, s = .int .i64 t ∧ t ≤ n ∧ Keeps Nothing wb wx ∧ Shut (a_elem.take t = b_elem.take t)) (fun s _ => n - (intOf s).toNat)
  case atStart => exact ⟨0, rfl, Nat.zero_le _, Keeps.refl _ _, shut (by simp)⟩
  case round =>
    obtain ⟨t, rfl, ht, KL, HT⟩ := hrel
    have BA2 := KL.blk BA (fun h => h)
    have BB2 := KL.blk BB (fun h => h)
    have KA := KW.trans KL (fun _ h _ => h)
    obtain ⟨-, -, -, ae3⟩ := TyB  GCA.out BA2
    obtain ⟨-, -, -, be3⟩ := TyB  GCB.out BB2
    by_cases hlt : t < n
    · obtain ⟨d, hd⟩ : ∃ d, a_elem[t]? = some d := ⟨_, List.getElem?_eq_getElem (by rw [HN.out]; exact hlt)⟩
      obtain ⟨d2, hd2⟩ : ∃ d, b_elem[t]? = some d := ⟨_, List.getElem?_eq_getElem (by rw [HM.out]; exact hlt)⟩
      obtain ⟨g1, o1, rfl, -, cs1, l1, r1, i1⟩ := (ah_elem.keeps KA (fun _ _ h => h) (fun _ h => h) (fun _ _ _ h => h.keeps KA (fun _ _ h => h) (fun _ h => h))).get hd
      obtain ⟨g2, o2, rfl, -, cs2, l2, r2, i2⟩ := (bh_elem.keeps KA (fun _ _ h => h) (fun _ h => h) (fun _ _ _ h => h.keeps KA (fun _ _ h => h) (fun _ h => h))).get hd2
      have HD := shut hd
      have HD2 := shut hd2
      have hdm := List.mem_of_getElem? hd
      have hdm2 := List.mem_of_getElem? hd2
      clear hd hd2
      have m0 : (0 : Int) ≤ t := by omega
      have m1 : (t : Int) < n := by omega
      obtain ⟨C1, hC1⟩ : ∃ C, C = cs1.toArray := ⟨_, rfl⟩
      obtain ⟨C2, hC2⟩ : ∃ C, C = cs2.toArray := ⟨_, rfl⟩
      have HC1 := shut hC1
      have HC2 := shut hC2
      clear hC1 hC2
      have f1 := sub_of r1 l1
      have f2 := sub_of r2 l2
      rw [← HC1.out] at f1
      rw [← HC2.out] at f2
      have F1 := shut (fun V (hV : Keeps Nothing wr V) => by have h := sub_of (rangeAt_keeps r1 hV (fun h => h)) l1; rw [← HC1.out] at h; exact h)
      have F2 := shut (fun V (hV : Keeps Nothing wr V) => by have h := sub_of (rangeAt_keeps r2 hV (fun h => h)) l2; rw [← HC2.out] at h; exact h)
      clear f1 f2
      go_wp2_with fail
      refine wp_region_mix (fun V => Keeps Nothing wr V) [(true, 0), (true, 1), (true, 2), (true, 3), (true, 4), (true, 5), (true, 6), (true, 7), (true, 8), (true, 9), (false, 10), (true, 11)] (by kernel_rfl) (by kernel_rfl) (Keeps.refl Nothing wr).drew ?_
      simp only [mixItems, List.map_cons, List.map_nil, List.getD_cons_zero, List.getD_cons_succ]
      repeat (refine wpMix_free (fun K hK => ?_); go_simp; refine hK _ ?_; clear hK K)
      refine wpMix_yield (v := .slice (some ⟨g1, o1, none⟩) n q3) (fun V hV => ?_) (fun K hK => ?_)
      · have zz := hV.cell ae3 (fun h => h)
        go_simp
      go_simp
      refine hK _ ?_
      clear hK K
      repeat (refine wpMix_free (fun K hK => ?_); go_simp; refine hK _ ?_; clear hK K)
      refine wpMix_yield (v := .agg C1) (fun V hV => ?_) (fun K hK => ?_)
      · obtain ⟨z1, z2⟩ := F1.out V hV
        go_simp
      go_simp
      refine hK _ ?_
      clear hK K
      repeat (refine wpMix_free (fun K hK => ?_); go_simp; refine hK _ ?_; clear hK K)
      refine wpMix_yield (v := .slice (some ⟨g2, o2, none⟩) n y3) (fun V hV => ?_) (fun K hK => ?_)
      · have zz := hV.cell be3 (fun h => h)
        go_simp
      go_simp
      refine hK _ ?_
      clear hK K
      repeat (refine wpMix_free (fun K hK => ?_); go_simp; refine hK _ ?_; clear hK K)
      refine wpMix_yield (v := .agg C2) (fun V hV => ?_) (fun K hK => ?_)
      · obtain ⟨z1, z2⟩ := F2.out V hV
        go_simp
      go_simp
      refine hK _ ?_
      clear hK K
      repeat (refine wpMix_free (fun K hK => ?_); go_simp; refine hK _ ?_; clear hK K)
      have kd : Keeps Nothing wr wr.drew := (Keeps.refl Nothing wr).drew
      have hc := HI_elem.out d hdm d2 hdm2 wr.drew cs1 cs2 (i1.keeps kd (fun _ _ h => h) (fun _ h => h)) (i2.keeps kd (fun _ _ h => h) (fun _ h => h))
      rw [← HC1.out, ← HC2.out] at hc
      refine wpMix_one (fun K hK => ?_)
      go_wp2_with fail
      refine hc.mono ?_
      rintro e wz ⟨⟨z, rfl, hz⟩, kz⟩
      have K2 := kd.trans kz (fun _ h _ => h)
      have HZ := shut hz
      clear hz hc kd kz
      go_wp2_with fail
      refine hK _ _ K2 ?_
      clear hK K
      repeat (refine wpMix_free (fun K hK => ?_); go_simp; refine hK _ ?_; clear hK K)
      refine wpMix_nil ?_
      clear F1 F2 ae3 be3 r1 r2 i1 i2
      cases z
      · have hab : Shut (d ≠ d2) := shut (fun h => by have h2 := HZ.out.2 h; cases h2)
        clear HZ
        have hno : Shut (¬ XA = XB) := shut (fun h => ne_at HD.out HD2.out hab.out ((HE.out.1 h).2.2.2))
        go_wp2_with fail
        go_ret
        exact tells_f hno.out (KA.trans K2 (fun _ h _ => h))
      · have hab := shut (HZ.out.1 rfl)
        clear HZ
        go_wp2_with fail
        go_roundw
        case rel => exact ⟨t + 1, by go_num, by omega, KL.trans K2 (fun _ h _ => h), shut (take_eq HD.out HD2.out HT.out hab.out)⟩
        case measure => simp [intOf]; omega
    · obtain rfl : t = n := by omega
      have m1 : ¬ (t : Int) < t := by omega
      have E_elem : Shut (a_elem = b_elem) := shut (by have h := HT.out; rwa [List.take_of_length_le (Nat.le_of_eq HN.out), List.take_of_length_le (Nat.le_of_eq HM.out)] at h)
      go_wp2_with fail
      go_ret
      exact tells_t (HE.out.2 ⟨(by first | rfl | trivial), (by first | rfl | trivial), E_lives.out, E_elem.out⟩) KA
set_option maxRecDepth 100000 in
set_option maxHeartbeats 4000000 in
theorem rplace_any {S S' : Nat → Prop} (a b : PlD) (w : World) (cs ds : List Value) (ha : PlIs S w a cs) (hb : PlIs S' w b ds) : Calls Tryz.prog 115 #[.agg cs.toArray, .agg ds.toArray] w (Tells w (a = b)) := by
  obtain ⟨a_name, a_path⟩ := a
  obtain ⟨b_name, b_path⟩ := b
  have ag1 := agg_ok ha.len ha.one
  have ag2 := agg_ok hb.len hb.one
  obtain ⟨p1, q1, hcs, ah_name, ah_path⟩ := ha
  have HCA := shut hcs
  clear hcs
  obtain ⟨x1, y1, hcs, bh_name, bh_path⟩ := hb
  have HCB := shut hcs
  clear hcs
  simp only at HCA HCB ah_name bh_name ah_path bh_path
  have HE : Shut ((PlD.mk a_name a_path) = (PlD.mk b_name b_path) ↔ a_name = b_name ∧ a_path = b_path) := shut (by rw [PlD.mk.injEq])
  obtain ⟨XA, hXA⟩ : ∃ X, X = PlD.mk a_name a_path := ⟨_, rfl⟩
  obtain ⟨XB, hXB⟩ : ∃ X, X = PlD.mk b_name b_path := ⟨_, rfl⟩
  rw [← hXA, ← hXB] at HE ⊢
  clear hXA hXB
  obtain ⟨CA, hCA⟩ : ∃ C, C = cs.toArray := ⟨_, rfl⟩
  obtain ⟨CB, hCB⟩ : ∃ C, C = ds.toArray := ⟨_, rfl⟩
  rw [← hCA] at ag1 ⊢
  rw [← hCB] at ag2 ⊢
  rw [HCA.out] at hCA
  rw [HCB.out] at hCB
  have GCA := shut hCA
  have GCB := shut hCB
  clear hCA hCB HCA HCB
  have KW : Keeps Nothing w ((w.alloc (.cells CA 114)).alloc (.cells CB 114)) := ((Keeps.refl Nothing w).alloc _).alloc _
  have BA : Blk ((w.alloc (.cells CA 114)).alloc (.cells CB 114)) w.heap.size CA 114 := blk_alloc (blk_new w CA 114) _
  have BB : Blk ((w.alloc (.cells CA 114)).alloc (.cells CB 114)) (w.heap.size + 1) CB 114 := by have h := blk_new (w.alloc (.cells CA 114)) CB 114; rwa [World.size_alloc] at h
  go_enter Tryz.func115, Tryz.ntmps115
  obtain ⟨ae0, ae1⟩ := PlB  GCA.out BA
  obtain ⟨be0, be1⟩ := PlB  GCB.out BB
  have ac0 := blk_inv BA ae0
  have bc0 := blk_inv BB be0
  have ac1 := blk_inv BA ae1
  have bc1 := blk_inv BB be1
  by_cases e_name : a_name = b_name
  rotate_left
  · have hno : Shut (¬ XA = XB) := shut (fun h => e_name ((HE.out.1 h).1))
    clear HE GCA GCB BA BB
    have hq : (a_name == b_name) = false := by rw [beq_eq_false_iff_ne]; exact e_name
    unfold txV at *
    go_wp2_with fail
    go_ret
    exact tells_f hno.out KW
  subst e_name
  have hq_name : (a_name == a_name) = true := beq_self_eq_true _
  have hc := rtexts_any ((w.alloc (.cells CA 114)).alloc (.cells CB 114)) q1 y1 (ah_path.keeps KW (fun _ _ h => h) (fun _ h => h) (fun _ _ _ h => h)) (bh_path.keeps KW (fun _ _ h => h) (fun _ h => h) (fun _ _ _ h => h))
  unfold txV at *
  go_wp2_with fail
  refine hc.mono ?_
  rintro e w1 ⟨⟨z, rfl, hz⟩, k1⟩
  have KW := KW.trans k1 (fun _ h _ => h)
  have BA := k1.blk BA (fun h => h)
  have BB := k1.blk BB (fun h => h)
  clear hc k1 ae0 ac0 be0 bc0 ae1 ac1 be1 bc1 hq_name
  cases z
  · have hno : Shut (¬ XA = XB) := shut (fun h => by have h2 := hz.2 ((HE.out.1 h).2); cases h2)
    clear HE GCA GCB BA BB hz
    go_wp2_with fail
    go_ret
    exact tells_f hno.out KW
  have E_path := shut (hz.1 rfl)
  clear hz
  go_wp2_with fail
  go_ret
  exact tells_t (HE.out.2 ⟨(by first | rfl | trivial), E_path.out⟩) KW
set_option maxRecDepth 100000 in
set_option maxHeartbeats 4000000 in
theorem rsameOper_any {S S' : Nat → Prop} (a b : OprD) (w : World) (cs ds : List Value) (ha : OprIs S w a cs) (hb : OprIs S' w b ds) : Calls Tryz.prog 117 #[.agg cs.toArray, .agg ds.toArray] w (Tells w (a = b)) := by
  obtain ⟨a_kind, a_n, a_place⟩ := a
  obtain ⟨b_kind, b_n, b_place⟩ := b
  have ag1 := agg_ok ha.len ha.one
  have ag2 := agg_ok hb.len hb.one
  obtain ⟨s2, hcs, ah_place⟩ := ha
  have HCA := shut hcs
  clear hcs
  obtain ⟨t2, hcs, bh_place⟩ := hb
  have HCB := shut hcs
  clear hcs
  simp only at HCA HCB ah_place bh_place
  have HE : Shut ((OprD.mk a_kind a_n a_place) = (OprD.mk b_kind b_n b_place) ↔ a_kind = b_kind ∧ a_n = b_n ∧ a_place = b_place) := shut (by rw [OprD.mk.injEq])
  obtain ⟨XA, hXA⟩ : ∃ X, X = OprD.mk a_kind a_n a_place := ⟨_, rfl⟩
  obtain ⟨XB, hXB⟩ : ∃ X, X = OprD.mk b_kind b_n b_place := ⟨_, rfl⟩
  rw [← hXA, ← hXB] at HE ⊢
  clear hXA hXB
  obtain ⟨CA, hCA⟩ : ∃ C, C = cs.toArray := ⟨_, rfl⟩
  obtain ⟨CB, hCB⟩ : ∃ C, C = ds.toArray := ⟨_, rfl⟩
  rw [← hCA] at ag1 ⊢
  rw [← hCB] at ag2 ⊢
  rw [HCA.out] at hCA
  rw [HCB.out] at hCB
  have GCA := shut hCA
  have GCB := shut hCB
  clear hCA hCB HCA HCB
  have KW : Keeps Nothing w ((w.alloc (.cells CA 116)).alloc (.cells CB 116)) := ((Keeps.refl Nothing w).alloc _).alloc _
  have BA : Blk ((w.alloc (.cells CA 116)).alloc (.cells CB 116)) w.heap.size CA 116 := blk_alloc (blk_new w CA 116) _
  have BB : Blk ((w.alloc (.cells CA 116)).alloc (.cells CB 116)) (w.heap.size + 1) CB 116 := by have h := blk_new (w.alloc (.cells CA 116)) CB 116; rwa [World.size_alloc] at h
  have al_place := ah_place.len
  have bl_place := bh_place.len
  go_enter Tryz.func117, Tryz.ntmps117
  obtain ⟨ae0, ae1, ⟨ae2, af2⟩⟩ := OprB al_place GCA.out BA
  obtain ⟨be0, be1, ⟨be2, bf2⟩⟩ := OprB bl_place GCB.out BB
  have ac0 := blk_inv BA ae0
  have bc0 := blk_inv BB be0
  have ac1 := blk_inv BA ae1
  have bc1 := blk_inv BB be1
  by_cases e_kind : a_kind = b_kind
  rotate_left
  · have hno : Shut (¬ XA = XB) := shut (fun h => e_kind ((HE.out.1 h).1))
    clear HE GCA GCB BA BB
    go_wp2_with fail
    go_ret
    exact tells_f hno.out KW
  subst e_kind
  by_cases e_n : a_n = b_n
  rotate_left
  · have hno : Shut (¬ XA = XB) := shut (fun h => e_n ((HE.out.1 h).2.1))
    clear HE GCA GCB BA BB
    go_wp2_with fail
    go_ret
    exact tells_f hno.out KW
  subst e_n
  have hc := rplace_any _ _ ((w.alloc (.cells CA 116)).alloc (.cells CB 116)) _ _ (ah_place.keeps KW (fun _ _ h => h) (fun _ h => h)) (bh_place.keeps KW (fun _ _ h => h) (fun _ h => h))
  generalize hsa : s2.toArray = sa at *
  generalize hsb : t2.toArray = sb at *
  clear hsa hsb
  skip
  go_wp2_with fail
  refine hc.mono ?_
  rintro e w1 ⟨⟨z, rfl, hz⟩, k1⟩
  have KW := KW.trans k1 (fun _ h _ => h)
  have BA := k1.blk BA (fun h => h)
  have BB := k1.blk BB (fun h => h)
  clear hc k1 ae0 ac0 be0 bc0 ae1 ac1 be1 bc1 ae2 af2 be2 bf2
  cases z
  · have hno : Shut (¬ XA = XB) := shut (fun h => by have h2 := hz.2 ((HE.out.1 h).2.2); cases h2)
    clear HE GCA GCB BA BB hz
    go_wp2_with fail
    go_ret
    exact tells_f hno.out KW
  have E_place := shut (hz.1 rfl)
  clear hz
  go_wp2_with fail
  go_ret
  exact tells_t (HE.out.2 ⟨(by first | rfl | trivial), (by first | rfl | trivial), E_place.out⟩) KW
set_option maxRecDepth 100000 in
set_option maxHeartbeats 4000000 in
theorem rsameValue_any {S S' : Nat → Prop} (a b : ValD) (w : World) (cs ds : List Value) (ha : ValIs S w a cs) (hb : ValIs S' w b ds) : Calls Tryz.prog 116 #[.agg cs.toArray, .agg ds.toArray] w (Tells w (a = b)) := by
  obtain ⟨a_kind, a_a, a_b, a_op, a_place, a_name, a_names, a_args⟩ := a
  obtain ⟨b_kind, b_a, b_b, b_op, b_place, b_name, b_names, b_args⟩ := b
  have ag1 := agg_ok ha.len ha.one
  have ag2 := agg_ok hb.len hb.one
  obtain ⟨s1, s5, s10, p13, q13, p14, q14, hcs, ah_a, ah_b, ah_place, ah_name, ah_names, ah_args⟩ := ha
  have HCA := shut hcs
  clear hcs
  obtain ⟨t1, t5, t10, x13, y13, x14, y14, hcs, bh_a, bh_b, bh_place, bh_name, bh_names, bh_args⟩ := hb
  have HCB := shut hcs
  clear hcs
  simp only at HCA HCB ah_a bh_a ah_b bh_b ah_place bh_place ah_name bh_name ah_names bh_names ah_args bh_args
  have HE : Shut ((ValD.mk a_kind a_a a_b a_op a_place a_name a_names a_args) = (ValD.mk b_kind b_a b_b b_op b_place b_name b_names b_args) ↔ a_kind = b_kind ∧ a_a = b_a ∧ a_b = b_b ∧ a_op = b_op ∧ a_place = b_place ∧ a_name = b_name ∧ a_names = b_names ∧ a_args = b_args) := shut (by rw [ValD.mk.injEq])
  obtain ⟨XA, hXA⟩ : ∃ X, X = ValD.mk a_kind a_a a_b a_op a_place a_name a_names a_args := ⟨_, rfl⟩
  obtain ⟨XB, hXB⟩ : ∃ X, X = ValD.mk b_kind b_a b_b b_op b_place b_name b_names b_args := ⟨_, rfl⟩
  rw [← hXA, ← hXB] at HE ⊢
  clear hXA hXB
  obtain ⟨CA, hCA⟩ : ∃ C, C = cs.toArray := ⟨_, rfl⟩
  obtain ⟨CB, hCB⟩ : ∃ C, C = ds.toArray := ⟨_, rfl⟩
  rw [← hCA] at ag1 ⊢
  rw [← hCB] at ag2 ⊢
  rw [HCA.out] at hCA
  rw [HCB.out] at hCB
  have GCA := shut hCA
  have GCB := shut hCB
  clear hCA hCB HCA HCB
  have KW : Keeps Nothing w ((w.alloc (.cells CA 119)).alloc (.cells CB 119)) := ((Keeps.refl Nothing w).alloc _).alloc _
  have BA : Blk ((w.alloc (.cells CA 119)).alloc (.cells CB 119)) w.heap.size CA 119 := blk_alloc (blk_new w CA 119) _
  have BB : Blk ((w.alloc (.cells CA 119)).alloc (.cells CB 119)) (w.heap.size + 1) CB 119 := by have h := blk_new (w.alloc (.cells CA 119)) CB 119; rwa [World.size_alloc] at h
  have al_a := ah_a.len
  have bl_a := bh_a.len
  have al_b := ah_b.len
  have bl_b := bh_b.len
  have al_place := ah_place.len
  have bl_place := bh_place.len
  go_enter Tryz.func116, Tryz.ntmps116
  obtain ⟨ae0, ⟨ae1, af1⟩, -, ae9, -, ae12, -, -⟩ := ValB al_a al_b al_place GCA.out BA
  obtain ⟨be0, ⟨be1, bf1⟩, -, be9, -, be12, -, -⟩ := ValB bl_a bl_b bl_place GCB.out BB
  have ac0 := blk_inv BA ae0
  have bc0 := blk_inv BB be0
  have ac9 := blk_inv BA ae9
  have bc9 := blk_inv BB be9
  have ac12 := blk_inv BA ae12
  have bc12 := blk_inv BB be12
  by_cases e_kind : a_kind = b_kind
  rotate_left
  · have hno : Shut (¬ XA = XB) := shut (fun h => e_kind ((HE.out.1 h).1))
    clear HE GCA GCB BA BB
    unfold txV at *
    go_wp2_with fail
    go_ret
    exact tells_f hno.out KW
  subst e_kind
  by_cases e_op : a_op = b_op
  rotate_left
  · have hno : Shut (¬ XA = XB) := shut (fun h => e_op ((HE.out.1 h).2.2.2.1))
    clear HE GCA GCB BA BB
    unfold txV at *
    go_wp2_with fail
    go_ret
    exact tells_f hno.out KW
  subst e_op
  by_cases e_name : a_name = b_name
  rotate_left
  · have hno : Shut (¬ XA = XB) := shut (fun h => e_name ((HE.out.1 h).2.2.2.2.2.1))
    clear HE GCA GCB BA BB
    have hq : (a_name == b_name) = false := by rw [beq_eq_false_iff_ne]; exact e_name
    unfold txV at *
    go_wp2_with fail
    go_ret
    exact tells_f hno.out KW
  subst e_name
  have hq_name : (a_name == a_name) = true := beq_self_eq_true _
  have hc := rsameOper_any _ _ ((w.alloc (.cells CA 119)).alloc (.cells CB 119)) _ _ (ah_a.keeps KW (fun _ _ h => h) (fun _ h => h)) (bh_a.keeps KW (fun _ _ h => h) (fun _ h => h))
  generalize hsa : s1.toArray = sa at *
  generalize hsb : t1.toArray = sb at *
  clear hsa hsb
  unfold txV at *
  go_wp2_with fail
  refine hc.mono ?_
  rintro e w1 ⟨⟨z, rfl, hz⟩, k1⟩
  have KW := KW.trans k1 (fun _ h _ => h)
  have BA := k1.blk BA (fun h => h)
  have BB := k1.blk BB (fun h => h)
  clear hc k1 ae0 ac0 be0 bc0 ae1 af1 be1 bf1 ae9 ac9 be9 bc9 ae12 ac12 be12 bc12 hq_name
  cases z
  · have hno : Shut (¬ XA = XB) := shut (fun h => by have h2 := hz.2 ((HE.out.1 h).2.1); cases h2)
    clear HE GCA GCB BA BB hz
    go_wp2_with fail
    go_ret
    exact tells_f hno.out KW
  have E_a := shut (hz.1 rfl)
  clear hz
  obtain ⟨-, -, ⟨ae5, af5⟩, -, -, -, -, -⟩ := ValB al_a al_b al_place GCA.out BA
  obtain ⟨-, -, ⟨be5, bf5⟩, -, -, -, -, -⟩ := ValB bl_a bl_b bl_place GCB.out BB
  have hc := rsameOper_any _ _ w1 _ _ (ah_b.keeps KW (fun _ _ h => h) (fun _ h => h)) (bh_b.keeps KW (fun _ _ h => h) (fun _ h => h))
  generalize hsa : s5.toArray = sa at *
  generalize hsb : t5.toArray = sb at *
  clear hsa hsb
  skip
  go_wp2_with fail
  refine hc.mono ?_
  rintro e w2 ⟨⟨z, rfl, hz⟩, k2⟩
  have KW := KW.trans k2 (fun _ h _ => h)
  have BA := k2.blk BA (fun h => h)
  have BB := k2.blk BB (fun h => h)
  clear hc k2 ae5 af5 be5 bf5
  cases z
  · have hno : Shut (¬ XA = XB) := shut (fun h => by have h2 := hz.2 ((HE.out.1 h).2.2.1); cases h2)
    clear HE GCA GCB BA BB hz
    go_wp2_with fail
    go_ret
    exact tells_f hno.out KW
  have E_b := shut (hz.1 rfl)
  clear hz
  obtain ⟨-, -, -, -, ⟨ae10, af10⟩, -, -, -⟩ := ValB al_a al_b al_place GCA.out BA
  obtain ⟨-, -, -, -, ⟨be10, bf10⟩, -, -, -⟩ := ValB bl_a bl_b bl_place GCB.out BB
  have hc := rplace_any _ _ w2 _ _ (ah_place.keeps KW (fun _ _ h => h) (fun _ h => h)) (bh_place.keeps KW (fun _ _ h => h) (fun _ h => h))
  generalize hsa : s10.toArray = sa at *
  generalize hsb : t10.toArray = sb at *
  clear hsa hsb
  skip
  go_wp2_with fail
  refine hc.mono ?_
  rintro e w3 ⟨⟨z, rfl, hz⟩, k3⟩
  have KW := KW.trans k3 (fun _ h _ => h)
  have BA := k3.blk BA (fun h => h)
  have BB := k3.blk BB (fun h => h)
  clear hc k3 ae10 af10 be10 bf10
  cases z
  · have hno : Shut (¬ XA = XB) := shut (fun h => by have h2 := hz.2 ((HE.out.1 h).2.2.2.2.1); cases h2)
    clear HE GCA GCB BA BB hz
    go_wp2_with fail
    go_ret
    exact tells_f hno.out KW
  have E_place := shut (hz.1 rfl)
  clear hz
  obtain ⟨-, -, -, -, -, -, ae13, -⟩ := ValB al_a al_b al_place GCA.out BA
  obtain ⟨-, -, -, -, -, -, be13, -⟩ := ValB bl_a bl_b bl_place GCB.out BB
  have hc := rtexts_any w3 q13 y13 (ah_names.keeps KW (fun _ _ h => h) (fun _ h => h) (fun _ _ _ h => h)) (bh_names.keeps KW (fun _ _ h => h) (fun _ h => h) (fun _ _ _ h => h))
  skip
  go_wp2_with fail
  refine hc.mono ?_
  rintro e w4 ⟨⟨z, rfl, hz⟩, k4⟩
  have KW := KW.trans k4 (fun _ h _ => h)
  have BA := k4.blk BA (fun h => h)
  have BB := k4.blk BB (fun h => h)
  clear hc k4 ae13 be13
  cases z
  · have hno : Shut (¬ XA = XB) := shut (fun h => by have h2 := hz.2 ((HE.out.1 h).2.2.2.2.2.2.1); cases h2)
    clear HE GCA GCB BA BB hz
    go_wp2_with fail
    go_ret
    exact tells_f hno.out KW
  have E_names := shut (hz.1 rfl)
  clear hz
  obtain ⟨-, -, -, -, -, -, -, ae14⟩ := ValB al_a al_b al_place GCA.out BA
  obtain ⟨-, -, -, -, -, -, -, be14⟩ := ValB bl_a bl_b bl_place GCB.out BB
  by_cases e_args : a_args.length = b_args.length
  rotate_left
  · have hno : Shut (¬ XA = XB) := shut (fun h => e_args (congrArg List.length ((HE.out.1 h).2.2.2.2.2.2.2)))
    have hlq : ¬ (a_args.length : Int) = b_args.length := by omega
    clear HE GCA GCB BA BB
    go_wp2_with fail
    go_ret
    exact tells_f hno.out KW
  have el_args : (a_args.length : Int) = b_args.length := by omega
  obtain ⟨n, hn⟩ : ∃ n, a_args.length = n := ⟨_, rfl⟩
  have hm : b_args.length = n := by omega
  have hnb : n ≤ bigN := by rw [← hn]; exact ah_args.1
  unfold bigN at hnb
  go_wp2_with fail
  clear ae14 be14 el_args
  rw [hn] at GCA
  rw [hm] at GCB
  try rw [hn]
  try rw [hm]
  have HN := shut hn
  have HM := shut hm
  clear hn hm e_args
  obtain ⟨wb, hwb⟩ : ∃ W, W = w4 := ⟨_, rfl⟩
  rw [← hwb] at KW BA BB ⊢
  clear hwb
  go_loopw [5] (fun s wx => ∃ t : Nat, s = .int .i64 t ∧ t ≤ n ∧ Keeps Nothing wb wx ∧ Shut (a_args.take t = b_args.take t)) (fun s _ => n - (intOf s).toNat)
  case atStart => exact ⟨0, rfl, Nat.zero_le _, Keeps.refl _ _, shut (by simp)⟩
  case round =>
    obtain ⟨t, rfl, ht, KL, HT⟩ := hrel
    have BA2 := KL.blk BA (fun h => h)
    have BB2 := KL.blk BB (fun h => h)
    have KA := KW.trans KL (fun _ h _ => h)
    obtain ⟨-, -, -, -, -, -, -, ae14⟩ := ValB al_a al_b al_place GCA.out BA2
    obtain ⟨-, -, -, -, -, -, -, be14⟩ := ValB bl_a bl_b bl_place GCB.out BB2
    by_cases hlt : t < n
    · obtain ⟨d, hd⟩ : ∃ d, a_args[t]? = some d := ⟨_, List.getElem?_eq_getElem (by rw [HN.out]; exact hlt)⟩
      obtain ⟨d2, hd2⟩ : ∃ d, b_args[t]? = some d := ⟨_, List.getElem?_eq_getElem (by rw [HM.out]; exact hlt)⟩
      obtain ⟨g1, o1, rfl, -, cs1, l1, r1, i1⟩ := (ah_args.keeps KA (fun _ _ h => h) (fun _ h => h) (fun _ _ _ h => h.keeps KA (fun _ _ h => h) (fun _ h => h))).get hd
      obtain ⟨g2, o2, rfl, -, cs2, l2, r2, i2⟩ := (bh_args.keeps KA (fun _ _ h => h) (fun _ h => h) (fun _ _ _ h => h.keeps KA (fun _ _ h => h) (fun _ h => h))).get hd2
      have HD := shut hd
      have HD2 := shut hd2
      have hdm := List.mem_of_getElem? hd
      have hdm2 := List.mem_of_getElem? hd2
      clear hd hd2
      have m0 : (0 : Int) ≤ t := by omega
      have m1 : (t : Int) < n := by omega
      obtain ⟨C1, hC1⟩ : ∃ C, C = cs1.toArray := ⟨_, rfl⟩
      obtain ⟨C2, hC2⟩ : ∃ C, C = cs2.toArray := ⟨_, rfl⟩
      have HC1 := shut hC1
      have HC2 := shut hC2
      clear hC1 hC2
      have f1 := sub_of r1 l1
      have f2 := sub_of r2 l2
      rw [← HC1.out] at f1
      rw [← HC2.out] at f2
      have F1 := shut (fun V (hV : Keeps Nothing wr V) => by have h := sub_of (rangeAt_keeps r1 hV (fun h => h)) l1; rw [← HC1.out] at h; exact h)
      have F2 := shut (fun V (hV : Keeps Nothing wr V) => by have h := sub_of (rangeAt_keeps r2 hV (fun h => h)) l2; rw [← HC2.out] at h; exact h)
      clear f1 f2
      go_wp2_with fail
      refine wp_region_mix (fun V => Keeps Nothing wr V) [(true, 0), (true, 1), (true, 2), (true, 3), (true, 4), (true, 5), (true, 6), (true, 7), (true, 8), (true, 9), (false, 10), (true, 11)] (by kernel_rfl) (by kernel_rfl) (Keeps.refl Nothing wr).drew ?_
      simp only [mixItems, List.map_cons, List.map_nil, List.getD_cons_zero, List.getD_cons_succ]
      repeat (refine wpMix_free (fun K hK => ?_); go_simp; refine hK _ ?_; clear hK K)
      refine wpMix_yield (v := .slice (some ⟨g1, o1, none⟩) n q14) (fun V hV => ?_) (fun K hK => ?_)
      · have zz := hV.cell ae14 (fun h => h)
        go_simp
      go_simp
      refine hK _ ?_
      clear hK K
      repeat (refine wpMix_free (fun K hK => ?_); go_simp; refine hK _ ?_; clear hK K)
      refine wpMix_yield (v := .agg C1) (fun V hV => ?_) (fun K hK => ?_)
      · obtain ⟨z1, z2⟩ := F1.out V hV
        go_simp
      go_simp
      refine hK _ ?_
      clear hK K
      repeat (refine wpMix_free (fun K hK => ?_); go_simp; refine hK _ ?_; clear hK K)
      refine wpMix_yield (v := .slice (some ⟨g2, o2, none⟩) n y14) (fun V hV => ?_) (fun K hK => ?_)
      · have zz := hV.cell be14 (fun h => h)
        go_simp
      go_simp
      refine hK _ ?_
      clear hK K
      repeat (refine wpMix_free (fun K hK => ?_); go_simp; refine hK _ ?_; clear hK K)
      refine wpMix_yield (v := .agg C2) (fun V hV => ?_) (fun K hK => ?_)
      · obtain ⟨z1, z2⟩ := F2.out V hV
        go_simp
      go_simp
      refine hK _ ?_
      clear hK K
      repeat (refine wpMix_free (fun K hK => ?_); go_simp; refine hK _ ?_; clear hK K)
      have kd : Keeps Nothing wr wr.drew := (Keeps.refl Nothing wr).drew
      have hc := rsameOper_any d d2 wr.drew cs1 cs2 (i1.keeps kd (fun _ _ h => h) (fun _ h => h)) (i2.keeps kd (fun _ _ h => h) (fun _ h => h))
      rw [← HC1.out, ← HC2.out] at hc
      refine wpMix_one (fun K hK => ?_)
      go_wp2_with fail
      refine hc.mono ?_
      rintro e wz ⟨⟨z, rfl, hz⟩, kz⟩
      have K2 := kd.trans kz (fun _ h _ => h)
      have HZ := shut hz
      clear hz hc kd kz
      go_wp2_with fail
      refine hK _ _ K2 ?_
      clear hK K
      repeat (refine wpMix_free (fun K hK => ?_); go_simp; refine hK _ ?_; clear hK K)
      refine wpMix_nil ?_
      clear F1 F2 ae14 be14 r1 r2 i1 i2
      cases z
      · have hab : Shut (d ≠ d2) := shut (fun h => by have h2 := HZ.out.2 h; cases h2)
        clear HZ
        have hno : Shut (¬ XA = XB) := shut (fun h => ne_at HD.out HD2.out hab.out ((HE.out.1 h).2.2.2.2.2.2.2))
        go_wp2_with fail
        go_ret
        exact tells_f hno.out (KA.trans K2 (fun _ h _ => h))
      · have hab := shut (HZ.out.1 rfl)
        clear HZ
        go_wp2_with fail
        go_roundw
        case rel => exact ⟨t + 1, by go_num, by omega, KL.trans K2 (fun _ h _ => h), shut (take_eq HD.out HD2.out HT.out hab.out)⟩
        case measure => simp [intOf]; omega
    · obtain rfl : t = n := by omega
      have m1 : ¬ (t : Int) < t := by omega
      have E_args : Shut (a_args = b_args) := shut (by have h := HT.out; rwa [List.take_of_length_le (Nat.le_of_eq HN.out), List.take_of_length_le (Nat.le_of_eq HM.out)] at h)
      go_wp2_with fail
      go_ret
      exact tells_t (HE.out.2 ⟨(by first | rfl | trivial), E_a.out, E_b.out, (by first | rfl | trivial), E_place.out, (by first | rfl | trivial), E_names.out, E_args.out⟩) KA

end Go.Proofs.YtjbcagbnagefcaaGreat

namespace Go.Proofs.YtjbcagbnagefcaaGreat
open Go.RowKit

attribute [local go_sem ↓] exec_mid_ty exec_store_ty exec_mid_pl exec_store_pl exec_mid_opr exec_store_opr exec_mid_val exec_store_val exec_mid_st exec_store_st exec_mid_fld exec_store_fld exec_mid_str exec_store_str exec_mid_lif exec_store_lif exec_mid_fun exec_store_fun exec_mid_cr exec_store_cr
attribute [local go_sem] rowOk_new World.setRow_alloc_new

/-- What SameStmts tells of a list and any other. -/
def RS (S S' : Nat → Prop) (l : List StD) : Prop := ∀ (m : List StD) (w : World) (ax ay : Option Addr) (cx cy : Nat), SlIs S w 32 (StIs S w) ax l → SlIs S' w 32 (StIs S' w) ay m →
  Calls Tryz.prog 95 #[.slice ax l.length cx, .slice ay m.length cy] w (Tells w (l = m))

set_option maxRecDepth 100000 in
set_option maxHeartbeats 8000000 in
theorem rs_step {S S' : Nat → Prop} {l : List StD} (hr : ∀ d ∈ l, RS S S' d.thn ∧ RS S S' d.els) : RS S S' l := by
  intro m w ax ay cx cy hx hy
  have hlx := hx.1
  have hly := hy.1
  unfold bigN at hlx hly
  have HX := shut hx
  have HY := shut hy
  have HR := shut hr
  clear hx hy hr
  by_cases hne : l.length = m.length
  · obtain ⟨n, hn⟩ : ∃ n, l.length = n := ⟨_, rfl⟩
    have hm : m.length = n := by omega
    rw [hn, hm]
    rw [hn] at hlx
    clear hne hly
    have HN := shut hn
    have HM := shut hm
    clear hn hm
    go_enter Tryz.func95, Tryz.ntmps95
    go_wp2_with fail
    go_loopw [5, 6, 7] (fun s5 s6 s7 wx => ∃ t : Nat, s5 = .int .i64 t ∧ t ≤ n ∧ Keeps Nothing w wx ∧ Shut (l.take t = m.take t)) (fun s5 _ _ _ => n - (intOf s5).toNat)
    case atStart => exact ⟨0, rfl, Nat.zero_le _, Keeps.refl _ _, shut (by simp)⟩
    case round =>
      obtain ⟨t, rfl, ht, KL, HT⟩ := hrel
      by_cases hlt : t < n
      · obtain ⟨d, hd⟩ : ∃ d, l[t]? = some d := ⟨_, List.getElem?_eq_getElem (by rw [HN.out]; exact hlt)⟩
        obtain ⟨d2, hd2⟩ : ∃ d, m[t]? = some d := ⟨_, List.getElem?_eq_getElem (by rw [HM.out]; exact hlt)⟩
        obtain ⟨g1, o1, rfl, -, cs, l1, r1, ha⟩ := (HX.out.keeps KL (fun _ _ h => h) (fun _ h => h) (fun _ _ _ h => h.keeps KL (fun _ _ h => h) (fun _ h => h))).get hd
        obtain ⟨g2, o2, rfl, -, ds, l2, r2, hb⟩ := (HY.out.keeps KL (fun _ _ h => h) (fun _ h => h) (fun _ _ _ h => h.keeps KL (fun _ _ h => h) (fun _ h => h))).get hd2
        have HR2 := shut (HR.out d (List.mem_of_getElem? hd))
        have HD := shut hd
        have HD2 := shut hd2
        clear hd hd2
        have m0 : (0 : Int) ≤ t := by omega
        have m1 : (t : Int) < n := by omega
        have ag1 := agg_ok l1 ha.one
        have ag2 := agg_ok l2 hb.one
        obtain ⟨C1, hC1⟩ : ∃ C, C = cs.toArray := ⟨_, rfl⟩
        obtain ⟨C2, hC2⟩ : ∃ C, C = ds.toArray := ⟨_, rfl⟩
        rw [← hC1] at ag1
        rw [← hC2] at ag2
        have GC1 := shut hC1
        have GC2 := shut hC2
        have F1 := shut (fun V (hV : Keeps Nothing wr V) => by have h := sub_of (rangeAt_keeps r1 hV (fun h => h)) l1; rw [← hC1] at h; exact h)
        have F2 := shut (fun V (hV : Keeps Nothing wr V) => by have h := sub_of (rangeAt_keeps r2 hV (fun h => h)) l2; rw [← hC2] at h; exact h)
        clear hC1 hC2 r1 r2
        go_upto_region 6 with fail
        go_cut [6, 7] from 19 to 26 (fun s6 s7 wx => ∃ g6 g7, s6 = .pointer (some ⟨g6, 0, none⟩) ∧ s7 = .pointer (some ⟨g7, 0, none⟩) ∧ Blk wx g6 C1 121 ∧ Blk wx g7 C2 121 ∧ Keeps Nothing wr wx)
        case first =>
          refine wp_region_mixT (fun V => Keeps Nothing wr V) 11 (.take 0 (.take 1 (.take 2 (.take 3 (.take 4 (.take 5 (.take 6 (.take 7 (.two 8 9 (.one 9 (.one 10 (.one 11 .done))) (.one 8 (.one 10 (.one 11 .done)))))))))))) (by kernel_rfl) (by kernel_rfl) (Keeps.refl Nothing wr).drew ?_
          simp only [itemsT, PlanT.map, List.getD_cons_zero, List.getD_cons_succ, Nat.reduceBEq]
          have kd : Keeps Nothing wr wr.drew := (Keeps.refl Nothing wr).drew
          generalize wr.drew = V at *
          repeat (refine wpMixT_free (fun K hK => ?_); go_simp; refine hK _ ?_; clear hK K)
          refine wpMixT_yield (v := .agg C1) (fun V hV => ?_) (fun K hK => ?_)
          · obtain ⟨z1, z2⟩ := F1.out V hV
            go_simp
          go_simp
          refine hK _ ?_
          clear hK K
          repeat (refine wpMixT_free (fun K hK => ?_); go_simp; refine hK _ ?_; clear hK K)
          refine wpMixT_yield (v := .agg C2) (fun V hV => ?_) (fun K hK => ?_)
          · obtain ⟨z1, z2⟩ := F2.out V hV
            go_simp
          go_simp
          refine hK _ ?_
          clear hK K
          refine wpMixT_two (fun K hK => ?_) (fun K hK => ?_)
          · skip
            go_wp2_with fail
            have B6 := blk_new V #[.int .i64 0, .int .i64 0, .bool false, .string ⟨#[]⟩, .int .i64 0, .string ⟨#[]⟩, .slice none 0 0, .slice none 0 0, .bool false, .string ⟨#[]⟩, .slice none 0 0, .int .i64 0, .int .i64 0, .int .i64 0, .string ⟨#[]⟩, .slice none 0 0, .int .i64 0, .int .i64 0, .string ⟨#[]⟩, .slice none 0 0, .int .i64 0, .string ⟨#[]⟩, .slice none 0 0, .string ⟨#[]⟩, .slice none 0 0, .slice none 0 0, .int .i64 0, .int .i64 0, .string ⟨#[]⟩, .slice none 0 0, .slice none 0 0, .slice none 0 0] 121
            have k1 : Keeps Nothing V (V.alloc (.cells #[.int .i64 0, .int .i64 0, .bool false, .string ⟨#[]⟩, .int .i64 0, .string ⟨#[]⟩, .slice none 0 0, .slice none 0 0, .bool false, .string ⟨#[]⟩, .slice none 0 0, .int .i64 0, .int .i64 0, .int .i64 0, .string ⟨#[]⟩, .slice none 0 0, .int .i64 0, .int .i64 0, .string ⟨#[]⟩, .slice none 0 0, .int .i64 0, .string ⟨#[]⟩, .slice none 0 0, .string ⟨#[]⟩, .slice none 0 0, .slice none 0 0, .int .i64 0, .int .i64 0, .string ⟨#[]⟩, .slice none 0 0, .slice none 0 0, .slice none 0 0] 121)) := (Keeps.refl Nothing V).alloc _
            have K1 := kd.trans k1 (fun _ h _ => h)
            refine hK _ _ (.inr K1) ?_
            clear hK K k1
            generalize hg6 : V.heap.size = g6 at *
            have l6 : wr.heap.size ≤ g6 := by have := kd.size; omega
            clear hg6
            generalize V.alloc (.cells #[.int .i64 0, .int .i64 0, .bool false, .string ⟨#[]⟩, .int .i64 0, .string ⟨#[]⟩, .slice none 0 0, .slice none 0 0, .bool false, .string ⟨#[]⟩, .slice none 0 0, .int .i64 0, .int .i64 0, .int .i64 0, .string ⟨#[]⟩, .slice none 0 0, .int .i64 0, .int .i64 0, .string ⟨#[]⟩, .slice none 0 0, .int .i64 0, .string ⟨#[]⟩, .slice none 0 0, .string ⟨#[]⟩, .slice none 0 0, .slice none 0 0, .int .i64 0, .int .i64 0, .string ⟨#[]⟩, .slice none 0 0, .slice none 0 0, .slice none 0 0] 121) = V1 at *
            refine wpMixT_one (fun K hK => ?_)
            go_wp2_with fail
            have lta := lt_of_block B6
            have B7 := blk_new V1 #[.int .i64 0, .int .i64 0, .bool false, .string ⟨#[]⟩, .int .i64 0, .string ⟨#[]⟩, .slice none 0 0, .slice none 0 0, .bool false, .string ⟨#[]⟩, .slice none 0 0, .int .i64 0, .int .i64 0, .int .i64 0, .string ⟨#[]⟩, .slice none 0 0, .int .i64 0, .int .i64 0, .string ⟨#[]⟩, .slice none 0 0, .int .i64 0, .string ⟨#[]⟩, .slice none 0 0, .string ⟨#[]⟩, .slice none 0 0, .slice none 0 0, .int .i64 0, .int .i64 0, .string ⟨#[]⟩, .slice none 0 0, .slice none 0 0, .slice none 0 0] 121
            have k1 : Keeps Nothing V1 (V1.alloc (.cells #[.int .i64 0, .int .i64 0, .bool false, .string ⟨#[]⟩, .int .i64 0, .string ⟨#[]⟩, .slice none 0 0, .slice none 0 0, .bool false, .string ⟨#[]⟩, .slice none 0 0, .int .i64 0, .int .i64 0, .int .i64 0, .string ⟨#[]⟩, .slice none 0 0, .int .i64 0, .int .i64 0, .string ⟨#[]⟩, .slice none 0 0, .int .i64 0, .string ⟨#[]⟩, .slice none 0 0, .string ⟨#[]⟩, .slice none 0 0, .slice none 0 0, .int .i64 0, .int .i64 0, .string ⟨#[]⟩, .slice none 0 0, .slice none 0 0, .slice none 0 0] 121)) := (Keeps.refl Nothing V1).alloc _
            have K2 := K1.trans k1 (fun _ h _ => h)
            have B6 := k1.blk B6 (fun h => h)
            refine hK _ _ (.inr K2) ?_
            clear hK K k1
            have l7 : wr.heap.size ≤ V1.heap.size := K1.size
            generalize V1.heap.size = g7 at *
            clear K1
            generalize V1.alloc (.cells #[.int .i64 0, .int .i64 0, .bool false, .string ⟨#[]⟩, .int .i64 0, .string ⟨#[]⟩, .slice none 0 0, .slice none 0 0, .bool false, .string ⟨#[]⟩, .slice none 0 0, .int .i64 0, .int .i64 0, .int .i64 0, .string ⟨#[]⟩, .slice none 0 0, .int .i64 0, .int .i64 0, .string ⟨#[]⟩, .slice none 0 0, .int .i64 0, .string ⟨#[]⟩, .slice none 0 0, .string ⟨#[]⟩, .slice none 0 0, .slice none 0 0, .int .i64 0, .int .i64 0, .string ⟨#[]⟩, .slice none 0 0, .slice none 0 0, .slice none 0 0] 121) = V2 at *
            have hne : g6 ≠ g7 := by omega
            have ok6 := rowOk_blk B6 (n := 32) rfl
            refine wpMixT_one (fun K hK => ?_)
            go_wp2_with fail
            have D6 := blk_setRow (cs := C1) B6
            have D7 := blk_setRow_other (cs' := C1) B7 hne.symm
            have K3 : Keeps Nothing wr (V2.setRow g6 C1) := Keeps.setRow (S := Nothing) K2 (fun h => by omega) C1
            refine hK _ _ (.inr K3) ?_
            clear hK K ok6 B6 B7 K2
            generalize V2.setRow g6 C1 = V3 at *
            have ok7 := rowOk_blk D7 (n := 32) rfl
            refine wpMixT_one (fun K hK => ?_)
            go_wp2_with fail
            have E7 := blk_setRow (cs := C2) D7
            have E6 := blk_setRow_other (cs' := C2) D6 hne
            have K4 : Keeps Nothing wr (V3.setRow g7 C2) := Keeps.setRow (S := Nothing) K3 (fun h => by omega) C2
            refine hK _ _ (.inl trivial) ?_
            clear hK K ok7 D6 D7 K3
            refine wpMixT_done ?_
            go_wp2_with fail
            go_meet
            exact ⟨g6, g7, rfl, rfl, E6, E7, K4⟩
          · skip
            go_wp2_with fail
            have B7 := blk_new V #[.int .i64 0, .int .i64 0, .bool false, .string ⟨#[]⟩, .int .i64 0, .string ⟨#[]⟩, .slice none 0 0, .slice none 0 0, .bool false, .string ⟨#[]⟩, .slice none 0 0, .int .i64 0, .int .i64 0, .int .i64 0, .string ⟨#[]⟩, .slice none 0 0, .int .i64 0, .int .i64 0, .string ⟨#[]⟩, .slice none 0 0, .int .i64 0, .string ⟨#[]⟩, .slice none 0 0, .string ⟨#[]⟩, .slice none 0 0, .slice none 0 0, .int .i64 0, .int .i64 0, .string ⟨#[]⟩, .slice none 0 0, .slice none 0 0, .slice none 0 0] 121
            have k1 : Keeps Nothing V (V.alloc (.cells #[.int .i64 0, .int .i64 0, .bool false, .string ⟨#[]⟩, .int .i64 0, .string ⟨#[]⟩, .slice none 0 0, .slice none 0 0, .bool false, .string ⟨#[]⟩, .slice none 0 0, .int .i64 0, .int .i64 0, .int .i64 0, .string ⟨#[]⟩, .slice none 0 0, .int .i64 0, .int .i64 0, .string ⟨#[]⟩, .slice none 0 0, .int .i64 0, .string ⟨#[]⟩, .slice none 0 0, .string ⟨#[]⟩, .slice none 0 0, .slice none 0 0, .int .i64 0, .int .i64 0, .string ⟨#[]⟩, .slice none 0 0, .slice none 0 0, .slice none 0 0] 121)) := (Keeps.refl Nothing V).alloc _
            have K1 := kd.trans k1 (fun _ h _ => h)
            refine hK _ _ (.inr K1) ?_
            clear hK K k1
            generalize hg7 : V.heap.size = g7 at *
            have l7 : wr.heap.size ≤ g7 := by have := kd.size; omega
            clear hg7
            generalize V.alloc (.cells #[.int .i64 0, .int .i64 0, .bool false, .string ⟨#[]⟩, .int .i64 0, .string ⟨#[]⟩, .slice none 0 0, .slice none 0 0, .bool false, .string ⟨#[]⟩, .slice none 0 0, .int .i64 0, .int .i64 0, .int .i64 0, .string ⟨#[]⟩, .slice none 0 0, .int .i64 0, .int .i64 0, .string ⟨#[]⟩, .slice none 0 0, .int .i64 0, .string ⟨#[]⟩, .slice none 0 0, .string ⟨#[]⟩, .slice none 0 0, .slice none 0 0, .int .i64 0, .int .i64 0, .string ⟨#[]⟩, .slice none 0 0, .slice none 0 0, .slice none 0 0] 121) = V1 at *
            refine wpMixT_one (fun K hK => ?_)
            go_wp2_with fail
            have lta := lt_of_block B7
            have B6 := blk_new V1 #[.int .i64 0, .int .i64 0, .bool false, .string ⟨#[]⟩, .int .i64 0, .string ⟨#[]⟩, .slice none 0 0, .slice none 0 0, .bool false, .string ⟨#[]⟩, .slice none 0 0, .int .i64 0, .int .i64 0, .int .i64 0, .string ⟨#[]⟩, .slice none 0 0, .int .i64 0, .int .i64 0, .string ⟨#[]⟩, .slice none 0 0, .int .i64 0, .string ⟨#[]⟩, .slice none 0 0, .string ⟨#[]⟩, .slice none 0 0, .slice none 0 0, .int .i64 0, .int .i64 0, .string ⟨#[]⟩, .slice none 0 0, .slice none 0 0, .slice none 0 0] 121
            have k1 : Keeps Nothing V1 (V1.alloc (.cells #[.int .i64 0, .int .i64 0, .bool false, .string ⟨#[]⟩, .int .i64 0, .string ⟨#[]⟩, .slice none 0 0, .slice none 0 0, .bool false, .string ⟨#[]⟩, .slice none 0 0, .int .i64 0, .int .i64 0, .int .i64 0, .string ⟨#[]⟩, .slice none 0 0, .int .i64 0, .int .i64 0, .string ⟨#[]⟩, .slice none 0 0, .int .i64 0, .string ⟨#[]⟩, .slice none 0 0, .string ⟨#[]⟩, .slice none 0 0, .slice none 0 0, .int .i64 0, .int .i64 0, .string ⟨#[]⟩, .slice none 0 0, .slice none 0 0, .slice none 0 0] 121)) := (Keeps.refl Nothing V1).alloc _
            have K2 := K1.trans k1 (fun _ h _ => h)
            have B7 := k1.blk B7 (fun h => h)
            refine hK _ _ (.inr K2) ?_
            clear hK K k1
            have l6 : wr.heap.size ≤ V1.heap.size := K1.size
            generalize V1.heap.size = g6 at *
            clear K1
            generalize V1.alloc (.cells #[.int .i64 0, .int .i64 0, .bool false, .string ⟨#[]⟩, .int .i64 0, .string ⟨#[]⟩, .slice none 0 0, .slice none 0 0, .bool false, .string ⟨#[]⟩, .slice none 0 0, .int .i64 0, .int .i64 0, .int .i64 0, .string ⟨#[]⟩, .slice none 0 0, .int .i64 0, .int .i64 0, .string ⟨#[]⟩, .slice none 0 0, .int .i64 0, .string ⟨#[]⟩, .slice none 0 0, .string ⟨#[]⟩, .slice none 0 0, .slice none 0 0, .int .i64 0, .int .i64 0, .string ⟨#[]⟩, .slice none 0 0, .slice none 0 0, .slice none 0 0] 121) = V2 at *
            have hne : g6 ≠ g7 := by omega
            have ok6 := rowOk_blk B6 (n := 32) rfl
            refine wpMixT_one (fun K hK => ?_)
            go_wp2_with fail
            have D6 := blk_setRow (cs := C1) B6
            have D7 := blk_setRow_other (cs' := C1) B7 hne.symm
            have K3 : Keeps Nothing wr (V2.setRow g6 C1) := Keeps.setRow (S := Nothing) K2 (fun h => by omega) C1
            refine hK _ _ (.inr K3) ?_
            clear hK K ok6 B6 B7 K2
            generalize V2.setRow g6 C1 = V3 at *
            have ok7 := rowOk_blk D7 (n := 32) rfl
            refine wpMixT_one (fun K hK => ?_)
            go_wp2_with fail
            have E7 := blk_setRow (cs := C2) D7
            have E6 := blk_setRow_other (cs' := C2) D6 hne
            have K4 : Keeps Nothing wr (V3.setRow g7 C2) := Keeps.setRow (S := Nothing) K3 (fun h => by omega) C2
            refine hK _ _ (.inl trivial) ?_
            clear hK K ok7 D6 D7 K3
            refine wpMixT_done ?_
            go_wp2_with fail
            go_meet
            exact ⟨g6, g7, rfl, rfl, E6, E7, K4⟩
        case rest =>
          obtain ⟨g6, g7, rfl, rfl, BA, BB, kc⟩ := hcut
          rename World => wc
          have KW := KL.trans kc (fun _ h _ => h)
          have ha := ha.keeps kc (fun _ _ h => h) (fun _ h => h)
          have hb := hb.keeps kc (fun _ _ h => h) (fun _ h => h)
          clear F1 F2 ag1 ag2 l1 l2
          obtain ⟨a_kind, a_pos, a_mu, a_name, a_ty, a_has, a_place, a_val, a_cond, a_thn, a_els⟩ := d
          obtain ⟨b_kind, b_pos, b_mu, b_name, b_ty, b_has, b_place, b_val, b_cond, b_thn, b_els⟩ := d2
          rw [stIs_iff] at ha hb
          obtain ⟨s4, s9, s11, s26, p30, q30, p31, q31, hcs, ah_name, ah_ty, ah_place, ah_val, ah_cond, ah_thn, ah_els⟩ := ha
          have HCA := shut hcs
          clear hcs
          obtain ⟨t4, t9, t11, t26, x30, y30, x31, y31, hcs, bh_name, bh_ty, bh_place, bh_val, bh_cond, bh_thn, bh_els⟩ := hb
          have HCB := shut hcs
          clear hcs
          simp only [StD.kind, StD.pos, StD.mu, StD.name, StD.ty, StD.has, StD.place, StD.val, StD.cond, StD.thn, StD.els] at ah_name bh_name ah_ty bh_ty ah_place bh_place ah_val bh_val ah_cond bh_cond ah_thn bh_thn ah_els bh_els HCA HCB HR2
          have HE : Shut ((StD.mk a_kind a_pos a_mu a_name a_ty a_has a_place a_val a_cond a_thn a_els) = (StD.mk b_kind b_pos b_mu b_name b_ty b_has b_place b_val b_cond b_thn b_els) ↔ a_kind = b_kind ∧ a_pos = b_pos ∧ a_mu = b_mu ∧ a_name = b_name ∧ a_ty = b_ty ∧ a_has = b_has ∧ a_place = b_place ∧ a_val = b_val ∧ a_cond = b_cond ∧ a_thn = b_thn ∧ a_els = b_els) := shut (by rw [StD.mk.injEq])
          obtain ⟨XA, hXA⟩ : ∃ X, X = StD.mk a_kind a_pos a_mu a_name a_ty a_has a_place a_val a_cond a_thn a_els := ⟨_, rfl⟩
          obtain ⟨XB, hXB⟩ : ∃ X, X = StD.mk b_kind b_pos b_mu b_name b_ty b_has b_place b_val b_cond b_thn b_els := ⟨_, rfl⟩
          rw [← hXA] at HE HD
          rw [← hXB] at HE HD2
          clear hXA hXB
          have GCA := shut (show C1 = _ by rw [GC1.out, HCA.out])
          have GCB := shut (show C2 = _ by rw [GC2.out, HCB.out])
          clear GC1 GC2 HCA HCB
          have al_ty := ah_ty.len
          have bl_ty := bh_ty.len
          have al_place := ah_place.len
          have bl_place := bh_place.len
          have al_val := ah_val.len
          have bl_val := bh_val.len
          have al_cond := ah_cond.len
          have bl_cond := bh_cond.len
          have KO := shut KW
          have KW := Keeps.refl Nothing wc
          obtain ⟨ae0, ae1, ae2, ae3, ⟨ae4, af4⟩, ae8, -, -, -, -, -⟩ := StB al_ty al_place al_val al_cond GCA.out BA
          obtain ⟨be0, be1, be2, be3, ⟨be4, bf4⟩, be8, -, -, -, -, -⟩ := StB bl_ty bl_place bl_val bl_cond GCB.out BB
          by_cases e_kind : a_kind = b_kind
          rotate_left
          · have hno : Shut (¬ XA = XB) := shut (fun h => e_kind ((HE.out.1 h).1))
            clear HE GCA GCB BA BB
            unfold txV at *
            go_wp2_with fail
            go_ret
            exact tells_f (ne_at HD.out HD2.out hno.out) (KO.out.trans KW (fun _ h _ => h))
          subst e_kind
          by_cases e_pos : a_pos = b_pos
          rotate_left
          · have hno : Shut (¬ XA = XB) := shut (fun h => e_pos ((HE.out.1 h).2.1))
            clear HE GCA GCB BA BB
            unfold txV at *
            go_wp2_with fail
            go_ret
            exact tells_f (ne_at HD.out HD2.out hno.out) (KO.out.trans KW (fun _ h _ => h))
          subst e_pos
          by_cases e_mu : a_mu = b_mu
          rotate_left
          · have hno : Shut (¬ XA = XB) := shut (fun h => e_mu ((HE.out.1 h).2.2.1))
            clear HE GCA GCB BA BB
            unfold txV at *
            have hq : (a_mu == b_mu) = false := by rw [beq_eq_false_iff_ne]; exact e_mu
            go_wp2_with fail
            go_ret
            exact tells_f (ne_at HD.out HD2.out hno.out) (KO.out.trans KW (fun _ h _ => h))
          subst e_mu
          by_cases e_name : a_name = b_name
          rotate_left
          · have hno : Shut (¬ XA = XB) := shut (fun h => e_name ((HE.out.1 h).2.2.2.1))
            clear HE GCA GCB BA BB
            have hq : (a_name == b_name) = false := by rw [beq_eq_false_iff_ne]; exact e_name
            unfold txV at *
            go_wp2_with fail
            go_ret
            exact tells_f (ne_at HD.out HD2.out hno.out) (KO.out.trans KW (fun _ h _ => h))
          subst e_name
          have hq_name : (a_name == a_name) = true := beq_self_eq_true _
          by_cases e_has : a_has = b_has
          rotate_left
          · have hno : Shut (¬ XA = XB) := shut (fun h => e_has ((HE.out.1 h).2.2.2.2.2.1))
            clear HE GCA GCB BA BB
            unfold txV at *
            have hq : (a_has == b_has) = false := by rw [beq_eq_false_iff_ne]; exact e_has
            go_wp2_with fail
            go_ret
            exact tells_f (ne_at HD.out HD2.out hno.out) (KO.out.trans KW (fun _ h _ => h))
          subst e_has
          have hc := rsameType_any _ _ wc _ _ (ah_ty.keeps KW (fun _ _ h => h) (fun _ h => h)) (bh_ty.keeps KW (fun _ _ h => h) (fun _ h => h))
          generalize hsa : s4.toArray = sa at *
          generalize hsb : t4.toArray = sb at *
          clear hsa hsb
          unfold txV at *
          go_wp2_with fail
          refine hc.mono ?_
          rintro e w1 ⟨⟨z, rfl, hz⟩, k1⟩
          have KW := KW.trans k1 (fun _ h _ => h)
          have BA := k1.blk BA (fun h => h)
          have BB := k1.blk BB (fun h => h)
          clear hc k1 ae0 be0 ae1 be1 ae2 be2 ae3 be3 ae4 af4 be4 bf4 ae8 be8 hq_name
          cases z
          · have hno : Shut (¬ XA = XB) := shut (fun h => by have h2 := hz.2 ((HE.out.1 h).2.2.2.2.1); cases h2)
            clear HE GCA GCB BA BB hz
            go_wp2_with fail
            go_ret
            exact tells_f (ne_at HD.out HD2.out hno.out) (KO.out.trans KW (fun _ h _ => h))
          have E_ty := shut (hz.1 rfl)
          clear hz
          obtain ⟨-, -, -, -, -, -, ⟨ae9, af9⟩, -, -, -, -⟩ := StB al_ty al_place al_val al_cond GCA.out BA
          obtain ⟨-, -, -, -, -, -, ⟨be9, bf9⟩, -, -, -, -⟩ := StB bl_ty bl_place bl_val bl_cond GCB.out BB
          have hc := rplace_any _ _ w1 _ _ (ah_place.keeps KW (fun _ _ h => h) (fun _ h => h)) (bh_place.keeps KW (fun _ _ h => h) (fun _ h => h))
          generalize hsa : s9.toArray = sa at *
          generalize hsb : t9.toArray = sb at *
          clear hsa hsb
          skip
          go_wp2_with fail
          refine hc.mono ?_
          rintro e w2 ⟨⟨z, rfl, hz⟩, k2⟩
          have KW := KW.trans k2 (fun _ h _ => h)
          have BA := k2.blk BA (fun h => h)
          have BB := k2.blk BB (fun h => h)
          clear hc k2 ae9 af9 be9 bf9
          cases z
          · have hno : Shut (¬ XA = XB) := shut (fun h => by have h2 := hz.2 ((HE.out.1 h).2.2.2.2.2.2.1); cases h2)
            clear HE GCA GCB BA BB hz
            go_wp2_with fail
            go_ret
            exact tells_f (ne_at HD.out HD2.out hno.out) (KO.out.trans KW (fun _ h _ => h))
          have E_place := shut (hz.1 rfl)
          clear hz
          obtain ⟨-, -, -, -, -, -, -, ⟨ae11, af11⟩, -, -, -⟩ := StB al_ty al_place al_val al_cond GCA.out BA
          obtain ⟨-, -, -, -, -, -, -, ⟨be11, bf11⟩, -, -, -⟩ := StB bl_ty bl_place bl_val bl_cond GCB.out BB
          have hc := rsameValue_any _ _ w2 _ _ (ah_val.keeps KW (fun _ _ h => h) (fun _ h => h)) (bh_val.keeps KW (fun _ _ h => h) (fun _ h => h))
          generalize hsa : s11.toArray = sa at *
          generalize hsb : t11.toArray = sb at *
          clear hsa hsb
          skip
          go_wp2_with fail
          refine hc.mono ?_
          rintro e w3 ⟨⟨z, rfl, hz⟩, k3⟩
          have KW := KW.trans k3 (fun _ h _ => h)
          have BA := k3.blk BA (fun h => h)
          have BB := k3.blk BB (fun h => h)
          clear hc k3 ae11 af11 be11 bf11
          cases z
          · have hno : Shut (¬ XA = XB) := shut (fun h => by have h2 := hz.2 ((HE.out.1 h).2.2.2.2.2.2.2.1); cases h2)
            clear HE GCA GCB BA BB hz
            go_wp2_with fail
            go_ret
            exact tells_f (ne_at HD.out HD2.out hno.out) (KO.out.trans KW (fun _ h _ => h))
          have E_val := shut (hz.1 rfl)
          clear hz
          obtain ⟨-, -, -, -, -, -, -, -, ⟨ae26, af26⟩, -, -⟩ := StB al_ty al_place al_val al_cond GCA.out BA
          obtain ⟨-, -, -, -, -, -, -, -, ⟨be26, bf26⟩, -, -⟩ := StB bl_ty bl_place bl_val bl_cond GCB.out BB
          have hc := rsameOper_any _ _ w3 _ _ (ah_cond.keeps KW (fun _ _ h => h) (fun _ h => h)) (bh_cond.keeps KW (fun _ _ h => h) (fun _ h => h))
          generalize hsa : s26.toArray = sa at *
          generalize hsb : t26.toArray = sb at *
          clear hsa hsb
          skip
          go_wp2_with fail
          refine hc.mono ?_
          rintro e w4 ⟨⟨z, rfl, hz⟩, k4⟩
          have KW := KW.trans k4 (fun _ h _ => h)
          have BA := k4.blk BA (fun h => h)
          have BB := k4.blk BB (fun h => h)
          clear hc k4 ae26 af26 be26 bf26
          cases z
          · have hno : Shut (¬ XA = XB) := shut (fun h => by have h2 := hz.2 ((HE.out.1 h).2.2.2.2.2.2.2.2.1); cases h2)
            clear HE GCA GCB BA BB hz
            go_wp2_with fail
            go_ret
            exact tells_f (ne_at HD.out HD2.out hno.out) (KO.out.trans KW (fun _ h _ => h))
          have E_cond := shut (hz.1 rfl)
          clear hz
          obtain ⟨-, -, -, -, -, -, -, -, -, ae30, -⟩ := StB al_ty al_place al_val al_cond GCA.out BA
          obtain ⟨-, -, -, -, -, -, -, -, -, be30, -⟩ := StB bl_ty bl_place bl_val bl_cond GCB.out BB
          have hc := HR2.out.1 _ w4 _ _ q30 y30 (ah_thn.keeps KW (fun _ _ h => h) (fun _ h => h) (fun _ _ _ h => h.keeps KW (fun _ _ h => h) (fun _ h => h))) (bh_thn.keeps KW (fun _ _ h => h) (fun _ h => h) (fun _ _ _ h => h.keeps KW (fun _ _ h => h) (fun _ h => h)))
          skip
          go_wp2_with fail
          refine hc.mono ?_
          rintro e w5 ⟨⟨z, rfl, hz⟩, k5⟩
          have KW := KW.trans k5 (fun _ h _ => h)
          have BA := k5.blk BA (fun h => h)
          have BB := k5.blk BB (fun h => h)
          clear hc k5 ae30 be30
          cases z
          · have hno : Shut (¬ XA = XB) := shut (fun h => by have h2 := hz.2 ((HE.out.1 h).2.2.2.2.2.2.2.2.2.1); cases h2)
            clear HE GCA GCB BA BB hz
            go_wp2_with fail
            go_ret
            exact tells_f (ne_at HD.out HD2.out hno.out) (KO.out.trans KW (fun _ h _ => h))
          have E_thn := shut (hz.1 rfl)
          clear hz
          obtain ⟨-, -, -, -, -, -, -, -, -, -, ae31⟩ := StB al_ty al_place al_val al_cond GCA.out BA
          obtain ⟨-, -, -, -, -, -, -, -, -, -, be31⟩ := StB bl_ty bl_place bl_val bl_cond GCB.out BB
          have hc := HR2.out.2 _ w5 _ _ q31 y31 (ah_els.keeps KW (fun _ _ h => h) (fun _ h => h) (fun _ _ _ h => h.keeps KW (fun _ _ h => h) (fun _ h => h))) (bh_els.keeps KW (fun _ _ h => h) (fun _ h => h) (fun _ _ _ h => h.keeps KW (fun _ _ h => h) (fun _ h => h)))
          skip
          go_wp2_with fail
          refine hc.mono ?_
          rintro e w6 ⟨⟨z, rfl, hz⟩, k6⟩
          have KW := KW.trans k6 (fun _ h _ => h)
          have BA := k6.blk BA (fun h => h)
          have BB := k6.blk BB (fun h => h)
          clear hc k6 ae31 be31
          cases z
          · have hno : Shut (¬ XA = XB) := shut (fun h => by have h2 := hz.2 ((HE.out.1 h).2.2.2.2.2.2.2.2.2.2); cases h2)
            clear HE GCA GCB BA BB hz
            go_wp2_with fail
            go_ret
            exact tells_f (ne_at HD.out HD2.out hno.out) (KO.out.trans KW (fun _ h _ => h))
          have E_els := shut (hz.1 rfl)
          clear hz
          have hab : Shut (XA = XB) := shut (HE.out.2 ⟨(by first | rfl | trivial), (by first | rfl | trivial), (by first | rfl | trivial), (by first | rfl | trivial), E_ty.out, (by first | rfl | trivial), E_place.out, E_val.out, E_cond.out, E_thn.out, E_els.out⟩)
          clear HE GCA GCB BA BB
          go_wp2_with fail
          go_roundw
          case rel => exact ⟨t + 1, by go_num, by omega, KO.out.trans KW (fun _ h _ => h), shut (take_eq HD.out HD2.out HT.out hab.out)⟩
          case measure => simp [intOf]; omega
      · obtain rfl : t = n := by omega
        have m1 : ¬ (t : Int) < t := by omega
        go_wp2_with fail
        go_ret
        refine tells_t ?_ KL
        have h := HT.out
        rwa [List.take_of_length_le (Nat.le_of_eq HN.out), List.take_of_length_le (Nat.le_of_eq HM.out)] at h
  · have hne' : ¬ (l.length : Int) = m.length := by omega
    have hl : l ≠ m := fun h => hne (by rw [h])
    go_enter Tryz.func95, Tryz.ntmps95
    go_wp2_with fail
    go_ret
    exact tells_f hl (Keeps.refl _ _)
theorem rs_all {S S' : Nat → Prop} (l : List StD) : RS S S' l := by
  refine rs_step fun d _ => ?_
  refine StD.ind (P := fun d => RS S S' d.thn ∧ RS S S' d.els) ?_ d
  intro x_kind x_pos x_mu x_name x_ty x_has x_place x_val x_cond x_thn x_els h1 h2
  exact ⟨rs_step fun e he => h1 e he, rs_step fun e he => h2 e he⟩

end Go.Proofs.YtjbcagbnagefcaaGreat

