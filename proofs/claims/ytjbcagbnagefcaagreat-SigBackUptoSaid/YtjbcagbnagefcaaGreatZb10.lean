/- Sig1 Sig2 Sig5 Hash RdA Told2 Ref2 Back2 Ops2 Read2 ShortP2 HashEq BackP2 Canon2 Sig12 Sig13 -/
import Derived.Test.YtjbcagbnagefcaaGreatZb7
import Derived.Test.YtjbcagbnagefcaaGreatZb9
import Derived.Test.YtjbcagbnagefcaaGreatZb1
import Derived.Deep.DrawnRows
import Derived.Deep.WholeRow
namespace Go.Proofs.YtjbcagbnagefcaaGreat
open Go.RowKit
attribute [local go_sem ↓] exec_mid_ty exec_store_ty exec_mid_pl exec_store_pl exec_mid_opr exec_store_opr exec_mid_val exec_store_val exec_mid_st exec_store_st exec_mid_fld exec_store_fld exec_mid_str exec_store_str exec_mid_lif exec_store_lif exec_mid_fun exec_store_fun exec_mid_cr exec_store_cr
attribute [local go_sem] rowOk_new World.setRow_alloc_new
theorem blk_ty {w : World} {p : Nat} {a b : Array Value} {s t : TypeId} (h : Blk w p a s) (k : Blk w p b t) : s = t := by
 have h' : w.heap[p]? = some (.cells a s (0, 0)) := h
 have k' : w.heap[p]? = some (.cells b t (0, 0)) := k
 rw [h'] at k'
 simp only [Option.some.injEq, Obj.cells.injEq] at k'
 exact k'.2.1
structure WN (N : Nat) (w : World) (p : Nat) (ao : Option Addr) (cap : Nat) (bs : List UInt8) : Prop where
 wr : Wr w p ao cap bs
 np : N ≤ p
 na : ∀ g, blockOf ao = some g → N ≤ g
section
variable {N : Nat} {w w1 w2 : World} {p : Nat} {ao ao1 ao2 : Option Addr} {cap cap1 cap2 : Nat} {bs bs1 bs2 : List UInt8}
theorem WN.lt (h : WN N w p ao cap bs) : p < w.heap.size := lt_of_block h.wr.blk
theorem WN.alloc (h : WN N w p ao cap bs) (o : Obj) : WN N (w.alloc o) p ao cap bs := ⟨⟨blk_alloc h.wr.blk o, World.ownsRow.alloc h.wr.own o⟩, h.np, h.na⟩
theorem WN.box {g : Nat} {C : Array Value} {t : TypeId} (h : WN N w p ao cap bs) (hb : Blk w g C t) (h1 : 5 ≠ t) (h2 : t ≠ 146) (K : Keeps (WrF p ao) w w1) : Blk w1 g C t :=
 K.blk hb (fun q => q.elim (fun q => by subst q; exact h2 (blk_ty hb h.wr.blk)) (fun q => own8_ne h.wr.own hb h1 q))
structure WT (N : Nat) (w : World) (p : Nat) (ao : Option Addr) (w1 : World) (ao1 : Option Addr) (cap1 : Nat) (bs1 : List UInt8) : Prop where
 wn : WN N w1 p ao1 cap1 bs1
 k : Keeps (WrF p ao) w w1
 m : Moved w.heap.size ao ao1
 lo : Keeps (fun b => N ≤ b) w w1
theorem WT.refl (h : WN N w p ao cap bs) : WT N w p ao w ao cap bs := ⟨h, Keeps.refl _ _, Moved.refl _ _, Keeps.refl _ _⟩
theorem WT.of (h : WN N w p ao cap bs) (h1 : Wr w1 p ao1 cap1 bs1) (h2 : Keeps (WrF p ao) w w1) (h3 : Moved w.heap.size ao ao1) : WT N w p ao w1 ao1 cap1 bs1 := by
 refine ⟨⟨h1, h.np, fun g hg => ?_⟩, h2, h3, h2.mono (fun b hb _ => hb.elim (fun q => by rw [q]; exact h.np) (fun q => h.na b q))⟩
 rcases h3 with h3 | ⟨g', h3, hb⟩
 ·rw [h3] at hg
  exact h.na g hg
 ·rw [h3] at hg
  obtain rfl := Option.some.inj hg
  have h4 := h.lt
  have h5 := h.np
  omega
theorem WT.trans (a : WT N w p ao w1 ao1 cap1 bs1) (b : WT N w1 p ao1 w2 ao2 cap2 bs2) : WT N w p ao w2 ao2 cap2 bs2 :=
 ⟨b.wn, a.k.trans b.k (fun i hi hlt => wrF_back a.m i hi hlt), a.m.trans b.m a.k.size, a.lo.trans b.lo (fun _ h _ => h)⟩
theorem WT.alloc (a : WT N w p ao w1 ao1 cap1 bs1) (o : Obj) : WT N w p ao (w1.alloc o) ao1 cap1 bs1 := ⟨a.wn.alloc o, a.k.alloc _, a.m, a.lo.alloc _⟩
end
theorem off_lo {S : Nat → Prop} {N : Nat} (hS : ∀ b, S b → b < N) : ∀ b, S b → ¬ (fun b => N ≤ b) b := fun b hb q => absurd (hS b hb) (Nat.not_lt.2 q)
def WP (N : Nat) (w : World) (p : Nat) (ao : Option Addr) (bs : List UInt8) (e : Ending) (w1 : World) : Prop := e = .returned (.tuple #[]) ∧ ∃ ao1 cap1, WT N w p ao w1 ao1 cap1 bs
section
variable {N : Nat} {w : World} {p : Nat} {ao : Option Addr} {cap : Nat} {bs : List UInt8}
theorem wtext_any (hW : WN N w p ao cap bs) (s : List UInt8) (hs : s.length ≤ bigN) (hl : bs.length ≤ 900000000) : Calls Tryz.prog 52 #[.pointer (some ⟨p, 0, none⟩), .string ⟨s.toArray⟩] w (WP N w p ao (bs ++ encS s)) := by
 have h := text_any hW.wr ⟨s.toArray⟩ (by show s.toArray.size ≤ _; rw [List.size_toArray]; unfold bigN at hs; omega) hl
 have e : bytesOf ⟨s.toArray⟩ = s := by simp [bytesOf]
 rw [e] at h
 refine h.mono ?_
 rintro e w1 ⟨rfl, ao1, cap1, h1, h2, h3⟩
 exact ⟨rfl, ao1, cap1, WT.of hW h1 h2 h3⟩
theorem wbool_any (hW : WN N w p ao cap bs) (x : Bool) (hl : bs.length ≤ 900000000) : Calls Tryz.prog 79 #[.pointer (some ⟨p, 0, none⟩), .bool x] w (WP N w p ao (bs ++ [if x then 1 else 0])) := by
 refine (bool_any hW.wr x (by omega)).mono ?_
 rintro e w1 ⟨rfl, ao1, cap1, h1, h2, h3⟩
 exact ⟨rfl, ao1, cap1, WT.of hW h1 h2 h3⟩
set_option maxHeartbeats 400000 in
theorem number_any (hW : WN N w p ao cap bs) (n : Int) (h0 : 0 ≤ n) (hn : n < 9223372036854775808) (hl : bs.length ≤ 900000000) : Calls Tryz.prog 53 #[.pointer (some ⟨p, 0, none⟩), .int .i64 n] w (WP N w p ao (bs ++ encU n.toNat)) := by
 have hc := uint_of hW.wr n h0 (by omega) (by omega)
 have hw : IntKind.u64.wrap n = n := by rw [IntKind.wrap_u64]; omega
 go_enter Tryz.func53, Tryz.ntmps53
 go_wp2_with fail
 refine hc.mono ?_
 rintro e w1 ⟨rfl, ao1, cap1, h1, h2, h3⟩
 clear hc
 have hF := WT.of hW h1 h2 h3
 clear h1 h2 h3
 go_wp2_with fail
 go_end0
 exact ⟨rfl, ao1, cap1, hF⟩
end
theorem flat_take {α : Type} {f : α → List UInt8} {l : List α} {t : Nat} {a : α} (h : l[t]? = some a) : ((l.take (t + 1)).map f).flatten = ((l.take t).map f).flatten ++ f a := by
 rw [List.take_add_one, h]
 simp
theorem flat_le {α : Type} {f : α → List UInt8} {l : List α} {t : Nat} {a : α} (h : l[t]? = some a) : ((l.take t).map f).flatten.length + (f a).length ≤ (l.map f).flatten.length := by
 have h1 : l = l.take (t + 1) ++ l.drop (t + 1) := (List.take_append_drop _ _).symm
 have h2 : (l.map f).flatten = ((l.take t).map f).flatten ++ f a ++ ((l.drop (t + 1)).map f).flatten := by
  rw [← flat_take h, ← List.flatten_append, ← List.map_append, ← h1]
 rw [h2, List.length_append, List.length_append]
 omega
theorem flat_all {α : Type} {f : α → List UInt8} {l : List α} {n : Nat} (h : l.length = n) : ((l.take n).map f).flatten = (l.map f).flatten := by rw [List.take_of_length_le (by omega)]
def encTs (l : List (List UInt8)) : List UInt8 := encU l.length ++ (l.map encS).flatten
set_option maxRecDepth 100000 in
set_option maxHeartbeats 2000000 in
theorem texts_any {N : Nat} {w : World} {p : Nat} {ao : Option Addr} {cap : Nat} {bs : List UInt8} (hW : WN N w p ao cap bs) {S : Nat → Prop} {l : List (List UInt8)} {a2 : Option Addr} (c2 : Nat) (h : SlIs S w 1 TxIs a2 l) (hS : ∀ b, S b → b < N) (hl : bs.length + (encTs l).length ≤ 900000000) :
  Calls Tryz.prog 54 #[.pointer (some ⟨p, 0, none⟩), .slice a2 l.length c2] w (WP N w p ao (bs ++ encTs l)) := by
 have hlx := h.1
 unfold bigN at hlx
 have HX := shut h
 have HS := shut hS
 have HW := shut hW
 obtain ⟨n, hn⟩ : ∃ n, l.length = n := ⟨_, rfl⟩
 obtain ⟨T, hT⟩ : ∃ T, bs ++ encTs l = T := ⟨_, rfl⟩
 have hbl : bs.length + (encU n).length + (l.map encS).flatten.length ≤ 900000000 := by unfold encTs at hl; rw [List.length_append, hn] at hl; omega
 have HT : Shut (T = (bs ++ encU n) ++ (l.map encS).flatten) := shut (by rw [← hT, encTs, hn, List.append_assoc])
 rw [hT, hn]
 rw [hn] at hlx
 have HN := shut hn
 clear h hS hn hT hl
 obtain ⟨F, hF⟩ : ∃ F, (l.map encS).flatten = F := ⟨_, rfl⟩
 rw [hF] at hbl
 have HF := shut hF
 clear hF
 have hc := number_any hW n (by omega) (by omega) (by omega)
 rw [Int.toNat_natCast] at hc
 clear hW
 go_enter Tryz.func54, Tryz.ntmps54
 go_wp2_with fail
 refine hc.mono ?_
 rintro e w1 ⟨rfl, ao1, cap1, h1⟩
 clear hc
 obtain ⟨B, hB⟩ : ∃ B, bs ++ encU n = B := ⟨_, rfl⟩
 have hB2 : B.length + F.length ≤ 900000000 := by rw [← hB, List.length_append]; omega
 rw [hB] at HT h1
 have H1 := shut h1
 clear hB h1 hbl
 go_wp2_with fail
 go_loopw [5, 12] (fun s5 s12 wx => ∃ (t : Nat) (ao2 : Option Addr) (cap2 : Nat), s12 = .int .i64 t ∧ t ≤ n ∧ WT N w p ao wx ao2 cap2 (B ++ ((l.take t).map encS).flatten)) (fun _ s12 _ => n - (intOf s12).toNat)
 case atStart => exact ⟨0, ao1, cap1, rfl, Nat.zero_le _, by simpa using H1.out⟩
 case round =>
  clear H1
  obtain ⟨t, ao2, cap2, rfl, ht, HR⟩ := hrel
  by_cases hlt : t < n
  ·obtain ⟨a, ha⟩ : ∃ a, l[t]? = some a := ⟨_, List.getElem?_eq_getElem (by rw [HN.out]; exact hlt)⟩
   obtain ⟨g1, o1, rfl, e1, hal⟩ := tx_cell (HX.out.keeps HR.lo (off_lo HS.out) (fun _ h => h) (fun _ _ _ h => h)) ha
   have hfl := flat_le (f := encS) ha
   rw [HF.out] at hfl
   have hc := wtext_any HR.wn a hal (by rw [List.length_append]; omega)
   rw [List.append_assoc, ← flat_take ha] at hc
   clear ha hal hfl
   have m0 : (0 : Int) ≤ t := by omega
   have m1 : (t : Int) < n := by omega
   have HR := shut HR
   go_wp2_with fail
   refine hc.mono ?_
   rintro e w2 ⟨rfl, ao3, cap3, h2⟩
   clear hc e1
   have HR2 := HR.out.trans h2
   clear h2 HR
   go_wp2_with fail
   go_roundw
   case rel => exact ⟨t + 1, ao3, cap3, by go_num, by omega, HR2⟩
   case measure => simp [intOf]; omega
  ·obtain rfl : t = n := by omega
   have m1 : ¬ (t : Int) < t := by omega
   rw [flat_all HN.out, ← HT.out] at HR
   go_wp2_with fail
   go_end0
   exact ⟨rfl, ao2, cap2, HR⟩
mutual
def encT : TyD → List UInt8
 | .mk k n lv el => encU k.toNat ++ (if k = 3 then encS n ++ encTs lv else if k = 4 ∨ k = 5 then encTs lv ++ encT1 el else [])
def encT1 : List TyD → List UInt8
 | [] => []
 | t :: _ => encT t
end
theorem encT_mk (k : Int) (n : List UInt8) (lv : List (List UInt8)) (el : List TyD) : encT (.mk k n lv el) = encU k.toNat ++ (if k = 3 then encS n ++ encTs lv else if k = 4 ∨ k = 5 then encTs lv ++ encT1 el else []) := by unfold encT; rfl
theorem encT1_cons (t : TyD) (r : List TyD) : encT1 (t :: r) = encT t := by unfold encT1; rfl
def TyW (t : TyD) : Prop := (∃ d, TyP t d) ∨ t.kind = 0
attribute [irreducible] encT encT1
set_option maxRecDepth 100000 in
set_option maxHeartbeats 4000000 in
theorem wkind_any {S : Nat → Prop} {N : Nat} (hS : ∀ b, S b → b < N) {p : Nat} : ∀ (a : TyD) (w : World) (cs : List Value) (ao : Option Addr) (cap : Nat) (bs : List UInt8), TyW a → TyIs S w a cs → WN N w p ao cap bs → bs.length + (encT a).length ≤ 900000000 →
  Calls Tryz.prog 55 #[.pointer (some ⟨p, 0, none⟩), .agg cs.toArray] w (WP N w p ao (bs ++ encT a)) := by
 refine TyD.ind ?_
 intro a_kind a_name a_lives a_elem ih w cs ao cap bs hP ha hW hl
 have IH := shut ih
 have HS := shut hS
 clear ih hS
 rw [encT_mk] at hl
 have hbl : bs.length + (encU a_kind.toNat).length ≤ 900000000 := by rw [List.length_append] at hl; omega
 obtain ⟨RT, hRT⟩ : ∃ R, R = bs ++ encT (.mk a_kind a_name a_lives a_elem) := ⟨_, rfl⟩
 rw [← hRT]
 rw [encT_mk] at hRT
 have HRT := shut hRT
 have HLL := shut hl
 clear hRT hl
 have ag1 := agg_ok ha.len ha.one
 rw [tyIs_iff] at ha
 obtain ⟨p2, q2, p3, q3, hcs, ah_name, ah_lives, ah_elem⟩ := ha
 simp only [TyD.kind, TyD.name, TyD.lives, TyD.elem] at ah_name ah_lives ah_elem hcs
 have HL := shut ah_lives
 have HE := shut ah_elem
 have hNM := shut ah_name
 obtain ⟨nl, hnl⟩ : ∃ n, a_lives.length = n := ⟨_, rfl⟩
 obtain ⟨ne, hne⟩ : ∃ n, a_elem.length = n := ⟨_, rfl⟩
 rw [hnl, hne] at hcs
 have HNL := shut hnl
 have HNE := shut hne
 obtain ⟨CA, hCA⟩ : ∃ C, C = cs.toArray := ⟨_, rfl⟩
 rw [← hCA] at ag1 ⊢
 rw [hcs] at hCA
 have GCA := shut hCA
 clear hCA hcs ah_lives ah_elem ah_name hnl hne
 have BA := blk_new w CA 53
 have T0 := (WT.refl hW).alloc (.cells CA 53)
 have hP2 : Shut ((a_kind = 3) ∨ (a_kind = 4 ∨ a_kind = 5) ∧ (∃ e, a_elem = [e] ∧ TyW e) ∨ (a_kind = 0 ∨ a_kind = 1 ∨ a_kind = 2)) := shut (by
  rcases hP with ⟨d, h⟩ | h
  ·unfold TyP at h
   rcases h.2 with h | h | h
   ·exact .inl h.1
   ·refine .inr (.inl ⟨h.1, ?_⟩)
    have h5 := h.2.2.2.2
    match a_elem, h5 with
    | t :: r, h5 =>
     unfold TysP at h5
     obtain ⟨rfl, h5⟩ := h5
     exact ⟨t, rfl, .inl ⟨_, h5⟩⟩
    | [], h5 => unfold TysP at h5; exact h5.elim
   ·exact .inr (.inr (.inr h.1))
  ·exact .inr (.inr (.inl h)))
 clear hP hW
 go_enter Tryz.func55, Tryz.ntmps55
 go_upto_region 1 with fail
 clear ag1
 obtain ⟨hz0, hz1⟩ : 0 ≤ a_kind ∧ a_kind ≤ 5 := by have := hP2.out; omega
 generalize w.alloc (.cells CA 53) = wb at *
 generalize hga : w.heap.size = ga at BA ⊢
 clear hga
 obtain ⟨ae0, -, -, -⟩ := TyB GCA.out BA
 have hc := number_any T0.wn a_kind hz0 (by omega) (by omega)
 go_wp2_with fail
 refine hc.mono ?_
 rintro e w1 ⟨rfl, ao1, cap1, h1⟩
 have BA1 := T0.wn.box BA (by decide) (by decide) h1.k
 have T1 := shut (T0.trans h1)
 clear hc T0 h1 BA ae0
 have BA := BA1
 clear BA1
 rcases hP2.out with k3 | ⟨k45, e, he, hwe⟩ | k0
 ·subst k3
  have hl := HLL.out
  rw [if_pos rfl] at hl
  have HR2 : Shut (RT = bs ++ (encU (Int.toNat 3) ++ (encS a_name ++ encTs a_lives))) := shut (HRT.out.trans (by rw [if_pos rfl]))
  clear HRT
  obtain ⟨ae0, ae1, ae2, -⟩ := TyB GCA.out BA
  simp only [List.length_append] at hl
  have hc := wtext_any T1.out.wn a_name hNM.out (by rw [List.length_append]; omega)
  unfold txV at ae1
  go_wp2_with fail
  refine hc.mono ?_
  rintro e w2 ⟨rfl, ao2, cap2, h2⟩
  have BA2 := T1.out.wn.box BA (by decide) (by decide) h2.k
  have T2 := shut (T1.out.trans h2)
  clear hc T1 h2 BA ae0 ae1 ae2
  obtain ⟨-, -, ae2, -⟩ := TyB GCA.out BA2
  have hc := texts_any T2.out.wn q2 (HL.out.keeps T2.out.lo (off_lo HS.out) (fun _ h => h) (fun _ _ _ h => h)) HS.out (by simp only [List.length_append]; omega)
  rw [HNL.out] at hc
  go_wp2_with fail
  refine hc.mono ?_
  rintro e w3 ⟨rfl, ao3, cap3, h3⟩
  have T3 := T2.out.trans h3
  clear hc T2 h3 ae2 BA2
  simp only [List.append_assoc] at T3
  rw [← HR2.out] at T3
  go_wp2_with fail
  go_end0
  exact ⟨rfl, ao3, cap3, T3⟩
 ·subst he
  have hk3 : ¬ a_kind = 3 := by omega
  have hl := HLL.out
  rw [if_neg hk3, if_pos k45, encT1_cons] at hl
  have HR2 : Shut (RT = bs ++ (encU a_kind.toNat ++ (encTs a_lives ++ encT e))) := shut (HRT.out.trans (by rw [if_neg hk3, if_pos k45, encT1_cons]))
  clear HRT
  simp only [List.length_append] at hl
  obtain ⟨g, o, rfl, hg, es, le, re, ie⟩ := HE.out.get (j := 0) (d := e) rfl
  rw [Nat.zero_mul, Nat.add_zero] at re
  have IE := shut ie
  have HNE2 : Shut (ne = 1) := shut (by rw [← HNE.out]; rfl)
  have hgN := off_lo HS.out g hg
  obtain rfl := HNE2.out
  clear HNE2 HNE ie hg
  rcases k45 with rfl | rfl
  all_goals
   obtain ⟨ae0, -, ae2, -⟩ := TyB GCA.out BA
   have hc := texts_any T1.out.wn q2 (HL.out.keeps T1.out.lo (off_lo HS.out) (fun _ h => h) (fun _ _ _ h => h)) HS.out (by simp only [List.length_append]; omega)
   rw [HNL.out] at hc
   go_wp2_with fail
   refine hc.mono ?_
   rintro e w2 ⟨rfl, ao2, cap2, h2⟩
   have BA2 := T1.out.wn.box BA (by decide) (by decide) h2.k
   have T2 := shut (T1.out.trans h2)
   clear hc T1 h2 BA ae0 ae2
   obtain ⟨-, -, -, ae3⟩ := TyB GCA.out BA2
   obtain ⟨y1, y2⟩ := sub_of (rangeAt_keeps re T2.out.lo hgN) le
   have hc := IH.out _ (List.mem_cons_self ..) w2 es ao2 cap2 _ hwe (IE.out.keeps T2.out.lo (off_lo HS.out) (fun _ h => h)) T2.out.wn (by simp only [List.length_append]; omega)
   go_wp2_with fail
   refine hc.mono ?_
   rintro e w3 ⟨rfl, ao3, cap3, h3⟩
   have T3 := T2.out.trans h3
   clear hc T2 h3 ae3 BA2 y1 y2
   simp only [List.append_assoc] at T3
   rw [← HR2.out] at T3
   go_wp2_with fail
   go_end0
   exact ⟨rfl, ao3, cap3, T3⟩
 ·have HR2 : Shut (RT = bs ++ encU a_kind.toNat) := shut (HRT.out.trans (by rw [if_neg (by omega), if_neg (by omega), List.append_nil]))
  have T2 := T1.out
  rw [← HR2.out] at T2
  clear HRT HR2 T1
  obtain ⟨ae0, -, -, -⟩ := TyB GCA.out BA
  rcases k0 with rfl | rfl | rfl
  all_goals
   go_wp2_with fail
   go_end0
   exact ⟨rfl, ao1, cap1, T2⟩
end Go.Proofs.YtjbcagbnagefcaaGreat
namespace Go.Proofs.YtjbcagbnagefcaaGreat
open Go.RowKit
attribute [local go_sem ↓] exec_mid_ty exec_store_ty exec_mid_pl exec_store_pl exec_mid_opr exec_store_opr exec_mid_val exec_store_val exec_mid_st exec_store_st exec_mid_fld exec_store_fld exec_mid_str exec_store_str exec_mid_lif exec_store_lif exec_mid_fun exec_store_fun exec_mid_cr exec_store_cr
attribute [local go_sem] rowOk_new World.setRow_alloc_new
def encF (f : FldD) : List UInt8 := encS f.name ++ encT f.ty
def encStr (x : StrD) : List UInt8 := encS x.name ++ (encTs x.lives ++ (encU x.fields.length ++ (x.fields.map encF).flatten))
def encL (l : LifD) : List UInt8 := encS l.name ++ encTs l.over
def encPar (p : FldD) : List UInt8 := [if p.mu then 1 else 0] ++ (encS p.name ++ encT p.ty)
def encFun (f : FunD) : List UInt8 := encS f.name ++ (encU f.lives.length ++ ((f.lives.map encL).flatten ++ (encU f.params.length ++ ((f.params.map encPar).flatten ++ encT f.result))))
set_option maxRecDepth 100000 in
set_option maxHeartbeats 4000000 in
theorem wfun_any {S : Nat → Prop} {N : Nat} (hS : ∀ b, S b → b < N) {p : Nat} (f : FunD) (w : World) (cs : List Value) {ao : Option Addr} {cap : Nat} {bs : List UInt8} (hpar : ∀ d ∈ f.params, TyW d.ty) (hres : TyW f.result) (hf : FunIs S w f cs) (hW : WN N w p ao cap bs) (hl : bs.length + (encFun f).length ≤ 900000000) :
  Calls Tryz.prog 56 #[.pointer (some ⟨p, 0, none⟩), .agg cs.toArray] w (WP N w p ao (bs ++ encFun f)) := by
 have HS := shut hS
 have HPAR := shut hpar
 have HRES := shut hres
 have ag1 := agg_ok hf.len hf.one
 obtain ⟨f_pub, f_name, f_lives, f_params, f_result, f_body, f_pos⟩ := f
 obtain ⟨a2, c2, a3, c3, s4, a8, c8, hcs, hnm, hl2, hl3, hl4, -⟩ := hf
 simp only at hcs hnm hl2 hl3 hl4 HPAR HRES
 have hs4 := hl4.len
 obtain ⟨nl, hnl⟩ : ∃ n, f_lives.length = n := ⟨_, rfl⟩
 obtain ⟨np, hnp⟩ : ∃ n, f_params.length = n := ⟨_, rfl⟩
 have hnl2 := hl2.1
 have hnp2 := hl3.1
 unfold bigN at hnl2 hnp2
 rw [hnl, hnp] at hcs
 rw [hnl] at hnl2
 rw [hnp] at hnp2
 have HNL := shut hnl
 have HNP := shut hnp
 have HL2 := shut hl2
 have HL3 := shut hl3
 have HL4 := shut hl4
 obtain ⟨FL, hFL⟩ : ∃ F, (f_lives.map encL).flatten = F := ⟨_, rfl⟩
 obtain ⟨FP, hFP⟩ : ∃ F, (f_params.map encPar).flatten = F := ⟨_, rfl⟩
 obtain ⟨RT, hRT⟩ : ∃ F, bs ++ encFun ⟨f_pub, f_name, f_lives, f_params, f_result, f_body, f_pos⟩ = F := ⟨_, rfl⟩
 have HRT : Shut (RT = ((((bs ++ encS f_name) ++ encU nl) ++ FL) ++ encU np) ++ FP ++ encT f_result) := shut (by rw [← hRT]; unfold encFun; simp only [hnl, hnp, hFL, hFP, List.append_assoc])
 have hsum : bs.length + (encS f_name).length + (encU nl).length + FL.length + (encU np).length + FP.length + (encT f_result).length ≤ 900000000 := by
  unfold encFun at hl
  simp only [hnl, hnp, hFL, hFP, List.length_append] at hl
  omega
 rw [hRT]
 have HFL := shut hFL
 have HFP := shut hFP
 obtain ⟨CF, hCF⟩ : ∃ C, C = cs.toArray := ⟨_, rfl⟩
 rw [← hCF] at ag1 ⊢
 unfold txV at hcs
 rw [hcs] at hCF
 have GF := shut hCF
 clear hCF hcs hl2 hl3 hl4 hnl hnp hFL hFP hRT hl hpar hres
 have BF := blk_new w CF 56
 have T0 := shut ((WT.refl hW).alloc (.cells CF 56))
 clear hW
 go_enter Tryz.func56, Tryz.ntmps56
 go_upto_region 1 with fail
 clear ag1
 obtain ⟨gf, hgf⟩ : ∃ g, w.heap.size = g := ⟨_, rfl⟩
 rw [hgf] at BF ⊢
 clear hgf
 generalize w.alloc (.cells CF 56) = w0 at *
 obtain ⟨-, e1, -, -, -, -, -⟩ := FunB hs4 GF.out BF
 have hc := wtext_any T0.out.wn f_name hnm (by (try simp only [List.length_append]); omega)
 go_wp2_with fail
 refine hc.mono ?_
 rintro e w1 ⟨rfl, ao1, cap1, h1⟩
 have BF2 := T0.out.wn.box BF (by decide) (by decide) h1.k
 have T1 := shut (T0.out.trans h1)
 clear hc T0 h1 e1 BF
 have BF := BF2
 clear BF2
 obtain ⟨-, -, e2, -, -, -, -⟩ := FunB hs4 GF.out BF
 have hc := number_any T1.out.wn nl (by omega) (by omega) (by (try simp only [List.length_append]); omega)
 rw [Int.toNat_natCast] at hc
 go_wp2_with fail
 refine hc.mono ?_
 rintro e w2 ⟨rfl, ao2, cap2, h2⟩
 have BF2 := T1.out.wn.box BF (by decide) (by decide) h2.k
 have T2 := shut (T1.out.trans h2)
 clear hc T1 h2 BF
 have BF := BF2
 clear BF2
 clear e2
 obtain ⟨-, -, e2, -, -, -, -⟩ := FunB hs4 GF.out BF
 obtain ⟨B1, hB1⟩ : ∃ B, bs ++ encS f_name ++ encU nl = B := ⟨_, rfl⟩
 have hb1 : B1.length = bs.length + (encS f_name).length + (encU nl).length := by rw [← hB1]; simp only [List.length_append]
 rw [hB1] at T2 HRT
 clear hB1
 go_wp2_with fail
 go_loopw [5, 20] (fun s5 s20 wx => ∃ (t : Nat) (aoR : Option Addr) (capR : Nat), s20 = .int .i64 t ∧ t ≤ nl ∧ WT N w p ao wx aoR capR (B1 ++ ((f_lives.take t).map encL).flatten) ∧ Blk wx gf CF 56) (fun _ s20 _ => nl - (intOf s20).toNat)
 case atStart => exact ⟨0, ao2, cap2, rfl, Nat.zero_le _, by simpa using T2.out, BF⟩
 case round =>
  clear T2 BF e2
  obtain ⟨t, aoR, capR, rfl, ht, HR, BF⟩ := hrel
  by_cases hlt : t < nl
  ·skip
   obtain ⟨d, hd⟩ : ∃ d, f_lives[t]? = some d := ⟨_, List.getElem?_eq_getElem (by rw [HNL.out]; exact hlt)⟩
   obtain ⟨g1, o1, rfl, hg1, cs1, l1, r1, i1⟩ := HL2.out.get hd
   have HD := shut hd
   have m0 : (0 : Int) ≤ t := by omega
   have m1 : (t : Int) < nl := by omega
   have ag1 := agg_ok l1 i1.one
   have I1 := shut i1
   obtain ⟨CX, hCX⟩ : ∃ C, C = cs1.toArray := ⟨_, rfl⟩
   obtain ⟨hk, ho⟩ := sub_of (rangeAt_keeps r1 HR.lo (off_lo HS.out _ hg1)) l1
   rw [← hCX] at ag1 ho
   have GX := shut hCX
   clear hCX r1 hd i1 hg1
   have HR := shut HR
   go_upto_region 6 with fail
   have BX := blk_new wr CX 76
   have BF := blk_alloc BF (.cells CX 76)
   have T3 := shut (HR.out.alloc (.cells CX 76))
   clear hk ho ag1 HR
   obtain ⟨gx, hgx⟩ : ∃ g, wr.heap.size = g := ⟨_, rfl⟩
   rw [hgx] at BX ⊢
   clear hgx
   generalize wr.alloc (.cells CX 76) = w3 at *
   have hfl := flat_le (f := encL) HD.out
   rw [HFL.out] at hfl
   have HFX := shut (flat_take (f := encL) HD.out)
   clear HD
   obtain ⟨d_name, d_over⟩ := d
   obtain ⟨b1, k1, hcs1, hnm1, hov1⟩ := I1.out
   rw [hcs1] at GX
   simp only at GX hnm1 hov1
   obtain ⟨no, hno⟩ : ∃ n, d_over.length = n := ⟨_, rfl⟩
   rw [hno] at GX
   have HNO := shut hno
   have HOV := shut hov1
   have hel : (encL ⟨d_name, d_over⟩).length = (encS d_name).length + (encTs d_over).length := by unfold encL; rw [List.length_append]
   have HFX2 : Shut (B1 ++ ((f_lives.take (t + 1)).map encL).flatten = (B1 ++ ((f_lives.take t).map encL).flatten) ++ encS d_name ++ encTs d_over) := shut (by rw [HFX.out]; unfold encL; simp only [List.append_assoc])
   clear hcs1 hov1 hno I1 HFX
   unfold txV at GX
   obtain ⟨e0, -⟩ := LifB GX.out BX
   have hc := wtext_any T3.out.wn d_name hnm1 (by (try simp only [List.length_append]); omega)
   go_wp2_with fail
   refine hc.mono ?_
   rintro e w4 ⟨rfl, ao4, cap4, h4⟩
   have BX2 := T3.out.wn.box BX (by decide) (by decide) h4.k
   have BF2 := T3.out.wn.box BF (by decide) (by decide) h4.k
   have T4 := shut (T3.out.trans h4)
   clear hc T3 h4 e0 BX BF
   have BX := BX2
   clear BX2
   have BF := BF2
   clear BF2
   obtain ⟨-, e1⟩ := LifB GX.out BX
   have hc := texts_any T4.out.wn k1 (HOV.out.keeps T4.out.lo (off_lo HS.out) (fun _ h => h) (fun _ _ _ h => h)) HS.out (by (try simp only [List.length_append]); omega)
   rw [HNO.out] at hc
   go_wp2_with fail
   refine hc.mono ?_
   rintro e w5 ⟨rfl, ao5, cap5, h5⟩
   have BF2 := T4.out.wn.box BF (by decide) (by decide) h5.k
   have T5 := shut (T4.out.trans h5)
   clear hc T4 h5 e1 BX BF
   have BF := BF2
   clear BF2
   rw [← HFX2.out] at T5
   clear HFX2 hel hfl
   go_wp2_with fail
   go_roundw
   case rel => exact ⟨t + 1, ao5, cap5, by go_num, by omega, T5.out, BF⟩
   case measure => simp [intOf]; omega
  ·obtain rfl : t = nl := by omega
   have m1 : ¬ (t : Int) < t := by omega
   rw [flat_all HNL.out, HFL.out] at HR
   have T3 := shut HR
   clear HR
   have HNL2 : Shut (f_lives.length = t) := shut HNL.out
   obtain ⟨nl, hnl⟩ : ∃ n, t = n := ⟨_, rfl⟩
   obtain ⟨-, -, -, e3, -, -, -⟩ := FunB hs4 GF.out BF
   have hc := number_any T3.out.wn np (by omega) (by omega) (by (try simp only [List.length_append]); omega)
   rw [Int.toNat_natCast] at hc
   go_wp2_with fail
   refine hc.mono ?_
   rintro e w4 ⟨rfl, ao4, cap4, h4⟩
   have BF2 := T3.out.wn.box BF (by decide) (by decide) h4.k
   have T4 := shut (T3.out.trans h4)
   clear hc T3 h4 BF
   have BF := BF2
   clear BF2
   clear e3
   obtain ⟨-, -, -, e3, -, -, -⟩ := FunB hs4 GF.out BF
   obtain ⟨B2, hB2⟩ : ∃ B, B1 ++ FL ++ encU np = B := ⟨_, rfl⟩
   have hb2 : B2.length = B1.length + FL.length + (encU np).length := by rw [← hB2]; simp only [List.length_append]
   rw [hB2] at T4 HRT
   clear hB2
   go_wp2_with fail
   go_loopw [7, 41] (fun s7 s41 wx => ∃ (t : Nat) (aoR : Option Addr) (capR : Nat), s41 = .int .i64 t ∧ t ≤ np ∧ WT N w p ao wx aoR capR (B2 ++ ((f_params.take t).map encPar).flatten) ∧ Blk wx gf CF 56) (fun _ s41 _ => np - (intOf s41).toNat)
   case atStart => exact ⟨0, ao4, cap4, rfl, Nat.zero_le _, by simpa using T4.out, BF⟩
   case round =>
    clear T4 BF e3
    obtain ⟨t, aoR, capR, rfl, ht, HR, BF⟩ := hrel
    by_cases hlt : t < np
    ·skip
     obtain ⟨d, hd⟩ : ∃ d, f_params[t]? = some d := ⟨_, List.getElem?_eq_getElem (by rw [HNP.out]; exact hlt)⟩
     obtain ⟨g1, o1, rfl, hg1, cs1, l1, r1, i1⟩ := HL3.out.get hd
     have HD := shut hd
     have m0 : (0 : Int) ≤ t := by omega
     have m1 : (t : Int) < np := by omega
     have ag1 := agg_ok l1 i1.one
     have I1 := shut i1
     obtain ⟨CX, hCX⟩ : ∃ C, C = cs1.toArray := ⟨_, rfl⟩
     obtain ⟨hk, ho⟩ := sub_of (rangeAt_keeps r1 HR.lo (off_lo HS.out _ hg1)) l1
     rw [← hCX] at ag1 ho
     have GX := shut hCX
     clear hCX r1 hd i1 hg1
     have HR := shut HR
     go_upto_region 13 with fail
     have BX := blk_new wr CX 73
     have BF := blk_alloc BF (.cells CX 73)
     have T5 := shut (HR.out.alloc (.cells CX 73))
     clear hk ho ag1 HR
     obtain ⟨gx, hgx⟩ : ∃ g, wr.heap.size = g := ⟨_, rfl⟩
     rw [hgx] at BX ⊢
     clear hgx
     generalize wr.alloc (.cells CX 73) = w5 at *
     have HTW := shut (HPAR.out d (List.mem_of_getElem? HD.out))
     have hfl := flat_le (f := encPar) HD.out
     rw [HFP.out] at hfl
     have HFX := shut (flat_take (f := encPar) HD.out)
     clear HD
     obtain ⟨d_mu, d_name, d_ty⟩ := d
     obtain ⟨s2, hcs1, hnm1, hty1⟩ := I1.out
     have hs2 := hty1.len
     rw [hcs1] at GX
     simp only at GX hnm1 hty1 HTW
     have HTY := shut hty1
     have hel : (encPar ⟨d_mu, d_name, d_ty⟩).length = 1 + (encS d_name).length + (encT d_ty).length := by unfold encPar; simp only [List.length_append, List.length_cons, List.length_nil]; omega
     have HFX2 : Shut (B2 ++ ((f_params.take (t + 1)).map encPar).flatten = (B2 ++ ((f_params.take t).map encPar).flatten) ++ [if d_mu then 1 else 0] ++ encS d_name ++ encT d_ty) := shut (by rw [HFX.out]; unfold encPar; simp only [List.append_assoc])
     clear hcs1 hty1 I1 HFX
     unfold txV at GX
     have hone : ([if d_mu then (1 : UInt8) else 0] : List UInt8).length = 1 := rfl
     obtain ⟨OB, hOB⟩ : ∃ l : List UInt8, [if d_mu then (1 : UInt8) else 0] = l := ⟨_, rfl⟩
     have HOB := shut hOB
     rw [hOB] at HFX2 hone
     clear hOB
     obtain ⟨e0, -, -⟩ := FldB hs2 GX.out BX
     have hc := wbool_any T5.out.wn d_mu (by (try simp only [List.length_append]); omega)
     rw [HOB.out] at hc
     go_wp2_with fail
     refine hc.mono ?_
     rintro e w6 ⟨rfl, ao6, cap6, h6⟩
     have BX2 := T5.out.wn.box BX (by decide) (by decide) h6.k
     have BF2 := T5.out.wn.box BF (by decide) (by decide) h6.k
     have T6 := shut (T5.out.trans h6)
     clear hc T5 h6 e0 BX BF
     have BX := BX2
     clear BX2
     have BF := BF2
     clear BF2
     obtain ⟨-, e1, -⟩ := FldB hs2 GX.out BX
     have hc := wtext_any T6.out.wn d_name hnm1 (by (try simp only [List.length_append]); omega)
     go_wp2_with fail
     refine hc.mono ?_
     rintro e w7 ⟨rfl, ao7, cap7, h7⟩
     have BX2 := T6.out.wn.box BX (by decide) (by decide) h7.k
     have BF2 := T6.out.wn.box BF (by decide) (by decide) h7.k
     have T7 := shut (T6.out.trans h7)
     clear hc T6 h7 e1 BX BF
     have BX := BX2
     clear BX2
     have BF := BF2
     clear BF2
     obtain ⟨-, -, y1, y2⟩ := FldB hs2 GX.out BX
     have hc := wkind_any HS.out d_ty w7 s2 ao7 cap7 _ HTW.out (HTY.out.keeps T7.out.lo (off_lo HS.out) (fun _ h => h)) T7.out.wn (by (try simp only [List.length_append]); omega)
     go_wp2_with fail
     refine hc.mono ?_
     rintro e w8 ⟨rfl, ao8, cap8, h8⟩
     have BF2 := T7.out.wn.box BF (by decide) (by decide) h8.k
     have T8 := shut (T7.out.trans h8)
     clear hc T7 h8 y1 y2 BX BF
     have BF := BF2
     clear BF2
     rw [← HFX2.out] at T8
     clear HFX2 hel hfl hone HOB
     go_wp2_with fail
     go_roundw
     case rel => exact ⟨t + 1, ao8, cap8, by go_num, by omega, T8.out, BF⟩
     case measure => simp [intOf]; omega
    ·obtain rfl : t = np := by omega
     have m1 : ¬ (t : Int) < t := by omega
     rw [flat_all HNP.out, HFP.out] at HR
     have T5 := shut HR
     clear HR
     obtain ⟨-, -, -, -, y, -, -⟩ := FunB hs4 GF.out BF
     obtain ⟨y1, y2⟩ := y
     have hc := wkind_any HS.out f_result wr s4 aoR capR _ HRES.out (HL4.out.keeps T5.out.lo (off_lo HS.out) (fun _ h => h)) T5.out.wn (by (try simp only [List.length_append]); omega)
     go_wp2_with fail
     refine hc.mono ?_
     rintro e w6 ⟨rfl, ao6, cap6, h6⟩
     have T6 := shut (T5.out.trans h6)
     clear hc T5 h6 y1 y2 BF 
     rw [← HRT.out] at T6
     go_wp2_with fail
     go_end0
     exact ⟨rfl, ao6, cap6, T6.out⟩
end Go.Proofs.YtjbcagbnagefcaaGreat
namespace Go.Proofs.YtjbcagbnagefcaaGreat
open Go.RowKit
def usig : List UInt8 := [85, 83, 73, 71]
def encSig (s : SigD) : List UInt8 := encS usig ++ (encS s.name ++ (encU s.cr.structs.length ++ ((s.cr.structs.map encStr).flatten ++ (encU s.cr.funcs.length ++ (s.cr.funcs.map encFun).flatten))))
theorem name_len {t : List UInt8} (h : isName t = true) : t.length ≤ 32 := by unfold isName at h; simp at h; exact h.2.1
theorem life_len {t : List UInt8} (h : isLife t = true) : t.length ≤ 32 := by unfold isLife at h; simp at h; exact h.2.1
theorem double_len {s : List UInt8} (h : DoubleP s) : s.length ≤ 66 := by
 obtain ⟨h1, h2⟩ := h
 unfold Lib.cut at h1 h2
 split at h1
 ·rename_i hi
  rw [if_pos hi] at h2
  have a := name_len h1
  have b := name_len (h2 rfl)
  simp only [List.length_take, List.length_drop, List.length_cons, List.length_nil] at a b
  omega
 ·have a : s.length ≤ 32 := name_len h1
  omega
theorem encU_10 {n : Nat} (h : n ≤ 100000000) : (encU n).length ≤ 10 := encU_len10 (by omega)
theorem encS_len {s : List UInt8} {k : Nat} (h : s.length ≤ k) (hk : k ≤ 1000) : (encS s).length ≤ 10 + k := by
 unfold encS
 rw [List.length_append]
 have := encU_10 (n := s.length) (by omega)
 omega
theorem flat_len_le {α : Type} {f : α → List UInt8} {k : Nat} : ∀ (l : List α), (∀ x ∈ l, (f x).length ≤ k) → (l.map f).flatten.length ≤ l.length * k
 | [], _ => by simp
 | x :: r, h => by
  have h1 := h x (by simp)
  have h2 := flat_len_le r (fun y hy => h y (List.mem_cons_of_mem _ hy))
  rw [List.map_cons, List.flatten_cons, List.length_append, List.length_cons, Nat.succ_mul]
  omega
theorem encTs_len {l : List (List UInt8)} {n : Nat} (h : ∀ s ∈ l, isLife s = true) (hn : l.length ≤ n) (hb : n ≤ 1000) : (encTs l).length ≤ 10 + n * 42 := by
 unfold encTs
 rw [List.length_append]
 have h1 := encU_10 (n := l.length) (by omega)
 have h2 := flat_len_le (f := encS) (k := 42) l (fun x hx => encS_len (k := 32) (life_len (h x hx)) (by omega))
 have h3 : l.length * 42 ≤ n * 42 := Nat.mul_le_mul_right _ hn
 omega
theorem encT_len : ∀ (t : TyD) (d : Int), TyP t d → 1 ≤ d → (encT t).length ≤ 100 * (65 - d).toNat + 3000 := by
 refine TyD.ind ?_
 intro k n lv el ih d h hd
 unfold TyP at h
 obtain ⟨h64, h⟩ := h
 have hu : ∀ j : Nat, j ≤ 5 → (encU j).length ≤ 10 := fun j hj => encU_10 (by omega)
 rw [encT_mk, List.length_append]
 rcases h with ⟨rfl, hn, hl, rfl⟩ | ⟨hk, rfl, h1, hl, he⟩ | ⟨hk, rfl, rfl, rfl⟩
 ·rw [if_pos rfl, List.length_append]
  have a := encS_len (k := 66) (double_len hn) (by omega)
  have b := encTs_len hl.1 hl.2 (by omega)
  have c := hu 3 (by omega)
  have e : (Int.toNat 3) = 3 := rfl
  rw [e]
  omega
 ·match el, he with
  | t :: r, he =>
   unfold TysP at he
   obtain ⟨rfl, he⟩ := he
   rw [if_neg (by omega), if_pos hk, List.length_append, encT1_cons]
   have a := encTs_len hl.1 h1 (by omega)
   have b := ih t (by simp) (d + 1) he (by omega)
   have h64' : d + 1 ≤ 64 := by
    obtain ⟨k2, n2, l2, e2⟩ := t
    unfold TyP at he
    exact he.1
   have c := hu k.toNat (by omega)
   omega
  | [], he => unfold TysP at he; exact he.elim
 ·rw [if_neg (by omega), if_neg (by omega)]
  have c := hu k.toNat (by omega)
  simp only [List.length_nil]
  omega
theorem encT1_len {t : TyD} (h : TyP t 1) : (encT t).length ≤ 9400 := by
 have := encT_len t 1 h (by omega)
 simp at this
 omega
theorem encT0_len {t : TyD} (h : t.kind = 0) : (encT t).length ≤ 9400 := by
 obtain ⟨k, n, lv, el⟩ := t
 simp only [TyD.kind] at h
 subst h
 rw [encT_mk, if_neg (by omega), if_neg (by omega)]
 have := encU_10 (n := Int.toNat 0) (by decide)
 simp only [List.length_append, List.length_nil]
 omega
theorem encStr_len {x : StrD} (h : StrP x) : (encStr x).length ≤ 1000000 := by
 obtain ⟨hn, hl, hf, h64⟩ := h
 unfold encStr
 simp only [List.length_append]
 have a := encS_len (k := 32) (name_len hn) (by omega)
 have b := encTs_len hl.1 hl.2 (by omega)
 have c := encU_10 (n := x.fields.length) (by omega)
 have e := flat_len_le (f := encF) (k := 9442) x.fields (fun f hx => by
  unfold encF
  rw [List.length_append]
  have h1 := encS_len (k := 32) (name_len (hf f hx).2.1) (by omega)
  have h2 := encT1_len (hf f hx).2.2
  omega)
 have g : x.fields.length * 9442 ≤ 64 * 9442 := Nat.mul_le_mul_right _ h64
 omega
theorem encFun_len {f : FunD} (h : FunP f) : (encFun f).length ≤ 1000000 := by
 obtain ⟨hl, hn, h64, ⟨hp, hp64⟩, hr, -, -⟩ := h
 unfold encFun
 simp only [List.length_append]
 have a := encS_len (k := 32) (name_len hn) (by omega)
 have c := encU_10 (n := f.lives.length) (by omega)
 have c2 := encU_10 (n := f.params.length) (by omega)
 have e := flat_len_le (f := encL) (k := 3000) f.lives (fun l hx => by
  unfold encL
  rw [List.length_append]
  have h1 := encS_len (k := 32) (life_len (hl l hx).1) (by omega)
  have h2 := encTs_len (hl l hx).2.1 (hl l hx).2.2 (by omega)
  omega)
 have g : f.lives.length * 3000 ≤ 64 * 3000 := Nat.mul_le_mul_right _ h64
 have e2 := flat_len_le (f := encPar) (k := 9443) f.params (fun p hx => by
  unfold encPar
  simp only [List.length_append, List.length_cons, List.length_nil]
  have h1 := encS_len (k := 32) (name_len (hp p hx).2.1) (by omega)
  have h2 := encT1_len (hp p hx).2.2
  omega)
 have g2 : f.params.length * 9443 ≤ 64 * 9443 := Nat.mul_le_mul_right _ hp64
 have r : (encT f.result).length ≤ 9400 := by
  rcases hr with ⟨hk, -, -, -⟩ | hr
  ·exact encT0_len hk
  ·exact encT1_len hr
 omega
theorem encSig_len {s : SigD} (h : MayS s) : (encSig s).length ≤ 800000000 := by
 obtain ⟨-, -, hn, hc, hs, hf⟩ := h
 unfold encSig
 simp only [List.length_append]
 have a := encS_len (k := 32) (name_len hn) (by omega)
 have u : (encS usig).length ≤ 14 := encS_len (k := 4) (by decide) (by omega)
 have c := encU_10 (n := s.cr.structs.length) (by omega)
 have c2 := encU_10 (n := s.cr.funcs.length) (by omega)
 have e := flat_len_le (f := encStr) (k := 1000000) s.cr.structs (fun x hx => encStr_len (hs x hx))
 have e2 := flat_len_le (f := encFun) (k := 1000000) s.cr.funcs (fun x hx => encFun_len (hf x hx))
 omega
theorem str_tyW {x : StrD} (h : StrP x) : ∀ d ∈ x.fields, TyW d.ty := fun d hd => .inl ⟨_, (h.2.2.1 d hd).2.2⟩
theorem fun_tyW {f : FunD} (h : FunP f) : (∀ d ∈ f.params, TyW d.ty) ∧ TyW f.result := ⟨fun d hd => .inl ⟨_, (h.2.2.2.1.1 d hd).2.2⟩, by
 rcases h.2.2.2.2.1 with h | h
 ·exact .inr h.1
 ·exact .inl ⟨_, h⟩⟩
end Go.Proofs.YtjbcagbnagefcaaGreat
namespace Go.Proofs.YtjbcagbnagefcaaGreat
open Go.RowKit
theorem infoHash : (Tryz.prog.info? 60).map (·.size) = some 32 := by kernel_rfl
theorem exec_load_hash (ρ : Operand → Value) (dst : Option Tmp) (x : Operand) (ty' : TypeId) (pos : String) (af : Array Edge) (gd : Option (Nat × Bool)) (w : World) (h : rowOkV w 32 (ρ x) = true) :
  (execOp ρ ⟨dst, .load 60 x, ty', pos, af, gd⟩).run Tryz.prog w = .ok (.value (.agg (rowOfV w (ρ x)))) w :=
 exec_load _ _ 32 Tryz.underlying60 infoHash ρ dst x ty' pos af gd w h
theorem exec_store_hash (ρ : Operand → Value) (dst : Option Tmp) (x y : Operand) (ty' : TypeId) (pos : String) (af : Array Edge) (gd : Option (Nat × Bool)) (w : World) (h : rowOkV w 32 (ρ x) = true) (hy : aggOk 32 (ρ y) = true) :
  (execOp ρ ⟨dst, .store 60 x y, ty', pos, af, gd⟩).run Tryz.prog w = .ok .skip (rowSetV w (ρ x) (aggOf (ρ y))) :=
 exec_store _ 32 infoHash ρ dst x y ty' pos af gd w h hy
end Go.Proofs.YtjbcagbnagefcaaGreat
namespace Go.Proofs.YtjbcagbnagefcaaGreat
open Go.RowKit
def decGo : Nat → Nat → List UInt8 → Nat × Nat × Nat
 | _, _, [] => (3, 0, 0)
 | i, v, c :: r =>
  if (i = 9 ∧ 1 < c.toNat) ∨ (0 < i ∧ c.toNat = 0) then (4, 0, 0)
  else if c.toNat < 128 then (0, v + c.toNat % 128 * 128 ^ i, i + 1) else decGo (i + 1) (v + c.toNat % 128 * 128 ^ i) r
def decU (l : List UInt8) : Nat × Nat × Nat := decGo 0 0 l
structure Rd (w : World) (p : Nat) (ao : Option Addr) (cap : Nat) (bs : List UInt8) (k : Nat) : Prop where
 blk : Blk w p #[.slice ao bs.length cap, .int .i64 k] 125
 own : Own8 w 5 ao cap bs
 le : k ≤ bs.length
theorem Rd.drewN {w : World} {p : Nat} {ao : Option Addr} {cap : Nat} {bs : List UInt8} {k : Nat} (h : Rd w p ao cap bs k) (n : Nat) : Rd (w.drewN n) p ao cap bs k := ⟨h.blk, h.own, h.le⟩
def RdPost (w : World) (p : Nat) (ao : Option Addr) (cap : Nat) (bs : List UInt8) (val : Value) (code pos : Int) (k : Nat) (e : Ending) (w' : World) : Prop :=
 ∃ ev, e = .returned (.tuple #[val, ev]) ∧ IsErr w.heap.size w' ev code pos ∧ Rd w' p ao cap bs k ∧ Keeps (fun i => i = p) w w'
theorem bad_any {w : World} {p : Nat} {ao : Option Addr} {cap : Nat} {bs : List UInt8} {k : Nat} (h : Rd w p ao cap bs k) (c : Int) (hc : (c == 0) = false) :
  Calls Tryz.prog 91 #[.pointer (some ⟨p, 0, none⟩), .int .i64 c] w (ErrPost w c k) := by
 have h1 : w.cell? ⟨p, 1, none⟩ = some (.int .i64 k) := blk_cell h.blk 1 rfl
 go_enter Tryz.func91, Tryz.ntmps91
 go_wp2_with fail
 refine (new_err c _ w hc).mono ?_
 rintro e w' ⟨rfl, rfl⟩
 go_wp2_with fail
 go_ret
 exact ⟨_, rfl, isErr_new w c k hc, (Keeps.refl _ _).alloc _⟩
theorem step_bad {bs : List UInt8} {k i v m : Nat} {c : UInt8} {r : Nat × Nat × Nat} (hr : decGo i v (bs.drop (k + i)) = r) (h : bs[k + i]? = some c) (hm : c.toNat = m) (hb : (i = 9 ∧ 1 < m) ∨ (0 < i ∧ m = 0)) : r = (4, 0, 0) := by
 rw [← hr, drop_cons h, decGo, hm, if_pos hb]
theorem step_last {bs : List UInt8} {k i v m : Nat} {c : UInt8} {r : Nat × Nat × Nat} (hr : decGo i v (bs.drop (k + i)) = r) (h : bs[k + i]? = some c) (hm : c.toNat = m) (hb : ¬ ((i = 9 ∧ 1 < m) ∨ (0 < i ∧ m = 0))) (hl : m < 128) :
  r = (0, v + m % 128 * 128 ^ i, i + 1) := by
 rw [← hr, drop_cons h, decGo, hm, if_neg hb, if_pos hl]
theorem step_more {bs : List UInt8} {k i v m : Nat} {c : UInt8} {r : Nat × Nat × Nat} (hr : decGo i v (bs.drop (k + i)) = r) (h : bs[k + i]? = some c) (hm : c.toNat = m) (hb : ¬ ((i = 9 ∧ 1 < m) ∨ (0 < i ∧ m = 0))) (hl : ¬ m < 128) :
  decGo (i + 1) (v + m % 128 * 128 ^ i) (bs.drop (k + (i + 1))) = r := by
 rw [← hr, drop_cons h, decGo, hm, if_neg hb, if_neg hl, Nat.add_assoc]
theorem step_short {bs : List UInt8} {k i v : Nat} {r : Nat × Nat × Nat} (hr : decGo i v (bs.drop (k + i)) = r) (h : ¬ k + i < bs.length) : r = (3, 0, 0) := by
 rw [← hr, List.drop_of_length_le (by omega)]; rfl
theorem step_num {v m i : Nat} (hv : v < 128 ^ i) (hi : i ≤ 9) (hm : m < 256) (h9 : i = 9 → m ≤ 1) :
  bits .or .u64 (v : Int) (IntKind.u64.wrap (IntKind.u64.wrap (bits .and .u8 (m : Int) 127) * 2 ^ (7 * i))) = ((v + m % 128 * 128 ^ i : Nat) : Int) := by
 have e1 : bits .and .u8 (m : Int) 127 = ((m % 128 : Nat) : Int) := by
  have := u8_and_nat m 127 hm (by omega)
  rw [Nat.and_two_pow_sub_one_eq_mod m 7] at this
  exact this
 have hp : (2 : Int) ^ (7 * i) = ((128 ^ i : Nat) : Int) := by
  rw [Int.pow_mul]; simp
 have hpw : 128 ^ i ≤ 128 ^ 9 := Nat.pow_le_pow_right (by omega) hi
 have hb : m % 128 * 128 ^ i < 18446744073709551616 := by
  by_cases h : i = 9
  ·subst h; have := h9 rfl; have : m % 128 ≤ 1 := by omega
   have h2 : m % 128 * 128 ^ 9 ≤ 1 * 128 ^ 9 := Nat.mul_le_mul_right _ this
   exact Nat.lt_of_le_of_lt h2 (by decide +kernel)
  ·have h8 : 128 ^ i ≤ 128 ^ 8 := Nat.pow_le_pow_right (by omega) (by omega)
   have h2 : m % 128 * 128 ^ i ≤ 127 * 128 ^ 8 := Nat.mul_le_mul (by omega) h8
   exact Nat.lt_of_le_of_lt h2 (by decide +kernel)
 have hv' : v < 18446744073709551616 := by
  have : (128 : Nat) ^ 9 < 18446744073709551616 := by decide +kernel
  omega
 have e2 : IntKind.u64.wrap (IntKind.u64.wrap (bits .and .u8 (m : Int) 127) * 2 ^ (7 * i)) = ((m % 128 * 128 ^ i : Nat) : Int) := by
  rw [e1, hp, IntKind.wrap_u64, IntKind.wrap_u64]
  have : ((m % 128 : Nat) : Int) % 18446744073709551616 = ((m % 128 : Nat) : Int) := by omega
  rw [this, ← Int.natCast_mul]
  omega
 rw [e2, u64_or_nat _ _ hv' hb]
 congr 1
 have hpow : 128 ^ i = 2 ^ (7 * i) := by rw [Nat.pow_mul]
 rw [Nat.or_comm, nat_join (7 * i) _ _ (by rw [← hpow]; exact Nat.mul_mod_left _ _) (by rw [← hpow]; exact hv), Nat.add_comm]
theorem step_lt {v m i : Nat} (hv : v < 128 ^ i) : v + m % 128 * 128 ^ i < 128 ^ (i + 1) := by
 rw [Nat.pow_succ]
 have : m % 128 * 128 ^ i ≤ 127 * 128 ^ i := Nat.mul_le_mul_right _ (by omega)
 omega
theorem beq0 {m : Nat} (h : ((m : Int) == 0) = true) : m = 0 := by simp at h; omega
theorem bne0 {m : Nat} (h : ((m : Int) == 0) = false) : m ≠ 0 := by simp at h; omega
theorem rd_last {w : World} {p : Nat} {ao : Option Addr} {cap : Nat} {bs : List UInt8} {k i : Nat} (h : Rd w p ao cap bs k) (n : Nat) {x y : Value} {z : Int} (hlt : k + i < bs.length) (hx : x = y) (hz : z = ((k : Int) + i + 1)) {e : Ending} (he : e = .returned (.tuple #[x, .nilIface]))  :
  RdPost w p ao cap bs y 0 (posOf 0 k) (k + (i + 1)) e ((w.drewN n).setCell ⟨p, 1, none⟩ (.int .i64 z)) := by
 subst hx; subst he
 have hz' : z = ((k + (i + 1) : Nat) : Int) := by omega
 subst hz'
 exact ⟨.nilIface, rfl, isErr_nil _ _, ⟨blk_set (w := w.drewN _) h.blk 1 _, ownsRow_setCell_other (w := w.drewN _) h.own (own_ne h.own h.blk (by decide)) _, by omega⟩, Keeps.setCell (S := fun i => i = p) (p := ⟨p, 1, none⟩) ((Keeps.refl _ w).drewN _) (fun _ => rfl) _⟩
set_option maxRecDepth 100000 in
set_option maxHeartbeats 400000 in
theorem rUint_short {w : World} {p : Nat} {ao : Option Addr} {cap : Nat} {bs : List UInt8} {k : Nat} (h : Rd w p ao cap bs k) (hl : bs.length ≤ 1000000000) (hs : bs.length = k) :
  Calls Tryz.prog 90 #[.pointer (some ⟨p, 0, none⟩)] w (RdPost w p ao cap bs (.int .u64 0) 3 k k) := by
 have h0 : w.cell? ⟨p, 0, none⟩ = some (.slice ao bs.length cap) := blk_cell h.blk 0 rfl
 have h1 : w.cell? ⟨p, 1, none⟩ = some (.int .i64 k) := blk_cell h.blk 1 rfl
 subst hs
 go_enter Tryz.func90, Tryz.ntmps90
 go_wp2_with fail
 refine wp_loop_rounds 1 ?_
 rw [rounds_succ]
 go_wp2_with fail
 go_quiet (fail)
 go_wp2_with fail
 refine (bad_any (h.drewN _) 3 rfl).mono ?_
 rintro e w' ⟨ev, rfl, hev, hK⟩
 go_wp2_with fail
 go_ret2
 exact ⟨ev, rfl, hev, ⟨hK.blk (a := w.drewN _) h.blk (fun h => h), hK.own (a := w.drewN _) h.own (fun _ _ h => h), h.le⟩, ((Keeps.refl _ w).drewN _).trans hK (fun _ h _ => h.elim)⟩
set_option maxRecDepth 100000 in
set_option maxHeartbeats 2000000 in
theorem rUint_any {w : World} {p : Nat} {g : Nat} {cap : Nat} {bs : List UInt8} {k : Nat} (h : Rd w p (some ⟨g, 0, none⟩) cap bs k) (hl : bs.length ≤ 1000000000) :
    Calls Tryz.prog 90 #[.pointer (some ⟨p, 0, none⟩)] w
      (RdPost w p (some ⟨g, 0, none⟩) cap bs (.int .u64 (decU (bs.drop k)).2.1) (decU (bs.drop k)).1 (posOf (decU (bs.drop k)).1 k) (k + (decU (bs.drop k)).2.2)) := by
  have hk := h.le
  have h0 : w.cell? ⟨p, 0, none⟩ = some (.slice (some ⟨g, 0, none⟩) bs.length cap) := blk_cell h.blk 0 rfl
  have h1 : w.cell? ⟨p, 1, none⟩ = some (.int .i64 k) := blk_cell h.blk 1 rfl
  have hf1 := blk_free h.blk 1
  go_enter Tryz.func90, Tryz.ntmps90
  go_wp2_with fail
  go_loopw [4, 5] (fun s t wr => ∃ (i v n : Nat), s = .int .u64 v ∧ t = .int .i64 i ∧ i ≤ 9 ∧ v < 128 ^ i ∧ wr = w.drewN n ∧ k + i ≤ bs.length ∧ decGo i v (bs.drop (k + i)) = decU (bs.drop k))
    (fun _ t _ => 10 - (intOf t).toNat)
  case atStart => exact ⟨0, 0, 0, rfl, rfl, by omega, by decide, rfl, hk, rfl⟩
  case round =>
    obtain ⟨i, v, n, rfl, rfl, hi, hv, rfl, hki, hD⟩ := hrel
    have HD := Lib.hid hD
    clear hD
    by_cases hlt : k + i < bs.length
    · obtain ⟨c, hc⟩ : ∃ c, bs[k + i]? = some c := ⟨_, List.getElem?_eq_getElem hlt⟩
      have hcell := own8_cell h.own hc
      have hc256 : c.toNat < 256 := c.toNat_lt
      have HC := Lib.hid hc
      clear hc
      generalize hcm : c.toNat = m at *
      have HM := Lib.hid hcm
      clear hcm
      go_wp2_with fail
      go_quiet (fail)
      go_wp2_with fail
      go_quiet (fail)
      go_wp2_with fail
      all_goals first
        | (have hcond : (i = 9 ∧ 1 < m) ∨ (0 < i ∧ m = 0) := by
             first
               | exact .inl ⟨by omega, by omega⟩
               | exact .inr ⟨by omega, beq0 (by assumption)⟩
           have E := step_bad HD.out HC.out HM.out hcond
           refine (bad_any (h.drewN _) 4 rfl).mono ?_
           rintro e w' ⟨ev, rfl, hev, hK⟩
           go_wp2_with fail
           go_ret2
           rw [E]
           exact ⟨ev, rfl, hev, ⟨hK.blk (a := w.drewN _) h.blk (fun h => h), hK.own (a := w.drewN _) h.own (fun _ _ h => h), h.le⟩, ((Keeps.refl _ w).drewN _).trans hK (fun _ h _ => h.elim)⟩)
        | skip
      all_goals
        have hcond : ¬ ((i = 9 ∧ 1 < m) ∨ (0 < i ∧ m = 0)) := by
          first
            | (have h1 := bne0 (by assumption : ((m : Int) == 0) = false)
               omega)
            | omega
        have hnum := step_num hv hi hc256 (fun h9 => by omega)
      · obtain rfl : i = 9 := by omega
        have E := step_last HD.out HC.out HM.out hcond (by omega)
        have hnum9 : bits .or .u64 (v : Int) (IntKind.u64.wrap (IntKind.u64.wrap (bits .and .u8 (m : Int) 127) * 9223372036854775808)) = ((v + m % 128 * 128 ^ 9 : Nat) : Int) := hnum
        go_ret2
        rw [E]
        exact rd_last h _ (by omega) (congrArg (Value.int .u64) hnum9) rfl rfl
      · have E := step_last HD.out HC.out HM.out hcond (by omega)
        go_ret2
        rw [E]
        exact rd_last h _ (by omega) (congrArg (Value.int .u64) hnum) rfl rfl
      · have E := step_more HD.out HC.out HM.out hcond (by omega)
        go_roundw
        case rel => exact ⟨i + 1, v + m % 128 * 128 ^ i, _, by rw [hnum], by go_num, by omega, step_lt hv, rfl, by omega, E⟩
        case measure => simp [intOf]; omega
      · have E := step_last HD.out HC.out HM.out hcond (by omega)
        go_ret2
        rw [E]
        exact rd_last h _ (by omega) (congrArg (Value.int .u64) hnum) rfl rfl
      · have E := step_more HD.out HC.out HM.out hcond (by omega)
        go_roundw
        case rel => exact ⟨i + 1, v + m % 128 * 128 ^ i, _, by rw [hnum], by go_num, by omega, step_lt hv, rfl, by omega, E⟩
        case measure => simp [intOf]; omega
    · have E := step_short HD.out hlt
      go_wp2_with fail
      go_quiet (fail)
      go_wp2_with fail
      refine (bad_any (h.drewN _) 3 rfl).mono ?_
      rintro e w' ⟨ev, rfl, hev, hK⟩
      go_wp2_with fail
      go_ret2
      rw [E]
      exact ⟨ev, rfl, hev, ⟨hK.blk (a := w.drewN _) h.blk (fun h => h), hK.own (a := w.drewN _) h.own (fun _ _ h => h), h.le⟩, ((Keeps.refl _ w).drewN _).trans hK (fun _ h _ => h.elim)⟩

theorem rUint {w : World} {p : Nat} {ao : Option Addr} {cap : Nat} {bs : List UInt8} {k : Nat} (h : Rd w p ao cap bs k) (hl : bs.length ≤ 1000000000) :
  Calls Tryz.prog 90 #[.pointer (some ⟨p, 0, none⟩)] w
   (RdPost w p ao cap bs (.int .u64 (decU (bs.drop k)).2.1) (decU (bs.drop k)).1 (posOf (decU (bs.drop k)).1 k) (k + (decU (bs.drop k)).2.2)) := by
 by_cases hn : bs = []
 ·have hk := h.le
  have hk0 : bs.length = k := by subst hn; simp at hk ⊢; omega
  rw [show bs.drop k = [] from List.drop_of_length_le (by omega)]
  exact rUint_short h hl hk0
 ·obtain ⟨g, rfl⟩ := own8_head h.own hn
  exact rUint_any h hl
end Go.Proofs.YtjbcagbnagefcaaGreat
namespace Go.Proofs.YtjbcagbnagefcaaGreat
open Go.RowKit
theorem decGo_ok : ∀ (l : List UInt8) (i v : Nat), i ≤ 9 → v < 128 ^ i →
  ((decGo i v l).1 = 0 → (decGo i v l).2.1 < 18446744073709551616 ∧ (decGo i v l).2.2 ≤ i + l.length ∧ i < (decGo i v l).2.2) ∧
  ((decGo i v l).1 ≠ 0 → (decGo i v l).2.1 = 0 ∧ (decGo i v l).2.2 = 0 ∧ ((decGo i v l).1 = 3 ∨ (decGo i v l).1 = 4))
 | [], i, v, hi, hv => by simp [decGo]
 | c :: r, i, v, hi, hv => by
  rw [decGo]
  split
  ·simp
  ·rename_i h1
   split
   ·rename_i h2
    refine ⟨fun _ => ?_, fun h => absurd rfl h⟩
    have hm : c.toNat % 128 = c.toNat := Nat.mod_eq_of_lt h2
    have h9 : i = 9 → c.toNat ≤ 1 := fun h => by omega
    have := step_lt (m := c.toNat) hv
    refine ⟨?_, by simp, by simp⟩
    show v + c.toNat % 128 * 128 ^ i < _
    by_cases h : i = 9
    ·subst h
     have h1 := h9 rfl
     have h2 : c.toNat % 128 * 128 ^ 9 ≤ 1 * 128 ^ 9 := Nat.mul_le_mul_right _ (by omega)
     have h3 : (128 : Nat) ^ 9 + 1 * 128 ^ 9 ≤ 18446744073709551616 := by decide +kernel
     omega
    ·have h8 : 128 ^ (i + 1) ≤ 128 ^ 9 := Nat.pow_le_pow_right (by omega) (by omega)
     have h3 : (128 : Nat) ^ 9 < 18446744073709551616 := by decide +kernel
     omega
   ·rename_i h2
    by_cases h : i = 9
    ·exfalso
     apply h1
     exact .inl ⟨h, by omega⟩
    ·have := decGo_ok r (i + 1) (v + c.toNat % 128 * 128 ^ i) (by omega) (step_lt hv)
     refine ⟨fun h0 => ?_, this.2⟩
     have h := this.1 h0
     simp only [List.length_cons]
     exact ⟨h.1, by omega, by omega⟩
theorem decU_ok (l : List UInt8) {c v n : Nat} (h : decU l = (c, v, n)) : (c = 0 → v < 18446744073709551616 ∧ n ≤ l.length ∧ 0 < n) ∧ (c ≠ 0 → v = 0 ∧ n = 0 ∧ (c = 3 ∨ c = 4)) := by
 have := decGo_ok l 0 0 (by omega) (by decide)
 rw [show decGo 0 0 l = (c, v, n) from h] at this
 simpa using this
def decSmall (most : Int) (l : List UInt8) : Nat × Nat × Nat :=
 if (decU l).1 ≠ 0 then ((decU l).1, 0, 0) else if most < 0 ∨ most < ((decU l).2.1 : Int) then (2, 0, 0) else decU l
def decText (most : Int) (l : List UInt8) : Nat × List UInt8 × Nat :=
 if (decU l).1 ≠ 0 then ((decU l).1, [], 0) else if most < 0 ∨ most < ((decU l).2.1 : Int) then (5, [], 0)
 else if (l.drop (decU l).2.2).length < (decU l).2.1 then (3, [], 0) else (0, (l.drop (decU l).2.2).take (decU l).2.1, (decU l).2.2 + (decU l).2.1)
theorem rAt_any {w : World} {p : Nat} {ao : Option Addr} {cap : Nat} {bs : List UInt8} {k : Nat} (h : Rd w p ao cap bs k) :
  Calls Tryz.prog 89 #[.pointer (some ⟨p, 0, none⟩)] w fun e w' => e = .returned (.int .i64 k) ∧ w' = w := by
 have h1 : w.cell? ⟨p, 1, none⟩ = some (.int .i64 k) := blk_cell h.blk 1 rfl
 go_enter Tryz.func89, Tryz.ntmps89
 go_wp2
 go_ret
 exact ⟨rfl, rfl⟩
theorem Rd.keepsN {w w' : World} {p : Nat} {ao : Option Addr} {cap : Nat} {bs : List UInt8} {k : Nat} (h : Rd w p ao cap bs k) (hK : Keeps Nothing w w') : Rd w' p ao cap bs k :=
 ⟨hK.blk h.blk (fun h => h), hK.own h.own (fun _ _ h => h), h.le⟩
theorem Rd.put {w : World} {p : Nat} {ao : Option Addr} {cap : Nat} {bs : List UInt8} {k : Nat} (h : Rd w p ao cap bs k) {z : Int} (j : Nat) (hz : z = j) (hj : j ≤ bs.length) : Rd (w.setCell ⟨p, 1, none⟩ (.int .i64 z)) p ao cap bs j := by
 subst hz
 exact ⟨blk_set h.blk 1 _, ownsRow_setCell_other h.own (own_ne h.own h.blk (by decide)) _, hj⟩
set_option maxHeartbeats 400000 in
theorem rSmall_any {w : World} {p : Nat} {ao : Option Addr} {cap : Nat} {bs : List UInt8} {k : Nat} (h : Rd w p ao cap bs k) (hl : bs.length ≤ 1000000000) (most : Int) (hm : most < 9223372036854775808) :
  Calls Tryz.prog 64 #[.pointer (some ⟨p, 0, none⟩), .int .i64 most] w
   (RdPost w p ao cap bs (.int .i64 (decSmall most (bs.drop k)).2.1) (decSmall most (bs.drop k)).1 (posOf (decSmall most (bs.drop k)).1 k) (k + (decSmall most (bs.drop k)).2.2)) := by
 have hU := rUint h hl
 have hle := h.le
 unfold decSmall
 obtain ⟨⟨c, v, n⟩, hD⟩ : ∃ x, decU (bs.drop k) = x := ⟨_, rfl⟩
 have hok := decU_ok _ hD
 rw [hD] at hU ⊢
 clear hD
 by_cases hc : c = 0
 ·subst hc
  have hv := (hok.1 rfl).1
  clear hok
  by_cases hb : most < 0 ∨ most < (v : Int)
  ·simp only [ne_eq, not_true_eq_false, if_false, hb, if_true]
   have hcase : most < 0 ∨ (¬ most < 0 ∧ most < (v : Int)) := by omega
   clear hb
   rcases hcase with hneg | ⟨hneg, hgt⟩
   all_goals
    go_enter Tryz.func64, Tryz.ntmps64
    go_wp2_with fail
    refine (rAt_any h).mono ?_
    rintro e w0 ⟨rfl, rfl⟩
    go_wp2_with fail
    refine hU.mono ?_
    rintro e w' ⟨ev, rfl, hev, hR, hK⟩
    obtain rfl := isErr_no hev
    clear hev
    have h1 : w'.cell? ⟨p, 1, none⟩ = some (.int .i64 ((k + n : Nat) : Int)) := blk_cell hR.blk 1 rfl
    have hf := blk_free hR.blk 1
    go_wp2_with fail
    refine (bad_any (hR.put k rfl hle) 2 rfl).mono ?_
    rintro e w2 ⟨ev, rfl, hev, hK2⟩
    go_wp2_with fail
    go_ret2
    refine ⟨_, rfl, hev.mono (by simpa using hK.size), (hR.put k rfl hle).keepsN hK2, ?_⟩
    exact (hK.put rfl 1 _).trans hK2 (fun _ h _ => h.elim)
  ·simp only [ne_eq, not_true_eq_false, if_false, hb]
   have hneg : ¬ most < 0 := fun h => hb (.inl h)
   have hvm : ¬ most < (v : Int) := fun h => hb (.inr h)
   clear hb
   go_enter Tryz.func64, Tryz.ntmps64
   go_wp2_with fail
   refine (rAt_any h).mono ?_
   rintro e w0 ⟨rfl, rfl⟩
   go_wp2_with fail
   refine hU.mono ?_
   rintro e w' ⟨ev, rfl, hev, hR, hK⟩
   obtain rfl := isErr_no hev
   clear hev
   go_wp2_with fail
   go_ret2
   exact ⟨.nilIface, rfl, isErr_nil _ _, hR, hK⟩
 ·obtain ⟨rfl, rfl, _⟩ := hok.2 hc
  clear hok
  simp only [ne_eq, hc, not_false_eq_true, if_true]
  go_enter Tryz.func64, Tryz.ntmps64
  go_wp2_with fail
  refine (rAt_any h).mono ?_
  rintro e w0 ⟨rfl, rfl⟩
  go_wp2_with fail
  refine hU.mono ?_
  rintro e w' ⟨ev, rfl, hev, hR, hK⟩
  obtain ⟨b, rfl⟩ := isErr_yes hev (by omega)
  go_wp2_with fail
  go_ret2
  exact ⟨_, rfl, hev, hR, hK⟩
end Go.Proofs.YtjbcagbnagefcaaGreat
namespace Go.Proofs.YtjbcagbnagefcaaGreat
open Go.RowKit
set_option maxRecDepth 100000 in
set_option maxHeartbeats 1000000 in
theorem rText_any {w : World} {p : Nat} {ao : Option Addr} {cap : Nat} {bs : List UInt8} {k : Nat} (h : Rd w p ao cap bs k) (hl : bs.length ≤ 1000000000) (most : Int) (hm : most < 9223372036854775808) :
  Calls Tryz.prog 63 #[.pointer (some ⟨p, 0, none⟩), .int .i64 most] w
   (RdPost w p ao cap bs (.string ⟨(decText most (bs.drop k)).2.1.toArray⟩) (decText most (bs.drop k)).1 (posOf (decText most (bs.drop k)).1 k) (k + (decText most (bs.drop k)).2.2)) := by
 have hU := rUint h hl
 have hle := h.le
 unfold decText
 obtain ⟨⟨c, v, n⟩, hD⟩ : ∃ x, decU (bs.drop k) = x := ⟨_, rfl⟩
 have hok := decU_ok _ hD
 rw [hD] at hU ⊢
 clear hD
 simp only [List.length_drop, List.drop_drop]
 by_cases hc : c = 0
 ·subst hc
  have hv := (hok.1 rfl).1
  have hn := (hok.1 rfl).2.1
  have hn0 := (hok.1 rfl).2.2
  rw [List.length_drop] at hn
  clear hok
  by_cases hb : most < 0 ∨ most < (v : Int)
  ·simp only [ne_eq, not_true_eq_false, if_false, hb, if_true]
   have hcase : most < 0 ∨ (¬ most < 0 ∧ most < (v : Int)) := by omega
   clear hb
   rcases hcase with hneg | ⟨hneg, hgt⟩
   all_goals
    go_enter Tryz.func63, Tryz.ntmps63
    go_wp2_with fail
    refine (rAt_any h).mono ?_
    rintro e w0 ⟨rfl, rfl⟩
    go_wp2_with fail
    refine hU.mono ?_
    rintro e w' ⟨ev, rfl, hev, hR, hK⟩
    obtain rfl := isErr_no hev
    clear hev
    have h1 : w'.cell? ⟨p, 1, none⟩ = some (.int .i64 ((k + n : Nat) : Int)) := blk_cell hR.blk 1 rfl
    have hf := blk_free hR.blk 1
    go_wp2_with fail
    refine (bad_any (hR.put k rfl hle) 5 rfl).mono ?_
    rintro e w2 ⟨ev, rfl, hev, hK2⟩
    go_wp2_with fail
    go_ret2
    refine ⟨_, rfl, hev.mono (by simpa using hK.size), (hR.put k rfl hle).keepsN hK2, ?_⟩
    exact (hK.put rfl 1 _).trans hK2 (fun _ h _ => h.elim)
  ·simp only [ne_eq, not_true_eq_false, if_false, hb]
   have hneg : ¬ most < 0 := fun h => hb (.inl h)
   have hvm : ¬ most < (v : Int) := fun h => hb (.inr h)
   clear hb
   by_cases hs : bs.length - (k + n) < v
   ·simp only [hs, if_true]
    go_enter Tryz.func63, Tryz.ntmps63
    go_wp2_with fail
    refine (rAt_any h).mono ?_
    rintro e w0 ⟨rfl, rfl⟩
    go_wp2_with fail
    refine hU.mono ?_
    rintro e w' ⟨ev, rfl, hev, hR, hK⟩
    obtain rfl := isErr_no hev
    clear hev
    have h0 : w'.cell? ⟨p, 0, none⟩ = some (.slice ao bs.length cap) := blk_cell hR.blk 0 rfl
    have h1 : w'.cell? ⟨p, 1, none⟩ = some (.int .i64 ((k + n : Nat) : Int)) := blk_cell hR.blk 1 rfl
    have hf := blk_free hR.blk 1
    go_wp2_with fail
    refine (bad_any (hR.put k rfl hle) 3 rfl).mono ?_
    rintro e w2 ⟨ev, rfl, hev, hK2⟩
    go_wp2_with fail
    go_ret2
    refine ⟨_, rfl, hev.mono (by simpa using hK.size), (hR.put k rfl hle).keepsN hK2, ?_⟩
    exact (hK.put rfl 1 _).trans hK2 (fun _ h _ => h.elim)
   ·simp only [hs, if_false]
    have hne : bs ≠ [] := fun e => by rw [e] at hn hle; simp only [List.length_nil] at hn hle; omega
    obtain ⟨g, rfl⟩ := own8_head h.own hne
    have hcp := own8_cap h.own
    by_cases hcap : cap = k + n
    ·obtain rfl : v = 0 := by omega
     subst hcap
     rw [show (bs.drop (k + n)).take 0 = [] from List.take_zero ..]
     go_enter Tryz.func63, Tryz.ntmps63
     go_wp2_with fail
     refine (rAt_any h).mono ?_
     rintro e w0 ⟨rfl, rfl⟩
     go_wp2_with fail
     refine hU.mono ?_
     rintro e w' ⟨ev, rfl, hev, hR, hK⟩
     obtain rfl := isErr_no hev
     clear hev
     have h0 : w'.cell? ⟨p, 0, none⟩ = some (.slice (some ⟨g, 0, none⟩) bs.length (k + n)) := blk_cell hR.blk 0 rfl
     have h1 : w'.cell? ⟨p, 1, none⟩ = some (.int .i64 ((k + n : Nat) : Int)) := blk_cell hR.blk 1 rfl
     have hf := blk_free hR.blk 1
     go_wp2_with fail
     have hR2 := (hR.put k rfl hle).put (k + n + 0) (z := (k : Int) + n) (by omega) (by omega)
     have hKW : Keeps (fun i => i = p) w0 ((w'.setCell ⟨p, 1, none⟩ (.int .i64 k)).setCell ⟨p, 1, none⟩ (.int .i64 ((k : Int) + n))) := (hK.put rfl 1 _).put rfl 1 _
     have hsl : ∀ w, (Instr.slice 22 (.slice (some ⟨g, 0, none⟩) bs.length (k + n)) (some (.int .i64 ((k : Int) + n))) (some (.int .i64 ((k : Int) + n))) none).run Tryz.prog w = .ok (.slice (some ⟨g, 0, none⟩) 0 0) w := fun w => by
      rw [run_slice_lh w 22 _ _ _ rfl _ _ _ _ (by omega) (by omega) (by omega)]
      rw [show ((k : Int) + n).toNat = k + n by omega]
      rw [show (sizeOf (Tryz.prog.elem 22)).run Tryz.prog w = .ok 1 w by kernel_rfl]
      simp [sliced]
     have hconv := fun m => run_str (((w'.setCell ⟨p, 1, none⟩ (.int .i64 k)).setCell ⟨p, 1, none⟩ (.int .i64 ((k : Int) + n))).drewN m) 0 [] (l := 0) rfl (bytesAt_nil (some ⟨g, 0, none⟩))
     generalize hW : (w'.setCell ⟨p, 1, none⟩ (.int .i64 k)).setCell ⟨p, 1, none⟩ (.int .i64 ((k : Int) + n)) = W at *
     clear hW h0 h1 hf
     have h0 : W.cell? ⟨p, 0, none⟩ = some (.slice (some ⟨g, 0, none⟩) bs.length (k + n)) := blk_cell hR2.blk 0 rfl
     have h1 : W.cell? ⟨p, 1, none⟩ = some (.int .i64 ((k + n + 0 : Nat) : Int)) := blk_cell hR2.blk 1 rfl
     go_quiet (fail)
     go_wp2_with fail
     go_ret2
     exact ⟨.nilIface, rfl, isErr_nil _ _, hR2.drewN _, hKW.drewN _⟩
    ·rw [← Nat.add_assoc]
     go_enter Tryz.func63, Tryz.ntmps63
     go_wp2_with fail
     refine (rAt_any h).mono ?_
     rintro e w0 ⟨rfl, rfl⟩
     go_wp2_with fail
     refine hU.mono ?_
     rintro e w' ⟨ev, rfl, hev, hR, hK⟩
     obtain rfl := isErr_no hev
     clear hev
     have h0 : w'.cell? ⟨p, 0, none⟩ = some (.slice (some ⟨g, 0, none⟩) bs.length cap) := blk_cell hR.blk 0 rfl
     have h1 : w'.cell? ⟨p, 1, none⟩ = some (.int .i64 ((k + n : Nat) : Int)) := blk_cell hR.blk 1 rfl
     have hf := blk_free hR.blk 1
     go_wp2_with fail
     have hR2 := (hR.put k rfl hle).put (k + n + v) (z := (k : Int) + n + v) (by omega) (by omega)
     have hKW : Keeps (fun i => i = p) w0 ((w'.setCell ⟨p, 1, none⟩ (.int .i64 k)).setCell ⟨p, 1, none⟩ (.int .i64 ((k : Int) + n + v))) := (hK.put rfl 1 _).put rfl 1 _
     have hconv := fun m => run_str (((w'.setCell ⟨p, 1, none⟩ (.int .i64 k)).setCell ⟨p, 1, none⟩ (.int .i64 ((k : Int) + n + v))).drewN m) (cap - (k + n)) ((bs.drop (k + n)).take v) (l := v) (by rw [List.length_take, List.length_drop]; omega) (bytesAt_take (own8_at (hR2.drewN m).own) (k + n) v)
     simp only [Nat.zero_add] at hconv
     generalize hW : (w'.setCell ⟨p, 1, none⟩ (.int .i64 k)).setCell ⟨p, 1, none⟩ (.int .i64 ((k : Int) + n + v)) = W at *
     clear hW h0 h1 hf
     have h0 : W.cell? ⟨p, 0, none⟩ = some (.slice (some ⟨g, 0, none⟩) bs.length cap) := blk_cell hR2.blk 0 rfl
     have h1 : W.cell? ⟨p, 1, none⟩ = some (.int .i64 ((k + n + v : Nat) : Int)) := blk_cell hR2.blk 1 rfl
     go_quiet (fail)
     go_wp2_with fail
     go_ret2
     exact ⟨.nilIface, rfl, isErr_nil _ _, hR2.drewN _, hKW.drewN _⟩
 ·obtain ⟨rfl, rfl, _⟩ := hok.2 hc
  clear hok
  simp only [ne_eq, hc, not_false_eq_true, if_true]
  go_enter Tryz.func63, Tryz.ntmps63
  go_wp2_with fail
  refine (rAt_any h).mono ?_
  rintro e w0 ⟨rfl, rfl⟩
  go_wp2_with fail
  refine hU.mono ?_
  rintro e w' ⟨ev, rfl, hev, hR, hK⟩
  obtain ⟨b, rfl⟩ := isErr_yes hev (by omega)
  go_wp2_with fail
  go_ret2
  exact ⟨_, rfl, hev, hR, hK⟩
end Go.Proofs.YtjbcagbnagefcaaGreat
namespace Go.Proofs.YtjbcagbnagefcaaGreat
open Go.RowKit
attribute [local go_sem ↓] exec_load_hash exec_store_hash Go.wp_at_zero Go.wp_at_succ
end Go.Proofs.YtjbcagbnagefcaaGreat
namespace Go.Proofs.YtjbcagbnagefcaaGreat
open Go.RowKit
def NewRd (w : World) (bs : List UInt8) (e : Ending) (w' : World) : Prop :=
 ∃ q ao' cap', e = .returned (.pointer (some ⟨q, 0, none⟩)) ∧ Rd w' q ao' cap' bs 0 ∧ Keeps Nothing w w' ∧ w.heap.size ≤ q ∧ (∀ g, blockOf ao' = some g → w.heap.size ≤ g)
set_option maxHeartbeats 400000 in
theorem newReader_any {w : World} {ao : Option Addr} (c : Nat) {bs : List UInt8} (h : BytesAt w ao bs) (hl : bs.length ≤ 1000000000) :
  Calls Tryz.prog 30 #[.slice ao bs.length c] w (NewRd w bs) := by
 have ha : ∀ a, ao = some a → a.block < w.heap.size ∨ bs = [] := fun a e => by
  cases bs with
  | nil => exact .inr rfl
  | cons x r =>
   have hc := h.2 a e 0 x rfl
   have := World.block_lt_of_cell? _ _ hc
   have e2 : (a.add 0).block = a.block := by unfold Addr.add; split <;> rfl
   rw [e2] at this
   exact .inl this
 have h' : BytesAt (w.alloc (.cells #[] 5)) ao bs := h.keeps ((Keeps.refl Nothing w).alloc _) (fun _ _ h => h)
 clear ha
 go_enter Tryz.func30, Tryz.ntmps30
 go_wp2_with (at_builtin; refine wpList_app8 _ rfl (.tmp 3) (.tmp 4) 22 rfl (some ⟨w.heap.size, 0, none⟩) 0 [] rfl (own8_empty w) _ rfl bs (src_at c h') ?c2 ?c3 ?_)
 case c2 => simp
 case c3 => omega
 intro ao1 cap1 w1 ho1 hk1 hm1
 go_wp2_with fail
 go_ret
 have hK1 : Keeps Nothing w w1 := ((Keeps.refl Nothing w).alloc _).trans hk1 (fun i hi hlt => by simp [blockOf] at hi; omega)
 refine ⟨_, ao1, cap1, rfl, ⟨blk_new w1 _ _, World.ownsRow.alloc ho1 _, Nat.zero_le _⟩, hK1.alloc _, hK1.size, ?_⟩
 intro g hg
 rcases hm1 with h | ⟨g', h, hg'⟩
 ·rw [h] at hg; simp [blockOf] at hg; omega
 ·rw [h] at hg; obtain rfl := Option.some.inj hg; omega
end Go.Proofs.YtjbcagbnagefcaaGreat
namespace Go.Proofs.YtjbcagbnagefcaaGreat
open Go.RowKit
end Go.Proofs.YtjbcagbnagefcaaGreat
namespace Go.Proofs.YtjbcagbnagefcaaGreat
open Go.RowKit
theorem decGo_enc : ∀ (x i a : Nat) (rest : List UInt8), x * 128 ^ i < 18446744073709551616 → (i = 0 ∨ 0 < x) → decGo i a (encU x ++ rest) = (0, a + x * 128 ^ i, i + (encU x).length) := by
 intro x
 induction x using Nat.strongRecOn with
 | ind x ih =>
  intro i a rest hx hi
  have hp : 0 < 128 ^ i := Nat.pow_pos (by omega)
  by_cases hlt : x < 128
  ·rw [encU_lt hlt]
   have ht : (UInt8.ofNat x).toNat = x := UInt8.toNat_ofNat_of_lt' (show x < UInt8.size by show x < 256; omega)
   have hc : ¬ ((i = 9 ∧ 1 < (UInt8.ofNat x).toNat) ∨ (0 < i ∧ (UInt8.ofNat x).toNat = 0)) := by
    rw [ht]
    rintro (⟨rfl, h⟩ | ⟨h, h0⟩)
    ·have : 2 * 128 ^ 9 ≤ x * 128 ^ 9 := Nat.mul_le_mul_right _ (by omega)
     have h2 : (18446744073709551616 : Nat) ≤ 2 * 128 ^ 9 := by decide +kernel
     omega
    ·omega
   show decGo i a (UInt8.ofNat x :: ([] ++ rest)) = _
   rw [decGo, if_neg hc, ht, if_pos hlt, Nat.mod_eq_of_lt hlt]
   rfl
  ·rw [encU_ge hlt]
   have ht : (UInt8.ofNat (x % 128 + 128)).toNat = x % 128 + 128 := UInt8.toNat_ofNat_of_lt' (show x % 128 + 128 < UInt8.size by show _ < 256; omega)
   have h9 : i ≠ 9 := by
    rintro rfl
    have : 128 * 128 ^ 9 ≤ x * 128 ^ 9 := Nat.mul_le_mul_right _ (by omega)
    have h2 : (18446744073709551616 : Nat) ≤ 128 * 128 ^ 9 := by decide +kernel
    omega
   have hc : ¬ ((i = 9 ∧ 1 < (UInt8.ofNat (x % 128 + 128)).toNat) ∨ (0 < i ∧ (UInt8.ofNat (x % 128 + 128)).toNat = 0)) := by
    rw [ht]; omega
   show decGo i a (UInt8.ofNat (x % 128 + 128) :: (encU (x / 128) ++ rest)) = _
   have hdm := Nat.div_add_mod x 128
   have hmul : x * 128 ^ i = x / 128 * 128 ^ (i + 1) + x % 128 * 128 ^ i := by
    rw [Nat.pow_succ]
    have : x * 128 ^ i = (128 * (x / 128) + x % 128) * 128 ^ i := by rw [hdm]
    rw [this, Nat.add_mul, Nat.mul_comm 128 (x / 128), Nat.mul_assoc, Nat.mul_comm 128 (128 ^ i)]
   rw [decGo, if_neg hc, ht, if_neg (by omega), ih (x / 128) (by omega) (i + 1) _ rest (by omega) (by right; omega)]
   have hm : (x % 128 + 128) % 128 = x % 128 := by omega
   rw [hm, hmul, List.length_cons]
   simp only [Prod.mk.injEq, true_and]
   omega
theorem decU_enc (x : Nat) (hx : x < 18446744073709551616) (rest : List UInt8) : decU (encU x ++ rest) = (0, x, (encU x).length) := by
 unfold decU
 rw [decGo_enc x 0 0 rest (by simpa using hx) (.inl rfl)]
 simp
theorem decText_enc (s : List UInt8) (most : Int) (hs : s.length < 18446744073709551616) (hm : (s.length : Int) ≤ most) (rest : List UInt8) : decText most (encS s ++ rest) = (0, s, (encS s).length) := by
 unfold decText encS
 rw [List.append_assoc, decU_enc _ hs]
 have hd : (encU s.length ++ (s ++ rest)).drop (encU s.length).length = s ++ rest := List.drop_left
 simp only [ne_eq, not_true_eq_false, if_false, hd]
 rw [if_neg (by omega), if_neg (by rw [List.length_append]; omega), List.take_left, List.length_append]
end Go.Proofs.YtjbcagbnagefcaaGreat
namespace Go.Proofs.YtjbcagbnagefcaaGreat
open Go.RowKit
theorem infoHash2 : (Tryz.prog.info? 60).map (·.size) = some 32 := by kernel_rfl
theorem exec_mid_hash (ρ : Operand → Value) (dst : Option Tmp) (x : Operand) (ty' : TypeId) (pos : String) (af : Array Edge) (gd : Option (Nat × Bool)) (w : World) (h : midOkV w 32 (ρ x) = true) :
  (execOp ρ ⟨dst, .load 60 x, ty', pos, af, gd⟩).run Tryz.prog w = .ok (.value (.agg (midOfV w 32 (ρ x)))) w :=
 exec_load_mid _ 32 _ Tryz.underlying60 rfl infoHash2 ρ dst x ty' pos af gd w h
attribute [local go_sem ↓] exec_mid_hash
end Go.Proofs.YtjbcagbnagefcaaGreat
namespace Go.Proofs.YtjbcagbnagefcaaGreat
open Go.RowKit Go.ChangeShapes Go.WideShapes
section
variable {H : Type} {enc : TypeId × Value → H} {w : World} {base : Nat} {spare : Nat → Bool} {held : Bool}
end
end Go.Proofs.YtjbcagbnagefcaaGreat
namespace Go.Proofs.YtjbcagbnagefcaaGreat
open Go.RowKit
theorem newReader_len {w : World} {ao : Option Addr} (c : Nat) {bs : List UInt8} {n : Nat} (hn : bs.length = n) (h : BytesAt w ao bs) (hl : bs.length ≤ 1000000000) :
  Calls Tryz.prog 30 #[.slice ao n c] w (NewRd w bs) := by
 subst hn; exact newReader_any c h hl
end Go.Proofs.YtjbcagbnagefcaaGreat
namespace Go.Proofs.YtjbcagbnagefcaaGreat
open Go.RowKit
end Go.Proofs.YtjbcagbnagefcaaGreat
namespace Go.Proofs.YtjbcagbnagefcaaGreat
open Go.RowKit
end Go.Proofs.YtjbcagbnagefcaaGreat
namespace Go.Proofs.YtjbcagbnagefcaaGreat
open Go.RowKit
end Go.Proofs.YtjbcagbnagefcaaGreat
namespace Go.Proofs.YtjbcagbnagefcaaGreat
open Go.RowKit
structure Gt (w : World) (g p : Nat) (ao : Option Addr) (cap : Nat) (bs : List UInt8) (st : Option Nat) : Prop where
 blk : Blk w g #[.pointer (some ⟨p, 0, none⟩), .bool st.isNone] 82
 rd : ∃ k, Rd w p ao cap bs k ∧ ∀ j, st = some j → k = j
def GF (g p : Nat) : Nat → Prop := fun i => i = g ∨ i = p
def gT (t : TypeId) : Prop := t = 82 ∨ t = 125 ∨ t = 5
section
variable {w w' : World} {g p : Nat} {ao : Option Addr} {cap : Nat} {bs : List UInt8} {st : Option Nat}
theorem own8_blk {e : TypeId} (h : Own8 w e ao cap bs) {b : Nat} (hb : (Value.slice ao bs.length cap).ownBlock = some b) : ∃ cur, Blk w b cur e := by
 rcases h.2 with ⟨hv, _⟩ | ⟨g', cap', cur, hv, _, hg, _⟩
 ·simp at hv
  rw [hv.1] at hb
  simp [Value.ownBlock] at hb
 ·simp only [Value.slice.injEq] at hv
  rw [hv.1] at hb
  simp only [Value.ownBlock, Option.some.injEq] at hb
  subst hb
  exact ⟨cur, hg⟩
theorem Gt.keeps {S : Nat → Prop} (h : Gt w g p ao cap bs st) (K : Keeps S w w') (hn : ∀ (i : Nat) (C : Array Value) (t : TypeId), Blk w i C t → gT t → ¬ S i) : Gt w' g p ao cap bs st := by
 obtain ⟨h1, k, h2, h3⟩ := h
 refine ⟨K.blk h1 (hn _ _ _ h1 (.inl rfl)), k, ⟨K.blk h2.blk (hn _ _ _ h2.blk (.inr (.inl rfl))), K.own h2.own (fun b hb => ?_), h2.le⟩, h3⟩
 obtain ⟨cur, hc⟩ := own8_blk h2.own hb
 exact hn _ _ _ hc (.inr (.inr rfl))
theorem Gt.keepsN (h : Gt w g p ao cap bs st) (K : Keeps Nothing w w') : Gt w' g p ao cap bs st := h.keeps K (fun _ _ _ _ _ h => h)
theorem Gt.lt (h : Gt w g p ao cap bs st) : g < w.heap.size ∧ p < w.heap.size := by
 obtain ⟨h1, k, h2, h3⟩ := h
 exact ⟨lt_of_block h1, lt_of_block h2.blk⟩
theorem box_not {q : Nat} {C : Array Value} {T : TypeId} (hb : Blk w q C T) (hT : ¬ gT T) : ∀ (i : Nat) (C : Array Value) (t : TypeId), Blk w i C t → gT t → ¬ (fun i => i = q) i := fun i C t h ht hq => by
 have hq' : i = q := hq
 subst hq'
 exact hT (blk_ty hb h ▸ ht)
end
def Got (bs : List UInt8) (st : Option Nat) (E : List UInt8) (P : Prop) (st' : Option Nat) : Prop := ∀ k r, st = some k → bs.drop k = E ++ r → P ∧ st' = some (k + E.length)
section
variable {bs : List UInt8} {st st1 st2 : Option Nat} {E1 E2 : List UInt8} {P Q : Prop}
theorem Got.none : Got bs none E1 P st1 := fun k r h => by cases h
theorem Got.then (h : Got bs st E1 P st1) (h2 : P → Got bs st1 E2 Q st2) : Got bs st (E1 ++ E2) (P ∧ Q) st2 := fun k r hk hr => by
 rw [List.append_assoc] at hr
 obtain ⟨q1, q2⟩ := h k (E2 ++ r) hk hr
 have e : bs.drop (k + E1.length) = E2 ++ r := by rw [← List.drop_drop, hr, List.drop_left]
 obtain ⟨q3, q4⟩ := h2 q1 _ r q2 e
 exact ⟨⟨q1, q3⟩, by rw [q4, List.length_append, Nat.add_assoc]⟩
theorem Got.mono (h : Got bs st E1 P st1) (hp : P → Q) : Got bs st E1 Q st1 := fun k r hk hr => by
 obtain ⟨q1, q2⟩ := h k r hk hr
 exact ⟨hp q1, q2⟩
theorem Got.nil (hp : P) : Got bs st [] P st := fun k r hk hr => ⟨hp, by simpa using hk⟩
end
def GNum (w : World) (g p : Nat) (ao : Option Addr) (cap : Nat) (bs : List UInt8) (st : Option Nat) (most : Nat) (e : Ending) (w' : World) : Prop :=
 ∃ (z : Nat) (st' : Option Nat), e = .returned (.int .i64 z) ∧ z ≤ most ∧ Gt w' g p ao cap bs st' ∧ Keeps (GF g p) w w' ∧ ∀ n, n ≤ most → Got bs st (encU n) (z = n) st'
def GTxt (w : World) (g p : Nat) (ao : Option Addr) (cap : Nat) (bs : List UInt8) (st : Option Nat) (e : Ending) (w' : World) : Prop :=
 ∃ (z : List UInt8) (st' : Option Nat), e = .returned (.string ⟨z.toArray⟩) ∧ z.length ≤ 66 ∧ (st' = none → z = []) ∧ Gt w' g p ao cap bs st' ∧ Keeps (GF g p) w w' ∧ ∀ s : List UInt8, s.length ≤ 66 → Got bs st (encS s) (z = s) st'
theorem decSmall_le (most : Nat) (l : List UInt8) : (decSmall most l).2.1 ≤ most := by
 unfold decSmall
 split
 ·exact Nat.zero_le _
 ·split
  ·exact Nat.zero_le _
  ·omega
theorem decSmall_enc (n most : Nat) (h : n ≤ most) (hm : most ≤ 1000) (r : List UInt8) : decSmall most (encU n ++ r) = (0, n, (encU n).length) := by
 unfold decSmall
 rw [decU_enc n (by omega) r]
 simp only [ne_eq, not_true_eq_false, if_false]
 rw [if_neg (by omega)]
theorem decText_no (l : List UInt8) (h : (decText 66 l).1 ≠ 0) : (decText 66 l).2.1 = [] := by
 unfold decText at h ⊢
 split
 ·rfl
 ·split
  ·rfl
  ·split
   ·rfl
   ·rename_i h1 h2 h3
    rw [if_neg h1, if_neg h2, if_neg h3] at h
    exact absurd rfl h
theorem decText_le (l : List UInt8) : (decText 66 l).2.1.length ≤ 66 := by
 unfold decText
 split
 ·simp
 ·split
  ·simp
  ·split
   ·simp
   ·simp only [List.length_take]; omega
section
variable {w : World} {g p : Nat} {ao : Option Addr} {cap : Nat} {bs : List UInt8} {st : Option Nat}
theorem gt_mark {w1 : World} {k k' : Nat} {c : Nat} (h : Gt w g p ao cap bs (some k)) (h1 : Rd w1 p ao cap bs k') (K : Keeps (fun i => i = p) w w1) : Gt (w1.setCell ⟨g, 1, none⟩ (.bool (!decide (c = 0)))) g p ao cap bs (if c = 0 then some k' else none) ∧ Keeps (GF g p) w (w1.setCell ⟨g, 1, none⟩ (.bool (!decide (c = 0)))) ∧ w1.cell? ⟨g, 1, none⟩ = some (.bool false) ∧ w1.frozen? ⟨g, 1, none⟩ = false := by
 have hne : g ≠ p := fun q => by
  obtain ⟨h1, k, h2, h3⟩ := h
  subst q
  exact absurd (blk_ty h1 h2.blk) (by decide)
 have hb := K.blk h.blk (fun q => hne q)
 have hs := blk_set hb 1 (.bool (!decide (c = 0)))
 refine ⟨⟨?_, k', ⟨blk_other h1.blk ⟨g, 1, none⟩ (fun q => hne q.symm) _, ?_, h1.le⟩, fun j hj => ?_⟩, (K.mono (fun i hi _ => .inr hi)).trans ((Keeps.refl (fun i => i = g) w1).setCell (p := ⟨g, 1, none⟩) (fun _ => rfl) _) (fun i hi _ => .inl hi), blk_cell hb 1 rfl, blk_free hb 1⟩
 ·by_cases hc : c = 0
  ·rw [if_pos hc]
   simpa [hc] using hs
  ·rw [if_neg hc]
   simpa [hc] using hs
 ·exact ownsRow_setCell_other h1.own (own_ne h1.own hb (by decide)) _
 ·by_cases hc : c = 0
  ·rw [if_pos hc] at hj
   exact Option.some.inj hj
  ·rw [if_neg hc] at hj
   cases hj
set_option maxRecDepth 100000 in
set_option maxHeartbeats 1000000 in
theorem gnum_any (h : Gt w g p ao cap bs st) (hl : bs.length ≤ 1000000000) (most : Nat) (hm : most ≤ 1000) : Calls Tryz.prog 32 #[.pointer (some ⟨g, 0, none⟩), .int .i64 most] w (GNum w g p ao cap bs st most) := by
 have c0 := blk_cell h.blk 0 rfl
 have c1 := blk_cell h.blk 1 rfl
 have HG := shut h
 cases st with
 | none =>
  simp only [Option.isNone_none] at c1
  have HF : Shut (GNum w g p ao cap bs none most (.returned (.int .i64 0)) w) := shut ⟨0, none, rfl, Nat.zero_le _, h, Keeps.refl _ _, fun _ _ => Got.none⟩
  clear h
  go_enter Tryz.func32, Tryz.ntmps32
  go_wp2_with fail
  go_ret
  exact HF.out
 | some k =>
  simp only [Option.isNone_some] at c1
  obtain ⟨k', hR, hk⟩ := h.rd
  obtain rfl := hk k rfl
  have hc := rSmall_any hR hl most (by omega)
  have hle := decSmall_le most (bs.drop k')
  have HD : Shut (∀ n, n ≤ most → ∀ r, bs.drop k' = encU n ++ r → decSmall most (bs.drop k') = (0, n, (encU n).length)) := shut (fun n hn r hr => by rw [hr]; exact decSmall_enc n most hn hm r)
  obtain ⟨⟨c, z, n⟩, hd⟩ : ∃ x, decSmall (most : Int) (bs.drop k') = x := ⟨_, rfl⟩
  rw [hd] at hc hle HD
  simp only at hc hle
  clear hd h hR
  go_enter Tryz.func32, Tryz.ntmps32
  go_wp2_with fail
  refine hc.mono ?_
  rintro e w1 ⟨ev, rfl, hE, hR1, k1⟩
  clear hc c0 c1
  obtain ⟨hG, hK, c1, f1⟩ := gt_mark (c := c) HG.out hR1 k1
  have HF : Shut (GNum w g p ao cap bs (some k') most (.returned (.int .i64 z)) (w1.setCell ⟨g, 1, none⟩ (.bool (!decide (c = 0))))) := shut ⟨z, _, rfl, hle, hG, hK, fun n hn k r hkk hr => by
   obtain rfl := Option.some.inj hkk
   have := HD.out n hn r hr
   simp only [Prod.mk.injEq] at this
   obtain ⟨rfl, rfl, rfl⟩ := this
   exact ⟨rfl, by rw [if_pos rfl]⟩⟩
  clear hG hK hR1 k1 HG HD
  by_cases hc0 : c = 0
  ·subst hc0
   obtain rfl := isErr_no hE
   clear hE
   simp only [decide_true, Bool.not_true] at HF
   go_wp2_with fail
   any_goals try (rename_i hfz; simp [f1] at hfz; done)
   go_ret
   exact HF.out
  ·obtain ⟨b, rfl⟩ := isErr_yes hE (by omega)
   clear hE
   simp only [hc0, decide_false, Bool.not_false] at HF
   go_wp2_with fail
   any_goals try (rename_i hfz; simp [f1] at hfz; done)
   go_ret
   exact HF.out
set_option maxRecDepth 100000 in
set_option maxHeartbeats 1000000 in
theorem gtext_any (h : Gt w g p ao cap bs st) (hl : bs.length ≤ 1000000000) : Calls Tryz.prog 31 #[.pointer (some ⟨g, 0, none⟩)] w (GTxt w g p ao cap bs st) := by
 have c0 := blk_cell h.blk 0 rfl
 have c1 := blk_cell h.blk 1 rfl
 have HG := shut h
 cases st with
 | none =>
  simp only [Option.isNone_none] at c1
  have HF : Shut (GTxt w g p ao cap bs none (.returned (.string ⟨#[]⟩)) w) := shut ⟨[], none, rfl, Nat.zero_le _, fun _ => rfl, h, Keeps.refl _ _, fun _ _ => Got.none⟩
  clear h
  go_enter Tryz.func31, Tryz.ntmps31
  go_wp2_with fail
  go_ret
  exact HF.out
 | some k =>
  simp only [Option.isNone_some] at c1
  obtain ⟨k', hR, hk⟩ := h.rd
  obtain rfl := hk k rfl
  have hc := rText_any hR hl 66 (by omega)
  have hle := decText_le (bs.drop k')
  have hno := decText_no (bs.drop k')
  have HD : Shut (∀ s : List UInt8, s.length ≤ 66 → ∀ r, bs.drop k' = encS s ++ r → decText 66 (bs.drop k') = (0, s, (encS s).length)) := shut (fun s hs r hr => by rw [hr]; exact decText_enc s 66 (by omega) (by omega) r)
  obtain ⟨⟨c, z, n⟩, hd⟩ : ∃ x, decText 66 (bs.drop k') = x := ⟨_, rfl⟩
  rw [hd] at hc hle HD hno
  simp only at hc hle hno
  have HNO := shut hno
  clear hno
  clear hd h hR
  go_enter Tryz.func31, Tryz.ntmps31
  go_wp2_with fail
  refine hc.mono ?_
  rintro e w1 ⟨ev, rfl, hE, hR1, k1⟩
  clear hc c0 c1
  obtain ⟨hG, hK, c1, f1⟩ := gt_mark (c := c) HG.out hR1 k1
  have HF : Shut (GTxt w g p ao cap bs (some k') (.returned (.string ⟨z.toArray⟩)) (w1.setCell ⟨g, 1, none⟩ (.bool (!decide (c = 0))))) := shut ⟨z, _, rfl, hle, fun q => by by_cases q0 : c = 0; rw [if_pos q0] at q; cases q; exact HNO.out q0, hG, hK, fun s hs k r hkk hr => by
   obtain rfl := Option.some.inj hkk
   have := HD.out s hs r hr
   simp only [Prod.mk.injEq] at this
   obtain ⟨rfl, rfl, rfl⟩ := this
   exact ⟨rfl, by rw [if_pos rfl]⟩⟩
  clear hG hK hR1 k1 HG HD
  by_cases hc0 : c = 0
  ·subst hc0
   obtain rfl := isErr_no hE
   clear hE
   simp only [decide_true, Bool.not_true] at HF
   go_wp2_with fail
   any_goals try (rename_i hfz; simp [f1] at hfz; done)
   go_ret
   exact HF.out
  ·obtain ⟨b, rfl⟩ := isErr_yes hE (by omega)
   clear hE
   simp only [hc0, decide_false, Bool.not_false] at HF
   go_wp2_with fail
   any_goals try (rename_i hfz; simp [f1] at hfz; done)
   go_ret
   exact HF.out
end
def GTxs (w : World) (g p : Nat) (ao : Option Addr) (cap : Nat) (bs : List UInt8) (st : Option Nat) (e : Ending) (w' : World) : Prop :=
 ∃ (L : List (List UInt8)) (a : Option Addr) (c : Nat) (st' : Option Nat), e = .returned (.slice a L.length c) ∧ SlIs (NewA w.heap.size w') w' 1 TxIs a L ∧ Gt w' g p ao cap bs st' ∧ Keeps (GF g p) w w' ∧ ∀ l : List (List UInt8), (∀ s ∈ l, s.length ≤ 66) → l.length ≤ 64 → Got bs st (encTs l) (L = l) st'
set_option maxRecDepth 100000 in
set_option maxHeartbeats 2000000 in
theorem gtexts_any {w : World} {g p : Nat} {ao : Option Addr} {cap : Nat} {bs : List UInt8} {st : Option Nat} (h : Gt w g p ao cap bs st) (hl : bs.length ≤ 1000000000) : Calls Tryz.prog 33 #[.pointer (some ⟨g, 0, none⟩)] w (GTxs w g p ao cap bs st) := by
 have hlt := h.lt
 have hgw : g < w.heap.size := hlt.1
 have hpw : p < w.heap.size := hlt.2
 have hc := gnum_any h hl 64 (by omega)
 clear h hlt
 go_enter Tryz.func33, Tryz.ntmps33
 go_wp2_with fail
 refine hc.mono ?_
 rintro e w1 ⟨n, st1, rfl, hn, hG, hK, hgot⟩
 have HN := shut hgot
 have HG := shut hG
 have HK := shut hK
 clear hc hgot hG hK
 go_wp2_with fail
 go_loopw [3, 6] (fun s3 s6 wx => ∃ (t : Nat) (L : List (List UInt8)) (aL : Option Addr) (cL : Nat) (st2 : Option Nat), s6 = .int .i64 t ∧ s3 = .slice aL t cL ∧ t ≤ n ∧ Gt wx g p ao cap bs st2 ∧ Keeps (GF g p) w wx ∧ Shut (L.length = t ∧ RowR wx 9 aL cL (L.map txV) ∧ (∀ x ∈ L, x.length ≤ 66) ∧ (∀ b, blockOf aL = some b → w.heap.size ≤ b) ∧ ∀ l : List (List UInt8), (∀ s ∈ l, s.length ≤ 66) → l.length = n → Got bs st1 ((l.take t).map encS).flatten (L = l.take t) st2)) (fun _ s6 _ => n - (intOf s6).toNat)
 case atStart => exact ⟨0, [], none, 0, st1, rfl, rfl, Nat.zero_le _, HG.out, HK.out, shut ⟨rfl, rowR_nil _ _, (fun x hx => by cases hx), (fun b hb => by cases hb), fun l _ _ => Got.nil rfl⟩⟩
 case round =>
  clear HG HK
  obtain ⟨t, L, aL, cL, st2, rfl, rfl, ht, hG, hK, HR⟩ := hrel
  by_cases hltt : t < n
  ·have m1 : (t : Int) < n := by omega
   have hc := gtext_any hG hl
   have HK := shut hK
   clear hG hK
   go_wp2_with fail
   refine hc.mono ?_
   rintro e w2 ⟨z, st3, rfl, hz, -, hG, hK, hgot⟩
   have hszw : w.heap.size ≤ wr.heap.size := HK.out.size
   have hne : ∀ b, blockOf aL = some b → ¬ GF g p b := fun b hb q => by have := HR.out.2.2.2.1 b hb; rcases q with q | q <;> omega
   have KT := HK.out.trans hK (fun _ h _ => h)
   have R2 : Shut (RowR (w2.alloc (.cells #[.string ⟨z.toArray⟩] 9)) 9 aL cL (L.map txV)) := shut ((HR.out.2.1.keeps hK hne).keepsN ((Keeps.refl Nothing w2).alloc _))
   have D1 := blk_new w2 #[.string ⟨z.toArray⟩] 9
   have hlen : Shut (L.length = t) := shut HR.out.1
   have G2 := shut (hG.keepsN ((Keeps.refl Nothing w2).alloc (.cells #[.string ⟨z.toArray⟩] 9)))
   have K2 : Keeps (GF g p) w (w2.alloc (.cells #[.string ⟨z.toArray⟩] 9)) := KT.alloc _
   have HGOT := shut hgot
   clear hc hG hK HK KT hne hgot
   go_wp2_with (at_builtin; refine wpList_appZ _ rfl (.tmp 8) (.tmp 11) rfl aL cL (L.map txV) t (by rw [List.length_map]; exact hlen.out) rfl R2.out _ 1 [txV z] rfl (src_str1 D1) (by omega) (by omega) ?_)
   intro a4 c4 w4 R4 _ k4 m4
   have hG4 : Gt w4 g p ao cap bs st3 := G2.out.keeps k4 (fun i C ty hb ht q => R2.out.ne hb (by rcases ht with rfl | rfl | rfl <;> decide) q)
   have hK4 : Keeps (GF g p) w w4 := K2.trans k4 (fun b hb hlt => by have := HR.out.2.2.2.1 b hb; omega)
   have HR4 : Shut ((L ++ [z]).length = t + 1 ∧ RowR w4 9 a4 c4 ((L ++ [z]).map txV) ∧ (∀ x ∈ L ++ [z], x.length ≤ 66) ∧ (∀ b, blockOf a4 = some b → w.heap.size ≤ b) ∧ ∀ l : List (List UInt8), (∀ s ∈ l, s.length ≤ 66) → l.length = n → Got bs st1 ((l.take (t + 1)).map encS).flatten (L ++ [z] = l.take (t + 1)) st3) := shut (by
    refine ⟨by rw [List.length_append, hlen.out]; rfl, by rw [List.map_append]; exact R4, fun x hx => ?_, fun b hb => ?_, fun l hl hln => ?_⟩
    ·rcases List.mem_append.1 hx with hx | hx
     ·exact HR.out.2.2.1 x hx
     ·obtain rfl := List.mem_singleton.1 hx
      exact hz
    ·rcases m4 with m4 | ⟨b', m4, hb'⟩
     ·rw [m4] at hb
      exact HR.out.2.2.2.1 b hb
     ·rw [m4] at hb
      obtain rfl := Option.some.inj hb
      have := K2.size
      rw [World.size_alloc] at this
      omega
    ·obtain ⟨a, ha⟩ : ∃ a, l[t]? = some a := ⟨_, List.getElem?_eq_getElem (by omega)⟩
     rw [flat_take ha]
     refine ((HR.out.2.2.2.2 l hl hln).then (fun _ => HGOT.out a (hl a (List.mem_of_getElem? ha)))).mono (fun q => ?_)
     rw [List.take_add_one, ha, q.1, q.2]
     rfl)
   clear R4 k4 m4 HR R2 D1 G2 K2 HGOT
   go_wp2_with fail
   go_roundw
   case rel => exact ⟨t + 1, L ++ [z], a4, c4, st3, by go_num, rfl, by omega, hG4, hK4, HR4⟩
   case measure => simp [intOf]; omega
  ·obtain rfl : t = n := by omega
   obtain ⟨n, rfl⟩ : ∃ n, n = t := ⟨_, rfl⟩
   have m1 : ¬ (n : Int) < n := by omega
   have HF : Shut (GTxs w g p ao cap bs st (.returned (.slice aL n cL)) wr) := shut (by
    obtain ⟨h1, h2, h3, h4, h5⟩ := HR.out
    refine ⟨L, aL, cL, st2, by rw [h1], rowR_slS h2 (by rw [h1]; unfold bigN; omega) (fun x hx => by have := h3 x hx; unfold bigN; omega) (fun b hb => ⟨h4 b hb, h2.lt hb⟩), hG, hK, fun l hl h64 => ?_⟩
    unfold encTs
    refine ((HN.out l.length h64).then (fun q => ?_)).mono (fun q => q.2)
    have := h5 l hl q.symm
    rw [flat_all q.symm] at this
    exact this.mono (fun q2 => by rw [q2, List.take_of_length_le (by omega)]))
   clear hG hK HR
   go_wp2_with fail
   go_ret
   exact HF.out
end Go.Proofs.YtjbcagbnagefcaaGreat
namespace Go.Proofs.YtjbcagbnagefcaaGreat
open Go.RowKit
attribute [local go_sem ↓] exec_mid_ty exec_store_ty exec_mid_pl exec_store_pl exec_mid_opr exec_store_opr exec_mid_val exec_store_val exec_mid_st exec_store_st exec_mid_fld exec_store_fld exec_mid_str exec_store_str exec_mid_lif exec_store_lif exec_mid_fun exec_store_fun exec_mid_cr exec_store_cr
attribute [local go_sem] rowOk_new World.setRow_alloc_new
theorem gt_set {w : World} {g p : Nat} {ao : Option Addr} {cap : Nat} {bs : List UInt8} {st st' : Option Nat} (h : Gt w g p ao cap bs st) (b : Bool) (hb : b = st'.isNone) (hs : ∀ j, st' = some j → st = some j) : Gt (w.setCell ⟨g, 1, none⟩ (.bool b)) g p ao cap bs st' ∧ Keeps (GF g p) w (w.setCell ⟨g, 1, none⟩ (.bool b)) ∧ w.cell? ⟨g, 1, none⟩ = some (.bool st.isNone) ∧ w.frozen? ⟨g, 1, none⟩ = false := by
 obtain ⟨h1, k, h2, h3⟩ := h
 have hne : g ≠ p := fun q => by
  subst q
  exact absurd (blk_ty h1 h2.blk) (by decide)
 subst hb
 exact ⟨⟨blk_set h1 1 _, k, ⟨blk_other h2.blk ⟨g, 1, none⟩ (fun q => hne q.symm) _, ownsRow_setCell_other h2.own (own_ne h2.own h1 (by decide)) _, h2.le⟩, fun j hj => h3 j (hs j hj)⟩, (Keeps.refl (GF g p) w).setCell (p := ⟨g, 1, none⟩) (fun _ => .inl rfl) _, blk_cell h1 1 rfl, blk_free h1 1⟩
theorem not_gT {t : TypeId} (h1 : t ≠ 82) (h2 : t ≠ 125) (h3 : t ≠ 5) : ¬ gT t := fun q => by
 rcases q with q | q | q
 ·exact h1 q
 ·exact h2 q
 ·exact h3 q
theorem Gt.box {w w' : World} {g p : Nat} {ao : Option Addr} {cap : Nat} {bs : List UInt8} {st : Option Nat} (h : Gt w g p ao cap bs st) {q : Nat} {C : Array Value} {T : TypeId} (hb : Blk w q C T) (hT : ¬ gT T) (K : Keeps (fun i => i = q) w w') : Gt w' g p ao cap bs st := h.keeps K (box_not hb hT)
def GTy (w : World) (g p : Nat) (ao : Option Addr) (cap : Nat) (bs : List UInt8) (st : Option Nat) (deep : Int) (e : Ending) (w' : World) : Prop :=
 ∃ (z : TyD) (cs : List Value) (st' : Option Nat), e = .returned (.agg cs.toArray) ∧ TyIs (NewA w.heap.size w') w' z cs ∧ Gt w' g p ao cap bs st' ∧ Keeps (GF g p) w w' ∧ ∀ t, (TyP t deep ∨ t = .mk 0 [] [] []) → Got bs st (encT t) (z = t) st'
theorem got_kind {bs : List UInt8} {st st' : Option Nat} {z : Nat} (h : ∀ n, n ≤ 5 → Got bs st (encU n) (z = n) st') {k : Int} (h0 : 0 ≤ k) (h5 : k ≤ 5) {E : List UInt8} {P : Prop} {st2 : Option Nat} (h2 : (z : Int) = k → Got bs st' E P st2) : Got bs st (encU k.toNat ++ E) P st2 :=
 ((h k.toNat (by omega)).then (fun q => h2 (by omega))).mono (fun q => q.2)
theorem Got.app {bs : List UInt8} {st st1 st2 : Option Nat} {E1 E2 : List UInt8} {P Q R : Prop} (h : Got bs st E1 P st1) (h2 : P → Got bs st1 E2 Q st2) (hr : P → Q → R) : Got bs st (E1 ++ E2) R st2 := (h.then h2).mono (fun q => hr q.1 q.2)
theorem tyNewA {N M : Nat} {w w' : World} {T : Nat → Prop} {z : TyD} {cs : List Value} (h : TyIs (NewA M w) w z cs) (hN : N ≤ M) (K : Keeps T w w') (hT : ∀ b, M ≤ b → ¬ T b) : TyIs (NewA N w') w' z cs := h.keeps K (fun b hb => hT b hb.1) (fun _ hb => ⟨Nat.le_trans hN hb.1, Nat.lt_of_lt_of_le hb.2 K.size⟩)
theorem txNewA {N M : Nat} {w w' : World} {T : Nat → Prop} {a : Option Addr} {l : List (List UInt8)} (h : SlIs (NewA M w) w 1 TxIs a l) (hN : N ≤ M) (K : Keeps T w w') (hT : ∀ b, M ≤ b → ¬ T b) : SlIs (NewA N w') w' 1 TxIs a l := h.keeps K (fun b hb => hT b hb.1) (fun _ hb => ⟨Nat.le_trans hN hb.1, Nat.lt_of_lt_of_le hb.2 K.size⟩) (fun _ _ _ h => h)
set_option maxRecDepth 100000 in
set_option linter.unusedSimpArgs false in
set_option maxHeartbeats 4000000 in
theorem gkind_of (n : Nat) (IH : ∀ (d : Int) {w : World} {g p : Nat} {ao : Option Addr} {cap : Nat} {bs : List UInt8} {st : Option Nat}, d + n = 66 → n ≠ 0 → 1 ≤ d → Gt w g p ao cap bs st → bs.length ≤ 1000000000 → Calls Tryz.prog 34 #[.pointer (some ⟨g, 0, none⟩), .int .i64 d] w (GTy w g p ao cap bs st d)) (deep : Int) {w : World} {g p : Nat} {ao : Option Addr} {cap : Nat} {bs : List UInt8} {st : Option Nat} (hdn : deep + n = 65) (hd1 : 1 ≤ deep) (h : Gt w g p ao cap bs st) (hl : bs.length ≤ 1000000000) :
  Calls Tryz.prog 34 #[.pointer (some ⟨g, 0, none⟩), .int .i64 deep] w (GTy w g p ao cap bs st deep) := by
 have hlt := h.lt
 have hgw : g < w.heap.size := hlt.1
 have hpw : p < w.heap.size := hlt.2
 have HIH := shut @IH
 clear IH
 have B4 := blk_new w #[.int .i64 0, .string ⟨#[]⟩, .slice none 0 0, .slice none 0 0] 53
 have KX : Keeps (GF g p) w (w.alloc (.cells #[.int .i64 0, .string ⟨#[]⟩, .slice none 0 0, .slice none 0 0] 53)) := (Keeps.refl _ w).alloc _
 have hG := h.keepsN ((Keeps.refl Nothing w).alloc (.cells #[.int .i64 0, .string ⟨#[]⟩, .slice none 0 0, .slice none 0 0] 53))
 obtain ⟨g4, hg4⟩ : ∃ g4, w.heap.size = g4 := ⟨_, rfl⟩
 have HN4 : Shut (w.heap.size ≤ g4) := shut (Nat.le_of_eq hg4)
 have hn4 : ¬ GF g p g4 := fun q => by rcases q with q | q <;> omega
 rw [hg4] at B4
 clear h hlt
 go_enter Tryz.func34, Tryz.ntmps34
 go_upto_region 1 with fail
 try rw [hg4]
 clear hg4
 generalize w.alloc (.cells #[.int .i64 0, .string ⟨#[]⟩, .slice none 0 0, .slice none 0 0] 53) = w0 at *
 have hc := gnum_any hG hl 5 (by omega)
 go_wp2_with fail
 refine hc.mono ?_
 rintro e w1 ⟨kz, st1, rfl, hkz, hG2, hK2, hgot⟩
 have HGOTw1 := shut hgot
 have KX2 := KX.trans hK2 (fun _ h _ => h)
 have B42 := hK2.blk B4 hn4
 clear hc KX hG hgot B4
 have KX := KX2
 have hG := hG2
 have B4 := B42
 clear KX2 hG2 B42
 go_upto_region 2 with fail
 have B5 := blk_new w1 #[.int .i64 kz, .string ⟨#[]⟩, .slice none 0 0, .slice none 0 0] 53
 have ka : Keeps Nothing w1 (w1.alloc (.cells #[.int .i64 kz, .string ⟨#[]⟩, .slice none 0 0, .slice none 0 0] 53)) := (Keeps.refl Nothing w1).alloc _
 have hG2 := hG.keepsN ka
 have KX2 := KX.trans ka (fun _ h _ => h.elim)
 have B42 := ka.blk B4 (fun h => h)
 have hw1 : Shut (w.heap.size ≤ w1.heap.size) := shut KX.size
 have h41 := lt_of_block B4
 clear hG KX B4 ka
 obtain ⟨g5, hg5⟩ : ∃ g5, w1.heap.size = g5 := ⟨_, rfl⟩
 rw [hg5] at B5 h41 hw1 ⊢
 have hn5 : ¬ GF g p g5 := fun q => by have := hw1.out; rcases q with q | q <;> omega
 clear hg5
 generalize w1.alloc (.cells #[.int .i64 kz, .string ⟨#[]⟩, .slice none 0 0, .slice none 0 0] 53) = w2 at *
 have hG := hG2
 have KX := KX2
 have B4 := B42
 clear hG2 KX2 B42
 have hkc : (kz = 0 ∨ kz = 1 ∨ kz = 2) ∨ kz = 3 ∨ (kz = 4 ∨ kz = 5) := by omega
 have e0 := blk_cell B5 0 (v := .int .i64 kz) rfl
 rcases hkc with k0 | k3 | k45
 ·have HALL : Shut (∀ t, (TyP t deep ∨ t = .mk 0 [] [] []) → Got bs st (encT t) (TyD.mk kz [] [] [] = t) st1) := shut (fun t ht => by
   obtain ⟨k, nm, lv, el⟩ := t
   have hk5 : 0 ≤ k ∧ k ≤ 5 ∧ (k = 3 ∨ (k = 4 ∨ k = 5) ∨ (nm = [] ∧ lv = [] ∧ el = [])) := by
    rcases ht with ht | ht
    ·unfold TyP at ht
     rcases ht.2 with q | q | q
     ·omega
     ·omega
     ·exact ⟨by omega, by omega, .inr (.inr q.2)⟩
    ·simp only [TyD.mk.injEq] at ht
     obtain ⟨rfl, rfl, rfl, rfl⟩ := ht
     exact ⟨by omega, by omega, .inr (.inr ⟨rfl, rfl, rfl⟩)⟩
   rw [encT_mk]
   refine got_kind HGOTw1.out hk5.1 hk5.2.1 (fun q => ?_)
   rw [if_neg (by omega), if_neg (by omega)]
   rcases hk5.2.2 with q2 | q2 | ⟨rfl, rfl, rfl⟩
   ·omega
   ·omega
   ·rw [q]
    exact Got.nil rfl)
  have HTY : Shut (TyIs (fun b => False) w2 (.mk kz [] [] []) [.int .i64 kz, .string ⟨#[]⟩, .slice none 0 0, .slice none 0 0]) := shut (by
   rw [tyIs_iff]
   exact ⟨none, 0, none, 0, rfl, Nat.zero_le _, slIs_nil _ _ _ _ _, slIs_nil _ _ _ _ _⟩)
  have HT4 : Shut (∀ b, (fun b : Nat => False) b → ¬ (fun b => b = g4) b) := shut (fun b hb => hb.elim)
  have hb3 : ((kz : Int) == 3) = false := by rw [beq_eq_false_iff_ne]; omega
  have hb4 : ((kz : Int) == 4) = false := by rw [beq_eq_false_iff_ne]; omega
  have hb5 : ((kz : Int) == 5) = false := by rw [beq_eq_false_iff_ne]; omega
  have hq3 : ¬ (kz : Int) = 3 := by omega
  have hq4 : ¬ (kz : Int) = 4 := by omega
  have hq5 : ¬ (kz : Int) = 5 := by omega
  obtain ⟨y1, y2⟩ := tblk_mid B5 (n := 4) rfl
  have y3 := rowOk_blk B4 (n := 4) rfl
  have agf : aggOk 4 (.agg #[.int .i64 kz, .string ⟨#[]⟩, .slice none 0 0, .slice none 0 0]) = true := by simp [aggOk, Value.oneCell']
  obtain ⟨WF, hWF⟩ : ∃ W, W = World.setRow w2 g4 #[.int .i64 kz, .string ⟨#[]⟩, .slice none 0 0, .slice none 0 0] := ⟨_, rfl⟩
  have K2 : Keeps (fun b => b = g4) w2 WF := by rw [hWF]; exact (Keeps.refl (fun b => b = g4) w2).setRow (g := g4) (fun _ => rfl) _
  have BF : Blk WF g4 #[.int .i64 kz, .string ⟨#[]⟩, .slice none 0 0, .slice none 0 0] 53 := by rw [hWF]; exact blk_setRow B4
  have HF : Shut (GTy w g p ao cap bs st deep (.returned (.agg #[.int .i64 kz, .string ⟨#[]⟩, .slice none 0 0, .slice none 0 0])) WF) := shut ⟨.mk kz [] [] [], [.int .i64 kz, .string ⟨#[]⟩, .slice none 0 0, .slice none 0 0], st1, rfl, HTY.out.keeps K2 HT4.out (fun b hb => hb.elim), hG.box B4 (not_gT (by decide) (by decide) (by decide)) K2, KX.trans K2 (fun b hb hlt => by have hb' : b = g4 := hb; have := HN4.out; omega), HALL.out⟩
  clear K2 HTY HALL hG KX HT4
  go_wp2_with fail
  rw [← hWF]
  refine bodyPost_ret (v := .agg #[.int .i64 kz, .string ⟨#[]⟩, .slice none 0 0, .slice none 0 0]) (results_cell_row rfl _ _ g4 _ _ (0, 0) _ rfl BF Tryz.underlying53 rfl (by rw [infoTy]; rfl)) rfl ?_
  exact HF.out
 ·subst k3
  have hc := gtext_any hG hl
  go_wp2_with fail
  refine hc.mono ?_
  rintro e w3 ⟨nm, st2, rfl, hnm, -, hG2, hK2, hgot⟩
  have HGOTw3 := shut hgot
  have KX2 := KX.trans hK2 (fun _ h _ => h)
  have B42 := hK2.blk B4 hn4
  have B52 := hK2.blk B5 hn5
  clear hc KX hG hgot e0 B4 B5
  have KX := KX2
  have hG := hG2
  have B4 := B42
  have B5 := B52
  clear KX2 hG2 B42 B52
  have e1 := blk_cell B5 1 (v := .string ⟨#[]⟩) rfl
  have f1 := blk_free B5 1
  have B52 : Blk (w3.setCell ⟨g5, 1, none⟩ (.string ⟨nm.toArray⟩)) g5 #[.int .i64 3, .string ⟨nm.toArray⟩, .slice none 0 0, .slice none 0 0] 53 := blk_set B5 1 (.string ⟨nm.toArray⟩)
  have ks : Keeps (fun b => b = g5) w3 (w3.setCell ⟨g5, 1, none⟩ (.string ⟨nm.toArray⟩)) := (Keeps.refl (fun b => b = g5) w3).setCell (p := ⟨g5, 1, none⟩) (fun _ => rfl) _
  have B42 := ks.blk B4 (fun q => by have q' : g4 = g5 := q; omega)
  have hG2 := hG.box B5 (not_gT (by decide) (by decide) (by decide)) ks
  have KX2 := KX.trans ks (fun b hb hlt => by have hb' : b = g5 := hb; have := hw1.out; omega)
  clear hG KX B4 B5
  go_upto_region 5 with fail
  any_goals try (rename_i hfz; simp [f1] at hfz; done)
  clear e1 f1 ks
  generalize w3.setCell ⟨g5, 1, none⟩ (.string ⟨nm.toArray⟩) = w4 at *
  have hG := hG2
  have KX := KX2
  have B4 := B42
  have B5 := B52
  clear hG2 KX2 B42 B52
  have HW4 := shut KX.size
  have H54 := shut (lt_of_block B5)
  have H44 := shut (lt_of_block B4)
  have hc := gtexts_any hG hl
  go_wp2_with fail
  refine hc.mono ?_
  rintro e w5 ⟨L, aL, cL, st3, rfl, hL, hG2, hK2, hgot⟩
  have HGOTw5 := shut hgot
  have KX2 := KX.trans hK2 (fun _ h _ => h)
  have B42 := hK2.blk B4 hn4
  have B52 := hK2.blk B5 hn5
  clear hc KX hG hgot B4 B5
  have KX := KX2
  have hG := hG2
  have B4 := B42
  have B5 := B52
  clear KX2 hG2 B42 B52
  have e1 := blk_cell B5 2 (v := .slice none 0 0) rfl
  have f1 := blk_free B5 2
  have B52 : Blk (w5.setCell ⟨g5, 2, none⟩ (.slice aL L.length cL)) g5 #[.int .i64 3, .string ⟨nm.toArray⟩, .slice aL L.length cL, .slice none 0 0] 53 := blk_set B5 2 (.slice aL L.length cL)
  have ks : Keeps (fun b => b = g5) w5 (w5.setCell ⟨g5, 2, none⟩ (.slice aL L.length cL)) := (Keeps.refl (fun b => b = g5) w5).setCell (p := ⟨g5, 2, none⟩) (fun _ => rfl) _
  have B42 := ks.blk B4 (fun q => by have q' : g4 = g5 := q; omega)
  have hG2 := hG.box B5 (not_gT (by decide) (by decide) (by decide)) ks
  have KX2 := KX.trans ks (fun b hb hlt => by have hb' : b = g5 := hb; have := hw1.out; omega)
  clear hG KX B4 B5
  have hN4 : w.heap.size ≤ w4.heap.size := HW4.out
  have HL := shut (txNewA (N := w4.heap.size) hL (Nat.le_refl _) ks (fun b hb q => by have q' : b = g5 := q; have := H54.out; omega))
  go_upto_region 12 with fail
  any_goals try (rename_i hfz; simp [f1] at hfz; done)
  clear e1 f1 ks hL
  generalize w5.setCell ⟨g5, 2, none⟩ (.slice aL L.length cL) = w6 at *
  have hG := hG2
  have KX := KX2
  have B4 := B42
  have B5 := B52
  clear hG2 KX2 B42 B52
  have HALL : Shut (∀ t, (TyP t deep ∨ t = .mk 0 [] [] []) → Got bs st (encT t) (TyD.mk 3 nm L [] = t) st3) := shut (fun t ht => by
   obtain ⟨k, nm', lv, el⟩ := t
   rw [encT_mk]
   have hk5 : 0 ≤ k ∧ k ≤ 5 := by
    rcases ht with ht | ht
    ·unfold TyP at ht
     omega
    ·simp only [TyD.mk.injEq] at ht
     omega
   refine got_kind HGOTw1.out hk5.1 hk5.2 (fun q => ?_)
   rcases ht with ht | ht
   ·unfold TyP at ht
    rcases ht.2 with ⟨rfl, h1, h2, rfl⟩ | h1 | h1
    ·rw [if_pos rfl]
     exact (HGOTw3.out nm' (double_len h1)).app (fun _ => HGOTw5.out lv (fun s hs => by have := life_len (h2.1 s hs); omega) h2.2) (fun p q => by rw [p, q])
    ·omega
    ·omega
   ·simp only [TyD.mk.injEq] at ht
    omega)
  have HTY : Shut (TyIs (NewA w4.heap.size w6) w6 (.mk 3 nm L []) [.int .i64 3, .string ⟨nm.toArray⟩, .slice aL L.length cL, .slice none 0 0]) := shut (by
   rw [tyIs_iff]
   exact ⟨aL, cL, none, 0, rfl, by show nm.length ≤ bigN; unfold bigN; omega, HL.out, slIs_nil _ _ _ _ _⟩)
  have HT4 : Shut (∀ b, NewA w4.heap.size w6 b → ¬ (fun b => b = g4) b) := shut (fun b hb q => by have q' : b = g4 := q; have := hb.1; have := H44.out; omega)
  obtain ⟨y1, y2⟩ := tblk_mid B5 (n := 4) rfl
  have y3 := rowOk_blk B4 (n := 4) rfl
  have agf : aggOk 4 (.agg #[.int .i64 3, .string ⟨nm.toArray⟩, .slice aL L.length cL, .slice none 0 0]) = true := by simp [aggOk, Value.oneCell']
  obtain ⟨WF, hWF⟩ : ∃ W, W = World.setRow w6 g4 #[.int .i64 3, .string ⟨nm.toArray⟩, .slice aL L.length cL, .slice none 0 0] := ⟨_, rfl⟩
  have K2 : Keeps (fun b => b = g4) w6 WF := by rw [hWF]; exact (Keeps.refl (fun b => b = g4) w6).setRow (g := g4) (fun _ => rfl) _
  have BF : Blk WF g4 #[.int .i64 3, .string ⟨nm.toArray⟩, .slice aL L.length cL, .slice none 0 0] 53 := by rw [hWF]; exact blk_setRow B4
  have HF : Shut (GTy w g p ao cap bs st deep (.returned (.agg #[.int .i64 3, .string ⟨nm.toArray⟩, .slice aL L.length cL, .slice none 0 0])) WF) := shut ⟨.mk 3 nm L [], [.int .i64 3, .string ⟨nm.toArray⟩, .slice aL L.length cL, .slice none 0 0], st3, rfl, HTY.out.keeps K2 HT4.out (fun b hb => ⟨Nat.le_trans HW4.out hb.1, Nat.lt_of_lt_of_le hb.2 K2.size⟩), hG.box B4 (not_gT (by decide) (by decide) (by decide)) K2, KX.trans K2 (fun b hb hlt => by have hb' : b = g4 := hb; have := HN4.out; omega), HALL.out⟩
  clear K2 HTY HALL hG KX HT4
  go_wp2_with fail
  rw [← hWF]
  refine bodyPost_ret (v := .agg #[.int .i64 3, .string ⟨nm.toArray⟩, .slice aL L.length cL, .slice none 0 0]) (results_cell_row rfl _ _ g4 _ _ (0, 0) _ rfl BF Tryz.underlying53 rfl (by rw [infoTy]; rfl)) rfl ?_
  exact HF.out
 ·have hk3 : ¬ kz = 3 := by omega
  have HW4 := shut KX.size
  have H54 := shut (lt_of_block B5)
  have H44 := shut (lt_of_block B4)
  rcases k45 with rfl | rfl
  ·have hc := gtexts_any hG hl
   go_wp2_with fail
   refine hc.mono ?_
   rintro e w5 ⟨L, aL, cL, st3, rfl, hL, hG2, hK2, hgot⟩
   have HGOTw5 := shut hgot
   have HK25 := shut hK2.size
   have KX2 := KX.trans hK2 (fun _ h _ => h)
   have B42 := hK2.blk B4 hn4
   have B52 := hK2.blk B5 hn5
   clear hc KX hG hgot e0 B4 B5
   have KX := KX2
   have hG := hG2
   have B4 := B42
   have B5 := B52
   clear KX2 hG2 B42 B52
   have e1 := blk_cell B5 2 (v := .slice none 0 0) rfl
   have f1 := blk_free B5 2
   have B52 : Blk (w5.setCell ⟨g5, 2, none⟩ (.slice aL L.length cL)) g5 #[.int .i64 4, .string ⟨#[]⟩, .slice aL L.length cL, .slice none 0 0] 53 := blk_set B5 2 (.slice aL L.length cL)
   have ks : Keeps (fun b => b = g5) w5 (w5.setCell ⟨g5, 2, none⟩ (.slice aL L.length cL)) := (Keeps.refl (fun b => b = g5) w5).setCell (p := ⟨g5, 2, none⟩) (fun _ => rfl) _
   have B42 := ks.blk B4 (fun q => by have q' : g4 = g5 := q; omega)
   have hG2 := hG.box B5 (not_gT (by decide) (by decide) (by decide)) ks
   have KX2 := KX.trans ks (fun b hb hlt => by have hb' : b = g5 := hb; have := hw1.out; omega)
   clear hG KX B4 B5
   have HS26 : w2.heap.size ≤ (w5.setCell ⟨g5, 2, none⟩ (.slice aL L.length cL)).heap.size := by rw [World.size_setCell]; exact HK25.out
   have HL := shut (txNewA (N := w2.heap.size) hL (Nat.le_refl _) ks (fun b hb q => by have q' : b = g5 := q; have := H54.out; omega))
   go_upto_region 9 with fail
   any_goals try (rename_i hfz; simp [f1] at hfz; done)
   clear e1 f1 ks hL
   generalize w5.setCell ⟨g5, 2, none⟩ (.slice aL L.length cL) = w6 at *
   have hG := hG2
   have KX := KX2
   have B4 := B42
   have B5 := B52
   clear hG2 KX2 B42 B52
   have HW26 : Shut (w2.heap.size ≤ w6.heap.size) := shut HS26
   obtain ⟨st4, hst4⟩ : ∃ s : Option Nat, s = (if deep ≤ 64 then st3 else none) := ⟨_, rfl⟩
   have HST4 := shut hst4
   have hmk : Shut (∀ b : Bool, b = st4.isNone → Gt (w6.setCell ⟨g, 1, none⟩ (.bool b)) g p ao cap bs st4 ∧ Keeps (GF g p) w6 (w6.setCell ⟨g, 1, none⟩ (.bool b))) := shut (fun b hb => by
    have q := gt_set hG b hb (fun j hj => by rw [HST4.out] at hj; by_cases hd : deep ≤ 64; rw [if_pos hd] at hj; exact hj; rw [if_neg hd] at hj; cases hj)
    exact ⟨q.1, q.2.1⟩)
   have c1 := blk_cell hG.blk 1 rfl
   have f1 := blk_free hG.blk 1
   clear hst4
   have hcase : (st3 = none ∧ st4 = none) ∨ (∃ j, st3 = some j ∧ ¬ deep ≤ 64 ∧ st4 = none) ∨ (∃ j, st3 = some j ∧ deep ≤ 64 ∧ st4 = some j) := by
    rw [HST4.out]
    cases st3 with
    | none => exact .inl ⟨rfl, by split <;> rfl⟩
    | some j => by_cases hd : deep ≤ 64; exact .inr (.inr ⟨j, rfl, hd, by rw [if_pos hd]⟩); exact .inr (.inl ⟨j, rfl, hd, by rw [if_neg hd]⟩)
   have HTYL : Shut (TyIs (NewA w2.heap.size w6) w6 (.mk 4 [] L []) [.int .i64 4, .string ⟨#[]⟩, .slice aL L.length cL, .slice none 0 0]) := shut (by
    rw [tyIs_iff]
    exact ⟨aL, cL, none, 0, rfl, Nat.zero_le _, HL.out, slIs_nil _ _ _ _ _⟩)
   rcases hcase with ⟨rfl, rfl⟩ | ⟨j, rfl, hdp, rfl⟩ | ⟨j, rfl, hdp, rfl⟩
   ·obtain ⟨hG2, hK2⟩ := hmk.out true rfl
    have KX2 := KX.trans hK2 (fun _ h _ => h)
    have B42 := hK2.blk B4 hn4
    have B52 := hK2.blk B5 hn5
    have HTY := shut (HTYL.out.keeps hK2 (fun b hb q => by have h1 := hb.1; have h2 := HW4.out; rcases q with q | q <;> omega) (fun b hb => ⟨hb.1, Nat.lt_of_lt_of_le hb.2 hK2.size⟩) : TyIs (NewA w2.heap.size (w6.setCell ⟨g, 1, none⟩ (.bool true))) (w6.setCell ⟨g, 1, none⟩ (.bool true)) (.mk 4 [] L []) [.int .i64 4, .string ⟨#[]⟩, .slice aL L.length cL, .slice none 0 0])
    have HALL : Shut (∀ t, (TyP t deep ∨ t = .mk 0 [] [] []) → Got bs st (encT t) (TyD.mk 4 [] L [] = t) none) := shut (fun t ht => by
     obtain ⟨k, nm', lv, el⟩ := t
     rw [encT_mk]
     have hk5 : 0 ≤ k ∧ k ≤ 5 := by
      rcases ht with ht | ht
      ·unfold TyP at ht
       omega
      ·simp only [TyD.mk.injEq] at ht
       omega
     refine got_kind HGOTw1.out hk5.1 hk5.2 (fun q => ?_)
     rcases ht with ht | ht
     ·unfold TyP at ht
      rcases ht.2 with h1 | ⟨h0, rfl, h1, h2, h3⟩ | h1
      ·omega
      ·rw [if_neg (by omega), if_pos h0]
       intro k2 r2 hk2 hr2
       rw [List.append_assoc] at hr2
       have := (HGOTw5.out lv (fun s hs => by have := life_len (h2.1 s hs); omega) (by omega) k2 _ hk2 hr2).2
       cases this
      ·omega
     ·simp only [TyD.mk.injEq] at ht
      omega)
    have c2 := blk_cell hG2.blk 1 rfl
    have HT4 : Shut (∀ b, NewA w2.heap.size (w6.setCell ⟨g, 1, none⟩ (.bool true)) b → ¬ (fun b => b = g4) b) := shut (fun b hb q => by have q' : b = g4 := q; have := hb.1; have := H44.out; omega)
    clear hG KX B4 B5 hK2 hmk HTYL HL
    go_upto_region 10 with fail
    any_goals try (rename_i hfz; simp [f1] at hfz; done)
    clear c1 f1
    generalize w6.setCell ⟨g, 1, none⟩ (.bool true) = w7 at *
    have hG := hG2
    have KX := KX2
    have B4 := B42
    have B5 := B52
    clear hG2 KX2 B42 B52
    go_upto_region 12 with fail
    clear c2
    obtain ⟨y1, y2⟩ := tblk_mid B5 (n := 4) rfl
    have y3 := rowOk_blk B4 (n := 4) rfl
    have agf : aggOk 4 (.agg #[.int .i64 4, .string ⟨#[]⟩, .slice aL L.length cL, .slice none 0 0]) = true := by simp [aggOk, Value.oneCell']
    obtain ⟨WF, hWF⟩ : ∃ W, W = World.setRow w7 g4 #[.int .i64 4, .string ⟨#[]⟩, .slice aL L.length cL, .slice none 0 0] := ⟨_, rfl⟩
    have K2 : Keeps (fun b => b = g4) w7 WF := by rw [hWF]; exact (Keeps.refl (fun b => b = g4) w7).setRow (g := g4) (fun _ => rfl) _
    have BF : Blk WF g4 #[.int .i64 4, .string ⟨#[]⟩, .slice aL L.length cL, .slice none 0 0] 53 := by rw [hWF]; exact blk_setRow B4
    have HF : Shut (GTy w g p ao cap bs st deep (.returned (.agg #[.int .i64 4, .string ⟨#[]⟩, .slice aL L.length cL, .slice none 0 0])) WF) := shut ⟨.mk 4 [] L [], [.int .i64 4, .string ⟨#[]⟩, .slice aL L.length cL, .slice none 0 0], none, rfl, HTY.out.keeps K2 HT4.out (fun b hb => ⟨Nat.le_trans HW4.out hb.1, Nat.lt_of_lt_of_le hb.2 K2.size⟩), hG.box B4 (not_gT (by decide) (by decide) (by decide)) K2, KX.trans K2 (fun b hb hlt => by have hb' : b = g4 := hb; have := HN4.out; omega), HALL.out⟩
    clear K2 HTY HALL hG KX HT4
    go_wp2_with fail
    rw [← hWF]
    refine bodyPost_ret (v := .agg #[.int .i64 4, .string ⟨#[]⟩, .slice aL L.length cL, .slice none 0 0]) (results_cell_row rfl _ _ g4 _ _ (0, 0) _ rfl BF Tryz.underlying53 rfl (by rw [infoTy]; rfl)) rfl ?_
    exact HF.out
   ·have m64 : 64 < deep := by omega
    obtain ⟨hG2, hK2⟩ := hmk.out true rfl
    have KX2 := KX.trans hK2 (fun _ h _ => h)
    have B42 := hK2.blk B4 hn4
    have B52 := hK2.blk B5 hn5
    have HTY := shut (HTYL.out.keeps hK2 (fun b hb q => by have h1 := hb.1; have h2 := HW4.out; rcases q with q | q <;> omega) (fun b hb => ⟨hb.1, Nat.lt_of_lt_of_le hb.2 hK2.size⟩) : TyIs (NewA w2.heap.size (w6.setCell ⟨g, 1, none⟩ (.bool true))) (w6.setCell ⟨g, 1, none⟩ (.bool true)) (.mk 4 [] L []) [.int .i64 4, .string ⟨#[]⟩, .slice aL L.length cL, .slice none 0 0])
    have HALL : Shut (∀ t, (TyP t deep ∨ t = .mk 0 [] [] []) → Got bs st (encT t) (TyD.mk 4 [] L [] = t) none) := shut (fun t ht => by
     obtain ⟨k, nm', lv, el⟩ := t
     rw [encT_mk]
     have hk5 : 0 ≤ k ∧ k ≤ 5 := by
      rcases ht with ht | ht
      ·unfold TyP at ht
       omega
      ·simp only [TyD.mk.injEq] at ht
       omega
     refine got_kind HGOTw1.out hk5.1 hk5.2 (fun q => ?_)
     rcases ht with ht | ht
     ·unfold TyP at ht
      rcases ht.2 with h1 | ⟨h0, rfl, h1, h2, h3⟩ | h1
      ·omega
      ·rw [if_neg (by omega), if_pos h0]
       exact absurd ht.1 hdp
      ·omega
     ·simp only [TyD.mk.injEq] at ht
      omega)
    have c2 := blk_cell hG2.blk 1 rfl
    have HT4 : Shut (∀ b, NewA w2.heap.size (w6.setCell ⟨g, 1, none⟩ (.bool true)) b → ¬ (fun b => b = g4) b) := shut (fun b hb q => by have q' : b = g4 := q; have := hb.1; have := H44.out; omega)
    clear hG KX B4 B5 hK2 hmk HTYL HL
    go_upto_region 10 with fail
    any_goals try (rename_i hfz; simp [f1] at hfz; done)
    clear c1 f1
    generalize w6.setCell ⟨g, 1, none⟩ (.bool true) = w7 at *
    have hG := hG2
    have KX := KX2
    have B4 := B42
    have B5 := B52
    clear hG2 KX2 B42 B52
    go_upto_region 12 with fail
    clear c2
    obtain ⟨y1, y2⟩ := tblk_mid B5 (n := 4) rfl
    have y3 := rowOk_blk B4 (n := 4) rfl
    have agf : aggOk 4 (.agg #[.int .i64 4, .string ⟨#[]⟩, .slice aL L.length cL, .slice none 0 0]) = true := by simp [aggOk, Value.oneCell']
    obtain ⟨WF, hWF⟩ : ∃ W, W = World.setRow w7 g4 #[.int .i64 4, .string ⟨#[]⟩, .slice aL L.length cL, .slice none 0 0] := ⟨_, rfl⟩
    have K2 : Keeps (fun b => b = g4) w7 WF := by rw [hWF]; exact (Keeps.refl (fun b => b = g4) w7).setRow (g := g4) (fun _ => rfl) _
    have BF : Blk WF g4 #[.int .i64 4, .string ⟨#[]⟩, .slice aL L.length cL, .slice none 0 0] 53 := by rw [hWF]; exact blk_setRow B4
    have HF : Shut (GTy w g p ao cap bs st deep (.returned (.agg #[.int .i64 4, .string ⟨#[]⟩, .slice aL L.length cL, .slice none 0 0])) WF) := shut ⟨.mk 4 [] L [], [.int .i64 4, .string ⟨#[]⟩, .slice aL L.length cL, .slice none 0 0], none, rfl, HTY.out.keeps K2 HT4.out (fun b hb => ⟨Nat.le_trans HW4.out hb.1, Nat.lt_of_lt_of_le hb.2 K2.size⟩), hG.box B4 (not_gT (by decide) (by decide) (by decide)) K2, KX.trans K2 (fun b hb hlt => by have hb' : b = g4 := hb; have := HN4.out; omega), HALL.out⟩
    clear K2 HTY HALL hG KX HT4
    go_wp2_with fail
    rw [← hWF]
    refine bodyPost_ret (v := .agg #[.int .i64 4, .string ⟨#[]⟩, .slice aL L.length cL, .slice none 0 0]) (results_cell_row rfl _ _ g4 _ _ (0, 0) _ rfl BF Tryz.underlying53 rfl (by rw [infoTy]; rfl)) rfl ?_
    exact HF.out
   ·have m64 : ¬ 64 < deep := by omega
    obtain ⟨hG2, hK2⟩ := hmk.out false rfl
    have KX2 := KX.trans hK2 (fun _ h _ => h)
    have B42 := hK2.blk B4 hn4
    have B52 := hK2.blk B5 hn5
    have HTY6 := shut (HL.out.keeps hK2 (fun b hb q => by have h1 := hb.1; have h2 := HW4.out; rcases q with q | q <;> omega) (fun b hb => ⟨hb.1, Nat.lt_of_lt_of_le hb.2 hK2.size⟩) (fun _ _ _ h => h) : SlIs (NewA w2.heap.size (w6.setCell ⟨g, 1, none⟩ (.bool false))) (w6.setCell ⟨g, 1, none⟩ (.bool false)) 1 TxIs aL L)
    have c2 := blk_cell hG2.blk 1 rfl
    have KW27 : w2.heap.size ≤ (w6.setCell ⟨g, 1, none⟩ (.bool false)).heap.size := by have := HW26.out; rw [World.size_setCell]; omega
    clear hG KX B4 B5 hK2 hmk HTYL HL
    go_upto_region 10 with fail
    any_goals try (rename_i hfz; simp [f1] at hfz; done)
    clear c1 f1
    generalize w6.setCell ⟨g, 1, none⟩ (.bool false) = w7 at *
    have hG := hG2
    have KX := KX2
    have B4 := B42
    have B5 := B52
    clear hG2 KX2 B42 B52
    have hn0 : n ≠ 0 := by omega
    have wd : IntKind.i64.wrap (deep + 1) = deep + 1 := by rw [IntKind.wrap_i64]; omega
    have HW7 : Shut (w.heap.size ≤ w7.heap.size) := shut KX.size
    have HW27 : Shut (w2.heap.size ≤ w7.heap.size) := shut KW27
    have H47 := shut (lt_of_block B4)
    have H57 := shut (lt_of_block B5)
    have hgp7 := hG.lt
    go_upto_region 11 with fail
    clear c2
    have hc := HIH.out (deep + 1) (by omega) hn0 (by omega) hG hl
    go_wp2_with fail
    refine hc.mono ?_
    rintro e w8 ⟨z, cs, st5, rfl, hTz, hG2, hK2, hgot⟩
    have HGOTw8 := shut hgot
    have KX2 := KX.trans hK2 (fun _ h _ => h)
    have B42 := hK2.blk B4 hn4
    have B52 := hK2.blk B5 hn5
    clear hc KX hG hgot B4 B5
    have KX := KX2
    have hG := hG2
    have B4 := B42
    have B5 := B52
    clear KX2 hG2 B42 B52
    have lz := hTz.len
    have agz := agg_ok lz hTz.one
    have HTX := shut (HTY6.out.keeps hK2 (fun b hb q => by have h1 := hb.1; have h2 := HW4.out; rcases q with q | q <;> omega) (fun b hb => ⟨hb.1, Nat.lt_of_lt_of_le hb.2 hK2.size⟩) (fun _ _ _ h => h) : SlIs (NewA w2.heap.size w8) w8 1 TxIs aL L)
    obtain ⟨Cz, hCz⟩ : ∃ C, C = cs.toArray := ⟨_, rfl⟩
    have hsz : Cz.size = 4 := by rw [hCz]; simpa using lz
    rw [← hCz] at agz ⊢
    have GCz := shut hCz
    have HTZ := shut hTz
    have e1 := blk_cell B5 3 (v := .slice none 0 0) rfl
    have f1 := blk_free B5 3
    have B52 : Blk (w8.setCell ⟨g5, 3, none⟩ (.slice (some ⟨w8.heap.size, 0, none⟩) 1 1)) g5 #[.int .i64 4, .string ⟨#[]⟩, .slice aL L.length cL, .slice (some ⟨w8.heap.size, 0, none⟩) 1 1] 53 := blk_set B5 3 (.slice (some ⟨w8.heap.size, 0, none⟩) 1 1)
    have ks : Keeps (fun b => b = g5) w8 (w8.setCell ⟨g5, 3, none⟩ (.slice (some ⟨w8.heap.size, 0, none⟩) 1 1)) := (Keeps.refl (fun b => b = g5) w8).setCell (p := ⟨g5, 3, none⟩) (fun _ => rfl) _
    have h58 := lt_of_block B5
    have h48 := lt_of_block B4
    have hsc : (w8.setCell ⟨g5, 3, none⟩ (.slice (some ⟨w8.heap.size, 0, none⟩) 1 1)).heap.size = w8.heap.size := World.size_setCell _ _ _
    have BE := blk_new (w8.setCell ⟨g5, 3, none⟩ (.slice (some ⟨w8.heap.size, 0, none⟩) 1 1)) Cz 53
    rw [hsc] at BE
    have kz2 : Keeps (fun b => b = g5) w8 ((w8.setCell ⟨g5, 3, none⟩ (.slice (some ⟨w8.heap.size, 0, none⟩) 1 1)).alloc (.cells Cz 53)) := ks.alloc _
    have B4n := kz2.blk B4 (fun q => by have q' : g4 = g5 := q; omega)
    have B5n := blk_alloc B52 (.cells Cz 53)
    have hGn := hG.box B5 (not_gT (by decide) (by decide) (by decide)) kz2
    have KXn := KX.trans kz2 (fun b hb hlt => by have hb' : b = g5 := hb; have := hw1.out; omega)
    have h78 : Shut (w7.heap.size ≤ w8.heap.size) := shut hK2.size
    have h26 : Shut (w2.heap.size ≤ w7.heap.size) := HW27
    clear hG KX B4 B5 hTz hCz hsc ks B52 hK2 HTY6
    go_upto_region 12 with fail
    any_goals try (rename_i hfz; simp [f1] at hfz; done)
    rw [fillN (n := 4) rfl hsz]
    clear e1 f1 agz
    have HTX9 := shut (HTX.out.keeps kz2 (fun b hb q => by have q' : b = g5 := q; have := hb.1; have := H54.out; omega) (fun b hb => ⟨hb.1, Nat.lt_of_lt_of_le hb.2 kz2.size⟩) (fun _ _ _ h => h) : SlIs (NewA w2.heap.size ((w8.setCell ⟨g5, 3, none⟩ (.slice (some ⟨w8.heap.size, 0, none⟩) 1 1)).alloc (.cells Cz 53))) ((w8.setCell ⟨g5, 3, none⟩ (.slice (some ⟨w8.heap.size, 0, none⟩) 1 1)).alloc (.cells Cz 53)) 1 TxIs aL L)
    have HTZ9 := shut (HTZ.out.keeps kz2 (fun b hb q => by have q' : b = g5 := q; have := hb.1; have := H57.out; omega) (fun b hb => ⟨by have := hb.1; have := h26.out; omega, Nat.lt_of_lt_of_le hb.2 kz2.size⟩) : TyIs (NewA w2.heap.size ((w8.setCell ⟨g5, 3, none⟩ (.slice (some ⟨w8.heap.size, 0, none⟩) 1 1)).alloc (.cells Cz 53))) ((w8.setCell ⟨g5, 3, none⟩ (.slice (some ⟨w8.heap.size, 0, none⟩) 1 1)).alloc (.cells Cz 53)) z cs)
    have hgE : w8.heap.size < ((w8.setCell ⟨g5, 3, none⟩ (.slice (some ⟨w8.heap.size, 0, none⟩) 1 1)).alloc (.cells Cz 53)).heap.size := lt_of_block BE
    clear HTX HTZ kz2
    obtain ⟨gE, hgE2⟩ : ∃ g, w8.heap.size = g := ⟨_, rfl⟩
    rw [hgE2] at BE B5n hgE h78 h58 h48 ⊢
    rw [hgE2] at HTX9 HTZ9 hGn KXn B4n
    clear hgE2
    generalize (w8.setCell ⟨g5, 3, none⟩ (.slice (some ⟨gE, 0, none⟩) 1 1)).alloc (.cells Cz 53) = w9 at *
    have hG := hGn
    have KX := KXn
    have B4 := B4n
    have B5 := B5n
    clear hGn KXn B4n B5n
    have HTY : Shut (TyIs (NewA w2.heap.size w9) w9 (.mk 4 [] L [z]) [.int .i64 4, .string ⟨#[]⟩, .slice aL L.length cL, .slice (some ⟨gE, 0, none⟩) 1 1]) := shut (by
     rw [tyIs_iff]
     exact ⟨aL, cL, some ⟨gE, 0, none⟩, 1, rfl, Nat.zero_le _, HTX9.out, slIs_one GCz.out lz BE ⟨by have := h78.out; have := h26.out; omega, hgE⟩ HTZ9.out⟩)
    have HALL : Shut (∀ t, (TyP t deep ∨ t = .mk 0 [] [] []) → Got bs st (encT t) (TyD.mk 4 [] L [z] = t) st5) := shut (fun t ht => by
     obtain ⟨k, nm', lv, el⟩ := t
     rw [encT_mk]
     have hk5 : 0 ≤ k ∧ k ≤ 5 := by
      rcases ht with ht | ht
      ·unfold TyP at ht
       omega
      ·simp only [TyD.mk.injEq] at ht
       omega
     refine got_kind HGOTw1.out hk5.1 hk5.2 (fun q => ?_)
     rcases ht with ht | ht
     ·unfold TyP at ht
      rcases ht.2 with h1 | ⟨h0, rfl, h1, h2, h3⟩ | h1
      ·omega
      ·rw [if_neg (by omega), if_pos h0]
       match el, h3 with
       | t :: r, h3 =>
        unfold TysP at h3
        obtain ⟨rfl, h3⟩ := h3
        rw [encT1_cons]
        exact (HGOTw5.out lv (fun s hs => by have := life_len (h2.1 s hs); omega) (by omega)).app (fun _ => HGOTw8.out t (.inl h3)) (fun p1 q2 => by have hk9 : k = 4 := (by omega); rw [p1, q2, hk9])
       | [], h3 => unfold TysP at h3; exact h3.elim
      ·omega
     ·simp only [TyD.mk.injEq] at ht
      omega)
    have HT4 : Shut (∀ b, NewA w2.heap.size w9 b → ¬ (fun b => b = g4) b) := shut (fun b hb q => by have q' : b = g4 := q; have := hb.1; have := H44.out; omega)
    clear HTX9 HTZ9
    obtain ⟨y1, y2⟩ := tblk_mid B5 (n := 4) rfl
    have y3 := rowOk_blk B4 (n := 4) rfl
    have agf : aggOk 4 (.agg #[.int .i64 4, .string ⟨#[]⟩, .slice aL L.length cL, .slice (some ⟨gE, 0, none⟩) 1 1]) = true := by simp [aggOk, Value.oneCell']
    obtain ⟨WF, hWF⟩ : ∃ W, W = World.setRow w9 g4 #[.int .i64 4, .string ⟨#[]⟩, .slice aL L.length cL, .slice (some ⟨gE, 0, none⟩) 1 1] := ⟨_, rfl⟩
    have K2 : Keeps (fun b => b = g4) w9 WF := by rw [hWF]; exact (Keeps.refl (fun b => b = g4) w9).setRow (g := g4) (fun _ => rfl) _
    have BF : Blk WF g4 #[.int .i64 4, .string ⟨#[]⟩, .slice aL L.length cL, .slice (some ⟨gE, 0, none⟩) 1 1] 53 := by rw [hWF]; exact blk_setRow B4
    have HF : Shut (GTy w g p ao cap bs st deep (.returned (.agg #[.int .i64 4, .string ⟨#[]⟩, .slice aL L.length cL, .slice (some ⟨gE, 0, none⟩) 1 1])) WF) := shut ⟨.mk 4 [] L [z], [.int .i64 4, .string ⟨#[]⟩, .slice aL L.length cL, .slice (some ⟨gE, 0, none⟩) 1 1], st5, rfl, HTY.out.keeps K2 HT4.out (fun b hb => ⟨Nat.le_trans HW4.out hb.1, Nat.lt_of_lt_of_le hb.2 K2.size⟩), hG.box B4 (not_gT (by decide) (by decide) (by decide)) K2, KX.trans K2 (fun b hb hlt => by have hb' : b = g4 := hb; have := HN4.out; omega), HALL.out⟩
    clear K2 HTY HALL hG KX HT4
    go_wp2_with fail
    rw [← hWF]
    refine bodyPost_ret (v := .agg #[.int .i64 4, .string ⟨#[]⟩, .slice aL L.length cL, .slice (some ⟨gE, 0, none⟩) 1 1]) (results_cell_row rfl _ _ g4 _ _ (0, 0) _ rfl BF Tryz.underlying53 rfl (by rw [infoTy]; rfl)) rfl ?_
    exact HF.out
  ·have hc := gtexts_any hG hl
   go_wp2_with fail
   refine hc.mono ?_
   rintro e w5 ⟨L, aL, cL, st3, rfl, hL, hG2, hK2, hgot⟩
   have HGOTw5 := shut hgot
   have HK25 := shut hK2.size
   have KX2 := KX.trans hK2 (fun _ h _ => h)
   have B42 := hK2.blk B4 hn4
   have B52 := hK2.blk B5 hn5
   clear hc KX hG hgot e0 B4 B5
   have KX := KX2
   have hG := hG2
   have B4 := B42
   have B5 := B52
   clear KX2 hG2 B42 B52
   have e1 := blk_cell B5 2 (v := .slice none 0 0) rfl
   have f1 := blk_free B5 2
   have B52 : Blk (w5.setCell ⟨g5, 2, none⟩ (.slice aL L.length cL)) g5 #[.int .i64 5, .string ⟨#[]⟩, .slice aL L.length cL, .slice none 0 0] 53 := blk_set B5 2 (.slice aL L.length cL)
   have ks : Keeps (fun b => b = g5) w5 (w5.setCell ⟨g5, 2, none⟩ (.slice aL L.length cL)) := (Keeps.refl (fun b => b = g5) w5).setCell (p := ⟨g5, 2, none⟩) (fun _ => rfl) _
   have B42 := ks.blk B4 (fun q => by have q' : g4 = g5 := q; omega)
   have hG2 := hG.box B5 (not_gT (by decide) (by decide) (by decide)) ks
   have KX2 := KX.trans ks (fun b hb hlt => by have hb' : b = g5 := hb; have := hw1.out; omega)
   clear hG KX B4 B5
   have HS26 : w2.heap.size ≤ (w5.setCell ⟨g5, 2, none⟩ (.slice aL L.length cL)).heap.size := by rw [World.size_setCell]; exact HK25.out
   have HL := shut (txNewA (N := w2.heap.size) hL (Nat.le_refl _) ks (fun b hb q => by have q' : b = g5 := q; have := H54.out; omega))
   go_upto_region 9 with fail
   any_goals try (rename_i hfz; simp [f1] at hfz; done)
   clear e1 f1 ks hL
   generalize w5.setCell ⟨g5, 2, none⟩ (.slice aL L.length cL) = w6 at *
   have hG := hG2
   have KX := KX2
   have B4 := B42
   have B5 := B52
   clear hG2 KX2 B42 B52
   have HW26 : Shut (w2.heap.size ≤ w6.heap.size) := shut HS26
   obtain ⟨st4, hst4⟩ : ∃ s : Option Nat, s = (if deep ≤ 64 then st3 else none) := ⟨_, rfl⟩
   have HST4 := shut hst4
   have hmk : Shut (∀ b : Bool, b = st4.isNone → Gt (w6.setCell ⟨g, 1, none⟩ (.bool b)) g p ao cap bs st4 ∧ Keeps (GF g p) w6 (w6.setCell ⟨g, 1, none⟩ (.bool b))) := shut (fun b hb => by
    have q := gt_set hG b hb (fun j hj => by rw [HST4.out] at hj; by_cases hd : deep ≤ 64; rw [if_pos hd] at hj; exact hj; rw [if_neg hd] at hj; cases hj)
    exact ⟨q.1, q.2.1⟩)
   have c1 := blk_cell hG.blk 1 rfl
   have f1 := blk_free hG.blk 1
   clear hst4
   have hcase : (st3 = none ∧ st4 = none) ∨ (∃ j, st3 = some j ∧ ¬ deep ≤ 64 ∧ st4 = none) ∨ (∃ j, st3 = some j ∧ deep ≤ 64 ∧ st4 = some j) := by
    rw [HST4.out]
    cases st3 with
    | none => exact .inl ⟨rfl, by split <;> rfl⟩
    | some j => by_cases hd : deep ≤ 64; exact .inr (.inr ⟨j, rfl, hd, by rw [if_pos hd]⟩); exact .inr (.inl ⟨j, rfl, hd, by rw [if_neg hd]⟩)
   have HTYL : Shut (TyIs (NewA w2.heap.size w6) w6 (.mk 5 [] L []) [.int .i64 5, .string ⟨#[]⟩, .slice aL L.length cL, .slice none 0 0]) := shut (by
    rw [tyIs_iff]
    exact ⟨aL, cL, none, 0, rfl, Nat.zero_le _, HL.out, slIs_nil _ _ _ _ _⟩)
   rcases hcase with ⟨rfl, rfl⟩ | ⟨j, rfl, hdp, rfl⟩ | ⟨j, rfl, hdp, rfl⟩
   ·obtain ⟨hG2, hK2⟩ := hmk.out true rfl
    have KX2 := KX.trans hK2 (fun _ h _ => h)
    have B42 := hK2.blk B4 hn4
    have B52 := hK2.blk B5 hn5
    have HTY := shut (HTYL.out.keeps hK2 (fun b hb q => by have h1 := hb.1; have h2 := HW4.out; rcases q with q | q <;> omega) (fun b hb => ⟨hb.1, Nat.lt_of_lt_of_le hb.2 hK2.size⟩) : TyIs (NewA w2.heap.size (w6.setCell ⟨g, 1, none⟩ (.bool true))) (w6.setCell ⟨g, 1, none⟩ (.bool true)) (.mk 5 [] L []) [.int .i64 5, .string ⟨#[]⟩, .slice aL L.length cL, .slice none 0 0])
    have HALL : Shut (∀ t, (TyP t deep ∨ t = .mk 0 [] [] []) → Got bs st (encT t) (TyD.mk 5 [] L [] = t) none) := shut (fun t ht => by
     obtain ⟨k, nm', lv, el⟩ := t
     rw [encT_mk]
     have hk5 : 0 ≤ k ∧ k ≤ 5 := by
      rcases ht with ht | ht
      ·unfold TyP at ht
       omega
      ·simp only [TyD.mk.injEq] at ht
       omega
     refine got_kind HGOTw1.out hk5.1 hk5.2 (fun q => ?_)
     rcases ht with ht | ht
     ·unfold TyP at ht
      rcases ht.2 with h1 | ⟨h0, rfl, h1, h2, h3⟩ | h1
      ·omega
      ·rw [if_neg (by omega), if_pos h0]
       intro k2 r2 hk2 hr2
       rw [List.append_assoc] at hr2
       have := (HGOTw5.out lv (fun s hs => by have := life_len (h2.1 s hs); omega) (by omega) k2 _ hk2 hr2).2
       cases this
      ·omega
     ·simp only [TyD.mk.injEq] at ht
      omega)
    have c2 := blk_cell hG2.blk 1 rfl
    have HT4 : Shut (∀ b, NewA w2.heap.size (w6.setCell ⟨g, 1, none⟩ (.bool true)) b → ¬ (fun b => b = g4) b) := shut (fun b hb q => by have q' : b = g4 := q; have := hb.1; have := H44.out; omega)
    clear hG KX B4 B5 hK2 hmk HTYL HL
    go_upto_region 10 with fail
    any_goals try (rename_i hfz; simp [f1] at hfz; done)
    clear c1 f1
    generalize w6.setCell ⟨g, 1, none⟩ (.bool true) = w7 at *
    have hG := hG2
    have KX := KX2
    have B4 := B42
    have B5 := B52
    clear hG2 KX2 B42 B52
    go_upto_region 12 with fail
    clear c2
    obtain ⟨y1, y2⟩ := tblk_mid B5 (n := 4) rfl
    have y3 := rowOk_blk B4 (n := 4) rfl
    have agf : aggOk 4 (.agg #[.int .i64 5, .string ⟨#[]⟩, .slice aL L.length cL, .slice none 0 0]) = true := by simp [aggOk, Value.oneCell']
    obtain ⟨WF, hWF⟩ : ∃ W, W = World.setRow w7 g4 #[.int .i64 5, .string ⟨#[]⟩, .slice aL L.length cL, .slice none 0 0] := ⟨_, rfl⟩
    have K2 : Keeps (fun b => b = g4) w7 WF := by rw [hWF]; exact (Keeps.refl (fun b => b = g4) w7).setRow (g := g4) (fun _ => rfl) _
    have BF : Blk WF g4 #[.int .i64 5, .string ⟨#[]⟩, .slice aL L.length cL, .slice none 0 0] 53 := by rw [hWF]; exact blk_setRow B4
    have HF : Shut (GTy w g p ao cap bs st deep (.returned (.agg #[.int .i64 5, .string ⟨#[]⟩, .slice aL L.length cL, .slice none 0 0])) WF) := shut ⟨.mk 5 [] L [], [.int .i64 5, .string ⟨#[]⟩, .slice aL L.length cL, .slice none 0 0], none, rfl, HTY.out.keeps K2 HT4.out (fun b hb => ⟨Nat.le_trans HW4.out hb.1, Nat.lt_of_lt_of_le hb.2 K2.size⟩), hG.box B4 (not_gT (by decide) (by decide) (by decide)) K2, KX.trans K2 (fun b hb hlt => by have hb' : b = g4 := hb; have := HN4.out; omega), HALL.out⟩
    clear K2 HTY HALL hG KX HT4
    go_wp2_with fail
    rw [← hWF]
    refine bodyPost_ret (v := .agg #[.int .i64 5, .string ⟨#[]⟩, .slice aL L.length cL, .slice none 0 0]) (results_cell_row rfl _ _ g4 _ _ (0, 0) _ rfl BF Tryz.underlying53 rfl (by rw [infoTy]; rfl)) rfl ?_
    exact HF.out
   ·have m64 : 64 < deep := by omega
    obtain ⟨hG2, hK2⟩ := hmk.out true rfl
    have KX2 := KX.trans hK2 (fun _ h _ => h)
    have B42 := hK2.blk B4 hn4
    have B52 := hK2.blk B5 hn5
    have HTY := shut (HTYL.out.keeps hK2 (fun b hb q => by have h1 := hb.1; have h2 := HW4.out; rcases q with q | q <;> omega) (fun b hb => ⟨hb.1, Nat.lt_of_lt_of_le hb.2 hK2.size⟩) : TyIs (NewA w2.heap.size (w6.setCell ⟨g, 1, none⟩ (.bool true))) (w6.setCell ⟨g, 1, none⟩ (.bool true)) (.mk 5 [] L []) [.int .i64 5, .string ⟨#[]⟩, .slice aL L.length cL, .slice none 0 0])
    have HALL : Shut (∀ t, (TyP t deep ∨ t = .mk 0 [] [] []) → Got bs st (encT t) (TyD.mk 5 [] L [] = t) none) := shut (fun t ht => by
     obtain ⟨k, nm', lv, el⟩ := t
     rw [encT_mk]
     have hk5 : 0 ≤ k ∧ k ≤ 5 := by
      rcases ht with ht | ht
      ·unfold TyP at ht
       omega
      ·simp only [TyD.mk.injEq] at ht
       omega
     refine got_kind HGOTw1.out hk5.1 hk5.2 (fun q => ?_)
     rcases ht with ht | ht
     ·unfold TyP at ht
      rcases ht.2 with h1 | ⟨h0, rfl, h1, h2, h3⟩ | h1
      ·omega
      ·rw [if_neg (by omega), if_pos h0]
       exact absurd ht.1 hdp
      ·omega
     ·simp only [TyD.mk.injEq] at ht
      omega)
    have c2 := blk_cell hG2.blk 1 rfl
    have HT4 : Shut (∀ b, NewA w2.heap.size (w6.setCell ⟨g, 1, none⟩ (.bool true)) b → ¬ (fun b => b = g4) b) := shut (fun b hb q => by have q' : b = g4 := q; have := hb.1; have := H44.out; omega)
    clear hG KX B4 B5 hK2 hmk HTYL HL
    go_upto_region 10 with fail
    any_goals try (rename_i hfz; simp [f1] at hfz; done)
    clear c1 f1
    generalize w6.setCell ⟨g, 1, none⟩ (.bool true) = w7 at *
    have hG := hG2
    have KX := KX2
    have B4 := B42
    have B5 := B52
    clear hG2 KX2 B42 B52
    go_upto_region 12 with fail
    clear c2
    obtain ⟨y1, y2⟩ := tblk_mid B5 (n := 4) rfl
    have y3 := rowOk_blk B4 (n := 4) rfl
    have agf : aggOk 4 (.agg #[.int .i64 5, .string ⟨#[]⟩, .slice aL L.length cL, .slice none 0 0]) = true := by simp [aggOk, Value.oneCell']
    obtain ⟨WF, hWF⟩ : ∃ W, W = World.setRow w7 g4 #[.int .i64 5, .string ⟨#[]⟩, .slice aL L.length cL, .slice none 0 0] := ⟨_, rfl⟩
    have K2 : Keeps (fun b => b = g4) w7 WF := by rw [hWF]; exact (Keeps.refl (fun b => b = g4) w7).setRow (g := g4) (fun _ => rfl) _
    have BF : Blk WF g4 #[.int .i64 5, .string ⟨#[]⟩, .slice aL L.length cL, .slice none 0 0] 53 := by rw [hWF]; exact blk_setRow B4
    have HF : Shut (GTy w g p ao cap bs st deep (.returned (.agg #[.int .i64 5, .string ⟨#[]⟩, .slice aL L.length cL, .slice none 0 0])) WF) := shut ⟨.mk 5 [] L [], [.int .i64 5, .string ⟨#[]⟩, .slice aL L.length cL, .slice none 0 0], none, rfl, HTY.out.keeps K2 HT4.out (fun b hb => ⟨Nat.le_trans HW4.out hb.1, Nat.lt_of_lt_of_le hb.2 K2.size⟩), hG.box B4 (not_gT (by decide) (by decide) (by decide)) K2, KX.trans K2 (fun b hb hlt => by have hb' : b = g4 := hb; have := HN4.out; omega), HALL.out⟩
    clear K2 HTY HALL hG KX HT4
    go_wp2_with fail
    rw [← hWF]
    refine bodyPost_ret (v := .agg #[.int .i64 5, .string ⟨#[]⟩, .slice aL L.length cL, .slice none 0 0]) (results_cell_row rfl _ _ g4 _ _ (0, 0) _ rfl BF Tryz.underlying53 rfl (by rw [infoTy]; rfl)) rfl ?_
    exact HF.out
   ·have m64 : ¬ 64 < deep := by omega
    obtain ⟨hG2, hK2⟩ := hmk.out false rfl
    have KX2 := KX.trans hK2 (fun _ h _ => h)
    have B42 := hK2.blk B4 hn4
    have B52 := hK2.blk B5 hn5
    have HTY6 := shut (HL.out.keeps hK2 (fun b hb q => by have h1 := hb.1; have h2 := HW4.out; rcases q with q | q <;> omega) (fun b hb => ⟨hb.1, Nat.lt_of_lt_of_le hb.2 hK2.size⟩) (fun _ _ _ h => h) : SlIs (NewA w2.heap.size (w6.setCell ⟨g, 1, none⟩ (.bool false))) (w6.setCell ⟨g, 1, none⟩ (.bool false)) 1 TxIs aL L)
    have c2 := blk_cell hG2.blk 1 rfl
    have KW27 : w2.heap.size ≤ (w6.setCell ⟨g, 1, none⟩ (.bool false)).heap.size := by have := HW26.out; rw [World.size_setCell]; omega
    clear hG KX B4 B5 hK2 hmk HTYL HL
    go_upto_region 10 with fail
    any_goals try (rename_i hfz; simp [f1] at hfz; done)
    clear c1 f1
    generalize w6.setCell ⟨g, 1, none⟩ (.bool false) = w7 at *
    have hG := hG2
    have KX := KX2
    have B4 := B42
    have B5 := B52
    clear hG2 KX2 B42 B52
    have hn0 : n ≠ 0 := by omega
    have wd : IntKind.i64.wrap (deep + 1) = deep + 1 := by rw [IntKind.wrap_i64]; omega
    have HW7 : Shut (w.heap.size ≤ w7.heap.size) := shut KX.size
    have HW27 : Shut (w2.heap.size ≤ w7.heap.size) := shut KW27
    have H47 := shut (lt_of_block B4)
    have H57 := shut (lt_of_block B5)
    have hgp7 := hG.lt
    go_upto_region 11 with fail
    clear c2
    have hc := HIH.out (deep + 1) (by omega) hn0 (by omega) hG hl
    go_wp2_with fail
    refine hc.mono ?_
    rintro e w8 ⟨z, cs, st5, rfl, hTz, hG2, hK2, hgot⟩
    have HGOTw8 := shut hgot
    have KX2 := KX.trans hK2 (fun _ h _ => h)
    have B42 := hK2.blk B4 hn4
    have B52 := hK2.blk B5 hn5
    clear hc KX hG hgot B4 B5
    have KX := KX2
    have hG := hG2
    have B4 := B42
    have B5 := B52
    clear KX2 hG2 B42 B52
    have lz := hTz.len
    have agz := agg_ok lz hTz.one
    have HTX := shut (HTY6.out.keeps hK2 (fun b hb q => by have h1 := hb.1; have h2 := HW4.out; rcases q with q | q <;> omega) (fun b hb => ⟨hb.1, Nat.lt_of_lt_of_le hb.2 hK2.size⟩) (fun _ _ _ h => h) : SlIs (NewA w2.heap.size w8) w8 1 TxIs aL L)
    obtain ⟨Cz, hCz⟩ : ∃ C, C = cs.toArray := ⟨_, rfl⟩
    have hsz : Cz.size = 4 := by rw [hCz]; simpa using lz
    rw [← hCz] at agz ⊢
    have GCz := shut hCz
    have HTZ := shut hTz
    have e1 := blk_cell B5 3 (v := .slice none 0 0) rfl
    have f1 := blk_free B5 3
    have B52 : Blk (w8.setCell ⟨g5, 3, none⟩ (.slice (some ⟨w8.heap.size, 0, none⟩) 1 1)) g5 #[.int .i64 5, .string ⟨#[]⟩, .slice aL L.length cL, .slice (some ⟨w8.heap.size, 0, none⟩) 1 1] 53 := blk_set B5 3 (.slice (some ⟨w8.heap.size, 0, none⟩) 1 1)
    have ks : Keeps (fun b => b = g5) w8 (w8.setCell ⟨g5, 3, none⟩ (.slice (some ⟨w8.heap.size, 0, none⟩) 1 1)) := (Keeps.refl (fun b => b = g5) w8).setCell (p := ⟨g5, 3, none⟩) (fun _ => rfl) _
    have h58 := lt_of_block B5
    have h48 := lt_of_block B4
    have hsc : (w8.setCell ⟨g5, 3, none⟩ (.slice (some ⟨w8.heap.size, 0, none⟩) 1 1)).heap.size = w8.heap.size := World.size_setCell _ _ _
    have BE := blk_new (w8.setCell ⟨g5, 3, none⟩ (.slice (some ⟨w8.heap.size, 0, none⟩) 1 1)) Cz 53
    rw [hsc] at BE
    have kz2 : Keeps (fun b => b = g5) w8 ((w8.setCell ⟨g5, 3, none⟩ (.slice (some ⟨w8.heap.size, 0, none⟩) 1 1)).alloc (.cells Cz 53)) := ks.alloc _
    have B4n := kz2.blk B4 (fun q => by have q' : g4 = g5 := q; omega)
    have B5n := blk_alloc B52 (.cells Cz 53)
    have hGn := hG.box B5 (not_gT (by decide) (by decide) (by decide)) kz2
    have KXn := KX.trans kz2 (fun b hb hlt => by have hb' : b = g5 := hb; have := hw1.out; omega)
    have h78 : Shut (w7.heap.size ≤ w8.heap.size) := shut hK2.size
    have h26 : Shut (w2.heap.size ≤ w7.heap.size) := HW27
    clear hG KX B4 B5 hTz hCz hsc ks B52 hK2 HTY6
    go_upto_region 12 with fail
    any_goals try (rename_i hfz; simp [f1] at hfz; done)
    rw [fillN (n := 4) rfl hsz]
    clear e1 f1 agz
    have HTX9 := shut (HTX.out.keeps kz2 (fun b hb q => by have q' : b = g5 := q; have := hb.1; have := H54.out; omega) (fun b hb => ⟨hb.1, Nat.lt_of_lt_of_le hb.2 kz2.size⟩) (fun _ _ _ h => h) : SlIs (NewA w2.heap.size ((w8.setCell ⟨g5, 3, none⟩ (.slice (some ⟨w8.heap.size, 0, none⟩) 1 1)).alloc (.cells Cz 53))) ((w8.setCell ⟨g5, 3, none⟩ (.slice (some ⟨w8.heap.size, 0, none⟩) 1 1)).alloc (.cells Cz 53)) 1 TxIs aL L)
    have HTZ9 := shut (HTZ.out.keeps kz2 (fun b hb q => by have q' : b = g5 := q; have := hb.1; have := H57.out; omega) (fun b hb => ⟨by have := hb.1; have := h26.out; omega, Nat.lt_of_lt_of_le hb.2 kz2.size⟩) : TyIs (NewA w2.heap.size ((w8.setCell ⟨g5, 3, none⟩ (.slice (some ⟨w8.heap.size, 0, none⟩) 1 1)).alloc (.cells Cz 53))) ((w8.setCell ⟨g5, 3, none⟩ (.slice (some ⟨w8.heap.size, 0, none⟩) 1 1)).alloc (.cells Cz 53)) z cs)
    have hgE : w8.heap.size < ((w8.setCell ⟨g5, 3, none⟩ (.slice (some ⟨w8.heap.size, 0, none⟩) 1 1)).alloc (.cells Cz 53)).heap.size := lt_of_block BE
    clear HTX HTZ kz2
    obtain ⟨gE, hgE2⟩ : ∃ g, w8.heap.size = g := ⟨_, rfl⟩
    rw [hgE2] at BE B5n hgE h78 h58 h48 ⊢
    rw [hgE2] at HTX9 HTZ9 hGn KXn B4n
    clear hgE2
    generalize (w8.setCell ⟨g5, 3, none⟩ (.slice (some ⟨gE, 0, none⟩) 1 1)).alloc (.cells Cz 53) = w9 at *
    have hG := hGn
    have KX := KXn
    have B4 := B4n
    have B5 := B5n
    clear hGn KXn B4n B5n
    have HTY : Shut (TyIs (NewA w2.heap.size w9) w9 (.mk 5 [] L [z]) [.int .i64 5, .string ⟨#[]⟩, .slice aL L.length cL, .slice (some ⟨gE, 0, none⟩) 1 1]) := shut (by
     rw [tyIs_iff]
     exact ⟨aL, cL, some ⟨gE, 0, none⟩, 1, rfl, Nat.zero_le _, HTX9.out, slIs_one GCz.out lz BE ⟨by have := h78.out; have := h26.out; omega, hgE⟩ HTZ9.out⟩)
    have HALL : Shut (∀ t, (TyP t deep ∨ t = .mk 0 [] [] []) → Got bs st (encT t) (TyD.mk 5 [] L [z] = t) st5) := shut (fun t ht => by
     obtain ⟨k, nm', lv, el⟩ := t
     rw [encT_mk]
     have hk5 : 0 ≤ k ∧ k ≤ 5 := by
      rcases ht with ht | ht
      ·unfold TyP at ht
       omega
      ·simp only [TyD.mk.injEq] at ht
       omega
     refine got_kind HGOTw1.out hk5.1 hk5.2 (fun q => ?_)
     rcases ht with ht | ht
     ·unfold TyP at ht
      rcases ht.2 with h1 | ⟨h0, rfl, h1, h2, h3⟩ | h1
      ·omega
      ·rw [if_neg (by omega), if_pos h0]
       match el, h3 with
       | t :: r, h3 =>
        unfold TysP at h3
        obtain ⟨rfl, h3⟩ := h3
        rw [encT1_cons]
        exact (HGOTw5.out lv (fun s hs => by have := life_len (h2.1 s hs); omega) (by omega)).app (fun _ => HGOTw8.out t (.inl h3)) (fun p1 q2 => by have hk9 : k = 5 := (by omega); rw [p1, q2, hk9])
       | [], h3 => unfold TysP at h3; exact h3.elim
      ·omega
     ·simp only [TyD.mk.injEq] at ht
      omega)
    have HT4 : Shut (∀ b, NewA w2.heap.size w9 b → ¬ (fun b => b = g4) b) := shut (fun b hb q => by have q' : b = g4 := q; have := hb.1; have := H44.out; omega)
    clear HTX9 HTZ9
    obtain ⟨y1, y2⟩ := tblk_mid B5 (n := 4) rfl
    have y3 := rowOk_blk B4 (n := 4) rfl
    have agf : aggOk 4 (.agg #[.int .i64 5, .string ⟨#[]⟩, .slice aL L.length cL, .slice (some ⟨gE, 0, none⟩) 1 1]) = true := by simp [aggOk, Value.oneCell']
    obtain ⟨WF, hWF⟩ : ∃ W, W = World.setRow w9 g4 #[.int .i64 5, .string ⟨#[]⟩, .slice aL L.length cL, .slice (some ⟨gE, 0, none⟩) 1 1] := ⟨_, rfl⟩
    have K2 : Keeps (fun b => b = g4) w9 WF := by rw [hWF]; exact (Keeps.refl (fun b => b = g4) w9).setRow (g := g4) (fun _ => rfl) _
    have BF : Blk WF g4 #[.int .i64 5, .string ⟨#[]⟩, .slice aL L.length cL, .slice (some ⟨gE, 0, none⟩) 1 1] 53 := by rw [hWF]; exact blk_setRow B4
    have HF : Shut (GTy w g p ao cap bs st deep (.returned (.agg #[.int .i64 5, .string ⟨#[]⟩, .slice aL L.length cL, .slice (some ⟨gE, 0, none⟩) 1 1])) WF) := shut ⟨.mk 5 [] L [z], [.int .i64 5, .string ⟨#[]⟩, .slice aL L.length cL, .slice (some ⟨gE, 0, none⟩) 1 1], st5, rfl, HTY.out.keeps K2 HT4.out (fun b hb => ⟨Nat.le_trans HW4.out hb.1, Nat.lt_of_lt_of_le hb.2 K2.size⟩), hG.box B4 (not_gT (by decide) (by decide) (by decide)) K2, KX.trans K2 (fun b hb hlt => by have hb' : b = g4 := hb; have := HN4.out; omega), HALL.out⟩
    clear K2 HTY HALL hG KX HT4
    go_wp2_with fail
    rw [← hWF]
    refine bodyPost_ret (v := .agg #[.int .i64 5, .string ⟨#[]⟩, .slice aL L.length cL, .slice (some ⟨gE, 0, none⟩) 1 1]) (results_cell_row rfl _ _ g4 _ _ (0, 0) _ rfl BF Tryz.underlying53 rfl (by rw [infoTy]; rfl)) rfl ?_
    exact HF.out
theorem gkind_all : ∀ (n : Nat) (deep : Int) {w : World} {g p : Nat} {ao : Option Addr} {cap : Nat} {bs : List UInt8} {st : Option Nat}, deep + n = 65 → 1 ≤ deep → Gt w g p ao cap bs st → bs.length ≤ 1000000000 →
  Calls Tryz.prog 34 #[.pointer (some ⟨g, 0, none⟩), .int .i64 deep] w (GTy w g p ao cap bs st deep)
 | 0, deep, _, _, _, _, _, _, _, h1, h2, h3, h4 => gkind_of 0 (fun d {_ _ _ _ _ _ _} _ h => absurd rfl h) deep h1 h2 h3 h4
 | n + 1, deep, _, _, _, _, _, _, _, h1, h2, h3, h4 => gkind_of (n + 1) (fun d {_ _ _ _ _ _ _} a _ c e f => gkind_all n d (by omega) c e f) deep h1 h2 h3 h4
theorem gkind_any {w : World} {g p : Nat} {ao : Option Addr} {cap : Nat} {bs : List UInt8} {st : Option Nat} (h : Gt w g p ao cap bs st) (hl : bs.length ≤ 1000000000) : Calls Tryz.prog 34 #[.pointer (some ⟨g, 0, none⟩), .int .i64 1] w (GTy w g p ao cap bs st 1) := gkind_all 64 1 (by decide) (by decide) h hl
end Go.Proofs.YtjbcagbnagefcaaGreat
