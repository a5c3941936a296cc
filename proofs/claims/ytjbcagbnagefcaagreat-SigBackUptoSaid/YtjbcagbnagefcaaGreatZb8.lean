/- TrM -/
import Derived.Test.YtjbcagbnagefcaaGreatZb2
import Derived.Test.YtjbcagbnagefcaaGreatZb3
import Derived.Test.YtjbcagbnagefcaaGreatZb7
namespace Go.Proofs.YtjbcagbnagefcaaGreat
open Go.RowKit
attribute [local irreducible] wpMix wpMixB wpList
attribute [local go_sem ↓] exec_mid_ty exec_store_ty exec_mid_pl exec_store_pl exec_mid_opr exec_store_opr exec_mid_val exec_store_val exec_mid_st exec_store_st exec_mid_fld exec_store_fld exec_mid_str exec_store_str exec_mid_lif exec_store_lif exec_mid_fun exec_store_fun exec_mid_cr exec_store_cr
attribute [local go_sem ↓] exec_into_pl exec_into_opr exec_into_ty exec_into_val
attribute [local go_sem] rowOk_new World.setRow_alloc_new
theorem box_mid {w : World} {g o : Nat} {C : Array Value} {t : TypeId} {pre mid post new : List Value} (h : Blk w g C t) (hC : C = (pre ++ (mid ++ post)).toArray) (hp : pre.length = o) (hl : new.length = mid.length) : Blk (midSet w g o new.toArray) g (pre ++ (new ++ post)).toArray t := by
 have h2 := blk_midSet h o new.toArray
 have e : midCs C new.toArray o = (pre ++ (new ++ post)).toArray := by
  subst hC hp
  unfold midCs
  simp [hl]
 rwa [e] at h2
theorem box_set {w : World} {g o : Nat} {C : Array Value} {t : TypeId} {pre post : List Value} {v u : Value} (h : Blk w g C t) (hC : C = (pre ++ (v :: post)).toArray) (hp : pre.length = o) : Blk (w.setCell ⟨g, o, none⟩ u) g (pre ++ (u :: post)).toArray t := by
 have h2 := blk_set h o u
 have e : C.setIfInBounds o u = (pre ++ (u :: post)).toArray := by
  subst hC hp
  simp
 rwa [e] at h2
theorem newB_to {N M : Nat} {T : Nat → Prop} {w w' : World} (K : Keeps T w w') (hT : ∀ b, M ≤ b → ¬ T b) (hN : N ≤ M) : ∀ b, NewB M w b → NewB N w' b := fun b h => by
 have := (newB_ok M).keep T w w' b K (hT b h.1) h
 exact ⟨Nat.le_trans hN h.1, this.2⟩
theorem LayOk.on {α : Type} {k : Nat} {P : (Nat → Prop) → World → α → List Value → Prop} (hP : LayOk k P) {N M : Nat} {w w' : World} {d : α} {cs : List Value} (h : P (NewB M w) w d cs) (K : Keeps (fun b => b < M) w w') (hN : N ≤ M) : P (NewB N w') w' d cs :=
 hP.keep _ _ _ _ _ _ _ h K (fun b hb q => by have := hb.1; omega) (newB_to K (fun b hb q => by omega) hN)
theorem txs_on {N M : Nat} {w w' : World} {ao : Option Addr} {l : List (List UInt8)} (h : SlIs (NewB M w) w 1 TxIs ao l) (K : Keeps (fun b => b < M) w w') (hN : N ≤ M) : SlIs (NewB N w') w' 1 TxIs ao l :=
 h.keeps K (fun b hb q => by have := hb.1; omega) (newB_to K (fun b hb q => by omega) hN) (fun _ _ _ h => h)
theorem rows_on {α : Type} {k : Nat} {P : (Nat → Prop) → World → α → List Value → Prop} (hP : LayOk k P) {N M : Nat} {w w' : World} {ao : Option Addr} {l : List α} (h : SlIs (NewB M w) w k (P (NewB M w) w) ao l) (K : Keeps (fun b => b < M) w w') (hN : N ≤ M) : SlIs (NewB N w') w' k (P (NewB N w') w') ao l :=
 h.keeps K (fun b hb q => by have := hb.1; omega) (newB_to K (fun b hb q => by omega) hN) (fun _ _ _ h => hP.on h K hN)
def CTx (w : World) (l : List (List UInt8)) (e : Ending) (w' : World) : Prop := ∃ (a : Option Addr) (c : Nat), e = .returned (.slice a l.length c) ∧ Keeps Nothing w w' ∧ SlIs (NewB w.heap.size w') w' 1 TxIs a l
def CX {α : Type} (P : (Nat → Prop) → World → α → List Value → Prop) (w : World) (d : α) (e : Ending) (w' : World) : Prop := ∃ cs : List Value, e = .returned (.agg cs.toArray) ∧ Keeps Nothing w w' ∧ P (NewB w.heap.size w') w' d cs
def CXs {α : Type} (k : Nat) (P : (Nat → Prop) → World → α → List Value → Prop) (w : World) (l : List α) (e : Ending) (w' : World) : Prop := ∃ (a : Option Addr) (c : Nat), e = .returned (.slice a l.length c) ∧ Keeps Nothing w w' ∧ SlIs (NewB w.heap.size w') w' k (P (NewB w.heap.size w') w') a l
theorem tx_src {S : Nat → Prop} {w : World} {tx e' : TypeId} {ao : Option Addr} {l : List (List UInt8)} {n : Nat} (h : SlIs S w 1 TxIs ao l) (hk : Tryz.prog.underlying tx = some (.slice e')) (hn : l.length = n) (c : Nat) : Src Tryz.prog 1 tx (.slice ao n c) n (l.map txV) w := by
 subst hn
 rcases h.2 with rfl | ⟨b, o, rfl, _, hr⟩
 ·cases ao with
  | none => exact Src.ofNil _ hk c
  | some a => exact Src.ofSlice _ hk a 0 c [] rfl (fun t u hu => by simp at hu) (by intro u hu; cases hu)
 ·refine Src.ofSlice _ hk ⟨b, o, none⟩ l.length c _ (by simp) (fun t u hu => ?_) (fun u hu => ?_)
  ·rw [List.getElem?_map, Option.map_eq_some_iff] at hu
   obtain ⟨x, hx, rfl⟩ := hu
   obtain ⟨cs, _, h2, rfl, _⟩ := rowIs_get hr hx
   have := h2 0 _ rfl
   rw [Nat.mul_one, Nat.add_zero] at this
   rw [ad_mid]
   exact this
  ·obtain ⟨x, _, rfl⟩ := List.mem_map.1 hu
   rfl
theorem rowR_slS {S : Nat → Prop} {w : World} {e : TypeId} {ao : Option Addr} {cap : Nat} {l : List (List UInt8)} (h : RowR w e ao cap (l.map txV)) (hl : l.length ≤ bigN) (hx : ∀ x ∈ l, x.length ≤ bigN) (hS : ∀ g, blockOf ao = some g → S g) : SlIs S w 1 TxIs ao l := by
 refine ⟨hl, ?_⟩
 by_cases he : l = []
 ·exact .inl he
 ·obtain ⟨g, o, rfl⟩ := h.head (by simpa using he)
  refine .inr ⟨g, o, rfl, hS g rfl, rowIs_mk fun j d hd => ⟨[txV d], rfl, ?_, rfl, hx d (List.mem_of_getElem? hd)⟩⟩
  intro t v ht
  cases t with
  | zero =>
   simp at ht
   subst ht
   rw [Nat.mul_one, Nat.add_zero]
   exact h.cell (by rw [List.getElem?_map, hd]; rfl)
  | succ t => simp at ht
theorem tx_small {S : Nat → Prop} {w : World} {ao : Option Addr} {l : List (List UInt8)} (h : SlIs S w 1 TxIs ao l) : ∀ x ∈ l, x.length ≤ bigN := by
 intro x hx
 obtain ⟨j, hj⟩ := List.mem_iff_getElem?.1 hx
 obtain ⟨_, _, _, _, cs, _, _, _, h4⟩ := h.get hj
 exact h4
theorem rowR_new {N : Nat} {w w' : World} {ao : Option Addr} {cap : Nat} {vs : List Value} (h : RowR w' 9 ao cap vs) (mv : Moved w.heap.size none ao) (hN : N ≤ w.heap.size) : ∀ g, blockOf ao = some g → NewB N w' g := by
 intro g hg
 refine ⟨?_, h.lt hg, ?_⟩
 ·rcases mv with mv | ⟨g', mv, hb⟩
  ·rw [mv] at hg; cases hg
  ·rw [mv] at hg
   obtain rfl := Option.some.inj hg
   omega
 ·rintro ⟨cs, hc⟩
  exact h.ne hc (by decide) hg
set_option maxRecDepth 100000 in
set_option linter.unusedSimpArgs false in
set_option maxHeartbeats 4000000 in
theorem ctexts_any {S : Nat → Prop} (l : List (List UInt8)) (w : World) {ao : Option Addr} (c : Nat) (h : SlIs S w 1 TxIs ao l) : Calls Tryz.prog 74 #[.slice ao l.length c] w (CTx w l) := by
 have hl := h.1
 have hs := tx_small h
 obtain ⟨n, hn⟩ : ∃ n, l.length = n := ⟨_, rfl⟩
 have SRC := shut (tx_src (tx := 34) h Tryz.underlying34 hn c)
 have HN := shut hn
 have HL := shut hl
 have HS := shut hs
 have hnb : n ≤ 1000000000 := by unfold bigN at hl; omega
 rw [hn]
 clear h hl hs hn
 go_enter Tryz.func74, Tryz.ntmps74
 go_wp2_with (at_builtin; refine wpList_appZ _ rfl (.const (.slice none 0 0)) (.tmp 3) rfl none 0 [] 0 rfl rfl (rowR_nil _ _) _ n (l.map txV) rfl SRC.out (by omega) hnb ?_)
 intro a2 c2 w2 R2 _ k2 m2
 have hfin : CTx w l (.returned (.slice a2 n c2)) w2 := ⟨a2, c2, by rw [HN.out], k2.mono (fun b hb _ => by cases hb), rowR_slS R2 HL.out HS.out (rowR_new R2 m2 (Nat.le_refl _))⟩
 have HF := shut hfin
 clear hfin R2 k2 m2 SRC
 go_wp2_with fail
 go_ret
 exact HF.out
set_option maxRecDepth 100000 in
set_option linter.unusedSimpArgs false in
set_option maxHeartbeats 4000000 in
theorem cplace_any {S : Nat → Prop} (d : PlD) (w : World) (cs : List Value) (h : PlIs S w d cs) : Calls Tryz.prog 102 #[.agg cs.toArray] w (CX PlIs w d) := by
 have ag1 := agg_ok h.len h.one
 obtain ⟨d_name, d_path⟩ := d
 obtain ⟨a1, c1, rfl, hn, hp⟩ := h
 simp only at hn hp ag1 ⊢
 have HP := shut hp
 obtain ⟨n, hln⟩ : ∃ n, d_path.length = n := ⟨_, rfl⟩
 rw [hln] at ag1 ⊢
 have HLN := shut hln
 have HNM := shut hn
 unfold txV at ag1 ⊢
 have BA := blk_alloc (blk_new w #[.string ⟨d_name.toArray⟩, .slice a1 n c1] 114) (.cells #[.string ⟨#[]⟩, .slice none 0 0] 114)
 have BR := blk_new (w.alloc (.cells #[.string ⟨d_name.toArray⟩, .slice a1 n c1] 114)) #[.string ⟨#[]⟩, .slice none 0 0] 114
 have KW : Keeps Nothing w ((w.alloc (.cells #[.string ⟨d_name.toArray⟩, .slice a1 n c1] 114)).alloc (.cells #[.string ⟨#[]⟩, .slice none 0 0] 114)) := ((Keeps.refl Nothing w).alloc _).alloc _
 rw [World.size_alloc] at BR
 clear hp hln hn
 go_enter Tryz.func102, Tryz.ntmps102
 go_upto_region 1 with fail
 clear ag1
 have hM : ((w.alloc (.cells #[.string ⟨d_name.toArray⟩, .slice a1 n c1] 114)).alloc (.cells #[.string ⟨#[]⟩, .slice none 0 0] 114)).heap.size = w.heap.size + 1 + 1 := by rw [World.size_alloc, World.size_alloc]
 generalize (w.alloc (.cells #[.string ⟨d_name.toArray⟩, .slice a1 n c1] 114)).alloc (.cells #[.string ⟨#[]⟩, .slice none 0 0] 114) = wb at *
 have hgr : w.heap.size ≤ w.heap.size + 1 := by omega
 have hga : w.heap.size ≤ w.heap.size := Nat.le_refl _
 have hne : w.heap.size ≠ w.heap.size + 1 := by omega
 have hgaM : w.heap.size < wb.heap.size := by omega
 have hgrM : w.heap.size + 1 < wb.heap.size := by omega
 have HGR := shut hgr
 have HGA := shut hga
 have HWM : Shut (w.heap.size ≤ wb.heap.size) := shut (by omega)
 clear hgr hga hM
 generalize w.heap.size + 1 = gr at *
 obtain ⟨ga, hga⟩ : ∃ ga, w.heap.size = ga := ⟨_, rfl⟩
 rw [hga] at BA hne hgaM ⊢
 have HGA : Shut (w.heap.size ≤ ga) := shut (Nat.le_of_eq hga)
 clear hga
 have e0 := blk_cell BA 1 (v := .slice a1 n c1) rfl
 have hc := ctexts_any d_path wb c1 (HP.out.keeps KW (fun _ _ h => h) (fun _ h => h) (fun _ _ _ h => h))
 rw [HLN.out] at hc
 go_wp2_with fail
 refine hc.mono ?_
 rintro e w2 ⟨a2, c2, rfl, k2, hR⟩
 rw [HLN.out]
 have HR := shut hR
 clear hc hR e0
 have BA2 := k2.blk BA (fun h => h)
 have BR2 := k2.blk BR (fun h => h)
 have e1 := blk_cell BA2 1 (v := .slice a1 n c1) rfl
 have f1 := blk_free BA2 1
 have BA3 : Blk (w2.setCell ⟨ga, 1, none⟩ (.slice a2 n c2)) ga #[.string ⟨d_name.toArray⟩, .slice a2 n c2] 114 := blk_set BA2 1 (.slice a2 n c2)
 have BR3 : Blk (w2.setCell ⟨ga, 1, none⟩ (.slice a2 n c2)) gr #[.string ⟨#[]⟩, .slice none 0 0] 114 := blk_other BR2 ⟨ga, 1, none⟩ (fun q => hne q.symm) _
 have KW3 : Keeps Nothing w (w2.setCell ⟨ga, 1, none⟩ (.slice a2 n c2)) := (KW.trans k2 (fun _ h _ => h)).setCell (p := ⟨ga, 1, none⟩) (fun h => absurd h (Nat.not_lt.2 HGA.out)) _
 have KS : Keeps (fun b => b < wb.heap.size) w2 (w2.setCell ⟨ga, 1, none⟩ (.slice a2 n c2)) := (Keeps.refl _ w2).setCell (p := ⟨ga, 1, none⟩) (fun _ => hgaM) _
 go_upto_region 2 with fail
 any_goals try (rename_i hfz; simp [f1] at hfz; done)
 clear e1 f1 BA2 BR2 KW k2 BA BR
 obtain ⟨y1, y2⟩ := tblk_mid BA3 (n := 2) rfl
 have y3 := rowOk_blk BR3 (n := 2) rfl
 have KS4 := KS.setRow (g := gr) (fun _ => hgrM) #[.string ⟨d_name.toArray⟩, .slice a2 n c2]
 have KF := KW3.setRow (g := gr) (fun h => absurd h (Nat.not_lt.2 HGR.out)) #[.string ⟨d_name.toArray⟩, .slice a2 n c2]
 have hfin : CX PlIs w ⟨d_name, d_path⟩ (.returned (.agg #[.string ⟨d_name.toArray⟩, .slice a2 n c2])) ((w2.setCell ⟨ga, 1, none⟩ (.slice a2 n c2)).setRow gr #[.string ⟨d_name.toArray⟩, .slice a2 n c2]) :=
  ⟨[.string ⟨d_name.toArray⟩, .slice a2 n c2], rfl, KF, a2, c2, by rw [HLN.out]; rfl, HNM.out, txs_on HR.out KS4 HWM.out⟩
 have agC : aggOk 2 (.agg #[.string ⟨d_name.toArray⟩, .slice a2 n c2]) = true := by simp [aggOk, Value.oneCell']
 have HF := shut hfin
 have BF := blk_setRow (cs := #[.string ⟨d_name.toArray⟩, .slice a2 n c2]) BR3
 clear hfin KF KS4 KS HR
 generalize w2.setCell ⟨ga, 1, none⟩ (.slice a2 n c2) = w3 at *
 go_wp2_with fail
 refine bodyPost_ret (v := .agg #[.string ⟨d_name.toArray⟩, .slice a2 n c2]) (results_cell_row rfl _ _ gr _ _ (0, 0) _ rfl BF Tryz.underlying114 rfl (by rw [infoPl]; rfl)) rfl ?_
 exact HF.out
end Go.Proofs.YtjbcagbnagefcaaGreat
namespace Go.Proofs.YtjbcagbnagefcaaGreat
open Go.RowKit
attribute [local irreducible] wpMix wpMixB wpList
attribute [local go_sem ↓] exec_mid_ty exec_store_ty exec_mid_pl exec_store_pl exec_mid_opr exec_store_opr exec_mid_val exec_store_val exec_mid_st exec_store_st exec_mid_fld exec_store_fld exec_mid_str exec_store_str exec_mid_lif exec_store_lif exec_mid_fun exec_store_fun exec_mid_cr exec_store_cr
attribute [local go_sem ↓] exec_into_pl exec_into_opr exec_into_ty exec_into_val
attribute [local go_sem] rowOk_new World.setRow_alloc_new
theorem keepsHi {w W : World} (h : Keeps (fun b => w.heap.size ≤ b) w W) : Keeps Nothing w W :=
 ⟨h.os, h.tape, h.output, h.size, fun k hk _ => h.block k hk (by omega)⟩
theorem plOk : LayOk 2 PlIs := ⟨fun _ _ _ _ h => h.len, fun _ _ _ _ h => h.one, fun _ _ _ _ _ _ _ h => h.keeps⟩
theorem valOk : LayOk 15 ValIs := ⟨fun _ _ _ _ h => h.len, fun _ _ _ _ h => h.one, fun _ _ _ _ _ _ _ h => h.keeps⟩
theorem outR_new {α : Type} {e : TypeId} {k : Nat} {P : (Nat → Prop) → World → α → List Value → Prop} {N M : Nat} {w : World} {ao : Option Addr} {cap : Nat} {l : List α} (h : OutR (NewB N) e k P N w ao cap l) (hP : LayOk k P) (he : e ≠ 121) (hM : M ≤ N) (hl : l.length ≤ bigN) : SlIs (NewB M w) w k (P (NewB M w) w) ao l :=
 h.sl hP (fun _ hb => ⟨Nat.le_trans hM hb.1, hb.2⟩) (fun g hg => ⟨Nat.le_trans hM (h.new g hg), h.lt hg, fun ⟨_, hc⟩ => h.ne hc he hg⟩) hl
theorem fill_list {Z : Array Value} {l : List Value} (h : Z.size = l.length) : List.foldl (fun cs (x : Value × Nat) => cs.setIfInBounds x.snd x.fst) Z l.zipIdx = l.toArray := by
 apply Array.ext_getElem?
 intro i
 rw [fillL, if_neg (by omega), h, Nat.zero_add, Nat.sub_zero]
 by_cases hi : i < l.length
 ·rw [if_pos ⟨hi, hi⟩, List.getElem?_toArray]
 ·rw [if_neg (fun q => hi q.1), Array.getElem?_eq_none (by omega), Array.getElem?_eq_none (by simp; omega)]
set_option maxRecDepth 100000 in
set_option linter.unusedSimpArgs false in
set_option maxHeartbeats 8000000 in
theorem coper_any {S : Nat → Prop} (d : OprD) (w : World) (cs : List Value) (h : OprIs S w d cs) : Calls Tryz.prog 104 #[.agg cs.toArray] w (CX OprIs w d) := by
 have ag1 := agg_ok h.len h.one
 obtain ⟨a_kind, a_n, a_place⟩ := d
 obtain ⟨s2, hcs, hp⟩ := h
 simp only at hcs hp
 have al_place := hp.len
 obtain ⟨C, hC⟩ : ∃ C, C = cs.toArray := ⟨_, rfl⟩
 rw [← hC] at ag1 ⊢
 rw [hcs] at hC
 have GC := shut hC
 have HP := shut hp
 clear hC hcs hp
 have BA := blk_alloc (blk_new w C 116) (.cells #[.int .i64 0, .int .i64 0, .string ⟨#[]⟩, .slice none 0 0] 116)
 have BR := blk_new (w.alloc (.cells C 116)) #[.int .i64 0, .int .i64 0, .string ⟨#[]⟩, .slice none 0 0] 116
 have KW : Keeps Nothing w ((w.alloc (.cells C 116)).alloc (.cells #[.int .i64 0, .int .i64 0, .string ⟨#[]⟩, .slice none 0 0] 116)) := ((Keeps.refl Nothing w).alloc _).alloc _
 have HM0 : ((w.alloc (.cells C 116)).alloc (.cells #[.int .i64 0, .int .i64 0, .string ⟨#[]⟩, .slice none 0 0] 116)).heap.size = w.heap.size + 1 + 1 := by rw [World.size_alloc, World.size_alloc]
 rw [World.size_alloc] at BR
 go_enter Tryz.func104, Tryz.ntmps104
 go_upto_region 1 with fail
 generalize (w.alloc (.cells C 116)).alloc (.cells #[.int .i64 0, .int .i64 0, .string ⟨#[]⟩, .slice none 0 0] 116) = w0 at *
 have HGA : Shut (w.heap.size ≤ w.heap.size) := shut (Nat.le_refl _)
 have HGR : Shut (w.heap.size ≤ w.heap.size + 1) := shut (Nat.le_succ _)
 have hne : w.heap.size ≠ w.heap.size + 1 := by omega
 have hgaM : w.heap.size < w.heap.size + 1 + 1 := by omega
 have hgrM : w.heap.size + 1 < w.heap.size + 1 + 1 := by omega
 have hMb : w.heap.size + 1 + 1 ≤ w0.heap.size := Nat.le_of_eq HM0.symm
 have HNM : Shut (w.heap.size ≤ w.heap.size + 1 + 1) := shut (by omega)
 clear HM0 ag1
 obtain ⟨ga, hga⟩ : ∃ ga, w.heap.size = ga := ⟨_, rfl⟩
 obtain ⟨gr, hgr⟩ : ∃ gr, w.heap.size + 1 = gr := ⟨_, rfl⟩
 obtain ⟨M, hM⟩ : ∃ M, w.heap.size + 1 + 1 = M := ⟨_, rfl⟩
 rw [hM] at hgaM hgrM hMb HNM
 rw [hgr] at BR hne hgrM HGR ⊢
 have HGA2 : Shut (w.heap.size ≤ ga) := shut (Nat.le_of_eq hga)
 clear HGA
 have HGA := HGA2
 clear HGA2 hM hgr
 rw [hga] at BA hne hgaM ⊢
 clear hga
 obtain ⟨-, -, ⟨e0, e0f⟩⟩ := OprB al_place GC.out BA
 have hc := cplace_any a_place w0 s2 (HP.out.keeps KW (fun _ _ h => h) (fun _ h => h))
 go_wp2_with fail
 refine hc.mono ?_
 rintro e w2 ⟨r2, rfl, k2, hR⟩
 have RP := shut hR
 have bl_place := RP.out.len
 have agn := agg_ok RP.out.len RP.out.one
 clear hc hR e0 e0f
 have BA2 := k2.blk BA (fun h => h)
 have BR2 := k2.blk BR (fun h => h)
 have hCs : C.size = 4 := by rw [GC.out]; simp [al_place]
 have e1 := midFit_blk BA2 (o := 2) (n := 2) (by rw [hCs]; decide)
 have hL1 : (([.int .i64 a_kind, .int .i64 a_n] : List Value) ++ s2 : List Value) = (([.int .i64 a_kind, .int .i64 a_n] : List Value)) ++ (s2 ++ (([] : List Value))) := by simp
 have hL2 : (([.int .i64 a_kind, .int .i64 a_n] : List Value) ++ r2 : List Value) = (([.int .i64 a_kind, .int .i64 a_n] : List Value)) ++ (r2 ++ (([] : List Value))) := by simp
 have BA3 : Blk (midSet w2 ga 2 r2.toArray) ga (([.int .i64 a_kind, .int .i64 a_n] : List Value) ++ r2).toArray 116 := by
  rw [hL2]
  exact box_mid (pre := ([.int .i64 a_kind, .int .i64 a_n] : List Value)) (mid := s2) (post := ([] : List Value)) (new := r2) BA2 (by rw [GC.out, hL1]) (by simp) (by rw [bl_place, al_place])
 have KS0 : ∀ (T : Nat → Prop), T ga → Keeps T w2 (midSet w2 ga 2 r2.toArray) := fun T hT => midSet_keeps (Keeps.refl T w2) (g := ga) (fun _ => hT) _ _
 have KW3 : Keeps Nothing w (midSet w2 ga 2 r2.toArray) := midSet_keeps (KW.trans k2 (fun _ h _ => h)) (g := ga) (fun h => absurd h (Nat.not_lt.2 HGA.out)) _ _
 have BR3 : Blk (midSet w2 ga 2 r2.toArray) gr #[.int .i64 0, .int .i64 0, .string ⟨#[]⟩, .slice none 0 0] 116 := blk_setRow_other BR2 (fun q => hne q.symm)
 have KK : Keeps (fun b => b < M) w0 (midSet w2 ga 2 r2.toArray) := (k2.mono (S' := fun b => b < M) (fun _ h _ => h.elim)).trans (KS0 (fun b => b < M) hgaM) (fun _ h _ => h)
 have KS2 := KS0 (fun b => b < w0.heap.size) (Nat.lt_of_lt_of_le hgaM hMb)
 have hMb3 : M ≤ (midSet w2 ga 2 r2.toArray).heap.size := Nat.le_trans hMb KK.size
 have RP := shut (plOk.on RP.out KS2 hMb)
 go_upto_region 2 with fail
 clear e1 agn hCs BA2 BR2 BR KW k2 BA KS0 KK KS2 hL1 hL2 hMb GC
 generalize midSet w2 ga 2 r2.toArray = w5 at *
 have KW := KW3
 have hMb := hMb3
 obtain ⟨C, hC⟩ : ∃ C, C = (([.int .i64 a_kind, .int .i64 a_n] : List Value) ++ r2).toArray := ⟨_, rfl⟩
 rw [← hC] at BA3
 have GC := shut hC
 have BA := BA3
 have BR := BR3
 clear KW3 hMb3 hC BA3 BR3
 have hsC : C.size = 4 := (by rw [GC.out]; simp [bl_place])
 obtain ⟨y1, y2⟩ := tblk_mid BA hsC
 have y3 := rowOk_blk BR (n := 4) rfl
 have KS : Keeps (fun b => b < M) w5 (w5.setRow gr C) := (Keeps.refl (fun b => b < M) w5).setRow (g := gr) (fun _ => hgrM) C
 have KF : Keeps Nothing w (w5.setRow gr C) := KW.setRow (g := gr) (fun h => absurd h (Nat.not_lt.2 HGR.out)) C
 have hP : OprIs (NewB w.heap.size (w5.setRow gr C)) (w5.setRow gr C) ⟨a_kind, a_n, a_place⟩ ([.int .i64 a_kind, .int .i64 a_n] ++ r2) := ⟨r2, rfl, plOk.on RP.out KS HNM.out⟩
 have HF : Shut (CX OprIs w ⟨a_kind, a_n, a_place⟩ (.returned (.agg C)) (w5.setRow gr C)) := shut ⟨([.int .i64 a_kind, .int .i64 a_n] : List Value) ++ r2, by rw [GC.out], KF, hP⟩
 have agC : aggOk 4 (.agg C) = true := by
  rw [GC.out]
  exact agg_ok (by simp [bl_place]) hP.one
 have BF := blk_setRow (cs := C) BR
 clear hP KF KS KW BA BR GC hMb
 go_wp2_with fail
 refine bodyPost_ret (v := .agg C) (results_cell_row rfl _ _ gr _ C (0, 0) _ rfl BF Tryz.underlying116 rfl (by rw [infoOpr, hsC])) rfl ?_
 exact HF.out
end Go.Proofs.YtjbcagbnagefcaaGreat
namespace Go.Proofs.YtjbcagbnagefcaaGreat
open Go.RowKit
attribute [local irreducible] wpMix wpMixB wpList
attribute [local go_sem ↓] exec_mid_ty exec_store_ty exec_mid_pl exec_store_pl exec_mid_opr exec_store_opr exec_mid_val exec_store_val exec_mid_st exec_store_st exec_mid_fld exec_store_fld exec_mid_str exec_store_str exec_mid_lif exec_store_lif exec_mid_fun exec_store_fun exec_mid_cr exec_store_cr
attribute [local go_sem ↓] exec_into_pl exec_into_opr exec_into_ty exec_into_val
attribute [local go_sem] rowOk_new World.setRow_alloc_new
set_option maxRecDepth 100000 in
set_option linter.unusedSimpArgs false in
set_option maxHeartbeats 8000000 in
theorem ctype_of (x_kind : Int) (x_name : List UInt8) (x_lives : List (List UInt8)) (x_elem : List TyD) (ih : ∀ e ∈ x_elem, ∀ {S : Nat → Prop} (w : World) (cs : List Value), TyIs S w e cs → Calls Tryz.prog 76 #[.agg cs.toArray] w (CX TyIs w e)) {S : Nat → Prop} (w : World) (cs : List Value) (h : TyIs S w (.mk x_kind x_name x_lives x_elem) cs) : Calls Tryz.prog 76 #[.agg cs.toArray] w (CX TyIs w (.mk x_kind x_name x_lives x_elem)) := by
 have ag1 := agg_ok h.len h.one
 rw [tyIs_iff] at h
 obtain ⟨a2, c2, a3, c3, hcs, hn, h2, h3⟩ := h
 simp only [TyD.kind, TyD.name, TyD.lives, TyD.elem] at hcs hn h2 h3
 unfold txV at hcs
 have HIH := shut ih
 obtain ⟨nl, hnl⟩ : ∃ nl, x_lives.length = nl := ⟨_, rfl⟩
 obtain ⟨n, hln⟩ : ∃ n, x_elem.length = n := ⟨_, rfl⟩
 rw [hnl, hln] at hcs
 have HLL := shut hnl
 have HLN := shut hln
 have HNA := shut hn
 have HL2 := shut h2
 have HL := shut h3
 have hnb : n ≤ 100000000 := by have := h3.1; unfold bigN at this; omega
 obtain ⟨C, hC⟩ : ∃ C, C = cs.toArray := ⟨_, rfl⟩
 rw [← hC] at ag1 ⊢
 rw [hcs] at hC
 have GC := shut hC
 clear hC hcs ih hnl hln hn h2 h3
 have BA := blk_alloc (blk_new w C 53) (.cells #[.int .i64 0, .string ⟨#[]⟩, .slice none 0 0, .slice none 0 0] 53)
 have BR := blk_new (w.alloc (.cells C 53)) #[.int .i64 0, .string ⟨#[]⟩, .slice none 0 0, .slice none 0 0] 53
 have KW : Keeps Nothing w ((w.alloc (.cells C 53)).alloc (.cells #[.int .i64 0, .string ⟨#[]⟩, .slice none 0 0, .slice none 0 0] 53)) := ((Keeps.refl Nothing w).alloc _).alloc _
 have HM0 : ((w.alloc (.cells C 53)).alloc (.cells #[.int .i64 0, .string ⟨#[]⟩, .slice none 0 0, .slice none 0 0] 53)).heap.size = w.heap.size + 1 + 1 := by rw [World.size_alloc, World.size_alloc]
 rw [World.size_alloc] at BR
 go_enter Tryz.func76, Tryz.ntmps76
 go_upto_region 1 with fail
 generalize (w.alloc (.cells C 53)).alloc (.cells #[.int .i64 0, .string ⟨#[]⟩, .slice none 0 0, .slice none 0 0] 53) = w0 at *
 have HGA : Shut (w.heap.size ≤ w.heap.size) := shut (Nat.le_refl _)
 have HGR : Shut (w.heap.size ≤ w.heap.size + 1) := shut (Nat.le_succ _)
 have hne : w.heap.size ≠ w.heap.size + 1 := by omega
 have hgaM : w.heap.size < w.heap.size + 1 + 1 := by omega
 have hgrM : w.heap.size + 1 < w.heap.size + 1 + 1 := by omega
 have hMb : w.heap.size + 1 + 1 ≤ w0.heap.size := Nat.le_of_eq HM0.symm
 have HNM : Shut (w.heap.size ≤ w.heap.size + 1 + 1) := shut (by omega)
 clear HM0 ag1
 obtain ⟨ga, hga⟩ : ∃ ga, w.heap.size = ga := ⟨_, rfl⟩
 obtain ⟨gr, hgr⟩ : ∃ gr, w.heap.size + 1 = gr := ⟨_, rfl⟩
 obtain ⟨M, hM⟩ : ∃ M, w.heap.size + 1 + 1 = M := ⟨_, rfl⟩
 rw [hM] at hgaM hgrM hMb HNM
 rw [hgr] at BR hne hgrM HGR ⊢
 have HGA2 : Shut (w.heap.size ≤ ga) := shut (Nat.le_of_eq hga)
 clear HGA
 have HGA := HGA2
 clear HGA2 hM hgr
 rw [hga] at BA hne hgaM ⊢
 clear hga
 obtain ⟨-, -, e0, -⟩ := TyB GC.out BA
 have hc := ctexts_any x_lives w0 c2 (HL2.out.keeps KW (fun _ _ h => h) (fun _ h => h) (fun _ _ _ h => h))
 rw [HLL.out] at hc
 go_wp2_with fail
 refine hc.mono ?_
 rintro e w2 ⟨b2, d2, rfl, k2, hR⟩
 rw [HLL.out]
 have RL := shut hR
 clear hc hR e0
 have BA2 := k2.blk BA (fun h => h)
 have BR2 := k2.blk BR (fun h => h)
 obtain ⟨-, -, e1, -⟩ := TyB GC.out BA2
 have f1 := blk_free BA2 2
 have hL1 : (([.int .i64 x_kind, .string ⟨x_name.toArray⟩, .slice a2 nl c2, .slice a3 n c3] : List Value) : List Value) = (([.int .i64 x_kind, .string ⟨x_name.toArray⟩] : List Value)) ++ (.slice a2 nl c2 :: (([.slice a3 n c3] : List Value))) := by simp
 have hL2 : (([.int .i64 x_kind, .string ⟨x_name.toArray⟩, .slice b2 nl d2, .slice a3 n c3] : List Value) : List Value) = (([.int .i64 x_kind, .string ⟨x_name.toArray⟩] : List Value)) ++ (.slice b2 nl d2 :: (([.slice a3 n c3] : List Value))) := by simp
 have BA3 : Blk (w2.setCell ⟨ga, 2, none⟩ (.slice b2 nl d2)) ga (([.int .i64 x_kind, .string ⟨x_name.toArray⟩, .slice b2 nl d2, .slice a3 n c3] : List Value)).toArray 53 := by
  rw [hL2]
  exact box_set (pre := ([.int .i64 x_kind, .string ⟨x_name.toArray⟩] : List Value)) (post := ([.slice a3 n c3] : List Value)) (v := .slice a2 nl c2) (u := .slice b2 nl d2) BA2 (by rw [GC.out, hL1]) (by simp)
 have KS0 : ∀ (T : Nat → Prop), T ga → Keeps T w2 (w2.setCell ⟨ga, 2, none⟩ (.slice b2 nl d2)) := fun T hT => (Keeps.refl T w2).setCell (p := ⟨ga, 2, none⟩) (fun _ => hT) _
 have KW3 : Keeps Nothing w (w2.setCell ⟨ga, 2, none⟩ (.slice b2 nl d2)) := (KW.trans k2 (fun _ h _ => h)).setCell (p := ⟨ga, 2, none⟩) (fun h => absurd h (Nat.not_lt.2 HGA.out)) _
 have BR3 : Blk (w2.setCell ⟨ga, 2, none⟩ (.slice b2 nl d2)) gr #[.int .i64 0, .string ⟨#[]⟩, .slice none 0 0, .slice none 0 0] 53 := blk_other BR2 ⟨ga, 2, none⟩ (fun q => hne q.symm) _
 have KK : Keeps (fun b => b < M) w0 (w2.setCell ⟨ga, 2, none⟩ (.slice b2 nl d2)) := (k2.mono (S' := fun b => b < M) (fun _ h _ => h.elim)).trans (KS0 (fun b => b < M) hgaM) (fun _ h _ => h)
 have KS2 := KS0 (fun b => b < w0.heap.size) (Nat.lt_of_lt_of_le hgaM hMb)
 have hMb3 : M ≤ (w2.setCell ⟨ga, 2, none⟩ (.slice b2 nl d2)).heap.size := Nat.le_trans hMb KK.size
 have RL := shut (txs_on RL.out KS2 hMb)
 go_upto_region 3 with fail
 any_goals try (rename_i hfz; simp [f1] at hfz; done)
 clear e1 f1 BA2 BR2 BR KW k2 BA KS0 KK KS2 hL1 hL2 hMb GC
 generalize w2.setCell ⟨ga, 2, none⟩ (.slice b2 nl d2) = w5 at *
 have KW := KW3
 have hMb := hMb3
 obtain ⟨C, hC⟩ : ∃ C, C = (([.int .i64 x_kind, .string ⟨x_name.toArray⟩, .slice b2 nl d2, .slice a3 n c3] : List Value)).toArray := ⟨_, rfl⟩
 rw [← hC] at BA3
 have GC := shut hC
 have BA := BA3
 have BR := BR3
 clear KW3 hMb3 hC BA3 BR3
 obtain ⟨-, -, -, e3⟩ := TyB GC.out BA
 go_wp2_with fail
 go_loopw [3, 13] (fun s3 s13 wx => ∃ (t : Nat) (ao : Option Addr) (cap : Nat), s13 = .int .i64 t ∧ s3 = .slice ao t cap ∧ t ≤ n ∧ Keeps (fun b => w5.heap.size ≤ b) w5 wx ∧ Shut (OutR (NewB w5.heap.size) 53 4 TyIs w5.heap.size wx ao cap (x_elem.take t))) (fun _ s13 _ => n - (intOf s13).toNat)
 case atStart => exact ⟨0, none, 0, rfl, rfl, Nat.zero_le _, Keeps.refl _ _, shut (by rw [List.take_zero]; exact outR_nil _ _ _ _ _ _)⟩
 case round =>
  obtain ⟨t, ao, cap, rfl, rfl, ht, KL, HO⟩ := hrel
  by_cases hlt : t < n
  ·obtain ⟨x, hx⟩ : ∃ x, x_elem[t]? = some x := ⟨_, List.getElem?_eq_getElem (by rw [HLN.out]; exact hlt)⟩
   have KWr := KW.trans (keepsHi KL) (fun _ h _ => h)
   obtain ⟨g1, o1, rfl, -, cs, l1, r1, i1⟩ := (HL.out.keeps (S' := S) (Q := TyIs S wr) KWr (fun _ _ h => h) (fun _ h => h) (fun _ _ _ h => h.keeps KWr (fun _ _ h => h) (fun _ h => h))).get hx
   have HX := shut hx
   have hxm := List.mem_of_getElem? hx
   clear hx
   have m0 : (0 : Int) ≤ t := by omega
   have m1 : (t : Int) < n := by omega
   have hk := midOk_range r1
   have ho := midOf_range r1
   rw [l1] at hk ho
   have ag2 := agg_ok l1 i1.one
   have kx1 : Keeps Nothing wr (wr.alloc (.cells cs.toArray 53)) := (Keeps.refl Nothing wr).alloc _
   have hcl := HIH.out x hxm _ cs (i1.keeps kx1 (fun _ _ h => h) (fun _ h => h))
   have BX := blk_new wr cs.toArray 53
   have hszx : cs.toArray.size = 4 := by simpa using l1
   have hw01 : wr.heap.size ≤ (wr.alloc (.cells cs.toArray 53)).heap.size := kx1.size
   obtain ⟨Cx, hCx⟩ : ∃ Cx, cs.toArray = Cx := ⟨_, rfl⟩
   rw [hCx] at hcl BX hszx kx1 ho ag2 hw01
   clear hCx i1 r1 l1
   go_upto_region 6 with fail
   clear hk ho ag2
   generalize wr.alloc (.cells Cx 53) = w1 at *
   have hgx := lt_of_block BX
   obtain ⟨z1, z2⟩ := tblk_mid BX hszx
   go_wp2_with fail
   refine hcl.mono ?_
   rintro e w2 ⟨cs2, rfl, k2, hN⟩
   have HN := shut hN
   have hlc := hN.len
   have agx := agg_ok hN.len hN.one
   have hw12 := k2.size
   have kx := kx1.trans k2 (fun _ h _ => h)
   clear hcl hN z1 z2 BX kx1 k2
   have BB := blk_new w2 (cs2.toArray) 53
   have kb : Keeps Nothing w2 (w2.alloc (.cells (cs2.toArray) 53)) := (Keeps.refl Nothing w2).alloc _
   have kx3 := kx.trans kb (fun _ h _ => h)
   have hW0 : w5.heap.size ≤ w1.heap.size := Nat.le_trans KL.size hw01
   clear kx
   have HO3 := shut (HO.out.keepsN (newB_ok _) tyOk kx3)
   have hlao : ∀ g, blockOf ao = some g → g < wr.heap.size := fun g hg => HO.out.lt hg
   have hel : TyIs (InB (NewB w5.heap.size) (w2.alloc (.cells (cs2.toArray) 53)) ao) (w2.alloc (.cells (cs2.toArray) 53)) x cs2 := tyOk.keep _ _ _ _ _ _ _ HN.out kb (fun _ _ h => h) (fun b hb => ⟨(newB_ok _).keep Nothing w2 (w2.alloc (.cells (cs2.toArray) 53)) b kb (fun h => h) ⟨Nat.le_trans hW0 hb.1, hb.2⟩, fun q => by have := hlao b q; have := hb.1; omega⟩)
   have HEL := shut hel
   have hlt3 : w5.heap.size ≤ (w2.alloc (.cells (cs2.toArray) 53)).heap.size := Nat.le_trans (Nat.le_trans hW0 hw12) kb.size
   have htl : Shut ((x_elem.take t).length = t) := shut (by rw [List.length_take, HLN.out]; omega)
   have htb : t ≤ 1000000000 := by omega
   have HNEW := shut HO.out.new
   have HBB := shut BB
   have KX3 : Keeps (fun b => w5.heap.size ≤ b) w5 (w2.alloc (.cells (cs2.toArray) 53)) := KL.trans kx3 (fun _ h _ => h.elim)
   clear hel BB KL HO kx3 kb HN
   go_wp2_with (at_builtin; rw [fill_list (by rw [hlc]; rfl)]; refine wpList_appD _ rfl (.tmp 17) (.tmp 20) 51 rfl Tryz.underlying51 iaTy (by decide) (newB_ok _) tyOk t htl.out rfl HO3.out hlt3 _ _ cs2 x rfl rfl HBB.out HEL.out htb ?_)
   intro a4 c4 w4 O4 k4 m4
   have HO4 : Shut (OutR (NewB w5.heap.size) 53 4 TyIs w5.heap.size w4 a4 c4 (x_elem.take (t + 1))) := shut (by rw [List.take_add_one, HX.out]; exact O4)
   have KL4 := KX3.trans k4 (fun g hg _ => HNEW.out g hg)
   clear O4 k4 m4 KX3 HO3 HEL HBB HNEW
   go_wp2_with fail
   go_roundw
   case rel => exact ⟨t + 1, a4, c4, by go_num, rfl, by omega, KL4, HO4⟩
   case measure => (simp [intOf]; try omega)
  obtain rfl : t = n := by omega
  have m1 : ¬ (t : Int) < t := by omega
  have HO1 : Shut (OutR (NewB w5.heap.size) 53 4 TyIs w5.heap.size wr ao cap x_elem) := shut (by have := HO.out; rwa [List.take_of_length_le (Nat.le_of_eq HLN.out)] at this)
  clear HO
  have kl := keepsHi KL
  have BA := kl.blk BA (fun h => h)
  have BR := kl.blk BR (fun h => h)
  have KW := KW.trans kl (fun _ h _ => h)
  have RL := shut (txs_on RL.out (kl.mono (S' := fun b => b < M) (fun _ h _ => h.elim)) (Nat.le_refl M))
  have hM1 : M ≤ wr.heap.size := Nat.le_trans hMb KL.size
  have RE : Shut (SlIs (NewB M wr) wr 4 (TyIs (NewB M wr) wr) ao x_elem) := shut (outR_new HO1.out tyOk (by decide) hMb (by rw [HLN.out]; unfold bigN; omega))
  clear HO1 KL kl hMb
  have e3 := blk_cell BA 3 (v := .slice a3 t c3) (by rw [GC.out]; rfl)
  have f3 := blk_free BA 3
  have BA3 : Blk (wr.setCell ⟨ga, 3, none⟩ (.slice ao t cap)) ga #[.int .i64 x_kind, .string ⟨x_name.toArray⟩, .slice b2 nl d2, .slice ao t cap] 53 := by
   have := blk_set BA 3 (.slice ao t cap)
   rw [GC.out] at this
   exact this
  have BR3 : Blk (wr.setCell ⟨ga, 3, none⟩ (.slice ao t cap)) gr #[.int .i64 0, .string ⟨#[]⟩, .slice none 0 0, .slice none 0 0] 53 := blk_other BR ⟨ga, 3, none⟩ (fun q => hne q.symm) _
  have KW3 : Keeps Nothing w (wr.setCell ⟨ga, 3, none⟩ (.slice ao t cap)) := KW.setCell (p := ⟨ga, 3, none⟩) (fun h => absurd h (Nat.not_lt.2 HGA.out)) _
  have KK : Keeps (fun b => b < M) wr (wr.setCell ⟨ga, 3, none⟩ (.slice ao t cap)) := (Keeps.refl (fun b => b < M) wr).setCell (p := ⟨ga, 3, none⟩) (fun _ => hgaM) _
  have RL := shut (txs_on RL.out KK (Nat.le_refl M))
  have RE := shut (rows_on tyOk RE.out KK (Nat.le_refl M))
  go_upto_region 9 with fail
  any_goals try (rename_i hfz; simp [f3] at hfz; done)
  clear e3 f3 BA BR KW KK GC
  generalize wr.setCell ⟨ga, 3, none⟩ (.slice ao t cap) = w6 at *
  have hMb : True := trivial
  obtain ⟨C, hC⟩ : ∃ C, C = ([.int .i64 x_kind, .string ⟨x_name.toArray⟩, .slice b2 nl d2, .slice ao t cap] : List Value).toArray := ⟨_, rfl⟩
  have BA : Blk w6 ga C 53 := by rw [hC]; exact BA3
  have GC := shut hC
  have BR := BR3
  have KW := KW3
  clear KW3 hC BA3 BR3
  have hsC : C.size = 4 := (by rw [GC.out]; simp)
  obtain ⟨y1, y2⟩ := tblk_mid BA hsC
  have y3 := rowOk_blk BR (n := 4) rfl
  have KS : Keeps (fun b => b < M) w6 (w6.setRow gr C) := (Keeps.refl (fun b => b < M) w6).setRow (g := gr) (fun _ => hgrM) C
  have KF : Keeps Nothing w (w6.setRow gr C) := KW.setRow (g := gr) (fun h => absurd h (Nat.not_lt.2 HGR.out)) C
  have hP : TyIs (NewB w.heap.size (w6.setRow gr C)) (w6.setRow gr C) (.mk x_kind x_name x_lives x_elem) ([.int .i64 x_kind, .string ⟨x_name.toArray⟩, .slice b2 nl d2, .slice ao t cap] : List Value) := by
   rw [tyIs_iff]
   exact ⟨b2, d2, ao, cap, by simp only [TyD.kind, TyD.name, TyD.lives, TyD.elem, HLL.out, HLN.out]; rfl, HNA.out, txs_on RL.out KS HNM.out, rows_on tyOk RE.out KS HNM.out⟩
  have HF : Shut (CX TyIs w (.mk x_kind x_name x_lives x_elem) (.returned (.agg C)) (w6.setRow gr C)) := shut ⟨([.int .i64 x_kind, .string ⟨x_name.toArray⟩, .slice b2 nl d2, .slice ao t cap] : List Value), by rw [GC.out], KF, hP⟩
  have agC : aggOk 4 (.agg C) = true := by
   rw [GC.out]
   exact agg_ok (by simp) hP.one
  have BF := blk_setRow (cs := C) BR
  clear hP KF KS KW BA BR GC hMb
  go_wp2_with fail
  refine bodyPost_ret (v := .agg C) (results_cell_row rfl _ _ gr _ C (0, 0) _ rfl BF Tryz.underlying53 rfl (by rw [infoTy, hsC])) rfl ?_
  exact HF.out
theorem ctype_any {S : Nat → Prop} (d : TyD) (w : World) (cs : List Value) (h : TyIs S w d cs) : Calls Tryz.prog 76 #[.agg cs.toArray] w (CX TyIs w d) := by
 refine TyD.ind (P := fun d => ∀ {S : Nat → Prop} (w : World) (cs : List Value), TyIs S w d cs → Calls Tryz.prog 76 #[.agg cs.toArray] w (CX TyIs w d)) ?_ d w cs h
 intro x_kind x_name x_lives x_elem ih S w cs h
 exact ctype_of x_kind x_name x_lives x_elem ih w cs h
end Go.Proofs.YtjbcagbnagefcaaGreat
namespace Go.Proofs.YtjbcagbnagefcaaGreat
open Go.RowKit
attribute [local irreducible] wpMix wpMixB wpList
attribute [local go_sem ↓] exec_mid_ty exec_store_ty exec_mid_pl exec_store_pl exec_mid_opr exec_store_opr exec_mid_val exec_store_val exec_mid_st exec_store_st exec_mid_fld exec_store_fld exec_mid_str exec_store_str exec_mid_lif exec_store_lif exec_mid_fun exec_store_fun exec_mid_cr exec_store_cr
attribute [local go_sem ↓] exec_into_pl exec_into_opr exec_into_ty exec_into_val
attribute [local go_sem] rowOk_new World.setRow_alloc_new
def fldB (w : World) (g : Nat) : Prop := ∃ cs : Array Value, Blk w g cs 73
def CFl (w : World) (l : List FldD) (e : Ending) (w' : World) : Prop := ∃ (a : Option Addr) (c : Nat), e = .returned (.slice a l.length c) ∧ Keeps Nothing w w' ∧ SlIs (NewB w.heap.size w') w' 6 (FldIs (NewB w.heap.size w') w') a l ∧ ∀ g, blockOf a = some g → w.heap.size ≤ g ∧ fldB w' g
theorem outR_fb {Z : World → Nat → Prop} {P : (Nat → Prop) → World → FldD → List Value → Prop} {N : Nat} {w : World} {ao : Option Addr} {cap : Nat} {l : List FldD} (h : OutR Z 73 6 P N w ao cap l) : ∀ g, blockOf ao = some g → N ≤ g ∧ fldB w g := by
 intro g hg
 refine ⟨h.new g hg, ?_⟩
 obtain ⟨L, o, _, _⟩ := h.row
 rcases o.shape with rfl | ⟨g', rfl⟩
 ·cases hg
 ·obtain rfl : g' = g := by simpa [blockOf] using hg
  exact o.blk
theorem fb_on {N M : Nat} {w w' : World} {ao : Option Addr} (h : ∀ g, blockOf ao = some g → M ≤ g ∧ fldB w g) (K : Keeps (fun b => b < M) w w') (hN : N ≤ M) : ∀ g, blockOf ao = some g → N ≤ g ∧ fldB w' g := fun g hg => by
 obtain ⟨h1, cs, h2⟩ := h g hg
 exact ⟨Nat.le_trans hN h1, cs, K.blk h2 (fun q => by omega)⟩
set_option maxRecDepth 100000 in
set_option linter.unusedSimpArgs false in
set_option maxHeartbeats 8000000 in
theorem cfields_typed {S : Nat → Prop} (l : List FldD) (w : World) {ar : Option Addr} (c : Nat) (h : SlIs S w 6 (FldIs S w) ar l) : Calls Tryz.prog 75 #[.slice ar l.length c] w (CFl w l) := by
 have HL := shut h
 have hnb : l.length ≤ 100000000 := by have := h.1; unfold bigN at this; omega
 obtain ⟨n, hln⟩ : ∃ n, l.length = n := ⟨_, rfl⟩
 rw [hln] at hnb ⊢
 have HLN := shut hln
 have KW : Keeps Nothing w w := Keeps.refl _ _
 clear h hln
 go_enter Tryz.func75, Tryz.ntmps75
 go_wp2_with fail
 go_loopw [3, 8] (fun s3 s8 wx => ∃ (t : Nat) (ao : Option Addr) (cap : Nat), s8 = .int .i64 t ∧ s3 = .slice ao t cap ∧ t ≤ n ∧ Keeps (fun b => w.heap.size ≤ b) w wx ∧ Shut (OutR (NewB w.heap.size) 73 6 FldIs w.heap.size wx ao cap (l.take t))) (fun _ s8 _ => n - (intOf s8).toNat)
 case atStart => exact ⟨0, none, 0, rfl, rfl, Nat.zero_le _, Keeps.refl _ _, shut (by rw [List.take_zero]; exact outR_nil _ _ _ _ _ _)⟩
 case round =>
  obtain ⟨t, ao, cap, rfl, rfl, ht, KL, HO⟩ := hrel
  by_cases hlt : t < n
  ·obtain ⟨x, hx⟩ : ∃ x, l[t]? = some x := ⟨_, List.getElem?_eq_getElem (by rw [HLN.out]; exact hlt)⟩
   have KWr := KW.trans (keepsHi KL) (fun _ h _ => h)
   obtain ⟨g1, o1, rfl, -, cs, l1, r1, i1⟩ := (HL.out.keeps (S' := S) (Q := FldIs S wr) KWr (fun _ _ h => h) (fun _ h => h) (fun _ _ _ h => h.keeps KWr (fun _ _ h => h) (fun _ h => h))).get hx
   have HX := shut hx
   have hxm := List.mem_of_getElem? hx
   clear hx
   have m0 : (0 : Int) ≤ t := by omega
   have m1 : (t : Int) < n := by omega
   have hk := midOk_range r1
   have ho := midOf_range r1
   rw [l1] at hk ho
   have ag2 := agg_ok l1 i1.one
   obtain ⟨x_mu, x_name, x_ty⟩ := x
   obtain ⟨s2, hcs, hfn, hft⟩ := i1
   simp only at hcs hfn hft
   unfold txV at hcs
   have al_ty := hft.len
   have kx1 : Keeps Nothing wr (wr.alloc (.cells cs.toArray 73)) := (Keeps.refl Nothing wr).alloc _
   have HFT := shut (hft.keeps kx1 (fun _ _ h => h) (fun _ h => h))
   have HFN := shut hfn
   have BX := blk_new wr cs.toArray 73
   have hsx : cs.toArray.size = 6 := by simpa using l1
   have hw01 : wr.heap.size ≤ (wr.alloc (.cells cs.toArray 73)).heap.size := kx1.size
   obtain ⟨Cx, hCx⟩ : ∃ Cx, cs.toArray = Cx := ⟨_, rfl⟩
   have GX : Shut (Cx = (([.bool x_mu, .string ⟨x_name.toArray⟩] : List Value) ++ s2).toArray) := shut (by rw [← hCx, hcs])
   rw [hCx] at HFT BX hsx kx1 ho ag2 hw01
   clear hCx hcs hft hfn r1 l1
   go_upto_region 5 with fail
   clear hk ho ag2
   generalize wr.alloc (.cells Cx 73) = w1 at *
   have hgx := lt_of_block BX
   obtain ⟨gx, hgx0⟩ : ∃ gx, wr.heap.size = gx := ⟨_, rfl⟩
   have HGX : Shut (wr.heap.size ≤ gx) := shut (Nat.le_of_eq hgx0)
   rw [hgx0] at BX hgx ⊢
   clear hgx0
   obtain ⟨-, -, ⟨e2, e2f⟩⟩ := FldB al_ty GX.out BX
   have hc := ctype_any x_ty w1 s2 HFT.out
   go_wp2_with fail
   refine hc.mono ?_
   rintro e wz ⟨r2, rfl, k2, hR⟩
   have BX2 := k2.blk BX (fun h => h)
   have e1 := midFit_blk BX2 (o := 2) (n := 4) (by rw [hsx]; decide)
   have agn := agg_ok hR.len hR.one
   have BX3 : Blk (midSet wz gx 2 r2.toArray) gx (([.bool x_mu, .string ⟨x_name.toArray⟩] : List Value) ++ r2).toArray 73 := by
    have := box_mid (pre := ([.bool x_mu, .string ⟨x_name.toArray⟩] : List Value)) (mid := s2) (post := []) (new := r2) (o := 2) BX2 (by rw [GX.out]; simp) rfl (by rw [hR.len, al_ty])
    rwa [List.append_nil] at this
   have ks : ∀ T : Nat → Prop, T gx → Keeps T wz (midSet wz gx 2 r2.toArray) := fun T hT => midSet_keeps (Keeps.refl T wz) (g := gx) (fun _ => hT) _ _
   have hN : FldIs (NewB w1.heap.size (midSet wz gx 2 r2.toArray)) (midSet wz gx 2 r2.toArray) ⟨x_mu, x_name, x_ty⟩ (([.bool x_mu, .string ⟨x_name.toArray⟩] : List Value) ++ r2) := ⟨r2, rfl, HFN.out, tyOk.on hR (ks _ hgx) (Nat.le_refl _)⟩
   have kx : Keeps Nothing wr (midSet wz gx 2 r2.toArray) := (kx1.trans k2 (fun _ h _ => h)).trans (ks (fun b => b = gx) rfl) (fun b hb hlt => by have hb' : b = gx := hb; have := HGX.out; omega)
   have hw12 : w1.heap.size ≤ (midSet wz gx 2 r2.toArray).heap.size := Nat.le_trans k2.size (ks (fun _ => True) trivial).size
   go_upto_region 6 with fail
   clear hc e1 agn BX2 k2 ks hR BX e2 e2f kx1
   generalize midSet wz gx 2 r2.toArray = w2 at *
   obtain ⟨cs2, hcs2⟩ : ∃ cs2, ([.bool x_mu, .string ⟨x_name.toArray⟩] : List Value) ++ r2 = cs2 := ⟨_, rfl⟩
   rw [hcs2] at hN BX3
   have HN := shut hN
   have hlc := hN.len
   obtain ⟨Cy, hCy⟩ : ∃ Cy, Cy = cs2.toArray := ⟨_, rfl⟩
   rw [← hCy] at BX3
   have hsy : Cy.size = 6 := by rw [hCy]; simpa using hlc
   have GCy := shut hCy
   obtain ⟨z1, z2⟩ := tblk_mid BX3 hsy
   have agy : aggOk 6 (.agg Cy) = true := by rw [hCy]; exact agg_ok hN.len hN.one
   clear hN hcs2 hCy
   have BB := blk_new w2 (Cy) 73
   have kb : Keeps Nothing w2 (w2.alloc (.cells (Cy) 73)) := (Keeps.refl Nothing w2).alloc _
   have kx3 := kx.trans kb (fun _ h _ => h)
   have hW0 : w.heap.size ≤ w1.heap.size := Nat.le_trans KL.size hw01
   clear kx
   have HO3 := shut (HO.out.keepsN (newB_ok _) fldOk kx3)
   have hlao : ∀ g, blockOf ao = some g → g < wr.heap.size := fun g hg => HO.out.lt hg
   have hel : FldIs (InB (NewB w.heap.size) (w2.alloc (.cells (Cy) 73)) ao) (w2.alloc (.cells (Cy) 73)) ⟨x_mu, x_name, x_ty⟩ cs2 := fldOk.keep _ _ _ _ _ _ _ HN.out kb (fun _ _ h => h) (fun b hb => ⟨(newB_ok _).keep Nothing w2 (w2.alloc (.cells (Cy) 73)) b kb (fun h => h) ⟨Nat.le_trans hW0 hb.1, hb.2⟩, fun q => by have := hlao b q; have := hb.1; omega⟩)
   have HEL := shut hel
   have hlt3 : w.heap.size ≤ (w2.alloc (.cells (Cy) 73)).heap.size := Nat.le_trans (Nat.le_trans hW0 hw12) kb.size
   have htl : Shut ((l.take t).length = t) := shut (by rw [List.length_take, HLN.out]; omega)
   have htb : t ≤ 1000000000 := by omega
   have HNEW := shut HO.out.new
   have HBB := shut BB
   have KX3 : Keeps (fun b => w.heap.size ≤ b) w (w2.alloc (.cells (Cy) 73)) := KL.trans kx3 (fun _ h _ => h.elim)
   clear hel BB KL HO kx3 kb HN
   go_wp2_with (at_builtin; rw [fillN (n := 6) rfl hsy]; refine wpList_appD _ rfl (.tmp 16) (.tmp 18) 47 rfl Tryz.underlying47 iaFld (by decide) (newB_ok _) fldOk t htl.out rfl HO3.out hlt3 _ _ cs2 ⟨x_mu, x_name, x_ty⟩ GCy.out rfl HBB.out HEL.out htb ?_)
   intro a4 c4 w4 O4 k4 m4
   have HO4 : Shut (OutR (NewB w.heap.size) 73 6 FldIs w.heap.size w4 a4 c4 (l.take (t + 1))) := shut (by rw [List.take_add_one, HX.out]; exact O4)
   have KL4 := KX3.trans k4 (fun g hg _ => HNEW.out g hg)
   clear O4 k4 m4 KX3 HO3 HEL HBB HNEW
   go_wp2_with fail
   go_roundw
   case rel => exact ⟨t + 1, a4, c4, by go_num, rfl, by omega, KL4, HO4⟩
   case measure => (simp [intOf]; try omega)
  obtain rfl : t = n := by omega
  have m1 : ¬ (t : Int) < t := by omega
  have HO1 : Shut (OutR (NewB w.heap.size) 73 6 FldIs w.heap.size wr ao cap l) := shut (by have := HO.out; rwa [List.take_of_length_le (Nat.le_of_eq HLN.out)] at this)
  clear HO
  have hfin : CFl w l (.returned (.slice ao t cap)) wr := ⟨ao, cap, by rw [HLN.out], keepsHi KL, outR_new HO1.out fldOk (by decide) (Nat.le_refl _) (by rw [HLN.out]; unfold bigN; omega), outR_fb HO1.out⟩
  have HF := shut hfin
  clear hfin HO1 HL
  go_wp2_with fail
  go_ret
  exact HF.out
theorem cfields_any {S : Nat → Prop} (l : List FldD) (w : World) {ar : Option Addr} (c : Nat) (h : SlIs S w 6 (FldIs S w) ar l) : Calls Tryz.prog 75 #[.slice ar l.length c] w (CXs 6 FldIs w l) :=
 (cfields_typed l w c h).mono fun _ _ ⟨a, c', h1, h2, h3, _⟩ => ⟨a, c', h1, h2, h3⟩
end Go.Proofs.YtjbcagbnagefcaaGreat
namespace Go.Proofs.YtjbcagbnagefcaaGreat
open Go.RowKit
attribute [local irreducible] wpMix wpMixB wpList
attribute [local go_sem ↓] exec_mid_ty exec_store_ty exec_mid_pl exec_store_pl exec_mid_opr exec_store_opr exec_mid_val exec_store_val exec_mid_st exec_store_st exec_mid_fld exec_store_fld exec_mid_str exec_store_str exec_mid_lif exec_store_lif exec_mid_fun exec_store_fun exec_mid_cr exec_store_cr
attribute [local go_sem ↓] exec_into_pl exec_into_opr exec_into_ty exec_into_val
attribute [local go_sem] rowOk_new World.setRow_alloc_new
set_option maxRecDepth 100000 in
set_option linter.unusedSimpArgs false in
set_option maxHeartbeats 8000000 in
theorem cstruct_any {S : Nat → Prop} (d : StrD) (w : World) (cs : List Value) (h : StrIs S w d cs) : Calls Tryz.prog 49 #[.agg cs.toArray] w (CX StrIs w d) := by
 have ag1 := agg_ok h.len h.one
 obtain ⟨d_pub, d_name, d_lives, d_fields, d_pos⟩ := d
 obtain ⟨a2, c2, a3, c3, hcs, hn, h2, h3⟩ := h
 simp only at hcs hn h2 h3
 unfold txV at hcs
 obtain ⟨nl, hnl⟩ : ∃ nl, d_lives.length = nl := ⟨_, rfl⟩
 obtain ⟨nf, hnf⟩ : ∃ nf, d_fields.length = nf := ⟨_, rfl⟩
 rw [hnl, hnf] at hcs
 have HLL := shut hnl
 have HLF := shut hnf
 have HNA := shut hn
 have HL2 := shut h2
 have HL3 := shut h3
 obtain ⟨C, hC⟩ : ∃ C, C = cs.toArray := ⟨_, rfl⟩
 rw [← hC] at ag1 ⊢
 rw [hcs] at hC
 have GC := shut hC
 clear hC hcs hnl hnf hn h2 h3
 have BA := blk_alloc (blk_new w C 49) (.cells #[.bool false, .string ⟨#[]⟩, .slice none 0 0, .slice none 0 0, .int .i64 0] 49)
 have BR := blk_new (w.alloc (.cells C 49)) #[.bool false, .string ⟨#[]⟩, .slice none 0 0, .slice none 0 0, .int .i64 0] 49
 have KW : Keeps Nothing w ((w.alloc (.cells C 49)).alloc (.cells #[.bool false, .string ⟨#[]⟩, .slice none 0 0, .slice none 0 0, .int .i64 0] 49)) := ((Keeps.refl Nothing w).alloc _).alloc _
 have HM0 : ((w.alloc (.cells C 49)).alloc (.cells #[.bool false, .string ⟨#[]⟩, .slice none 0 0, .slice none 0 0, .int .i64 0] 49)).heap.size = w.heap.size + 1 + 1 := by rw [World.size_alloc, World.size_alloc]
 rw [World.size_alloc] at BR
 go_enter Tryz.func49, Tryz.ntmps49
 go_upto_region 1 with fail
 generalize (w.alloc (.cells C 49)).alloc (.cells #[.bool false, .string ⟨#[]⟩, .slice none 0 0, .slice none 0 0, .int .i64 0] 49) = w0 at *
 have HGA : Shut (w.heap.size ≤ w.heap.size) := shut (Nat.le_refl _)
 have HGR : Shut (w.heap.size ≤ w.heap.size + 1) := shut (Nat.le_succ _)
 have hne : w.heap.size ≠ w.heap.size + 1 := by omega
 have hgaM : w.heap.size < w.heap.size + 1 + 1 := by omega
 have hgrM : w.heap.size + 1 < w.heap.size + 1 + 1 := by omega
 have hMb : w.heap.size + 1 + 1 ≤ w0.heap.size := Nat.le_of_eq HM0.symm
 have HNM : Shut (w.heap.size ≤ w.heap.size + 1 + 1) := shut (by omega)
 clear HM0 ag1
 obtain ⟨ga, hga⟩ : ∃ ga, w.heap.size = ga := ⟨_, rfl⟩
 obtain ⟨gr, hgr⟩ : ∃ gr, w.heap.size + 1 = gr := ⟨_, rfl⟩
 obtain ⟨M, hM⟩ : ∃ M, w.heap.size + 1 + 1 = M := ⟨_, rfl⟩
 rw [hM] at hgaM hgrM hMb HNM
 rw [hgr] at BR hne hgrM HGR ⊢
 have HGA2 : Shut (w.heap.size ≤ ga) := shut (Nat.le_of_eq hga)
 clear HGA
 have HGA := HGA2
 clear HGA2 hM hgr
 rw [hga] at BA hne hgaM ⊢
 clear hga
 obtain ⟨-, -, e0, -, -⟩ := StrB GC.out BA
 have hc := ctexts_any d_lives w0 c2 (HL2.out.keeps KW (fun _ _ h => h) (fun _ h => h) (fun _ _ _ h => h))
 rw [HLL.out] at hc
 go_wp2_with fail
 refine hc.mono ?_
 rintro e w2 ⟨b2, d2, rfl, k2, hR⟩
 rw [HLL.out]
 have RL := shut hR
 clear hc hR e0
 have BA2 := k2.blk BA (fun h => h)
 have BR2 := k2.blk BR (fun h => h)
 obtain ⟨-, -, e1, -, -⟩ := StrB GC.out BA2
 have f1 := blk_free BA2 2
 have hL1 : (([.bool d_pub, .string ⟨d_name.toArray⟩, .slice a2 nl c2, .slice a3 nf c3, .int .i64 d_pos] : List Value) : List Value) = (([.bool d_pub, .string ⟨d_name.toArray⟩] : List Value)) ++ (.slice a2 nl c2 :: (([.slice a3 nf c3, .int .i64 d_pos] : List Value))) := by simp
 have hL2 : (([.bool d_pub, .string ⟨d_name.toArray⟩, .slice b2 nl d2, .slice a3 nf c3, .int .i64 d_pos] : List Value) : List Value) = (([.bool d_pub, .string ⟨d_name.toArray⟩] : List Value)) ++ (.slice b2 nl d2 :: (([.slice a3 nf c3, .int .i64 d_pos] : List Value))) := by simp
 have BA3 : Blk (w2.setCell ⟨ga, 2, none⟩ (.slice b2 nl d2)) ga (([.bool d_pub, .string ⟨d_name.toArray⟩, .slice b2 nl d2, .slice a3 nf c3, .int .i64 d_pos] : List Value)).toArray 49 := by
  rw [hL2]
  exact box_set (pre := ([.bool d_pub, .string ⟨d_name.toArray⟩] : List Value)) (post := ([.slice a3 nf c3, .int .i64 d_pos] : List Value)) (v := .slice a2 nl c2) (u := .slice b2 nl d2) BA2 (by rw [GC.out, hL1]) (by simp)
 have KS0 : ∀ (T : Nat → Prop), T ga → Keeps T w2 (w2.setCell ⟨ga, 2, none⟩ (.slice b2 nl d2)) := fun T hT => (Keeps.refl T w2).setCell (p := ⟨ga, 2, none⟩) (fun _ => hT) _
 have KW3 : Keeps Nothing w (w2.setCell ⟨ga, 2, none⟩ (.slice b2 nl d2)) := (KW.trans k2 (fun _ h _ => h)).setCell (p := ⟨ga, 2, none⟩) (fun h => absurd h (Nat.not_lt.2 HGA.out)) _
 have BR3 : Blk (w2.setCell ⟨ga, 2, none⟩ (.slice b2 nl d2)) gr #[.bool false, .string ⟨#[]⟩, .slice none 0 0, .slice none 0 0, .int .i64 0] 49 := blk_other BR2 ⟨ga, 2, none⟩ (fun q => hne q.symm) _
 have KK : Keeps (fun b => b < M) w0 (w2.setCell ⟨ga, 2, none⟩ (.slice b2 nl d2)) := (k2.mono (S' := fun b => b < M) (fun _ h _ => h.elim)).trans (KS0 (fun b => b < M) hgaM) (fun _ h _ => h)
 have KS2 := KS0 (fun b => b < w0.heap.size) (Nat.lt_of_lt_of_le hgaM hMb)
 have hMb3 : M ≤ (w2.setCell ⟨ga, 2, none⟩ (.slice b2 nl d2)).heap.size := Nat.le_trans hMb KK.size
 have RL := shut (txs_on RL.out KS2 hMb)
 go_upto_region 2 with fail
 any_goals try (rename_i hfz; simp [f1] at hfz; done)
 clear e1 f1 BA2 BR2 BR KW k2 BA KS0 KK KS2 hL1 hL2 hMb GC
 generalize w2.setCell ⟨ga, 2, none⟩ (.slice b2 nl d2) = w5 at *
 have KW := KW3
 have hMb := hMb3
 obtain ⟨C, hC⟩ : ∃ C, C = (([.bool d_pub, .string ⟨d_name.toArray⟩, .slice b2 nl d2, .slice a3 nf c3, .int .i64 d_pos] : List Value)).toArray := ⟨_, rfl⟩
 rw [← hC] at BA3
 have GC := shut hC
 have BA := BA3
 have BR := BR3
 clear KW3 hMb3 hC BA3 BR3
 obtain ⟨-, -, -, e0, -⟩ := StrB GC.out BA
 have hc := cfields_any d_fields w5 c3 (HL3.out.keeps KW (fun _ _ h => h) (fun _ h => h) (fun _ _ _ h => h.keeps KW (fun _ _ h => h) (fun _ h => h)))
 rw [HLF.out] at hc
 go_wp2_with fail
 refine hc.mono ?_
 rintro e w2 ⟨b3, d3, rfl, k2, hR⟩
 rw [HLF.out]
 have RF := shut hR
 clear hc hR e0
 have BA2 := k2.blk BA (fun h => h)
 have BR2 := k2.blk BR (fun h => h)
 obtain ⟨-, -, -, e1, -⟩ := StrB GC.out BA2
 have f1 := blk_free BA2 3
 have hL1 : (([.bool d_pub, .string ⟨d_name.toArray⟩, .slice b2 nl d2, .slice a3 nf c3, .int .i64 d_pos] : List Value) : List Value) = (([.bool d_pub, .string ⟨d_name.toArray⟩, .slice b2 nl d2] : List Value)) ++ (.slice a3 nf c3 :: (([.int .i64 d_pos] : List Value))) := by simp
 have hL2 : (([.bool d_pub, .string ⟨d_name.toArray⟩, .slice b2 nl d2, .slice b3 nf d3, .int .i64 d_pos] : List Value) : List Value) = (([.bool d_pub, .string ⟨d_name.toArray⟩, .slice b2 nl d2] : List Value)) ++ (.slice b3 nf d3 :: (([.int .i64 d_pos] : List Value))) := by simp
 have BA3 : Blk (w2.setCell ⟨ga, 3, none⟩ (.slice b3 nf d3)) ga (([.bool d_pub, .string ⟨d_name.toArray⟩, .slice b2 nl d2, .slice b3 nf d3, .int .i64 d_pos] : List Value)).toArray 49 := by
  rw [hL2]
  exact box_set (pre := ([.bool d_pub, .string ⟨d_name.toArray⟩, .slice b2 nl d2] : List Value)) (post := ([.int .i64 d_pos] : List Value)) (v := .slice a3 nf c3) (u := .slice b3 nf d3) BA2 (by rw [GC.out, hL1]) (by simp)
 have KS0 : ∀ (T : Nat → Prop), T ga → Keeps T w2 (w2.setCell ⟨ga, 3, none⟩ (.slice b3 nf d3)) := fun T hT => (Keeps.refl T w2).setCell (p := ⟨ga, 3, none⟩) (fun _ => hT) _
 have KW3 : Keeps Nothing w (w2.setCell ⟨ga, 3, none⟩ (.slice b3 nf d3)) := (KW.trans k2 (fun _ h _ => h)).setCell (p := ⟨ga, 3, none⟩) (fun h => absurd h (Nat.not_lt.2 HGA.out)) _
 have BR3 : Blk (w2.setCell ⟨ga, 3, none⟩ (.slice b3 nf d3)) gr #[.bool false, .string ⟨#[]⟩, .slice none 0 0, .slice none 0 0, .int .i64 0] 49 := blk_other BR2 ⟨ga, 3, none⟩ (fun q => hne q.symm) _
 have KK : Keeps (fun b => b < M) w5 (w2.setCell ⟨ga, 3, none⟩ (.slice b3 nf d3)) := (k2.mono (S' := fun b => b < M) (fun _ h _ => h.elim)).trans (KS0 (fun b => b < M) hgaM) (fun _ h _ => h)
 have KS2 := KS0 (fun b => b < w5.heap.size) (Nat.lt_of_lt_of_le hgaM hMb)
 have hMb3 : M ≤ (w2.setCell ⟨ga, 3, none⟩ (.slice b3 nf d3)).heap.size := Nat.le_trans hMb KK.size
 have RL := shut (txs_on RL.out KK (Nat.le_refl M))
 have RF := shut (rows_on fldOk RF.out KS2 hMb)
 go_upto_region 3 with fail
 any_goals try (rename_i hfz; simp [f1] at hfz; done)
 clear e1 f1 BA2 BR2 BR KW k2 BA KS0 KK KS2 hL1 hL2 hMb GC
 generalize w2.setCell ⟨ga, 3, none⟩ (.slice b3 nf d3) = w6 at *
 have KW := KW3
 have hMb := hMb3
 obtain ⟨C, hC⟩ : ∃ C, C = (([.bool d_pub, .string ⟨d_name.toArray⟩, .slice b2 nl d2, .slice b3 nf d3, .int .i64 d_pos] : List Value)).toArray := ⟨_, rfl⟩
 rw [← hC] at BA3
 have GC := shut hC
 have BA := BA3
 have BR := BR3
 clear KW3 hMb3 hC BA3 BR3
 have hsC : C.size = 5 := (by rw [GC.out]; simp)
 obtain ⟨y1, y2⟩ := tblk_mid BA hsC
 have y3 := rowOk_blk BR (n := 5) rfl
 have KS : Keeps (fun b => b < M) w6 (w6.setRow gr C) := (Keeps.refl (fun b => b < M) w6).setRow (g := gr) (fun _ => hgrM) C
 have KF : Keeps Nothing w (w6.setRow gr C) := KW.setRow (g := gr) (fun h => absurd h (Nat.not_lt.2 HGR.out)) C
 have hP : StrIs (NewB w.heap.size (w6.setRow gr C)) (w6.setRow gr C) ⟨d_pub, d_name, d_lives, d_fields, d_pos⟩ (([.bool d_pub, .string ⟨d_name.toArray⟩, .slice b2 nl d2, .slice b3 nf d3, .int .i64 d_pos] : List Value)) := ⟨b2, d2, b3, d3, by simp only [HLL.out, HLF.out]; rfl, HNA.out, txs_on RL.out KS HNM.out, rows_on fldOk RF.out KS HNM.out⟩
 have HF : Shut (CX StrIs w ⟨d_pub, d_name, d_lives, d_fields, d_pos⟩ (.returned (.agg C)) (w6.setRow gr C)) := shut ⟨([.bool d_pub, .string ⟨d_name.toArray⟩, .slice b2 nl d2, .slice b3 nf d3, .int .i64 d_pos] : List Value), by rw [GC.out], KF, hP⟩
 have agC : aggOk 5 (.agg C) = true := by
  rw [GC.out]
  exact agg_ok (by simp) hP.one
 have BF := blk_setRow (cs := C) BR
 clear hP KF KS KW BA BR GC hMb
 go_wp2_with fail
 refine bodyPost_ret (v := .agg C) (results_cell_row rfl _ _ gr _ C (0, 0) _ rfl BF Tryz.underlying49 rfl (by rw [infoStr, hsC])) rfl ?_
 exact HF.out
end Go.Proofs.YtjbcagbnagefcaaGreat
