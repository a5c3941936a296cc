/- usufructlaw7.TreeSames: which crates are the same, and what is left without places, is what the document says; where what it reads is of bulk at most 1048576. -/
import Derived.Test.YtjbcagbnagefcaaRows
import Derived.Test.YtjbcagbnagefcaaTrL
import Derived.Test.YtjbcagbnagefcaaTree36
import Derived.Test.YtjbcagbnagefcaaTrQ
import Derived.Test.YtjbcagbnagefcaaTrP
import Derived.ProofKit
import Derived.OpenShut
import Derived.ShutString
import Derived.ChangeOld
import Derived.Below
import Derived.JoinedCond
import Derived.HandedShaped
import Derived.Shelf.Vars
namespace Go.Proofs.Ytjbcagbnagefcaa.treeSames
open Go.ChangeShapes Go.WideShapes Go.ChangeAt Go.RowKit
open Go.ChangeMaps (open_string shut_string)

theorem own : ownKnob Try.prog.godebug = none := by kernel_rfl
theorem laidOut : laidOutB Try.prog = true := by kernel_rfl
/-- The bound and the world's shape, both handed to the walk. -/
theorem cond_shaped {H : Type} {enc : TypeId × Value → H} {a : Assume} {C : Checked} {os : Os} {f : FuncId} {fn : Func} {s : OpenSpec} {k : (H : Type) → List (DataW H) → Bool} (hk : s.cond = some k) {F : Stop.Interp} {conds : List PathCond} {apart fresh handsOn again : Bool}
    (own : ownKnob C.prog.godebug = none) (started : os.Started) (noInit : C.prog.inits.idxOf? f = none) (hfn : C.prog.funcs[f]? = some fn)
    (witness : ∃ (w : World) (tape : Tape) (i : Input), w.os = os ∧ (w.forCall tape i).Shaped C.prog ∧ i.vars = [] ∧ Input.okWide C.prog (w.forCall tape i) .any w.heap.size f i ∧
      s.pre6 enc C.prog fn conds apart (w.forCall tape i).memory i.args ∧ a.holds C.prog (lone (Frame.enter C.prog f i.args .normal) [] (w.forCall tape i)))
    (contract : ∀ (W : World) (base : Nat) (args : Array Value) (ds gs : List (DataW H)) (before : List MemPlace),
      (∀ (j : Nat) t v, fn.params[j]? = some t → args[j]? = some v → Value.okWide C.prog W .any base t v) →
      DataW.Whole enc C.prog fn.params.toList s.vars apart W args.toList ds gs before →
      k H (ds ++ gs) = true → W.ShapedOpen C.prog →
      Calls C.prog f args W fun e W' => ∃ v, e = .returned v ∧ (s.at F).post enc C.prog fn apart fresh handsOn again W args v W') :
    ReturnsInHanded a C os f .any (s.pre6 enc C.prog fn conds apart) ((s.at F).post enc C.prog fn apart fresh handsOn again) := by
  refine returnsInHanded_of_calls own started noInit witness ?_
  intro w tape i _ hsh _ hok hpre _
  obtain ⟨_, _, _, fn', hfn', _, _, _, _, hval⟩ := hok
  have e : fn' = fn := Option.some.inj (hfn'.symm.trans hfn)
  subst e
  obtain ⟨ds, gs, before, hw, _, hkk⟩ := (OpenSpec.pre_some hk conds apart _ _).1 hpre.1
  have hw' := DataW.Whole.of_heap (w' := w.forCall tape i) (by rfl) hw
  refine (contract (w.forCall tape i) w.heap.size i.args ds gs before hval hw' hkk hsh).mono fun e W' ⟨v, he, hp⟩ => ?_
  subst he
  exact ChangeSpec.post_blind hp

attribute [local irreducible] wpMix wpMixB wpList
attribute [local go_sem ↓] exec_mid_ty exec_store_ty exec_mid_pl exec_store_pl exec_mid_opr exec_store_opr exec_mid_val exec_store_val exec_mid_st exec_store_st exec_mid_fld exec_store_fld exec_mid_str exec_store_str exec_mid_lif exec_store_lif exec_mid_fun exec_store_fun exec_mid_cr exec_store_cr
attribute [local go_sem] rowOk_new World.setRow_alloc_new

theorem max_of_shaped {w : World} (h : w.ShapedOpen Try.prog) : MaxV w :=
  cell_of_shapedOpen_int (zero := #[.int .i64 0]) h (of_decide_eq_true (by kernel_rfl)) (by kernel_rfl) rfl (by kernel_rfl) (by kernel_rfl) Try.underlying3

set_option maxRecDepth 100000 in
set_option linter.unusedSimpArgs false in
set_option maxHeartbeats 8000000 in
theorem walk {S : Nat → Prop} (a b : CrD) (t u : TyD) (w : World) (hM : MaxV w) (cs1 cs2 cs3 cs4 : List Value) (hS : ∀ b, S b → b < w.heap.size) (ha : CrIs S w a cs1) (hb : CrIs S w b cs2) (ht : TyIs S w t cs3) (hu : TyIs S w u cs4) : Calls Try.prog 4 #[.agg cs1.toArray, .agg cs2.toArray, .agg cs3.toArray, .agg cs4.toArray] w fun e w' => e = .returned (.bool true) ∧ Keeps Nothing w w' := by
  have HM := shut hM
  have HA := shut ha
  have HB := shut hb
  have HT := shut ht
  have HU := shut hu
  have HS := shut hS
  have ag1 := agg_ok ha.len ha.one
  obtain ⟨CA, hCA⟩ : ∃ C, C = cs1.toArray := ⟨_, rfl⟩
  have hsA : CA.size = 2 := by rw [hCA]; simpa using ha.len
  rw [← hCA] at ag1 ⊢
  have GA := shut hCA
  clear hCA
  have ag2 := agg_ok hb.len hb.one
  obtain ⟨CB, hCB⟩ : ∃ C, C = cs2.toArray := ⟨_, rfl⟩
  have hsB : CB.size = 2 := by rw [hCB]; simpa using hb.len
  rw [← hCB] at ag2 ⊢
  have GB := shut hCB
  clear hCB
  have ag3 := agg_ok ht.len ht.one
  obtain ⟨CT, hCT⟩ : ∃ C, C = cs3.toArray := ⟨_, rfl⟩
  have hsT : CT.size = 4 := by rw [hCT]; simpa using ht.len
  rw [← hCT] at ag3 ⊢
  have GT := shut hCT
  clear hCT
  have ag4 := agg_ok hu.len hu.one
  obtain ⟨CU, hCU⟩ : ∃ C, C = cs4.toArray := ⟨_, rfl⟩
  have hsU : CU.size = 4 := by rw [hCU]; simpa using hu.len
  rw [← hCU] at ag4 ⊢
  have GU := shut hCU
  clear hCU
  have BA := blk_alloc (blk_alloc (blk_alloc (blk_new w CA 25) (.cells CB 25)) (.cells CT 33)) (.cells CU 33)
  have BB := blk_alloc (blk_alloc (blk_new (w.alloc (.cells CA 25)) CB 25) (.cells CT 33)) (.cells CU 33)
  have BT := blk_alloc (blk_new ((w.alloc (.cells CA 25)).alloc (.cells CB 25)) CT 33) (.cells CU 33)
  have BU := blk_new (((w.alloc (.cells CA 25)).alloc (.cells CB 25)).alloc (.cells CT 33)) CU 33
  have KW : Keeps Nothing w ((((w.alloc (.cells CA 25)).alloc (.cells CB 25)).alloc (.cells CT 33)).alloc (.cells CU 33)) := ((((Keeps.refl Nothing w).alloc _).alloc _).alloc _).alloc _
  simp only [World.size_alloc] at BB BT BU
  clear hM ha hb ht hu hS
  go_enter Try.func4, Try.ntmps4
  go_upto_region 1 with fail
  clear ag1 ag2 ag3 ag4
  generalize ((((w.alloc (.cells CA 25)).alloc (.cells CB 25)).alloc (.cells CT 33)).alloc (.cells CU 33)) = w0 at *
  generalize w.heap.size + 1 + 1 + 1 = gu at *
  generalize w.heap.size + 1 + 1 = gt at *
  generalize w.heap.size + 1 = gb at *
  obtain ⟨ga, hga⟩ : ∃ ga, w.heap.size = ga := ⟨_, rfl⟩
  rw [hga] at BA ⊢
  clear hga
  obtain ⟨y1, y2⟩ := tblk_mid BA hsA
  have hg1 := great_any a w0 cs1 (HA.out.keeps (KW) (fun _ _ h => h) (fun _ h => h))
  rw [← GA.out] at hg1
  go_wp2_with fail
  refine hg1.mono ?_
  rintro e w1 ⟨⟨z, rfl⟩, k1⟩
  clear hg1 y1 y2
  have KW1 := KW.trans k1 (fun _ h _ => h)
  have BA1 := k1.blk BA (fun h => h)
  have BB1 := k1.blk BB (fun h => h)
  have BT1 := k1.blk BT (fun h => h)
  have BU1 := k1.blk BU (fun h => h)
  clear BA BB BT BU KW k1
  cases z with
  | true =>
    have hct := told7_any w1 (HM.out.keeps KW1)
    have KT := KW1
    go_wp2_with fail
    refine hct.mono ?_
    rintro e wt ⟨rfl, kt⟩
    have KF := KT.trans kt (fun _ h _ => h)
    clear hct
    go_wp2_with fail
    go_ret
    exact ⟨rfl, KF⟩

  | false =>
    obtain ⟨y1, y2⟩ := tblk_mid BB1 hsB
    have hg2 := great_any b w1 cs2 (HB.out.keeps (KW1) (fun _ _ h => h) (fun _ h => h))
    rw [← GB.out] at hg2
    go_wp2_with fail
    refine hg2.mono ?_
    rintro e w2 ⟨⟨z, rfl⟩, k2⟩
    clear hg2 y1 y2
    have KW2 := KW1.trans k2 (fun _ h _ => h)
    have BA2 := k2.blk BA1 (fun h => h)
    have BB2 := k2.blk BB1 (fun h => h)
    have BT2 := k2.blk BT1 (fun h => h)
    have BU2 := k2.blk BU1 (fun h => h)
    clear BA1 BB1 BT1 BU1 KW1 k2
    cases z with
    | true =>
      have hct := told7_any w2 (HM.out.keeps KW2)
      have KT := KW2
      go_wp2_with fail
      refine hct.mono ?_
      rintro e wt ⟨rfl, kt⟩
      have KF := KT.trans kt (fun _ h _ => h)
      clear hct
      go_wp2_with fail
      go_ret
      exact ⟨rfl, KF⟩

    | false =>
      obtain ⟨y1, y2⟩ := tblk_mid BA2 hsA
      have hbr := bare_crate a w2 cs1 (HA.out.keeps (KW2) (fun _ _ h => h) (fun _ h => h))
      rw [← GA.out] at hbr
      go_wp2_with fail
      refine hbr.mono ?_
      rintro e w3 ⟨csx, rfl, k3, hX⟩
      have hxc := hX.cr
      have agx := agg_ok hxc.len hxc.one
      obtain ⟨CX, hCX⟩ : ∃ C, C = csx.toArray := ⟨_, rfl⟩
      have hsX : CX.size = 2 := by rw [hCX]; simpa using hxc.len
      rw [← hCX] at agx ⊢
      have GX := shut hCX
      have kb : Keeps Nothing w3 (w3.alloc (.cells CX 25)) := (Keeps.refl Nothing w3).alloc _
      have BX := blk_new w3 CX 25
      have HX := shut (hxc.keeps kb (fun _ _ h => h) (fun _ _ => trivial) : CrIs (fun _ => True) (w3.alloc (.cells CX 25)) (bareC a) csx)
      have k23 := k3.trans kb (fun _ h _ => h)
      have KW := KW2.trans k23 (fun _ h _ => h)
      have BA := k23.blk BA2 (fun h => h)
      have BB := k23.blk BB2 (fun h => h)
      have BT := k23.blk BT2 (fun h => h)
      have BU := k23.blk BU2 (fun h => h)
      clear hbr y1 y2 hX hxc hCX BA2 BB2 BT2 BU2 KW2 k3 kb k23
      go_upto_region 4 with fail
      clear agx
      generalize w3.heap.size = gx at *
      generalize w3.alloc (.cells CX 25) = wb at *
      refine wp_region_mix (fun V => Keeps Nothing wb V) [(false, 0), (true, 1), (true, 2), (true, 3), (true, 5), (true, 6), (false, 4), (false, 7), (true, 8), (true, 9), (true, 10), (true, 11), (true, 12), (false, 13), (true, 14), (true, 15), (true, 16), (true, 17), (false, 18), (false, 19), (true, 20), (true, 21), (true, 22), (true, 23), (true, 25), (true, 26), (false, 24), (false, 27), (true, 28), (true, 29), (true, 30), (true, 31), (true, 32), (false, 33), (true, 34), (true, 35)] (by kernel_rfl) (by kernel_rfl) (Keeps.refl _ _).drew ?_
      simp only [mixItems, List.map_cons, List.map_nil, List.getD_cons_zero, List.getD_cons_succ]
      have kk : Keeps Nothing wb wb.drew := (Keeps.refl Nothing wb).drew
      have hc := told7_any wb.drew (HM.out.keeps (KW.trans kk (fun _ h _ => h)))
      refine wpMix_one (fun K hK => ?_)
      go_wp2_with fail
      refine hc.mono ?_
      rintro e w4 ⟨rfl, k4⟩
      have kk := kk.trans k4 (fun _ h _ => h)
      clear hc k4
      go_wp2_with fail
      refine hK _ _ kk ?_
      clear hK K
      iterate 1
        refine wpMix_free (fun K hK => ?_); go_simp; refine hK _ ?_; clear hK K
      refine wpMix_yield (v := .agg CA) (fun V hV => ?_) (fun K hK => ?_)
      · obtain ⟨y1, y2⟩ := tblk_mid (hV.blk BA (fun h => h)) hsA
        go_simp
      go_simp
      refine hK _ ?_
      clear hK K
      refine wpMix_yield (v := .agg CB) (fun V hV => ?_) (fun K hK => ?_)
      · obtain ⟨y1, y2⟩ := tblk_mid (hV.blk BB (fun h => h)) hsB
        go_simp
      go_simp
      refine hK _ ?_
      clear hK K
      refine wpMix_yield (v := .agg CA) (fun V hV => ?_) (fun K hK => ?_)
      · obtain ⟨y1, y2⟩ := tblk_mid (hV.blk BA (fun h => h)) hsA
        go_simp
      go_simp
      refine hK _ ?_
      clear hK K
      refine wpMix_yield (v := .agg CB) (fun V hV => ?_) (fun K hK => ?_)
      · obtain ⟨y1, y2⟩ := tblk_mid (hV.blk BB (fun h => h)) hsB
        go_simp
      go_simp
      refine hK _ ?_
      clear hK K
      have hc := same_any a b w4 cs1 cs2 (HA.out.keeps (KW.trans kk (fun _ h _ => h)) (fun _ _ h => h) (fun _ h => h)) (HB.out.keeps (KW.trans kk (fun _ h _ => h)) (fun _ _ h => h) (fun _ h => h))
      rw [← GA.out, ← GB.out] at hc
      refine wpMix_one (fun K hK => ?_)
      go_wp2_with fail
      refine hc.mono ?_
      rintro e w5 ⟨⟨z1, rfl, hz1⟩, k5⟩
      have kk := kk.trans k5 (fun _ h _ => h)
      have HZ1 := shut hz1
      clear hz1
      clear hc k5
      go_wp2_with fail
      refine hK _ _ kk ?_
      clear hK K
      have hc := rsameCr_any a b w5 cs1 cs2 (HA.out.keeps (KW.trans kk (fun _ h _ => h)) (fun _ _ h => h) (fun _ h => h)) (HB.out.keeps (KW.trans kk (fun _ h _ => h)) (fun _ _ h => h) (fun _ h => h))
      rw [← GA.out, ← GB.out] at hc
      refine wpMix_one (fun K hK => ?_)
      go_wp2_with fail
      refine hc.mono ?_
      rintro e w6 ⟨⟨z2, rfl, hz2⟩, k6⟩
      have kk := kk.trans k6 (fun _ h _ => h)
      obtain rfl : z2 = z1 := Bool.eq_iff_iff.2 (hz2.trans HZ1.out.symm)
      have hzz : (z2 == z2) = true := beq_self_eq_true _
      clear hz2 HZ1
      clear hc k6
      go_wp2_with fail
      refine hK _ _ kk ?_
      clear hK K
      iterate 3
        refine wpMix_free (fun K hK => ?_); go_simp; refine hK _ ?_; clear hK K
      refine wpMix_yield (v := .agg CA) (fun V hV => ?_) (fun K hK => ?_)
      · obtain ⟨y1, y2⟩ := tblk_mid (hV.blk BA (fun h => h)) hsA
        go_simp
      go_simp
      refine hK _ ?_
      clear hK K
      refine wpMix_yield (v := .agg CA) (fun V hV => ?_) (fun K hK => ?_)
      · obtain ⟨y1, y2⟩ := tblk_mid (hV.blk BA (fun h => h)) hsA
        go_simp
      go_simp
      refine hK _ ?_
      clear hK K
      have hc := same_any a a w6 cs1 cs1 (HA.out.keeps (KW.trans kk (fun _ h _ => h)) (fun _ _ h => h) (fun _ h => h)) (HA.out.keeps (KW.trans kk (fun _ h _ => h)) (fun _ _ h => h) (fun _ h => h))
      rw [← GA.out] at hc
      refine wpMix_one (fun K hK => ?_)
      go_wp2_with fail
      refine hc.mono ?_
      rintro e w7 ⟨⟨z3, rfl, hz3⟩, k7⟩
      have kk := kk.trans k7 (fun _ h _ => h)
      obtain rfl : z3 = true := hz3.2 (by first | rfl | trivial)
      clear hz3
      clear hc k7
      go_wp2_with fail
      refine hK _ _ kk ?_
      clear hK K
      iterate 2
        refine wpMix_free (fun K hK => ?_); go_simp; refine hK _ ?_; clear hK K
      refine wpMix_yield (v := .agg CX) (fun V hV => ?_) (fun K hK => ?_)
      · obtain ⟨y1, y2⟩ := tblk_mid (hV.blk BX (fun h => h)) hsX
        go_simp
      go_simp
      refine hK _ ?_
      clear hK K
      refine wpMix_yield (v := .agg CA) (fun V hV => ?_) (fun K hK => ?_)
      · obtain ⟨y1, y2⟩ := tblk_mid (hV.blk BA (fun h => h)) hsA
        go_simp
      go_simp
      refine hK _ ?_
      clear hK K
      have hc := rbare_crate a w7 cs1 (fun b hb => Nat.lt_of_lt_of_le (HS.out b hb) (KW.trans kk (fun _ h _ => h)).size) (HA.out.keeps (KW.trans kk (fun _ h _ => h)) (fun _ _ h => h) (fun _ h => h))
      rw [← GA.out] at hc
      refine wpMix_one (fun K hK => ?_)
      go_wp2_with fail
      refine hc.mono ?_
      rintro e w8 ⟨csy, rfl, k8, hY⟩
      have kk := kk.trans k8 (fun _ h _ => h)
      have HY := shut hY
      clear hY
      clear hc k8
      go_wp2_with fail
      refine hK _ _ kk ?_
      clear hK K
      have hc := rsameCr_any (bareC a) (bareC a) w8 csx csy (HX.out.keeps kk (fun _ _ h => h) (fun _ h => h)) HY.out
      rw [← GX.out] at hc
      refine wpMix_one (fun K hK => ?_)
      go_wp2_with fail
      refine hc.mono ?_
      rintro e w9 ⟨⟨z4, rfl, hz4⟩, k9⟩
      have kk := kk.trans k9 (fun _ h _ => h)
      obtain rfl : z4 = true := hz4.2 (by first | rfl | trivial)
      clear hz4 HY
      clear hc k9
      go_wp2_with fail
      refine hK _ _ kk ?_
      clear hK K
      iterate 2
        refine wpMix_free (fun K hK => ?_); go_simp; refine hK _ ?_; clear hK K
      refine wpMix_yield (v := .agg CT) (fun V hV => ?_) (fun K hK => ?_)
      · obtain ⟨y1, y2⟩ := tblk_mid (hV.blk BT (fun h => h)) hsT
        go_simp
      go_simp
      refine hK _ ?_
      clear hK K
      refine wpMix_yield (v := .agg CU) (fun V hV => ?_) (fun K hK => ?_)
      · obtain ⟨y1, y2⟩ := tblk_mid (hV.blk BU (fun h => h)) hsU
        go_simp
      go_simp
      refine hK _ ?_
      clear hK K
      refine wpMix_yield (v := .agg CT) (fun V hV => ?_) (fun K hK => ?_)
      · obtain ⟨y1, y2⟩ := tblk_mid (hV.blk BT (fun h => h)) hsT
        go_simp
      go_simp
      refine hK _ ?_
      clear hK K
      refine wpMix_yield (v := .agg CU) (fun V hV => ?_) (fun K hK => ?_)
      · obtain ⟨y1, y2⟩ := tblk_mid (hV.blk BU (fun h => h)) hsU
        go_simp
      go_simp
      refine hK _ ?_
      clear hK K
      have hc := sameType_any t u w9 cs3 cs4 (HT.out.keeps (KW.trans kk (fun _ h _ => h)) (fun _ _ h => h) (fun _ h => h)) (HU.out.keeps (KW.trans kk (fun _ h _ => h)) (fun _ _ h => h) (fun _ h => h))
      rw [← GT.out, ← GU.out] at hc
      refine wpMix_one (fun K hK => ?_)
      go_wp2_with fail
      refine hc.mono ?_
      rintro e w10 ⟨⟨z5, rfl, hz5⟩, k10⟩
      have kk := kk.trans k10 (fun _ h _ => h)
      have HZ5 := shut hz5
      clear hz5
      clear hc k10
      go_wp2_with fail
      refine hK _ _ kk ?_
      clear hK K
      have hc := rsameType_any t u w10 cs3 cs4 (HT.out.keeps (KW.trans kk (fun _ h _ => h)) (fun _ _ h => h) (fun _ h => h)) (HU.out.keeps (KW.trans kk (fun _ h _ => h)) (fun _ _ h => h) (fun _ h => h))
      rw [← GT.out, ← GU.out] at hc
      refine wpMix_one (fun K hK => ?_)
      go_wp2_with fail
      refine hc.mono ?_
      rintro e w11 ⟨⟨z6, rfl, hz6⟩, k11⟩
      have kk := kk.trans k11 (fun _ h _ => h)
      obtain rfl : z6 = z5 := Bool.eq_iff_iff.2 (hz6.trans HZ5.out.symm)
      have hz66 : (z6 == z6) = true := beq_self_eq_true _
      clear hz6 HZ5
      clear hc k11
      go_wp2_with fail
      refine hK _ _ kk ?_
      clear hK K
      iterate 3
        refine wpMix_free (fun K hK => ?_); go_simp; refine hK _ ?_; clear hK K
      refine wpMix_yield (v := .agg CT) (fun V hV => ?_) (fun K hK => ?_)
      · obtain ⟨y1, y2⟩ := tblk_mid (hV.blk BT (fun h => h)) hsT
        go_simp
      go_simp
      refine hK _ ?_
      clear hK K
      refine wpMix_yield (v := .agg CT) (fun V hV => ?_) (fun K hK => ?_)
      · obtain ⟨y1, y2⟩ := tblk_mid (hV.blk BT (fun h => h)) hsT
        go_simp
      go_simp
      refine hK _ ?_
      clear hK K
      have hc := sameType_any t t w11 cs3 cs3 (HT.out.keeps (KW.trans kk (fun _ h _ => h)) (fun _ _ h => h) (fun _ h => h)) (HT.out.keeps (KW.trans kk (fun _ h _ => h)) (fun _ _ h => h) (fun _ h => h))
      rw [← GT.out] at hc
      refine wpMix_one (fun K hK => ?_)
      go_wp2_with fail
      refine hc.mono ?_
      rintro e w12 ⟨⟨z7, rfl, hz7⟩, k12⟩
      have kk := kk.trans k12 (fun _ h _ => h)
      obtain rfl : z7 = true := hz7.2 (by first | rfl | trivial)
      clear hz7
      clear hc k12
      go_wp2_with fail
      refine hK _ _ kk ?_
      clear hK K
      repeat (refine wpMix_free (fun K hK => ?_); go_simp; refine hK _ ?_; clear hK K)
      refine wpMix_nil ?_
      have KF := KW.trans kk (fun _ h _ => h)
      go_wp2_with fail
      go_ret
      exact ⟨rfl, KF⟩

set_option maxRecDepth 100000 in
theorem lifted (os : Os) (started : os.Started) (H : Type) (enc : TypeId × Value → H) (F : Stop.Interp) :
    ReturnsInHanded {} Try.checked os 4 .any ((Rows.OpenSpec.upto Rows.treeSamesSpec).pre6 enc Try.prog Try.f4 Rows.treeSamesUptoRow.domain false) (((Rows.OpenSpec.upto Rows.treeSamesSpec).at F).post enc Try.prog Try.f4 false true false false) := by
  refine cond_shaped (C := Try.checked) (s := Rows.OpenSpec.upto Rows.treeSamesSpec) (k := Rows.uptoSmall) rfl own started (by kernel_rfl) Try.func4
    (OpenSpec.witness (enc := enc) (C := Try.checked) (s := Rows.OpenSpec.upto Rows.treeSamesSpec) (k := Rows.uptoSmall) rfl false ⟨#[], #[.agg #[.slice none 0 0, .slice none 0 0], .agg #[.slice none 0 0, .slice none 0 0], .agg #[.int .i64 0, .string ⟨#[]⟩, .slice none 0 0, .slice none 0 0], .agg #[.int .i64 0, .string ⟨#[]⟩, .slice none 0 0, .slice none 0 0]], []⟩ 8 (by kernel_rfl) (by kernel_rfl) (by kernel_rfl)
      (x := ([.agg [.nil, .nil], .agg [.nil, .nil], .agg [.lit (.int .i64 0), .lit (.string []), .nil, .nil], .agg [.lit (.int .i64 0), .lit (.string []), .nil, .nil]], [], [])) (by kernel_rfl) rfl (by kernel_rfl)) ?_
  intro W base args ds gs before hval0 hW hkk hsh
  have hmax := max_of_shaped hsh
  have hval : ∀ (j : Nat) t v, Try.f4.params[j]? = some t → args[j]? = some v → Value.okWide Try.prog W .any base t v := hval0
  have hW' := hW
  obtain ⟨p, q, hA0, hV, rfl, hfz, hnd⟩ := hW
  have hA : DataW.TrodAll enc Try.prog W 0 (fun _ => true) true Try.f4.params.toList args.toList ds p := hA0
  rw [Try.params4] at hA hval
  obtain ⟨v0, vs0, d0, ds0, p0, q0, hargs, rfl, rfl, h0, r0⟩ := trodAll_cons hA
  obtain ⟨v1, vs1, d1, ds1, p1, q1, rfl, rfl, rfl, h1, r1⟩ := trodAll_cons r0
  obtain ⟨v2, vs2, d2, ds2, p2, q2, rfl, rfl, rfl, h2, r2⟩ := trodAll_cons r1
  obtain ⟨v3, vs3, d3, ds3, p3, q3, rfl, rfl, rfl, h3, r3⟩ := trodAll_cons r2
  obtain ⟨rfl, rfl, rfl⟩ := trodAll_nil r3
  obtain rfl : args = #[v0, v1, v2, v3] := by cases args; simp_all
  obtain ⟨rfl, rfl⟩ := trodVars_none hV
  have hbulk : Rows.uptoBulkAll ([d0, d1, d2, d3] ++ []) ≤ 1048576 := of_decide_eq_true hkk
  simp only [List.append_nil, Rows.uptoBulkAll] at hbulk
  have k0 := h0
  have lt0 : ∀ x ∈ p0, x.block < W.heap.size := by obtain ⟨m, hm⟩ := k0; exact DataW.trod_lt m _ _ _ hm
  have k1 := h1
  have lt1 : ∀ x ∈ p1, x.block < W.heap.size := by obtain ⟨m, hm⟩ := k1; exact DataW.trod_lt m _ _ _ hm
  have k2 := h2
  have lt2 : ∀ x ∈ p2, x.block < W.heap.size := by obtain ⟨m, hm⟩ := k2; exact DataW.trod_lt m _ _ _ hm
  have k3 := h3
  have lt3 : ∀ x ∈ p3, x.block < W.heap.size := by obtain ⟨m, hm⟩ := k3; exact DataW.trod_lt m _ _ _ hm
  obtain ⟨cs0, rfl, hsz0⟩ := okWide_struct Try.underlying25 (hval 0 25 v0 rfl rfl)
  obtain ⟨fuel0, hf0⟩ := h0
  obtain ⟨x0, hx0⟩ := trod_Cr fuel0 _ _ hf0 (by unfold bigN; simp only; omega)
  obtain ⟨cs1, rfl, hsz1⟩ := okWide_struct Try.underlying25 (hval 1 25 v1 rfl rfl)
  obtain ⟨fuel1, hf1⟩ := h1
  obtain ⟨x1, hx1⟩ := trod_Cr fuel1 _ _ hf1 (by unfold bigN; simp only; omega)
  obtain ⟨cs2, rfl, hsz2⟩ := okWide_struct Try.underlying33 (hval 2 33 v2 rfl rfl)
  obtain ⟨fuel2, hf2⟩ := h2
  obtain ⟨x2, hx2⟩ := trod_Ty fuel2 _ _ hf2 (by unfold bigN; simp only; omega)
  obtain ⟨cs3, rfl, hsz3⟩ := okWide_struct Try.underlying33 (hval 3 33 v3 rfl rfl)
  obtain ⟨fuel3, hf3⟩ := h3
  obtain ⟨x3, hx3⟩ := trod_Ty fuel3 _ _ hf3 (by unfold bigN; simp only; omega)
  clear hA0 hval0
  have hcall := walk x0 x1 x2 x3 W hmax _ _ _ _ (fun _ h => h) hx0 hx1 hx2 hx3
  have e0 : (Value.agg cs0).cells.toList.toArray = cs0 := rfl
  have e1 : (Value.agg cs1).cells.toList.toArray = cs1 := rfl
  have e2 : (Value.agg cs2).cells.toList.toArray = cs2 := rfl
  have e3 : (Value.agg cs3).cells.toList.toArray = cs3 := rfl
  rw [e0, e1, e2, e3] at hcall
  refine hcall.mono fun e W' ⟨he, hk⟩ => ?_
  subst he
  have bel : Below W.heap.size W W' := hk.below (Nat.le_refl _) (fun _ h => h.elim)
  exact ⟨_, rfl, _, _, _, [], _, [], hW', trodAll_mk1 (shut_bool Try.underlying4 _), (trodAll_cons_mk (Below.trod laidOut (by kernel_rfl) (of_decide_eq_true (by kernel_rfl)) k0 bel lt0) (trodAll_cons_mk (Below.trod laidOut (by kernel_rfl) (of_decide_eq_true (by kernel_rfl)) k1 bel lt1) (trodAll_cons_mk (Below.trod laidOut (by kernel_rfl) (of_decide_eq_true (by kernel_rfl)) k2 bel lt2) (trodAll_cons_mk (Below.trod laidOut (by kernel_rfl) (of_decide_eq_true (by kernel_rfl)) k3 bel lt3) trodAll_mk0)))), rfl, bel.frame _, fun h => by cases h⟩

theorem over : Rows.treeSamesUptoRow.holds Try.pinned (Rows.OpenSpec.upto Rows.treeSamesSpec) :=
  OpenClaim.holds_of_cond 4 Try.f4 rfl rfl rfl rfl rfl rfl rfl ⟨rfl, rfl, rfl, rfl, rfl⟩ rfl rfl rfl rfl rfl (by kernel_rfl) Try.func4 (by kernel_rfl)
    (of_decide_eq_true (by kernel_rfl)) (by unfold Func.isWrapper; first | (rw [if_pos (by decide +kernel)]; kernel_rfl) | (rw [if_neg (by decide +kernel)]; exact ⟨rfl, rfl⟩))
    (fun os started H enc _ F => lifted os started H enc F)
/-- For every input of bulk at most 1048576 the law returns true, and its arguments read as before. -/
theorem proved : Rows.TreeSamesUptoSaid := over
#print axioms proved

end Go.Proofs.Ytjbcagbnagefcaa.treeSames
