/- usufructlaw7.TreeBare: a crate without its places is the same whenever it is asked again, and may be just if the crate may; where what it reads is of bulk at most 1048576. -/
import Derived.Test.YtjbcagbnagefcaaRows
import Derived.Test.YtjbcagbnagefcaaTrL
import Derived.Test.YtjbcagbnagefcaaTree36
import Derived.Test.YtjbcagbnagefcaaTree57
import Derived.ProofKit
import Derived.OpenShut
import Derived.ShutString
import Derived.ChangeOld
import Derived.Below
import Derived.JoinedCond
import Derived.HandedShaped
import Derived.Shelf.Vars
namespace Go.Proofs.Ytjbcagbnagefcaa.treeBare
open Go.ChangeShapes Go.WideShapes Go.ChangeAt Go.RowKit
open Go.ChangeMaps (open_string shut_string)

theorem own : ownKnob Try.prog.godebug = none := by kernel_rfl
theorem laidOut : laidOutB Try.prog = true := by kernel_rfl
/-- The bound and the world's shape, both handed to the walk. -/
theorem cond_shaped {H : Type} {enc : TypeId × Value → H} {a : Assume} {C : Checked} {os : Os} {f : FuncId} {fn : Func} {s : OpenSpec} {k : (H : Type) → List (DataW H) → Bool} (hk : s.cond = some k) {F : Stop.Interp} {conds : List PathCond} {apart fresh handsOn again : Bool}
    (own : ownKnob C.prog.godebug = none) (started : os.Started) (noInit : C.prog.inits.idxOf? f = none) (hfn : C.prog.funcs[f]? = some fn)
    (witness : ∃ (w : World) (tape : Tape) (i : Input), w.os = os ∧ (w.forCall tape i).Shaped C.prog ∧ i.vars = [] ∧ Input.okWide C.prog (w.forCall tape i) .any w.heap.size f i ∧
      s.pre6 enc C.prog fn conds apart (w.forCall tape i).memory i.args ∧ a.holds C.prog (lone (Frame.enter C.prog f i.args .normal) [] (w.forCall tape i)))
    (contract : ∀ (W : World) (base : Nat) (args : Array Value) (ds gs : List (DataW H)) (before : List MemPlace),
      (∀ (j : Nat) t v, fn.params[j]? = some t → args[j]? = some v → Value.okWide C.prog W .any base t v) →
      DataW.Whole enc C.prog fn.params.toList s.vars apart W args.toList ds gs before →
      k H (ds ++ gs) = true → W.ShapedOpen C.prog →
      Calls C.prog f args W fun e W' => ∃ v, e = .returned v ∧ (s.at F).post enc C.prog fn apart fresh handsOn again W args v W') :
    ReturnsInHanded a C os f .any (s.pre6 enc C.prog fn conds apart) ((s.at F).post enc C.prog fn apart fresh handsOn again) := by
  refine returnsInHanded_of_calls own started noInit witness ?_
  intro w tape i _ hsh _ hok hpre _
  obtain ⟨_, _, _, fn', hfn', _, _, _, _, hval⟩ := hok
  have e : fn' = fn := Option.some.inj (hfn'.symm.trans hfn)
  subst e
  obtain ⟨ds, gs, before, hw, _, hkk⟩ := (OpenSpec.pre_some hk conds apart _ _).1 hpre.1
  have hw' := DataW.Whole.of_heap (w' := w.forCall tape i) (by rfl) hw
  refine (contract (w.forCall tape i) w.heap.size i.args ds gs before hval hw' hkk hsh).mono fun e W' ⟨v, he, hp⟩ => ?_
  subst he
  exact ChangeSpec.post_blind hp

attribute [local irreducible] wpMix wpMixB wpList
attribute [local go_sem ↓] exec_mid_ty exec_store_ty exec_mid_pl exec_store_pl exec_mid_opr exec_store_opr exec_mid_val exec_store_val exec_mid_st exec_store_st exec_mid_fld exec_store_fld exec_mid_str exec_store_str exec_mid_lif exec_store_lif exec_mid_fun exec_store_fun exec_mid_cr exec_store_cr
attribute [local go_sem] rowOk_new World.setRow_alloc_new

theorem max_of_shaped {w : World} (h : w.ShapedOpen Try.prog) : MaxV w :=
  cell_of_shapedOpen_int (zero := #[.int .i64 0]) h (of_decide_eq_true (by kernel_rfl)) (by kernel_rfl) rfl (by kernel_rfl) (by kernel_rfl) Try.underlying3
set_option maxRecDepth 100000 in
set_option linter.unusedSimpArgs false in
set_option maxHeartbeats 16000000 in
theorem walk {S : Nat → Prop} (c : CrD) (w : World) (hM : MaxV w) (cs1 : List Value) (hc0 : CrIs S w c cs1) : Calls Try.prog 5 #[.agg cs1.toArray] w fun e w' => e = .returned (.bool true) ∧ Keeps Nothing w w' := by
  have HM := shut hM
  have HC := shut hc0
  have ag1 := agg_ok hc0.len hc0.one
  obtain ⟨CC, hCC⟩ : ∃ C, C = cs1.toArray := ⟨_, rfl⟩
  have hsC : CC.size = 2 := by rw [hCC]; simpa using hc0.len
  rw [← hCC] at ag1 ⊢
  have GC := shut hCC
  clear hCC
  have BC := blk_new w CC 25
  have KW : Keeps Nothing w (w.alloc (.cells CC 25)) := (Keeps.refl Nothing w).alloc _
  clear hM hc0
  go_enter Try.func5, Try.ntmps5
  go_upto_region 1 with fail
  clear ag1
  generalize w.alloc (.cells CC 25) = w0 at *
  obtain ⟨gc, hgc⟩ : ∃ g, w.heap.size = g := ⟨_, rfl⟩
  rw [hgc] at BC ⊢
  clear hgc
  obtain ⟨y1, y2⟩ := tblk_mid BC hsC
  have hg1 := great_any c w0 cs1 (HC.out.keeps (KW) (fun _ _ h => h) (fun _ h => h))
  rw [← GC.out] at hg1
  go_wp2_with fail
  refine hg1.mono ?_
  rintro e w1 ⟨⟨z, rfl⟩, k1⟩
  clear hg1 y1 y2
  have KW1 := KW.trans k1 (fun _ h _ => h)
  have BC1 := k1.blk BC (fun h => h)
  clear BC KW k1
  cases z with
  | true =>
    have hct := told7_any w1 (HM.out.keeps KW1)
    have KT := KW1
    go_wp2_with fail
    refine hct.mono ?_
    rintro e wt ⟨rfl, kt⟩
    have KF := KT.trans kt (fun _ h _ => h)
    clear hct
    go_wp2_with fail
    go_ret
    exact ⟨rfl, KF⟩

  | false =>
    obtain ⟨y1, y2⟩ := tblk_mid BC1 hsC
    have hbr := bare_crate c w1 cs1 (HC.out.keeps (KW1) (fun _ _ h => h) (fun _ h => h))
    rw [← GC.out] at hbr
    go_wp2_with fail
    refine hbr.mono ?_
    rintro e w2 ⟨csa, rfl, k2, hA⟩
    have hac := hA.cr
    have aga := agg_ok hac.len hac.one
    obtain ⟨CA, hCA⟩ : ∃ C, C = csa.toArray := ⟨_, rfl⟩
    have hsA : CA.size = 2 := by rw [hCA]; simpa using hac.len
    rw [← hCA] at aga ⊢
    have GA := shut hCA
    have kb : Keeps Nothing w2 (w2.alloc (.cells CA 25)) := (Keeps.refl Nothing w2).alloc _
    have BA := blk_new w2 CA 25
    have HA := shut (hac.keeps kb (fun _ _ h => h) (fun b hb => Nat.lt_of_lt_of_le hb.2 kb.size) : CrIs (fun b => b < (w2.alloc (.cells CA 25)).heap.size) (w2.alloc (.cells CA 25)) (bareC c) csa)
    have k12 := k2.trans kb (fun _ h _ => h)
    have KW3 := KW1.trans k12 (fun _ h _ => h)
    have BC3 := k12.blk BC1 (fun h => h)
    clear hbr y1 y2 hA hac hCA BC1 KW1 k2 kb k12
    go_upto_region 4 with fail
    clear aga
    generalize w2.heap.size = ga at *
    generalize w2.alloc (.cells CA 25) = w3 at *
    obtain ⟨y1, y2⟩ := tblk_mid BA hsA
    have hbr := bare_crate (bareC c) w3 csa HA.out
    rw [← GA.out, bareC_twice] at hbr
    go_wp2_with fail
    refine hbr.mono ?_
    rintro e w4 ⟨csb, rfl, k4, hB⟩
    have hbc := hB.cr
    have agb := agg_ok hbc.len hbc.one
    obtain ⟨CB, hCB⟩ : ∃ C, C = csb.toArray := ⟨_, rfl⟩
    have hsB : CB.size = 2 := by rw [hCB]; simpa using hbc.len
    rw [← hCB] at agb ⊢
    have GB := shut hCB
    have kb : Keeps Nothing w4 (w4.alloc (.cells CB 25)) := (Keeps.refl Nothing w4).alloc _
    have BB := blk_new w4 CB 25
    have HB := shut (hB.keepsN kb)
    have k34 := k4.trans kb (fun _ h _ => h)
    have KW := KW3.trans k34 (fun _ h _ => h)
    have BC := k34.blk BC3 (fun h => h)
    have BA4 := k34.blk BA (fun h => h)
    have HA4 := shut (HA.out.keeps k34 (fun _ _ h => h) (fun _ h => h) : CrIs (fun b => b < w3.heap.size) (w4.alloc (.cells CB 25)) (bareC c) csa)
    have HN : Shut (w.heap.size ≤ w3.heap.size) := shut KW3.size
    have hgcN : gc < w3.heap.size := lt_of_block BC3
    have hgaN : ga < w3.heap.size := lt_of_block BA
    clear hbr y1 y2 hB hbc hCB BC3 KW3 k4 kb k34 HA BA
    go_upto_region 5 with fail
    clear agb
    generalize w4.heap.size = gb at *
    generalize w4.alloc (.cells CB 25) = wb at *
    obtain ⟨N, hNN⟩ : ∃ N, w3.heap.size = N := ⟨_, rfl⟩
    rw [hNN] at HB HA4 HN hgcN hgaN
    clear hNN
    have HA := HA4
    have BA := BA4
    clear HA4 BA4
    refine wp_region_mix (fun V => Keeps Nothing wb V) [(true, 0), (true, 1), (false, 2), (true, 3), (true, 4), (true, 5), (true, 7), (false, 6), (false, 8), (true, 9), (true, 10)] (by kernel_rfl) (by kernel_rfl) (Keeps.refl _ _).drew ?_
    simp only [mixItems, List.map_cons, List.map_nil, List.getD_cons_zero, List.getD_cons_succ]
    have kk : Keeps Nothing wb wb.drew := (Keeps.refl Nothing wb).drew
    refine wpMix_yield (v := .agg CA) (fun V hV => ?_) (fun K hK => ?_)
    · obtain ⟨y1, y2⟩ := tblk_mid (hV.blk BA (fun h => h)) hsA
      go_simp
    go_simp
    refine hK _ ?_
    clear hK K
    refine wpMix_yield (v := .agg CB) (fun V hV => ?_) (fun K hK => ?_)
    · obtain ⟨y1, y2⟩ := tblk_mid (hV.blk BB (fun h => h)) hsB
      go_simp
    go_simp
    refine hK _ ?_
    clear hK K
    have hc := same_any (bareC c) (bareC c) wb.drew csa csb (HA.out.keeps kk (fun _ _ h => h) (fun _ h => h)) (HB.out.cr.keeps kk (fun _ _ h => h) (fun _ h => h))
    rw [← GA.out, ← GB.out] at hc
    refine wpMix_one (fun K hK => ?_)
    go_wp2_with fail
    refine hc.mono ?_
    rintro e w5 ⟨⟨z1, rfl, hz1⟩, k5⟩
    have kk := kk.trans k5 (fun _ h _ => h)
    obtain rfl : z1 = true := hz1.2 (by first | rfl | trivial)
    clear hz1
    clear hc k5
    go_wp2_with fail
    refine hK _ _ kk ?_
    clear hK K
    iterate 2
      refine wpMix_free (fun K hK => ?_); go_simp; refine hK _ ?_; clear hK K
    refine wpMix_yield (v := .agg CA) (fun V hV => ?_) (fun K hK => ?_)
    · obtain ⟨y1, y2⟩ := tblk_mid (hV.blk BA (fun h => h)) hsA
      go_simp
    go_simp
    refine hK _ ?_
    clear hK K
    refine wpMix_yield (v := .agg CC) (fun V hV => ?_) (fun K hK => ?_)
    · obtain ⟨y1, y2⟩ := tblk_mid (hV.blk BC (fun h => h)) hsC
      go_simp
    go_simp
    refine hK _ ?_
    clear hK K
    have hc := may_any (bareC c) w5 (HM.out.keeps (KW.trans kk (fun _ h _ => h))) csa (HA.out.keeps kk (fun _ _ h => h) (fun _ h => h))
    rw [← GA.out] at hc
    refine wpMix_one (fun K hK => ?_)
    go_wp2_with fail
    refine hc.mono ?_
    rintro e w6 ⟨⟨z2, rfl, hz2⟩, k6⟩
    have kk := kk.trans k6 (fun _ h _ => h)
    have HZ2 := shut hz2
    clear hz2
    clear hc k6
    go_wp2_with fail
    refine hK _ _ kk ?_
    clear hK K
    have hc := may_any c w6 (HM.out.keeps (KW.trans kk (fun _ h _ => h))) cs1 (HC.out.keeps (KW.trans kk (fun _ h _ => h)) (fun _ _ h => h) (fun _ h => h))
    rw [← GC.out] at hc
    refine wpMix_one (fun K hK => ?_)
    go_wp2_with fail
    refine hc.mono ?_
    rintro e w7 ⟨⟨z3, rfl, hz3⟩, k7⟩
    have kk := kk.trans k7 (fun _ h _ => h)
    obtain rfl : z3 = z2 := Bool.eq_iff_iff.2 (hz3.trans ((crP_bare c).symm.trans HZ2.out.symm))
    have hzz : (z3 == z3) = true := beq_self_eq_true _
    clear hz3 HZ2
    clear hc k7
    go_wp2_with fail
    refine hK _ _ kk ?_
    clear hK K
    repeat (refine wpMix_free (fun K hK => ?_); go_simp; refine hK _ ?_; clear hK K)
    refine wpMix_nil ?_
    have KW7 := KW.trans kk (fun _ h _ => h)
    have BC7 := kk.blk BC (fun h => h)
    have BA7 := kk.blk BA (fun h => h)
    have BB7 := kk.blk BB (fun h => h)
    have HA7 := shut (HA.out.keeps kk (fun _ _ h => h) (fun _ h => h))
    have HB7 := shut (HB.out.keepsN kk)
    clear HA HB BA BB BC KW kk hzz
    obtain ⟨wD, rfl⟩ : ∃ wD, wD = w7 := ⟨_, rfl⟩
    obtain ⟨a0, c0, aF, cF, hcsb, -, hnfb, HO⟩ := HB7.out
    obtain ⟨nf, hnf⟩ : ∃ nf, (bareC c).funcs.length = nf := ⟨_, rfl⟩
    rw [hnf] at hcsb hnfb
    have HNF := shut hnf
    have HO := shut HO
    have hnf2 : nf ≤ 100000000 := by unfold bigN at hnfb; exact hnfb
    have b1 := blk_cell BB7 1 (v := .slice aF nf cF) (by rw [GB.out, hcsb]; rfl)
    have HCSB := shut hcsb
    obtain ⟨gF, hgF, hgb⟩ : ∃ gF, ((bareC c).funcs ≠ [] → aF = some ⟨gF, 0, none⟩) ∧ gb ≠ gF := by
      by_cases hne : (bareC c).funcs = []
      · exact ⟨gb + 1, fun h => absurd hne h, by omega⟩
      · obtain ⟨g, hg⟩ := HO.out.head hne
        refine ⟨g, fun _ => hg, fun q => ?_⟩
        have h9 := HO.out
        rw [hg] at h9
        obtain ⟨cu, hcu⟩ := h9.blk
        subst q
        exact absurd (blk_un BB7 hcu) (by decide)
    have HGF := shut hgF
    have hbox : ∀ wx, Mu N gF wD wx → wx.cell? ⟨gb, 1, none⟩ = some (.slice aF nf cF) := fun wx mu => by
      have h1 := mu.other gb hgb (fun ⟨cu, hcu⟩ => absurd (blk_un BB7 hcu) (by decide)) (fun ⟨cu, hcu⟩ => absurd (blk_un BB7 hcu) (by decide))
      have h2 : Blk wx gb CB 25 := by unfold Blk; rw [h1]; exact BB7
      exact blk_cell h2 1 (by rw [GB.out, HCSB.out]; rfl)
    have HBOX := shut hbox
    clear hcsb hnfb hnf hgF hbox
    go_wp2_with fail
    go_loopw [5, 6, 7] (fun s5 _ _ wx => ∃ i : Nat, s5 = .int .i64 i ∧ i ≤ nf ∧ Mu N gF wD wx) (fun s5 _ _ _ => nf - (intOf s5).toNat)
    case atStart => exact ⟨0, rfl, Nat.zero_le _, Mu.refl _ _ _⟩
    case round =>
      obtain ⟨i, rfl, hi, MU⟩ := hrel
      by_cases hlt : i < nf
      rotate_left
      · obtain rfl : i = nf := by omega
        have m1 : ¬ (i : Int) < i := by omega
        have bb := HBOX.out wr MU
        have KX : Keeps Nothing w wr := KW7.trans MU.keeps (fun b hb hlt => by have hb' : N ≤ b := hb; have := HN.out; omega)
        have BCr := MU.keeps.blk BC7 (fun q => by have q' : N ≤ gc := q; omega)
        have BAr := MU.keeps.blk BA7 (fun q => by have q' : N ≤ ga := q; omega)
        have HAr := shut (HA7.out.keeps MU.keeps (fun b hb q => by have q' : N ≤ b := q; omega) (fun _ h => h))
        clear MU BC7 BA7 BB7 KW7
        go_upto_region 23 with fail
        clear bb m1
        refine wp_region_mix (fun V => Keeps Nothing wr V) [(false, 0), (true, 1), (true, 2), (true, 3), (false, 4), (false, 5), (true, 6), (true, 7)] (by kernel_rfl) (by kernel_rfl) (Keeps.refl _ _).drew ?_
        simp only [mixItems, List.map_cons, List.map_nil, List.getD_cons_zero, List.getD_cons_succ]
        have kk : Keeps Nothing wr wr.drew := (Keeps.refl Nothing wr).drew
        have hc := told7_any wr.drew (HM.out.keeps (KX.trans kk (fun _ h _ => h)))
        refine wpMix_one (fun K hK => ?_)
        go_wp2_with fail
        refine hc.mono ?_
        rintro e w21 ⟨rfl, k21⟩
        have kk := kk.trans k21 (fun _ h _ => h)
        clear hc k21
        go_wp2_with fail
        refine hK _ _ kk ?_
        clear hK K
        iterate 1
          refine wpMix_free (fun K hK => ?_); go_simp; refine hK _ ?_; clear hK K
        refine wpMix_yield (v := .agg CA) (fun V hV => ?_) (fun K hK => ?_)
        · obtain ⟨y1, y2⟩ := tblk_mid (hV.blk BAr (fun h => h)) hsA
          go_simp
        go_simp
        refine hK _ ?_
        clear hK K
        refine wpMix_yield (v := .agg CC) (fun V hV => ?_) (fun K hK => ?_)
        · obtain ⟨y1, y2⟩ := tblk_mid (hV.blk BCr (fun h => h)) hsC
          go_simp
        go_simp
        refine hK _ ?_
        clear hK K
        have hc := bare_crate c w21 cs1 (HC.out.keeps (KX.trans kk (fun _ h _ => h)) (fun _ _ h => h) (fun _ h => h))
        rw [← GC.out] at hc
        refine wpMix_one (fun K hK => ?_)
        go_wp2_with fail
        refine hc.mono ?_
        rintro e w22 ⟨csd, rfl, k22, hD⟩
        have kk := kk.trans k22 (fun _ h _ => h)
        have HD := shut hD.cr
        have agd := agg_ok hD.cr.len hD.cr.one
        clear hD
        clear hc k22
        go_wp2_with fail
        refine hK _ _ kk ?_
        clear hK K
        have hc := same_any (bareC c) (bareC c) w22 csa csd (HAr.out.keeps kk (fun _ _ h => h) (fun _ h => h)) HD.out
        rw [← GA.out] at hc
        refine wpMix_one (fun K hK => ?_)
        go_wp2_with fail
        refine hc.mono ?_
        rintro e w23 ⟨⟨z9, rfl, hz9⟩, k23⟩
        have kk := kk.trans k23 (fun _ h _ => h)
        obtain rfl : z9 = true := hz9.2 (by first | rfl | trivial)
        clear hz9
        clear hc k23
        go_wp2_with fail
        refine hK _ _ kk ?_
        clear hK K
        repeat (refine wpMix_free (fun K hK => ?_); go_simp; refine hK _ ?_; clear hK K)
        refine wpMix_nil ?_
        go_wp2_with fail
        go_ret
        exact ⟨rfl, KX.trans kk (fun _ h _ => h)⟩
      · have m0 : (0 : Int) ≤ i := by omega
        have m2 : (i : Int) < nf := by omega
        obtain ⟨f, hf⟩ : ∃ f, (bareC c).funcs[i]? = some (bareF f) := by
          have hlt' : i < (bareC c).funcs.length := by rw [HNF.out]; exact hlt
          have e1 := List.getElem?_eq_getElem hlt'
          have e2 : (bareC c).funcs[i]? = (c.funcs[i]?).map bareF := List.getElem?_map ..
          rw [e1] at e2
          obtain ⟨x, _, hx⟩ := Option.map_eq_some_iff.1 e2.symm
          exact ⟨x, by rw [e1, ← hx]⟩
        obtain rfl := HGF.out (fun q => by rw [q] at hf; simp at hf)
        have hFb := HO.out.blk
        have hNF := HO.out.new gF rfl
        obtain ⟨v1, a3, n3, c3, a8, n8, c8, r1, r3, r8, r9, hn3, hn8, hst, hfl⟩ := fun_row HO.out hf
        have HFB := shut hFb
        have HR1 := shut r1
        have HR3 := shut r3
        have HR8 := shut r8
        have HST := shut hst
        have HFL := shut hfl
        have hn3 : n3 ≤ 100000000 := by unfold bigN at hn3; exact hn3
        have hn8 : n8 ≤ 100000000 := by unfold bigN at hn8; exact hn8
        have bb := HBOX.out wr MU
        have q9 := MU.fnCell hFb r9 (by omega)
        obtain ⟨⟨u1, f1⟩, f2⟩ := MU.fnThere hFb r1
        have MUy := MU.set (j := i * 10 + 1) (.string ⟨#[122, 122]⟩) hNF (.inl ⟨rfl, hFb, by omega⟩)
        clear hf hFb r1 r3 r8 r9 hst hfl
        go_wp2_with fail
        any_goals try (rename_i hfz; simp [f2] at hfz; done)
        clear MU bb q9 f1 f2
        go_loopw [6] (fun s6 wx => ∃ k : Nat, s6 = .int .i64 k ∧ k ≤ n8 ∧ Mu N gF wD wx) (fun s6 _ => n8 - (intOf s6).toNat)
        case atStart => exact ⟨0, rfl, Nat.zero_le _, MUy⟩
        case round =>
          clear MUy
          obtain ⟨k, rfl, hk, MU⟩ := hrel
          have bb := HBOX.out wr MU
          have q8 := MU.fnCell HFB.out HR8.out (by omega)
          by_cases hkt : k < n8
          rotate_left
          · obtain rfl : k = n8 := by omega
            have m3 : ¬ (k : Int) < k := by omega
            go_wp2_with fail
            clear bb q8
            go_loopw [7] (fun s7 wx => ∃ t : Nat, s7 = .int .i64 t ∧ t ≤ n3 ∧ Mu N gF wD wx) (fun s7 _ => n3 - (intOf s7).toNat)
            case atStart => exact ⟨0, rfl, Nat.zero_le _, MU⟩
            case round =>
              clear MU
              obtain ⟨t, rfl, ht, MU⟩ := hrel
              have bb := HBOX.out wr MU
              have q3 := MU.fnCell HFB.out HR3.out (by omega)
              by_cases htt : t < n3
              · have m4 : (0 : Int) ≤ t := by omega
                have m5 : (t : Int) < n3 := by omega
                obtain ⟨b, o, rfl, hNb, hb, v, hv⟩ := HFL.out t htt
                obtain ⟨⟨u2, g1⟩, g2⟩ := MU.fldThere hb hv
                have KN := MU.set (j := o + t * 6 + 1) (.string ⟨#[122, 122]⟩) hNb (.inr (.inr hb))
                clear hv hb
                go_wp2_with fail
                any_goals try (rename_i hfz; simp [g2] at hfz; done)
                go_roundw
                case rel => exact ⟨t + 1, by go_num, by omega, KN⟩
                case measure => (simp [intOf]; try omega)
              · obtain rfl : t = n3 := by omega
                have m6 : ¬ (t : Int) < t := by omega
                go_wp2_with fail
                go_roundw
                case rel => exact ⟨i + 1, by go_num, by omega, MU⟩
                case measure => (simp [intOf]; try omega)
          · have m4 : (0 : Int) ≤ k := by omega
            have m5 : (k : Int) < n8 := by omega
            obtain ⟨b, rfl, hNb, hb, ⟨v, hv⟩, hp⟩ := HST.out k hkt
            obtain ⟨⟨u2, g1⟩, g2⟩ := MU.stThere hb hv
            have q1 := MU.stCell hb hp (by omega)
            have KN := MU.set (j := k * 32) (.int .i64 77) hNb (.inr (.inl ⟨hb, by omega⟩))
            clear hv hb hp
            go_wp2_with fail
            any_goals try (rename_i hfz; simp [g2] at hfz; done)
            go_roundw
            case rel => exact ⟨k + 1, by go_num, by omega, KN⟩
            case measure => (simp [intOf]; try omega)

set_option maxRecDepth 100000 in
theorem lifted (os : Os) (started : os.Started) (H : Type) (enc : TypeId × Value → H) (F : Stop.Interp) :
    ReturnsInHanded {} Try.checked os 5 .any ((Rows.OpenSpec.upto Rows.treeBareSpec).pre6 enc Try.prog Try.f5 Rows.treeBareUptoRow.domain false) (((Rows.OpenSpec.upto Rows.treeBareSpec).at F).post enc Try.prog Try.f5 false true false false) := by
  refine cond_shaped (C := Try.checked) (s := Rows.OpenSpec.upto Rows.treeBareSpec) (k := Rows.uptoSmall) rfl own started (by kernel_rfl) Try.func5
    (OpenSpec.witness (enc := enc) (C := Try.checked) (s := Rows.OpenSpec.upto Rows.treeBareSpec) (k := Rows.uptoSmall) rfl false ⟨#[], #[.agg #[.slice none 0 0, .slice none 0 0]], []⟩ 8 (by kernel_rfl) (by kernel_rfl) (by kernel_rfl)
      (x := ([.agg [.nil, .nil]], [], [])) (by kernel_rfl) rfl (by kernel_rfl)) ?_
  intro W base args ds gs before hval0 hW hkk hsh
  have hmax := max_of_shaped hsh
  have hval : ∀ (j : Nat) t v, Try.f5.params[j]? = some t → args[j]? = some v → Value.okWide Try.prog W .any base t v := hval0
  have hW' := hW
  obtain ⟨p, q, hA0, hV, rfl, hfz, hnd⟩ := hW
  have hA : DataW.TrodAll enc Try.prog W 0 (fun _ => true) true Try.f5.params.toList args.toList ds p := hA0
  rw [Try.params5] at hA hval
  obtain ⟨v0, vs0, d0, ds0, p0, q0, hargs, rfl, rfl, h0, r0⟩ := trodAll_cons hA
  obtain ⟨rfl, rfl, rfl⟩ := trodAll_nil r0
  obtain rfl : args = #[v0] := by cases args; simp_all
  obtain ⟨rfl, rfl⟩ := trodVars_none hV
  have hbulk : Rows.uptoBulkAll ([d0] ++ []) ≤ 1048576 := of_decide_eq_true hkk
  simp only [List.append_nil, Rows.uptoBulkAll] at hbulk
  have k0 := h0
  have lt0 : ∀ x ∈ p0, x.block < W.heap.size := by obtain ⟨m, hm⟩ := k0; exact DataW.trod_lt m _ _ _ hm
  obtain ⟨cs0, rfl, hsz0⟩ := okWide_struct Try.underlying25 (hval 0 25 v0 rfl rfl)
  obtain ⟨fuel0, hf0⟩ := h0
  obtain ⟨x0, hx0⟩ := trod_Cr fuel0 _ _ hf0 (by unfold bigN; simp only; omega)
  clear hA0 hval0
  have hcall := walk x0 W hmax _ hx0
  have e0 : (Value.agg cs0).cells.toList.toArray = cs0 := rfl
  rw [e0] at hcall
  refine hcall.mono fun e W' ⟨he, hk⟩ => ?_
  subst he
  have bel : Below W.heap.size W W' := hk.below (Nat.le_refl _) (fun _ h => h.elim)
  exact ⟨_, rfl, _, _, _, [], _, [], hW', trodAll_mk1 (shut_bool Try.underlying4 _), (trodAll_cons_mk (Below.trod laidOut (by kernel_rfl) (of_decide_eq_true (by kernel_rfl)) k0 bel lt0) trodAll_mk0), rfl, bel.frame _, fun h => by cases h⟩

theorem over : Rows.treeBareUptoRow.holds Try.pinned (Rows.OpenSpec.upto Rows.treeBareSpec) :=
  OpenClaim.holds_of_cond 5 Try.f5 rfl rfl rfl rfl rfl rfl rfl ⟨rfl, rfl, rfl, rfl, rfl⟩ rfl rfl rfl rfl rfl (by kernel_rfl) Try.func5 (by kernel_rfl)
    (of_decide_eq_true (by kernel_rfl)) (by unfold Func.isWrapper; first | (rw [if_pos (by decide +kernel)]; kernel_rfl) | (rw [if_neg (by decide +kernel)]; exact ⟨rfl, rfl⟩))
    (fun os started H enc _ F => lifted os started H enc F)
/-- For every input of bulk at most 1048576 the law returns true, and its arguments read as before. -/
theorem proved : Rows.TreeBareUptoSaid := over
#print axioms proved

end Go.Proofs.Ytjbcagbnagefcaa.treeBare
