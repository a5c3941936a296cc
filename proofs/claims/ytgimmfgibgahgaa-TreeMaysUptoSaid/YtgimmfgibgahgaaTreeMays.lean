/- usufructlaw7.TreeMays: which crates may be is what the document says; where what it reads is of bulk at most 1048576. -/
import Derived.Test.YtgimmfgibgahgaaRows
import Derived.Test.YtgimmfgibgahgaaTrE
import Derived.Test.YtgimmfgibgahgaaTree36
import Derived.Test.YtgimmfgibgahgaaMix
import Derived.ProofKit
import Derived.OpenShut
import Derived.ShutString
import Derived.ChangeOld
import Derived.Below
import Derived.JoinedCond
import Derived.HandedShaped
import Derived.Shelf.Vars
namespace Go.Proofs.Ytgimmfgibgahgaa.treeMays
open Go.ChangeShapes Go.WideShapes Go.ChangeAt Go.RowKit
open Go.ChangeMaps (open_string shut_string)

theorem own : ownKnob Try.prog.godebug = none := by kernel_rfl
theorem laidOut : laidOutB Try.prog = true := by kernel_rfl
/-- The bound and the world's shape, both handed to the walk. -/
theorem cond_shaped {H : Type} {enc : TypeId × Value → H} {a : Assume} {C : Checked} {os : Os} {f : FuncId} {fn : Func} {s : OpenSpec} {k : (H : Type) → List (DataW H) → Bool} (hk : s.cond = some k) {F : Stop.Interp} {conds : List PathCond} {apart fresh handsOn again : Bool}
    (own : ownKnob C.prog.godebug = none) (started : os.Started) (noInit : C.prog.inits.idxOf? f = none) (hfn : C.prog.funcs[f]? = some fn)
    (witness : ∃ (w : World) (tape : Tape) (i : Input), w.os = os ∧ (w.forCall tape i).Shaped C.prog ∧ i.vars = [] ∧ Input.okWide C.prog (w.forCall tape i) .any w.heap.size f i ∧
      s.pre6 enc C.prog fn conds apart (w.forCall tape i).memory i.args ∧ a.holds C.prog (lone (Frame.enter C.prog f i.args .normal) [] (w.forCall tape i)))
    (contract : ∀ (W : World) (base : Nat) (args : Array Value) (ds gs : List (DataW H)) (before : List MemPlace),
      (∀ (j : Nat) t v, fn.params[j]? = some t → args[j]? = some v → Value.okWide C.prog W .any base t v) →
      DataW.Whole enc C.prog fn.params.toList s.vars apart W args.toList ds gs before →
      k H (ds ++ gs) = true → W.ShapedOpen C.prog →
      Calls C.prog f args W fun e W' => ∃ v, e = .returned v ∧ (s.at F).post enc C.prog fn apart fresh handsOn again W args v W') :
    ReturnsInHanded a C os f .any (s.pre6 enc C.prog fn conds apart) ((s.at F).post enc C.prog fn apart fresh handsOn again) := by
  refine returnsInHanded_of_calls own started noInit witness ?_
  intro w tape i _ hsh _ hok hpre _
  obtain ⟨_, _, _, fn', hfn', _, _, _, _, hval⟩ := hok
  have e : fn' = fn := Option.some.inj (hfn'.symm.trans hfn)
  subst e
  obtain ⟨ds, gs, before, hw, _, hkk⟩ := (OpenSpec.pre_some hk conds apart _ _).1 hpre.1
  have hw' := DataW.Whole.of_heap (w' := w.forCall tape i) (by rfl) hw
  refine (contract (w.forCall tape i) w.heap.size i.args ds gs before hval hw' hkk hsh).mono fun e W' ⟨v, he, hp⟩ => ?_
  subst he
  exact ChangeSpec.post_blind hp

attribute [local go_sem ↓] exec_mid_ty exec_store_ty exec_mid_pl exec_store_pl exec_mid_opr exec_store_opr exec_mid_val exec_store_val exec_mid_st exec_store_st exec_mid_fld exec_store_fld exec_mid_str exec_store_str exec_mid_lif exec_store_lif exec_mid_fun exec_store_fun exec_mid_cr exec_store_cr
attribute [local go_sem] rowOk_new World.setRow_alloc_new

theorem max_of_shaped {w : World} (h : w.ShapedOpen Try.prog) : MaxV w :=
  cell_of_shapedOpen_int (zero := #[.int .i64 0]) h (of_decide_eq_true (by kernel_rfl)) (by kernel_rfl) rfl (by kernel_rfl) (by kernel_rfl) Try.underlying3

set_option maxRecDepth 100000 in
set_option linter.unusedSimpArgs false in
set_option maxHeartbeats 8000000 in
theorem walk {S : Nat → Prop} (a : CrD) (w : World) (hM : MaxV w) (cs : List Value) (ha : CrIs S w a cs) : Calls Try.prog 3 #[.agg cs.toArray] w fun e w' => e = .returned (.bool true) ∧ Keeps Nothing w w' := by
  have HM := shut hM
  have HA := shut ha
  clear hM
  have ag1 := agg_ok ha.len ha.one
  obtain ⟨CA, hCA⟩ : ∃ C, C = cs.toArray := ⟨_, rfl⟩
  have hsz : CA.size = 2 := by rw [hCA]; simpa using ha.len
  rw [← hCA] at ag1 ⊢
  have HCA := shut hCA
  clear hCA ha
  have KW : Keeps Nothing w (w.alloc (.cells CA 25)) := (Keeps.refl Nothing w).alloc _
  have BA := blk_new w CA 25
  go_enter Try.func3, Try.ntmps3
  go_upto_region 1 with fail
  clear ag1
  generalize w.heap.size = ga at *
  generalize w.alloc (.cells CA 25) = wb at *
  refine wp_region_mix (fun V => Keeps Nothing wb V) [(true, 0), (false, 1), (true, 2), (false, 3), (true, 4), (true, 5), (true, 7), (false, 6), (false, 8), (true, 9), (true, 10), (true, 11), (true, 12)] (by kernel_rfl) (by kernel_rfl) (Keeps.refl _ _).drew ?_
  simp only [mixItems, List.map_cons, List.map_nil, List.getD_cons_zero, List.getD_cons_succ]
  have kk : Keeps Nothing wb wb.drew := (Keeps.refl Nothing wb).drew
  refine wpMix_yield (v := .agg CA) (fun V hV => ?_) (fun K hK => ?_)
  · obtain ⟨y1, y2⟩ := tblk_mid (hV.blk BA (fun h => h)) hsz
    go_simp
  go_simp
  refine hK _ ?_
  clear hK K
  have KV := KW.trans kk (fun _ h _ => h)
  have hc := great_any a wb.drew cs (HA.out.keeps KV (fun _ _ h => h) (fun _ h => h))
  rw [← HCA.out] at hc
  refine wpMix_one (fun K hK => ?_)
  go_wp2_with fail
  refine hc.mono ?_
  rintro e w1 ⟨⟨z, rfl⟩, k1⟩
  have kk := kk.trans k1 (fun _ h _ => h)
  clear hc k1 KV
  go_wp2_with fail
  refine hK _ _ kk ?_
  clear hK K
  cases z with
  | true =>
    repeat (refine wpMix_free (fun K hK => ?_); go_simp; refine hK _ ?_; clear hK K)
    refine wpMix_one (fun K hK => ?_)
    go_wp2_with fail
    refine hK _ _ kk ?_
    clear hK K
    repeat (refine wpMix_free (fun K hK => ?_); go_simp; refine hK _ ?_; clear hK K)
    refine wpMix_one (fun K hK => ?_)
    go_wp2_with fail
    refine hK _ _ kk ?_
    clear hK K
    refine wpMix_one (fun K hK => ?_)
    go_wp2_with fail
    refine hK _ _ kk ?_
    clear hK K
    repeat (refine wpMix_free (fun K hK => ?_); go_simp; refine hK _ ?_; clear hK K)
    refine wpMix_nil ?_
    have K := KW.trans kk (fun _ h _ => h)
    go_wp2_with fail
    go_ret
    exact ⟨rfl, K⟩
  | false =>
    repeat (refine wpMix_free (fun K hK => ?_); go_simp; refine hK _ ?_; clear hK K)
    have hc := told_any w1 (HM.out.keeps (KW.trans kk (fun _ h _ => h)))
    refine wpMix_one (fun K hK => ?_)
    go_wp2_with fail
    refine hc.mono ?_
    rintro e w2 ⟨rfl, k2⟩
    have kk := kk.trans k2 (fun _ h _ => h)
    clear hc k2
    go_wp2_with fail
    refine hK _ _ kk ?_
    clear hK K
    repeat (refine wpMix_free (fun K hK => ?_); go_simp; refine hK _ ?_; clear hK K)
    refine wpMix_yield (v := .agg CA) (fun V hV => ?_) (fun K hK => ?_)
    · obtain ⟨y1, y2⟩ := tblk_mid (hV.blk BA (fun h => h)) hsz
      go_simp
    go_simp
    refine hK _ ?_
    clear hK K
    repeat (refine wpMix_free (fun K hK => ?_); go_simp; refine hK _ ?_; clear hK K)
    refine wpMix_yield (v := .agg CA) (fun V hV => ?_) (fun K hK => ?_)
    · obtain ⟨y1, y2⟩ := tblk_mid (hV.blk BA (fun h => h)) hsz
      go_simp
    go_simp
    refine hK _ ?_
    clear hK K
    repeat (refine wpMix_free (fun K hK => ?_); go_simp; refine hK _ ?_; clear hK K)
    have KV := KW.trans kk (fun _ h _ => h)
    have hc := may_any a w2 (HM.out.keeps KV) cs (HA.out.keeps KV (fun _ _ h => h) (fun _ h => h))
    rw [← HCA.out] at hc
    refine wpMix_one (fun K hK => ?_)
    go_wp2_with fail
    refine hc.mono ?_
    rintro e w3 ⟨⟨z1, rfl, hz1⟩, k3⟩
    have kk := kk.trans k3 (fun _ h _ => h)
    have HZ1 := shut hz1
    clear hc k3 KV hz1
    go_wp2_with fail
    refine hK _ _ kk ?_
    clear hK K
    have KV := KW.trans kk (fun _ h _ => h)
    have hc := rmay_any a w3 cs (HA.out.keeps KV (fun _ _ h => h) (fun _ h => h))
    rw [← HCA.out] at hc
    refine wpMix_one (fun K hK => ?_)
    go_wp2_with fail
    refine hc.mono ?_
    rintro e w4 ⟨⟨z2, rfl, hz2⟩, k4⟩
    have kk := kk.trans k4 (fun _ h _ => h)
    have hzz : z2 = z1 := Bool.eq_iff_iff.2 (hz2.trans HZ1.out.symm)
    clear hc k4 KV hz2
    subst hzz
    go_wp2_with fail
    refine hK _ _ kk ?_
    clear hK K HZ1
    have K := KW.trans kk (fun _ h _ => h)
    cases z2 with
    | true =>
      repeat (refine wpMix_free (fun K hK => ?_); go_simp; refine hK _ ?_; clear hK K)
      refine wpMix_nil ?_
      go_wp2_with fail
      go_ret
      exact ⟨rfl, K⟩
    | false =>
      repeat (refine wpMix_free (fun K hK => ?_); go_simp; refine hK _ ?_; clear hK K)
      refine wpMix_nil ?_
      go_wp2_with fail
      go_ret
      exact ⟨rfl, K⟩

set_option maxRecDepth 100000 in
theorem lifted (os : Os) (started : os.Started) (H : Type) (enc : TypeId × Value → H) (F : Stop.Interp) :
    ReturnsInHanded {} Try.checked os 3 .any ((Rows.OpenSpec.upto Rows.treeMaysSpec).pre6 enc Try.prog Try.f3 Rows.treeMaysUptoRow.domain false) (((Rows.OpenSpec.upto Rows.treeMaysSpec).at F).post enc Try.prog Try.f3 false true false false) := by
  refine cond_shaped (C := Try.checked) (s := Rows.OpenSpec.upto Rows.treeMaysSpec) (k := Rows.uptoSmall) rfl own started (by kernel_rfl) Try.func3
    (OpenSpec.witness (enc := enc) (C := Try.checked) (s := Rows.OpenSpec.upto Rows.treeMaysSpec) (k := Rows.uptoSmall) rfl false ⟨#[], #[.agg #[.slice none 0 0, .slice none 0 0]], []⟩ 8 (by kernel_rfl) (by kernel_rfl) (by kernel_rfl)
      (x := ([.agg [.nil, .nil]], [], [])) (by kernel_rfl) rfl (by kernel_rfl)) ?_
  intro W base args ds gs before hval0 hW hkk hsh
  have hmax := max_of_shaped hsh
  have hval : ∀ (j : Nat) t v, Try.f3.params[j]? = some t → args[j]? = some v → Value.okWide Try.prog W .any base t v := hval0
  have hW' := hW
  obtain ⟨p, q, hA0, hV, rfl, hfz, hnd⟩ := hW
  have hA : DataW.TrodAll enc Try.prog W 0 (fun _ => true) true Try.f3.params.toList args.toList ds p := hA0
  rw [Try.params3] at hA hval
  obtain ⟨v0, vs0, d0, ds0, p0, q0, hargs, rfl, rfl, h0, r0⟩ := trodAll_cons hA
  obtain ⟨rfl, rfl, rfl⟩ := trodAll_nil r0
  obtain rfl : args = #[v0] := by cases args; simp_all
  obtain ⟨rfl, rfl⟩ := trodVars_none hV
  have hbulk : Rows.uptoBulkAll ([d0] ++ []) ≤ 1048576 := of_decide_eq_true hkk
  simp only [List.append_nil, Rows.uptoBulkAll] at hbulk
  have k0 := h0
  have lt0 : ∀ x ∈ p0, x.block < W.heap.size := by obtain ⟨m, hm⟩ := k0; exact DataW.trod_lt m _ _ _ hm
  obtain ⟨cs0, rfl, hsz0⟩ := okWide_struct Try.underlying25 (hval 0 25 v0 rfl rfl)
  obtain ⟨fuel0, hf0⟩ := h0
  obtain ⟨x0, hx0⟩ := trod_Cr fuel0 _ _ hf0 (by unfold bigN; simp only; omega)
  clear hA0 hval0
  have hcall := walk x0 W hmax _ hx0
  have e0 : (Value.agg cs0).cells.toList.toArray = cs0 := rfl
  rw [e0] at hcall
  refine hcall.mono fun e W' ⟨he, hk⟩ => ?_
  subst he
  have bel : Below W.heap.size W W' := hk.below (Nat.le_refl _) (fun _ h => h.elim)
  exact ⟨_, rfl, _, _, _, [], _, [], hW', trodAll_mk1 (shut_bool Try.underlying4 _), (trodAll_cons_mk (Below.trod laidOut (by kernel_rfl) (of_decide_eq_true (by kernel_rfl)) k0 bel lt0) trodAll_mk0), rfl, bel.frame _, fun h => by cases h⟩

theorem over : Rows.treeMaysUptoRow.holds Try.pinned (Rows.OpenSpec.upto Rows.treeMaysSpec) :=
  OpenClaim.holds_of_cond 3 Try.f3 rfl rfl rfl rfl rfl rfl rfl ⟨rfl, rfl, rfl, rfl, rfl⟩ rfl rfl rfl rfl rfl (by kernel_rfl) Try.func3 (by kernel_rfl)
    (of_decide_eq_true (by kernel_rfl)) (by unfold Func.isWrapper; first | (rw [if_pos (by decide +kernel)]; kernel_rfl) | (rw [if_neg (by decide +kernel)]; exact ⟨rfl, rfl⟩))
    (fun os started H enc _ F => lifted os started H enc F)
/-- For every input of bulk at most 1048576 the law returns true, and its arguments read as before. -/
theorem proved : Rows.TreeMaysUptoSaid := over
#print axioms proved

end Go.Proofs.Ytgimmfgibgahgaa.treeMays
