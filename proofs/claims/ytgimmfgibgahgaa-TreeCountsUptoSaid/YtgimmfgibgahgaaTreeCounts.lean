/- usufructlaw7.TreeCounts: how many statements there are, and which names, is what the document says; where what it reads is of bulk at most 1048576. -/
import Derived.Test.YtgimmfgibgahgaaRows
import Derived.Test.YtgimmfgibgahgaaTrF
import Derived.Test.YtgimmfgibgahgaaMix
import Derived.ProofKit
import Derived.OpenShut
import Derived.ShutString
import Derived.ChangeOld
import Derived.Below
import Derived.JoinedCond
import Derived.HandedShaped
import Derived.Shelf.Vars
namespace Go.Proofs.Ytgimmfgibgahgaa.treeCounts
open Go.ChangeShapes Go.WideShapes Go.ChangeAt Go.RowKit
open Go.ChangeMaps (open_string shut_string)

theorem own : ownKnob Try.prog.godebug = none := by kernel_rfl
theorem laidOut : laidOutB Try.prog = true := by kernel_rfl
/-- The bound and the world's shape, both handed to the walk. -/
theorem cond_shaped {H : Type} {enc : TypeId × Value → H} {a : Assume} {C : Checked} {os : Os} {f : FuncId} {fn : Func} {s : OpenSpec} {k : (H : Type) → List (DataW H) → Bool} (hk : s.cond = some k) {F : Stop.Interp} {conds : List PathCond} {apart fresh handsOn again : Bool}
    (own : ownKnob C.prog.godebug = none) (started : os.Started) (noInit : C.prog.inits.idxOf? f = none) (hfn : C.prog.funcs[f]? = some fn)
    (witness : ∃ (w : World) (tape : Tape) (i : Input), w.os = os ∧ (w.forCall tape i).Shaped C.prog ∧ i.vars = [] ∧ Input.okWide C.prog (w.forCall tape i) .any w.heap.size f i ∧
      s.pre6 enc C.prog fn conds apart (w.forCall tape i).memory i.args ∧ a.holds C.prog (lone (Frame.enter C.prog f i.args .normal) [] (w.forCall tape i)))
    (contract : ∀ (W : World) (base : Nat) (args : Array Value) (ds gs : List (DataW H)) (before : List MemPlace),
      (∀ (j : Nat) t v, fn.params[j]? = some t → args[j]? = some v → Value.okWide C.prog W .any base t v) →
      DataW.Whole enc C.prog fn.params.toList s.vars apart W args.toList ds gs before →
      k H (ds ++ gs) = true → W.ShapedOpen C.prog →
      Calls C.prog f args W fun e W' => ∃ v, e = .returned v ∧ (s.at F).post enc C.prog fn apart fresh handsOn again W args v W') :
    ReturnsInHanded a C os f .any (s.pre6 enc C.prog fn conds apart) ((s.at F).post enc C.prog fn apart fresh handsOn again) := by
  refine returnsInHanded_of_calls own started noInit witness ?_
  intro w tape i _ hsh _ hok hpre _
  obtain ⟨_, _, _, fn', hfn', _, _, _, _, hval⟩ := hok
  have e : fn' = fn := Option.some.inj (hfn'.symm.trans hfn)
  subst e
  obtain ⟨ds, gs, before, hw, _, hkk⟩ := (OpenSpec.pre_some hk conds apart _ _).1 hpre.1
  have hw' := DataW.Whole.of_heap (w' := w.forCall tape i) (by rfl) hw
  refine (contract (w.forCall tape i) w.heap.size i.args ds gs before hval hw' hkk hsh).mono fun e W' ⟨v, he, hp⟩ => ?_
  subst he
  exact ChangeSpec.post_blind hp

attribute [local go_sem ↓] exec_mid_ty exec_store_ty exec_mid_pl exec_store_pl exec_mid_opr exec_store_opr exec_mid_val exec_store_val exec_mid_st exec_store_st exec_mid_fld exec_store_fld exec_mid_str exec_store_str exec_mid_lif exec_store_lif exec_mid_fun exec_store_fun exec_mid_cr exec_store_cr
attribute [local go_sem] rowOk_new World.setRow_alloc_new

theorem max_of_shaped {w : World} (h : w.ShapedOpen Try.prog) : MaxV w :=
  cell_of_shapedOpen_int (zero := #[.int .i64 0]) h (of_decide_eq_true (by kernel_rfl)) (by kernel_rfl) rfl (by kernel_rfl) (by kernel_rfl) Try.underlying3

set_option maxRecDepth 100000 in
set_option linter.unusedSimpArgs false in
set_option maxHeartbeats 8000000 in
theorem walk (a : FunD) (w : World) (hM : MaxV w) (cs : List Value) (ha : FunIs (· < w.heap.size) w a cs) (hB : a.params.length + cntL a.body ≤ 1048576) : Calls Try.prog 4 #[.agg cs.toArray] w fun e w' => e = .returned (.bool true) ∧ Keeps Nothing w w' := by
  have HM := shut hM
  have HA := shut ha
  have HB := shut hB
  have HL := shut (show (nmD a).length ≤ 1048576 by unfold nmD; rw [List.length_append, List.length_map]; have := ltL_len a.body; omega)
  have HX := shut (nm_le ha)
  clear hM hB
  have ag1 := agg_ok ha.len ha.one
  obtain ⟨a_pub, a_name, a_lives, a_params, a_result, a_body, a_pos⟩ := a
  obtain ⟨p2, q2, p3, q3, s4, p8, q8, hcs, ah_name, ah_lives, ah_params, ah_result, ah_body⟩ := ha
  obtain ⟨CA, hCA⟩ : ∃ C, C = cs.toArray := ⟨_, rfl⟩
  have hsz : CA.size = 10 := by rw [hCA]; simpa using HA.out.len
  rw [← hCA] at ag1 ⊢
  have HCA := shut hCA
  rw [hcs] at hCA
  have GCA := shut hCA
  simp only at ah_body ah_result GCA
  have al_result := ah_result.len
  clear hCA ah_lives ah_params ah_name ah_result
  have KW : Keeps Nothing w (w.alloc (.cells CA 36)) := (Keeps.refl Nothing w).alloc _
  have BA := blk_new w CA 36
  go_enter Try.func4, Try.ntmps4
  go_upto_region 1 with fail
  clear ag1
  obtain ⟨ga, hga⟩ : ∃ g, w.heap.size = g := ⟨_, rfl⟩
  have HGA := shut hga
  rw [hga] at BA ⊢
  clear hga
  generalize w.alloc (.cells CA 36) = wb at *
  obtain ⟨x0, x1, x2, x3, x4, x5, x6, x7, x8, x9, hxs⟩ := list10 HA.out.len
  have hCX : CA = #[x0, x1, x2, x3, x4, x5, x6, x7, x8, x9] := by rw [HCA.out, hxs]
  obtain ⟨y1, y2⟩ := tblk_mid BA hsz
  rw [hCX] at y2
  have k2 : Keeps Nothing wb (wb.alloc (.cells #[x0, x1, x2, x3, x4, x5, x6, x7, x8, x9] 36)) := (Keeps.refl Nothing wb).alloc _
  have BX := blk_new wb #[x0, x1, x2, x3, x4, x5, x6, x7, x8, x9] 36
  have K2 := KW.trans k2 (fun _ h _ => h)
  have hF := HA.out.keeps (S' := fun _ => True) K2 (fun _ _ h => h) (fun _ _ => trivial)
  rw [hxs] at hF
  have hg := great_any (S := fun _ => True) ⟨[], [⟨a_pub, a_name, a_lives, a_params, a_result, a_body, a_pos⟩]⟩ (wb.alloc (.cells #[x0, x1, x2, x3, x4, x5, x6, x7, x8, x9] 36)) [.slice none 0 0, .slice (some ⟨wb.heap.size, 0, none⟩) 1 1] ⟨none, 0, some ⟨wb.heap.size, 0, none⟩, 1, rfl, slIs_nil _ _ _ _ _, one_row (cs := [x0, x1, x2, x3, x4, x5, x6, x7, x8, x9]) BX trivial rfl hF⟩
  have HCX := shut hCX
  clear hF hxs hCX BX
  go_wp2_with fail
  refine hg.mono ?_
  rintro e w1 ⟨⟨z, rfl⟩, k1⟩
  have kk := k2.trans k1 (fun _ h _ => h)
  have KW := KW.trans kk (fun _ h _ => h)
  have BA := kk.blk BA (fun h => h)
  clear hg k1 k2 K2 kk y1 y2
  try dsimp only
  have hct := fun V (hV : Keeps Nothing w1 V) => told_any V (HM.out.keeps (KW.trans hV (fun _ h _ => h)))
  cases z with
  | true =>
    have hc := hct w1 (Keeps.refl _ _)
    clear hct
    go_wp2_with fail
    refine hc.mono ?_
    rintro e w2 ⟨rfl, k2⟩
    have KW := KW.trans k2 (fun _ h _ => h)
    clear hc
    try dsimp only
    go_wp2_with fail
    go_ret
    exact ⟨rfl, KW⟩
  | false =>
    obtain ⟨-, -, -, -, -, ae8, -⟩ := FunB al_result GCA.out BA
    go_upto_region 3 with fail
    refine wp_region_mix (fun V => Keeps Nothing w1 V) [(false, 0), (true, 1), (true, 2), (true, 3), (true, 5), (true, 6), (false, 4), (false, 7), (true, 8), (true, 9), (true, 10), (true, 11), (true, 13), (false, 12), (false, 14), (false, 15), (true, 16), (true, 17)] (by kernel_rfl) (by kernel_rfl) (Keeps.refl _ _).drew ?_
    simp only [mixItems, List.map_cons, List.map_nil, List.getD_cons_zero, List.getD_cons_succ]
    have kk : Keeps Nothing w1 w1.drew := (Keeps.refl Nothing w1).drew
    have hc := hct w1.drew kk
    refine wpMix_one (fun K hK => ?_)
    go_wp2_with fail
    refine hc.mono ?_
    rintro e w2 ⟨rfl, k2⟩
    have kk := kk.trans k2 (fun _ h _ => h)
    clear k2 hct
    clear hc
    go_wp2_with fail
    refine hK _ _ kk ?_
    clear hK K
    repeat (refine wpMix_free (fun K hK => ?_); go_simp; refine hK _ ?_; clear hK K)
    refine wpMix_yield (v := .slice p8 a_body.length q8) (fun V hV => ?_) (fun K hK => ?_)
    · have y1 := hV.cell ae8 (fun h => h)
      go_simp
    go_simp
    refine hK _ ?_
    clear hK K
    repeat (refine wpMix_free (fun K hK => ?_); go_simp; refine hK _ ?_; clear hK K)
    refine wpMix_yield (v := .slice p8 a_body.length q8) (fun V hV => ?_) (fun K hK => ?_)
    · have y1 := hV.cell ae8 (fun h => h)
      go_simp
    go_simp
    refine hK _ ?_
    clear hK K
    repeat (refine wpMix_free (fun K hK => ?_); go_simp; refine hK _ ?_; clear hK K)
    have hb := fun V (hV : Keeps Nothing w1 V) => (ah_body.keeps (KW.trans hV (fun _ h _ => h)) (fun _ _ h => h) (fun _ h => h) (fun _ _ _ h => h.keeps (KW.trans hV (fun _ h _ => h)) (fun _ _ h => h) (fun _ h => h)))
    have hc := count_any (S := (· < w.heap.size)) a_body w2 p8 q8 (hb w2 kk)
    refine wpMix_one (fun K hK => ?_)
    go_wp2_with fail
    refine hc.mono ?_
    rintro e w3 ⟨⟨z1, rfl, hz1⟩, k3⟩
    have kk := kk.trans k3 (fun _ h _ => h)
    clear k3
    clear hc
    go_wp2_with fail
    refine hK _ _ kk ?_
    clear hK K
    have hc := rcount_any (S := (· < w.heap.size)) a_body w3 p8 q8 (hb w3 kk)
    refine wpMix_one (fun K hK => ?_)
    go_wp2_with fail
    refine hc.mono ?_
    rintro e w4 ⟨⟨z2, rfl, hz2⟩, k4⟩
    have kk := kk.trans k4 (fun _ h _ => h)
    obtain rfl : z1 = z2 := hz1.out.trans hz2.out.symm
    clear k4 hz1 hz2
    clear hc
    go_wp2_with fail
    refine hK _ _ kk ?_
    clear hK K
    repeat (refine wpMix_free (fun K hK => ?_); go_simp; refine hK _ ?_; clear hK K)
    refine wpMix_yield (v := .agg CA) (fun V hV => ?_) (fun K hK => ?_)
    · obtain ⟨y1, y2⟩ := tblk_mid (hV.blk BA (fun h => h)) hsz
      go_simp
    go_simp
    refine hK _ ?_
    clear hK K
    repeat (refine wpMix_free (fun K hK => ?_); go_simp; refine hK _ ?_; clear hK K)
    refine wpMix_yield (v := .agg CA) (fun V hV => ?_) (fun K hK => ?_)
    · obtain ⟨y1, y2⟩ := tblk_mid (hV.blk BA (fun h => h)) hsz
      go_simp
    go_simp
    refine hK _ ?_
    clear hK K
    repeat (refine wpMix_free (fun K hK => ?_); go_simp; refine hK _ ?_; clear hK K)
    have hFN := HA.out.keeps (S' := (· < w4.heap.size)) (KW.trans kk (fun _ h _ => h)) (fun _ _ h => h) (fun b hb => Nat.lt_of_lt_of_le hb (KW.trans kk (fun _ h _ => h)).size)
    have hcn := names_any _ w4 cs hFN (by have := HB.out; simp only at this ⊢; omega)
    rw [← HCA.out] at hcn
    clear hFN
    have hc := hcn
    refine wpMix_one (fun K hK => ?_)
    go_wp2_with fail
    refine hc.mono ?_
    rintro e w5 ⟨a5, c5, rfl, R5, k5, -⟩
    have kk := kk.trans k5 (fun _ h _ => h)
    clear k5 hcn
    clear hc
    go_wp2_with fail
    refine hK _ _ kk ?_
    clear hK K
    have hFN := HA.out.keeps (S' := fun _ => True) (KW.trans kk (fun _ h _ => h)) (fun _ _ h => h) (fun _ _ => trivial)
    have hcn := rnames_any _ w5 cs hFN (by have := HB.out; simp only at this ⊢; omega)
    rw [← HCA.out] at hcn
    clear hFN
    have hc := hcn
    refine wpMix_one (fun K hK => ?_)
    go_wp2_with fail
    refine hc.mono ?_
    rintro e w6 ⟨a6, c6, rfl, R6, k6, -⟩
    have kk := kk.trans k6 (fun _ h _ => h)
    have R5 := R5.keepsN k6
    clear k6 hcn
    clear hc
    go_wp2_with fail
    refine hK _ _ kk ?_
    clear hK K
    have hbN : bigN = 100000000 := rfl
    have hct := rtexts_any w6 c5 c6 (rowR_sl R5 (by have := HL.out; omega) HX.out) (rowR_sl R6 (by have := HL.out; omega) HX.out)
    clear R5 R6 hbN
    have hc := hct
    refine wpMix_one (fun K hK => ?_)
    go_wp2_with fail
    refine hc.mono ?_
    rintro e w7 ⟨⟨z, rfl, hz⟩, k7⟩
    have kk := kk.trans k7 (fun _ h _ => h)
    obtain rfl : z = true := hz.2 (by first | rfl | trivial)
    clear k7 hz hct
    clear hc
    go_wp2_with fail
    refine hK _ _ kk ?_
    clear hK K
    repeat (refine wpMix_free (fun K hK => ?_); go_simp; refine hK _ ?_; clear hK K)
    refine wpMix_nil ?_
    have K := KW.trans kk (fun _ h _ => h)
    go_wp2_with fail
    go_ret
    exact ⟨rfl, K⟩

set_option maxRecDepth 100000 in
theorem lifted (os : Os) (started : os.Started) (H : Type) (enc : TypeId × Value → H) (F : Stop.Interp) :
    ReturnsInHanded {} Try.checked os 4 .any ((Rows.OpenSpec.upto Rows.treeCountsSpec).pre6 enc Try.prog Try.f4 Rows.treeCountsUptoRow.domain false) (((Rows.OpenSpec.upto Rows.treeCountsSpec).at F).post enc Try.prog Try.f4 false true false false) := by
  refine cond_shaped (C := Try.checked) (s := Rows.OpenSpec.upto Rows.treeCountsSpec) (k := Rows.uptoSmall) rfl own started (by kernel_rfl) Try.func4
    (OpenSpec.witness (enc := enc) (C := Try.checked) (s := Rows.OpenSpec.upto Rows.treeCountsSpec) (k := Rows.uptoSmall) rfl false ⟨#[], #[.agg #[.bool false, .string ⟨#[]⟩, .slice none 0 0, .slice none 0 0, .int .i64 0, .string ⟨#[]⟩, .slice none 0 0, .slice none 0 0, .slice none 0 0, .int .i64 0]], []⟩ 8 (by kernel_rfl) (by kernel_rfl) (by kernel_rfl)
      (x := ([.agg [.lit (.bool false), .lit (.string []), .nil, .nil, .agg [.lit (.int .i64 0), .lit (.string []), .nil, .nil], .nil, .lit (.int .i64 0)]], [], [])) (by kernel_rfl) rfl (by kernel_rfl)) ?_
  intro W base args ds gs before hval0 hW hkk hsh
  have hmax := max_of_shaped hsh
  have hval : ∀ (j : Nat) t v, Try.f4.params[j]? = some t → args[j]? = some v → Value.okWide Try.prog W .any base t v := hval0
  have hW' := hW
  obtain ⟨p, q, hA0, hV, rfl, hfz, hnd⟩ := hW
  have hA : DataW.TrodAll enc Try.prog W 0 (fun _ => true) true Try.f4.params.toList args.toList ds p := hA0
  rw [Try.params4] at hA hval
  obtain ⟨v0, vs0, d0, ds0, p0, q0, hargs, rfl, rfl, h0, r0⟩ := trodAll_cons hA
  obtain ⟨rfl, rfl, rfl⟩ := trodAll_nil r0
  obtain rfl : args = #[v0] := by cases args; simp_all
  obtain ⟨rfl, rfl⟩ := trodVars_none hV
  have hbulk : Rows.uptoBulkAll ([d0] ++ []) ≤ 1048576 := of_decide_eq_true hkk
  simp only [List.append_nil, Rows.uptoBulkAll] at hbulk
  have k0 := h0
  have lt0 : ∀ x ∈ p0, x.block < W.heap.size := by obtain ⟨m, hm⟩ := k0; exact DataW.trod_lt m _ _ _ hm
  obtain ⟨cs0, rfl, hsz0⟩ := okWide_struct Try.underlying36 (hval 0 36 v0 rfl rfl)
  obtain ⟨fuel0, hf0⟩ := h0
  obtain ⟨x0, hx0, hm0⟩ := trod_Fun fuel0 _ _ hf0 (by unfold bigN; simp only; omega)
  simp only at hm0
  clear hA0 hval0
  have hcall := walk x0 W hmax _ hx0 (by omega)
  have e0 : (Value.agg cs0).cells.toList.toArray = cs0 := rfl
  rw [e0] at hcall
  refine hcall.mono fun e W' ⟨he, hk⟩ => ?_
  subst he
  have bel : Below W.heap.size W W' := hk.below (Nat.le_refl _) (fun _ h => h.elim)
  exact ⟨_, rfl, _, _, _, [], _, [], hW', trodAll_mk1 (shut_bool Try.underlying4 _), (trodAll_cons_mk (Below.trod laidOut (by kernel_rfl) (of_decide_eq_true (by kernel_rfl)) k0 bel lt0) trodAll_mk0), rfl, bel.frame _, fun h => by cases h⟩

theorem over : Rows.treeCountsUptoRow.holds Try.pinned (Rows.OpenSpec.upto Rows.treeCountsSpec) :=
  OpenClaim.holds_of_cond 4 Try.f4 rfl rfl rfl rfl rfl rfl rfl ⟨rfl, rfl, rfl, rfl, rfl⟩ rfl rfl rfl rfl rfl (by kernel_rfl) Try.func4 (by kernel_rfl)
    (of_decide_eq_true (by kernel_rfl)) (by unfold Func.isWrapper; first | (rw [if_pos (by decide +kernel)]; kernel_rfl) | (rw [if_neg (by decide +kernel)]; exact ⟨rfl, rfl⟩))
    (fun os started H enc _ F => lifted os started H enc F)
/-- For every input of bulk at most 1048576 the law returns true, and its arguments read as before. -/
theorem proved : Rows.TreeCountsUptoSaid := over
#print axioms proved

end Go.Proofs.Ytgimmfgibgahgaa.treeCounts
