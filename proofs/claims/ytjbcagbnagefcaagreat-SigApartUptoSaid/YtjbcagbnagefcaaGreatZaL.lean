/- SigApart -/
import Derived.Test.YtjbcagbnagefcaaGreatRows
import Derived.Test.YtjbcagbnagefcaaGreatZa10
import Derived.ProofKit
import Derived.OpenShut
import Derived.ShutString
import Derived.ChangeOld
import Derived.Below
import Derived.JoinedCond
import Derived.HandedShaped
import Derived.Shelf.Vars
namespace Go.Proofs.YtjbcagbnagefcaaGreat.sigApart
open Go.ChangeShapes Go.WideShapes Go.ChangeAt Go.RowKit
open Go.ChangeMaps (open_string shut_string)

theorem own : ownKnob Tryz.prog.godebug = none := by kernel_rfl
theorem laidOut : laidOutB Tryz.prog = true := by kernel_rfl
/-- The bound and the world's shape, both handed to the walk. -/
theorem cond_shaped {H : Type} {enc : TypeId × Value → H} {a : Assume} {C : Checked} {os : Os} {f : FuncId} {fn : Func} {s : OpenSpec} {k : (H : Type) → List (DataW H) → Bool} (hk : s.cond = some k) {F : Stop.Interp} {conds : List PathCond} {apart fresh handsOn again : Bool}
    (own : ownKnob C.prog.godebug = none) (started : os.Started) (noInit : C.prog.inits.idxOf? f = none) (hfn : C.prog.funcs[f]? = some fn)
    (witness : ∃ (w : World) (tape : Tape) (i : Input), w.os = os ∧ (w.forCall tape i).Shaped C.prog ∧ i.vars = [] ∧ Input.okWide C.prog (w.forCall tape i) .any w.heap.size f i ∧
      s.pre6 enc C.prog fn conds apart (w.forCall tape i).memory i.args ∧ a.holds C.prog (lone (Frame.enter C.prog f i.args .normal) [] (w.forCall tape i)))
    (contract : ∀ (W : World) (base : Nat) (args : Array Value) (ds gs : List (DataW H)) (before : List MemPlace),
      (∀ (j : Nat) t v, fn.params[j]? = some t → args[j]? = some v → Value.okWide C.prog W .any base t v) →
      DataW.Whole enc C.prog fn.params.toList s.vars apart W args.toList ds gs before →
      k H (ds ++ gs) = true → W.ShapedOpen C.prog →
      Calls C.prog f args W fun e W' => ∃ v, e = .returned v ∧ (s.at F).post enc C.prog fn apart fresh handsOn again W args v W') :
    ReturnsInHanded a C os f .any (s.pre6 enc C.prog fn conds apart) ((s.at F).post enc C.prog fn apart fresh handsOn again) := by
  refine returnsInHanded_of_calls own started noInit witness ?_
  intro w tape i _ hsh _ hok hpre _
  obtain ⟨_, _, _, fn', hfn', _, _, _, _, hval⟩ := hok
  have e : fn' = fn := Option.some.inj (hfn'.symm.trans hfn)
  subst e
  obtain ⟨ds, gs, before, hw, _, hkk⟩ := (OpenSpec.pre_some hk conds apart _ _).1 hpre.1
  have hw' := DataW.Whole.of_heap (w' := w.forCall tape i) (by rfl) hw
  refine (contract (w.forCall tape i) w.heap.size i.args ds gs before hval hw' hkk hsh).mono fun e W' ⟨v, he, hp⟩ => ?_
  subst he
  exact ChangeSpec.post_blind hp

attribute [local irreducible] wpMix wpMixB wpMixG wpList
attribute [local go_sem ↓] exec_mid_ty exec_store_ty exec_mid_pl exec_store_pl exec_mid_opr exec_store_opr exec_mid_val exec_store_val exec_mid_st exec_store_st exec_mid_fld exec_store_fld exec_mid_str exec_store_str exec_mid_lif exec_store_lif exec_mid_fun exec_store_fun exec_mid_cr exec_store_cr exec_mid_sig exec_store_sig
attribute [local go_sem] rowOk_new World.setRow_alloc_new

theorem max_of_shaped {w : World} (h : w.ShapedOpen Tryz.prog) : MaxV w :=
  cell_of_shapedOpen_int (zero := #[.int .i64 0]) h (of_decide_eq_true (by kernel_rfl)) (by kernel_rfl) rfl (by kernel_rfl) (by kernel_rfl) Tryz.underlying3

set_option maxRecDepth 100000 in
set_option linter.unusedSimpArgs false in
set_option maxHeartbeats 8000000 in
theorem walk {S : Nat → Prop} (da db : CrD) (w : World) (hM : MaxV w) (cs1 cs2 : List Value) (hS : ∀ b, S b → b < w.heap.size) (ha : CrIs S w da cs1) (hb : CrIs S w db cs2) : Calls Tryz.prog 6 #[.agg cs1.toArray, .agg cs2.toArray] w fun e w' => e = .returned (.bool true) ∧ Keeps Nothing w w' := by
  have HM := shut hM
  have HA := shut ha
  have HB := shut hb
  have HS := shut hS
  have ag1 := agg_ok ha.len ha.one
  obtain ⟨CA, hCA⟩ : ∃ C, C = cs1.toArray := ⟨_, rfl⟩
  have hsA : CA.size = 2 := by rw [hCA]; simpa using ha.len
  rw [← hCA] at ag1 ⊢
  have GA := shut hCA
  clear hCA
  have ag2 := agg_ok hb.len hb.one
  obtain ⟨CB, hCB⟩ : ∃ C, C = cs2.toArray := ⟨_, rfl⟩
  have hsB : CB.size = 2 := by rw [hCB]; simpa using hb.len
  rw [← hCB] at ag2 ⊢
  have GB := shut hCB
  clear hCB
  have BA := blk_alloc (blk_new w CA 26) (.cells CB 26)
  have BB := blk_new (w.alloc (.cells CA 26)) CB 26
  have KW : Keeps Nothing w ((w.alloc (.cells CA 26)).alloc (.cells CB 26)) := ((Keeps.refl Nothing w).alloc _).alloc _
  rw [World.size_alloc] at BB
  clear hM ha hb hS
  go_enter Tryz.func6, Tryz.ntmps6
  go_upto_region 1 with fail
  clear ag1 ag2
  generalize ((w.alloc (.cells CA 26)).alloc (.cells CB 26)) = w0 at *
  generalize w.heap.size + 1 = gb at *
  obtain ⟨ga, hga⟩ : ∃ ga, w.heap.size = ga := ⟨_, rfl⟩
  rw [hga] at BA ⊢
  clear hga
  obtain ⟨y1, y2⟩ := tblk_mid BA hsA
  have hg1 := great_any da w0 cs1 (HA.out.keeps (KW) (fun _ _ h => h) (fun _ h => h))
  rw [← GA.out] at hg1
  go_wp2_with fail
  refine hg1.mono ?_
  rintro e w1 ⟨⟨z, rfl⟩, k1⟩
  clear hg1 y1 y2
  have KW1 := KW.trans k1 (fun _ h _ => h)
  have BA1 := k1.blk BA (fun h => h)
  have BB1 := k1.blk BB (fun h => h)
  clear BA BB KW k1
  cases z with
  | true =>
    have hct := told12_any w1 (HM.out.keeps KW1)
    have KT := KW1
    try dsimp only
    repeat (first | rw [if_neg Bool.false_ne_true] | go_values | go_skip | go_guarded | go_step | go_upon | go_back)
    refine hct.mono ?_
    rintro e wt ⟨rfl, kt⟩
    have KF := KT.trans kt (fun _ h _ => h)
    clear hct
    try dsimp only
    repeat (first | rw [if_neg Bool.false_ne_true] | go_values | go_skip | go_guarded | go_step | go_upon | go_back)
    go_ret
    exact ⟨rfl, KF⟩

  | false =>
    obtain ⟨y1, y2⟩ := tblk_mid BB1 hsB
    have hg2 := great_any db w1 cs2 (HB.out.keeps (KW1) (fun _ _ h => h) (fun _ h => h))
    rw [← GB.out] at hg2
    go_wp2_with fail
    refine hg2.mono ?_
    rintro e w2 ⟨⟨z, rfl⟩, k2⟩
    clear hg2 y1 y2
    have KW2 := KW1.trans k2 (fun _ h _ => h)
    have BA2 := k2.blk BA1 (fun h => h)
    have BB2 := k2.blk BB1 (fun h => h)
    clear BA1 BB1 KW1 k2
    cases z with
    | true =>
      have hct := told12_any w2 (HM.out.keeps KW2)
      have KT := KW2
      try dsimp only
      repeat (first | rw [if_neg Bool.false_ne_true] | go_values | go_skip | go_guarded | go_step | go_upon | go_back)
      refine hct.mono ?_
      rintro e wt ⟨rfl, kt⟩
      have KF := KT.trans kt (fun _ h _ => h)
      clear hct
      try dsimp only
      repeat (first | rw [if_neg Bool.false_ne_true] | go_values | go_skip | go_guarded | go_step | go_upon | go_back)
      go_ret
      exact ⟨rfl, KF⟩

    | false =>
      obtain ⟨N, hN⟩ : ∃ N, w2.heap.size = N := ⟨_, rfl⟩
      have HNW : Shut (w.heap.size ≤ N) := shut (by have := KW2.size; omega)
      have HN := shut hN
      clear hN
      try dsimp only
      go_upto_region 3 with (rw [if_neg Bool.false_ne_true])
      refine wp_region_mixG (fun V => Keeps Nothing w2 V) 8 (.take 0 (.take 2 (.grp [1, 3, 4, 5, 6, 7] [[(0, 0), (0, 2), (0, 3)], [(1, 1), (1, 2), (1, 3), (4, 0), (4, 3), (8, 0), (8, 2)], [(3, 2), (3, 3), (5, 1), (5, 3), (9, 1), (9, 2), (12, 0)], [(7, 3), (11, 2), (13, 1)], [(15, 4)], [(31, 5)]] .done))) (by kernel_rfl) (by kernel_rfl) (Keeps.refl _ _).drew ?_
      simp only [itemsG, PlanG.map, List.map_cons, List.map_nil, List.getD_cons_zero, List.getD_cons_succ, Nat.reduceBEq]
      refine wpMixG_yield (v := .agg CA) (fun V hV => ?_) (fun K hK => ?_)
      · obtain ⟨y1, y2⟩ := tblk_mid (hV.blk BA2 (fun h => h)) hsA
        go_simp
      go_simp
      refine hK _ ?_
      clear hK K
      refine wpMixG_yield (v := .agg CB) (fun V hV => ?_) (fun K hK => ?_)
      · obtain ⟨y1, y2⟩ := tblk_mid (hV.blk BB2 (fun h => h)) hsB
        go_simp
      go_simp
      refine hK _ ?_
      clear hK K
      refine wpMixG_grp (fun a0 m a V => match m with | 0 => a = a0 | 1 => ∃ (c1 : List Value) (T1 : Nat → Prop), a = (a0.put (some 19) (.agg c1.toArray)) ∧ (SigIs T1 V (ofD [97] da) c1) ∧ (∀ b, T1 b → b < V.heap.size) | 3 => ∃ (c1 : List Value) (T1 : Nat → Prop) (c3 : List Value) (T3 : Nat → Prop), a = ((a0.put (some 19) (.agg c1.toArray)).put (some 21) (.agg c3.toArray)) ∧ (SigIs T1 V (ofD [97] da) c1) ∧ (∀ b, T1 b → b < V.heap.size) ∧ (SigIs T3 V (ofD [97] db) c3) ∧ (∀ b, T3 b → b < V.heap.size) | 4 => ∃ (g5 : Nat), a = (a0.put (some 5) (.pointer (some ⟨g5, 0, none⟩))) ∧ (Blk V g5 #[.string ⟨#[]⟩, .slice none 0 0, .slice none 0 0] 32) ∧ (N ≤ g5) | 5 => ∃ (c1 : List Value) (T1 : Nat → Prop) (g5 : Nat), a = ((a0.put (some 19) (.agg c1.toArray)).put (some 5) (.pointer (some ⟨g5, 0, none⟩))) ∧ (SigIs T1 V (ofD [97] da) c1) ∧ (∀ b, T1 b → b < V.heap.size) ∧ (Blk V g5 #[.string ⟨#[]⟩, .slice none 0 0, .slice none 0 0] 32) ∧ (N ≤ g5) ∧ (∀ b, T1 b → b ≠ g5) | 7 => ∃ (c1 : List Value) (T1 : Nat → Prop) (c3 : List Value) (T3 : Nat → Prop) (g5 : Nat), a = (((a0.put (some 19) (.agg c1.toArray)).put (some 21) (.agg c3.toArray)).put (some 5) (.pointer (some ⟨g5, 0, none⟩))) ∧ (SigIs T1 V (ofD [97] da) c1) ∧ (∀ b, T1 b → b < V.heap.size) ∧ (SigIs T3 V (ofD [97] db) c3) ∧ (∀ b, T3 b → b < V.heap.size) ∧ (Blk V g5 #[.string ⟨#[]⟩, .slice none 0 0, .slice none 0 0] 32) ∧ (N ≤ g5) ∧ (∀ b, T1 b → b ≠ g5) ∧ (∀ b, T3 b → b ≠ g5) | 8 => ∃ (g6 : Nat), a = (a0.put (some 6) (.pointer (some ⟨g6, 0, none⟩))) ∧ (Blk V g6 #[.string ⟨#[]⟩, .slice none 0 0, .slice none 0 0] 32) ∧ (N ≤ g6) | 9 => ∃ (c1 : List Value) (T1 : Nat → Prop) (g6 : Nat), a = ((a0.put (some 19) (.agg c1.toArray)).put (some 6) (.pointer (some ⟨g6, 0, none⟩))) ∧ (SigIs T1 V (ofD [97] da) c1) ∧ (∀ b, T1 b → b < V.heap.size) ∧ (Blk V g6 #[.string ⟨#[]⟩, .slice none 0 0, .slice none 0 0] 32) ∧ (N ≤ g6) ∧ (∀ b, T1 b → b ≠ g6) | 11 => ∃ (c1 : List Value) (T1 : Nat → Prop) (c3 : List Value) (T3 : Nat → Prop) (g6 : Nat), a = (((a0.put (some 19) (.agg c1.toArray)).put (some 21) (.agg c3.toArray)).put (some 6) (.pointer (some ⟨g6, 0, none⟩))) ∧ (SigIs T1 V (ofD [97] da) c1) ∧ (∀ b, T1 b → b < V.heap.size) ∧ (SigIs T3 V (ofD [97] db) c3) ∧ (∀ b, T3 b → b < V.heap.size) ∧ (Blk V g6 #[.string ⟨#[]⟩, .slice none 0 0, .slice none 0 0] 32) ∧ (N ≤ g6) ∧ (∀ b, T1 b → b ≠ g6) ∧ (∀ b, T3 b → b ≠ g6) | 12 => ∃ (g5 : Nat) (g6 : Nat), a = ((a0.put (some 5) (.pointer (some ⟨g5, 0, none⟩))).put (some 6) (.pointer (some ⟨g6, 0, none⟩))) ∧ (Blk V g5 #[.string ⟨#[]⟩, .slice none 0 0, .slice none 0 0] 32) ∧ (N ≤ g5) ∧ (Blk V g6 #[.string ⟨#[]⟩, .slice none 0 0, .slice none 0 0] 32) ∧ (N ≤ g6) ∧ (g5 ≠ g6) | 13 => ∃ (c1 : List Value) (T1 : Nat → Prop) (g5 : Nat) (g6 : Nat), a = (((a0.put (some 19) (.agg c1.toArray)).put (some 5) (.pointer (some ⟨g5, 0, none⟩))).put (some 6) (.pointer (some ⟨g6, 0, none⟩))) ∧ (SigIs T1 V (ofD [97] da) c1) ∧ (∀ b, T1 b → b < V.heap.size) ∧ (Blk V g5 #[.string ⟨#[]⟩, .slice none 0 0, .slice none 0 0] 32) ∧ (N ≤ g5) ∧ (Blk V g6 #[.string ⟨#[]⟩, .slice none 0 0, .slice none 0 0] 32) ∧ (N ≤ g6) ∧ (∀ b, T1 b → b ≠ g5) ∧ (∀ b, T1 b → b ≠ g6) ∧ (g5 ≠ g6) | 15 => ∃ (c1 : List Value) (T1 : Nat → Prop) (c3 : List Value) (T3 : Nat → Prop) (g5 : Nat) (g6 : Nat), a = ((((a0.put (some 19) (.agg c1.toArray)).put (some 21) (.agg c3.toArray)).put (some 5) (.pointer (some ⟨g5, 0, none⟩))).put (some 6) (.pointer (some ⟨g6, 0, none⟩))) ∧ (SigIs T1 V (ofD [97] da) c1) ∧ (∀ b, T1 b → b < V.heap.size) ∧ (SigIs T3 V (ofD [97] db) c3) ∧ (∀ b, T3 b → b < V.heap.size) ∧ (Blk V g5 #[.string ⟨#[]⟩, .slice none 0 0, .slice none 0 0] 32) ∧ (N ≤ g5) ∧ (Blk V g6 #[.string ⟨#[]⟩, .slice none 0 0, .slice none 0 0] 32) ∧ (N ≤ g6) ∧ (∀ b, T1 b → b ≠ g5) ∧ (∀ b, T1 b → b ≠ g6) ∧ (∀ b, T3 b → b ≠ g5) ∧ (∀ b, T3 b → b ≠ g6) ∧ (g5 ≠ g6) | 31 => ∃ (c1 : List Value) (T1 : Nat → Prop) (c3 : List Value) (T3 : Nat → Prop) (g5 : Nat) (g6 : Nat), a = ((((a0.put (some 19) (.agg c1.toArray)).put (some 21) (.agg c3.toArray)).put (some 5) (.pointer (some ⟨g5, 0, none⟩))).put (some 6) (.pointer (some ⟨g6, 0, none⟩))) ∧ (SigIs T1 V (ofD [97] da) c1) ∧ (∀ b, T1 b → b < V.heap.size) ∧ (SigIs T3 V (ofD [97] db) c3) ∧ (∀ b, T3 b → b < V.heap.size) ∧ (N ≤ g5) ∧ (Blk V g6 #[.string ⟨#[]⟩, .slice none 0 0, .slice none 0 0] 32) ∧ (N ≤ g6) ∧ (∀ b, T1 b → b ≠ g5) ∧ (∀ b, T1 b → b ≠ g6) ∧ (∀ b, T3 b → b ≠ g5) ∧ (∀ b, T3 b → b ≠ g6) ∧ (g5 ≠ g6) ∧ (Blk V g5 c1.toArray 32) | _ => ∃ (c1 : List Value) (T1 : Nat → Prop) (c3 : List Value) (T3 : Nat → Prop) (g5 : Nat) (g6 : Nat), a = ((((a0.put (some 19) (.agg c1.toArray)).put (some 21) (.agg c3.toArray)).put (some 5) (.pointer (some ⟨g5, 0, none⟩))).put (some 6) (.pointer (some ⟨g6, 0, none⟩))) ∧ (SigIs T1 V (ofD [97] da) c1) ∧ (∀ b, T1 b → b < V.heap.size) ∧ (SigIs T3 V (ofD [97] db) c3) ∧ (∀ b, T3 b → b < V.heap.size) ∧ (N ≤ g5) ∧ (N ≤ g6) ∧ (∀ b, T1 b → b ≠ g5) ∧ (∀ b, T1 b → b ≠ g6) ∧ (∀ b, T3 b → b ≠ g5) ∧ (∀ b, T3 b → b ≠ g6) ∧ (g5 ≠ g6) ∧ (Blk V g5 c1.toArray 32) ∧ (Blk V g6 c3.toArray 32)) rfl (fun K hK => ⟨?_, ?_, ?_, ?_, ?_, ?_, ?_, ?_, ?_, ?_, ?_, ?_, ?_, ?_, ?_, ?_, ?_, ?_, ?_, ?_, ?_, ?_, trivial⟩) ?_
      · intro a' V hS hI
        obtain rfl := hI
        have hsz := hS.size
        have KV := (KW2.trans hS (fun _ h _ => h))
        have hc := of_any [97] (by decide) da V (fun b hb => Nat.lt_of_lt_of_le (HS.out b hb) KV.size) cs1 (HA.out.keeps (KV) (fun _ _ h => h) (fun _ h => h))
        rw [← GA.out] at hc
        refine one_call2 rfl 17 (.const (.string ⟨#[97]⟩)) (.tmp 18) rfl rfl (by (repeat (first | with_reducible exact ev_eq (by (repeat (with_reducible refine sz_put ?_)); exact of_decide_eq_true rfl) | with_reducible refine ev_ne (by decide) ?_)); all_goals rfl) (by kernel_rfl) ?_
        refine hc.mono ?_
        rintro e V2 ⟨c1, rfl, k2, i1⟩
        refine ⟨_, rfl, ?_⟩
        refine hK 1 _ _ (hS.trans k2 (fun _ h _ => h)) ?_
        exact ⟨c1, (fun b => S b ∨ (V.heap.size ≤ b ∧ b < V2.heap.size)), rfl, i1, (fun b hb => hb.elim (fun h => Nat.lt_of_lt_of_le (HS.out b h) (KV.trans k2 (fun _ h _ => h)).size) (fun h => h.2))⟩
      · intro a' V hS hI
        obtain rfl := hI
        have ka : ∀ o, Keeps Nothing V (V.alloc o) := fun o => (Keeps.refl Nothing V).alloc o
        have hsz := hS.size
        refine one_alG ?_
        refine hK 4 _ _ (hS.alloc _) ?_
        exact ⟨V.heap.size, rfl, blk_new V _ _, (by have := HN.out; omega)⟩
      · intro a' V hS hI
        obtain rfl := hI
        have ka : ∀ o, Keeps Nothing V (V.alloc o) := fun o => (Keeps.refl Nothing V).alloc o
        have hsz := hS.size
        refine one_alG ?_
        refine hK 8 _ _ (hS.alloc _) ?_
        exact ⟨V.heap.size, rfl, blk_new V _ _, (by have := HN.out; omega)⟩
      · intro a' V hS hI
        obtain ⟨c1, T1, rfl, hA1, hT1⟩ := hI
        have hsz := hS.size
        have KV := (KW2.trans hS (fun _ h _ => h))
        have hc := of_any [97] (by decide) db V (fun b hb => Nat.lt_of_lt_of_le (HS.out b hb) KV.size) cs2 (HB.out.keeps (KV) (fun _ _ h => h) (fun _ h => h))
        rw [← GB.out] at hc
        refine one_call2 rfl 17 (.const (.string ⟨#[97]⟩)) (.tmp 20) rfl rfl (by (repeat (first | with_reducible exact ev_eq (by (repeat (with_reducible refine sz_put ?_)); exact of_decide_eq_true rfl) | with_reducible refine ev_ne (by decide) ?_)); all_goals rfl) (by kernel_rfl) ?_
        refine hc.mono ?_
        rintro e V2 ⟨c3, rfl, k2, i3⟩
        refine ⟨_, rfl, ?_⟩
        refine hK 3 _ _ (hS.trans k2 (fun _ h _ => h)) ?_
        exact ⟨c1, T1, c3, (fun b => S b ∨ (V.heap.size ≤ b ∧ b < V2.heap.size)), rfl, hA1.keeps k2 (fun _ _ h => h) (fun _ h => h), (fun b hb => Nat.lt_of_lt_of_le (hT1 b hb) k2.size), i3, (fun b hb => hb.elim (fun h => Nat.lt_of_lt_of_le (HS.out b h) (KV.trans k2 (fun _ h _ => h)).size) (fun h => h.2))⟩
      · intro a' V hS hI
        obtain ⟨c1, T1, rfl, hA1, hT1⟩ := hI
        have ka : ∀ o, Keeps Nothing V (V.alloc o) := fun o => (Keeps.refl Nothing V).alloc o
        have hsz := hS.size
        refine one_alG ?_
        refine hK 5 _ _ (hS.alloc _) ?_
        exact ⟨c1, T1, V.heap.size, rfl, hA1.keeps (ka _) (fun _ _ h => h) (fun _ h => h), (fun b hb => Nat.lt_of_lt_of_le (hT1 b hb) (ka _).size), blk_new V _ _, (by have := HN.out; omega), (fun b hb q => by have := hT1 b hb; omega)⟩
      · intro a' V hS hI
        obtain ⟨c1, T1, rfl, hA1, hT1⟩ := hI
        have ka : ∀ o, Keeps Nothing V (V.alloc o) := fun o => (Keeps.refl Nothing V).alloc o
        have hsz := hS.size
        refine one_alG ?_
        refine hK 9 _ _ (hS.alloc _) ?_
        exact ⟨c1, T1, V.heap.size, rfl, hA1.keeps (ka _) (fun _ _ h => h) (fun _ h => h), (fun b hb => Nat.lt_of_lt_of_le (hT1 b hb) (ka _).size), blk_new V _ _, (by have := HN.out; omega), (fun b hb q => by have := hT1 b hb; omega)⟩
      · intro a' V hS hI
        obtain ⟨g5, rfl, hB5, hN5⟩ := hI
        have hsz := hS.size
        have KV := (KW2.trans hS (fun _ h _ => h))
        have hc := of_any [97] (by decide) da V (fun b hb => Nat.lt_of_lt_of_le (HS.out b hb) KV.size) cs1 (HA.out.keeps (KV) (fun _ _ h => h) (fun _ h => h))
        rw [← GA.out] at hc
        refine one_call2 rfl 17 (.const (.string ⟨#[97]⟩)) (.tmp 18) rfl rfl (by (repeat (first | with_reducible exact ev_eq (by (repeat (with_reducible refine sz_put ?_)); exact of_decide_eq_true rfl) | with_reducible refine ev_ne (by decide) ?_)); all_goals rfl) (by kernel_rfl) ?_
        refine hc.mono ?_
        rintro e V2 ⟨c1, rfl, k2, i1⟩
        refine ⟨_, rfl, ?_⟩
        refine hK 5 _ _ (hS.trans k2 (fun _ h _ => h)) ?_
        exact ⟨c1, (fun b => S b ∨ (V.heap.size ≤ b ∧ b < V2.heap.size)), g5, put_swap (by decide) rfl, i1, (fun b hb => hb.elim (fun h => Nat.lt_of_lt_of_le (HS.out b h) (KV.trans k2 (fun _ h _ => h)).size) (fun h => h.2)), k2.blk hB5 (fun h => h), hN5, (fun b hb q => by have h1 := lt_of_block hB5; have h3 := HNW.out; rcases hb with hb | hb; (have h4 := HS.out b hb; have h5 := hN5; omega); omega)⟩
      · intro a' V hS hI
        obtain ⟨g5, rfl, hB5, hN5⟩ := hI
        have ka : ∀ o, Keeps Nothing V (V.alloc o) := fun o => (Keeps.refl Nothing V).alloc o
        have hsz := hS.size
        refine one_alG ?_
        refine hK 12 _ _ (hS.alloc _) ?_
        exact ⟨g5, V.heap.size, rfl, (ka _).blk hB5 (fun h => h), hN5, blk_new V _ _, (by have := HN.out; omega), (fun q => by have := lt_of_block hB5; omega)⟩
      · intro a' V hS hI
        obtain ⟨g6, rfl, hB6, hN6⟩ := hI
        have hsz := hS.size
        have KV := (KW2.trans hS (fun _ h _ => h))
        have hc := of_any [97] (by decide) da V (fun b hb => Nat.lt_of_lt_of_le (HS.out b hb) KV.size) cs1 (HA.out.keeps (KV) (fun _ _ h => h) (fun _ h => h))
        rw [← GA.out] at hc
        refine one_call2 rfl 17 (.const (.string ⟨#[97]⟩)) (.tmp 18) rfl rfl (by (repeat (first | with_reducible exact ev_eq (by (repeat (with_reducible refine sz_put ?_)); exact of_decide_eq_true rfl) | with_reducible refine ev_ne (by decide) ?_)); all_goals rfl) (by kernel_rfl) ?_
        refine hc.mono ?_
        rintro e V2 ⟨c1, rfl, k2, i1⟩
        refine ⟨_, rfl, ?_⟩
        refine hK 9 _ _ (hS.trans k2 (fun _ h _ => h)) ?_
        exact ⟨c1, (fun b => S b ∨ (V.heap.size ≤ b ∧ b < V2.heap.size)), g6, put_swap (by decide) rfl, i1, (fun b hb => hb.elim (fun h => Nat.lt_of_lt_of_le (HS.out b h) (KV.trans k2 (fun _ h _ => h)).size) (fun h => h.2)), k2.blk hB6 (fun h => h), hN6, (fun b hb q => by have h1 := lt_of_block hB6; have h3 := HNW.out; rcases hb with hb | hb; (have h4 := HS.out b hb; have h5 := hN6; omega); omega)⟩
      · intro a' V hS hI
        obtain ⟨g6, rfl, hB6, hN6⟩ := hI
        have ka : ∀ o, Keeps Nothing V (V.alloc o) := fun o => (Keeps.refl Nothing V).alloc o
        have hsz := hS.size
        refine one_alG ?_
        refine hK 12 _ _ (hS.alloc _) ?_
        exact ⟨V.heap.size, g6, put_swap (by decide) rfl, blk_new V _ _, (by have := HN.out; omega), (ka _).blk hB6 (fun h => h), hN6, (fun q => by have := lt_of_block hB6; omega)⟩
      · intro a' V hS hI
        obtain ⟨c1, T1, c3, T3, rfl, hA1, hT1, hA3, hT3⟩ := hI
        have ka : ∀ o, Keeps Nothing V (V.alloc o) := fun o => (Keeps.refl Nothing V).alloc o
        have hsz := hS.size
        refine one_alG ?_
        refine hK 7 _ _ (hS.alloc _) ?_
        exact ⟨c1, T1, c3, T3, V.heap.size, rfl, hA1.keeps (ka _) (fun _ _ h => h) (fun _ h => h), (fun b hb => Nat.lt_of_lt_of_le (hT1 b hb) (ka _).size), hA3.keeps (ka _) (fun _ _ h => h) (fun _ h => h), (fun b hb => Nat.lt_of_lt_of_le (hT3 b hb) (ka _).size), blk_new V _ _, (by have := HN.out; omega), (fun b hb q => by have := hT1 b hb; omega), (fun b hb q => by have := hT3 b hb; omega)⟩
      · intro a' V hS hI
        obtain ⟨c1, T1, c3, T3, rfl, hA1, hT1, hA3, hT3⟩ := hI
        have ka : ∀ o, Keeps Nothing V (V.alloc o) := fun o => (Keeps.refl Nothing V).alloc o
        have hsz := hS.size
        refine one_alG ?_
        refine hK 11 _ _ (hS.alloc _) ?_
        exact ⟨c1, T1, c3, T3, V.heap.size, rfl, hA1.keeps (ka _) (fun _ _ h => h) (fun _ h => h), (fun b hb => Nat.lt_of_lt_of_le (hT1 b hb) (ka _).size), hA3.keeps (ka _) (fun _ _ h => h) (fun _ h => h), (fun b hb => Nat.lt_of_lt_of_le (hT3 b hb) (ka _).size), blk_new V _ _, (by have := HN.out; omega), (fun b hb q => by have := hT1 b hb; omega), (fun b hb q => by have := hT3 b hb; omega)⟩
      · intro a' V hS hI
        obtain ⟨c1, T1, g5, rfl, hA1, hT1, hB5, hN5, hx14⟩ := hI
        have hsz := hS.size
        have KV := (KW2.trans hS (fun _ h _ => h))
        have hc := of_any [97] (by decide) db V (fun b hb => Nat.lt_of_lt_of_le (HS.out b hb) KV.size) cs2 (HB.out.keeps (KV) (fun _ _ h => h) (fun _ h => h))
        rw [← GB.out] at hc
        refine one_call2 rfl 17 (.const (.string ⟨#[97]⟩)) (.tmp 20) rfl rfl (by (repeat (first | with_reducible exact ev_eq (by (repeat (with_reducible refine sz_put ?_)); exact of_decide_eq_true rfl) | with_reducible refine ev_ne (by decide) ?_)); all_goals rfl) (by kernel_rfl) ?_
        refine hc.mono ?_
        rintro e V2 ⟨c3, rfl, k2, i3⟩
        refine ⟨_, rfl, ?_⟩
        refine hK 7 _ _ (hS.trans k2 (fun _ h _ => h)) ?_
        exact ⟨c1, T1, c3, (fun b => S b ∨ (V.heap.size ≤ b ∧ b < V2.heap.size)), g5, put_swap (by decide) rfl, hA1.keeps k2 (fun _ _ h => h) (fun _ h => h), (fun b hb => Nat.lt_of_lt_of_le (hT1 b hb) k2.size), i3, (fun b hb => hb.elim (fun h => Nat.lt_of_lt_of_le (HS.out b h) (KV.trans k2 (fun _ h _ => h)).size) (fun h => h.2)), k2.blk hB5 (fun h => h), hN5, hx14, (fun b hb q => by have h1 := lt_of_block hB5; have h3 := HNW.out; rcases hb with hb | hb; (have h4 := HS.out b hb; have h5 := hN5; omega); omega)⟩
      · intro a' V hS hI
        obtain ⟨c1, T1, g5, rfl, hA1, hT1, hB5, hN5, hx14⟩ := hI
        have ka : ∀ o, Keeps Nothing V (V.alloc o) := fun o => (Keeps.refl Nothing V).alloc o
        have hsz := hS.size
        refine one_alG ?_
        refine hK 13 _ _ (hS.alloc _) ?_
        exact ⟨c1, T1, g5, V.heap.size, rfl, hA1.keeps (ka _) (fun _ _ h => h) (fun _ h => h), (fun b hb => Nat.lt_of_lt_of_le (hT1 b hb) (ka _).size), (ka _).blk hB5 (fun h => h), hN5, blk_new V _ _, (by have := HN.out; omega), hx14, (fun b hb q => by have := hT1 b hb; omega), (fun q => by have := lt_of_block hB5; omega)⟩
      · intro a' V hS hI
        obtain ⟨c1, T1, g6, rfl, hA1, hT1, hB6, hN6, hx15⟩ := hI
        have hsz := hS.size
        have KV := (KW2.trans hS (fun _ h _ => h))
        have hc := of_any [97] (by decide) db V (fun b hb => Nat.lt_of_lt_of_le (HS.out b hb) KV.size) cs2 (HB.out.keeps (KV) (fun _ _ h => h) (fun _ h => h))
        rw [← GB.out] at hc
        refine one_call2 rfl 17 (.const (.string ⟨#[97]⟩)) (.tmp 20) rfl rfl (by (repeat (first | with_reducible exact ev_eq (by (repeat (with_reducible refine sz_put ?_)); exact of_decide_eq_true rfl) | with_reducible refine ev_ne (by decide) ?_)); all_goals rfl) (by kernel_rfl) ?_
        refine hc.mono ?_
        rintro e V2 ⟨c3, rfl, k2, i3⟩
        refine ⟨_, rfl, ?_⟩
        refine hK 11 _ _ (hS.trans k2 (fun _ h _ => h)) ?_
        exact ⟨c1, T1, c3, (fun b => S b ∨ (V.heap.size ≤ b ∧ b < V2.heap.size)), g6, put_swap (by decide) rfl, hA1.keeps k2 (fun _ _ h => h) (fun _ h => h), (fun b hb => Nat.lt_of_lt_of_le (hT1 b hb) k2.size), i3, (fun b hb => hb.elim (fun h => Nat.lt_of_lt_of_le (HS.out b h) (KV.trans k2 (fun _ h _ => h)).size) (fun h => h.2)), k2.blk hB6 (fun h => h), hN6, hx15, (fun b hb q => by have h1 := lt_of_block hB6; have h3 := HNW.out; rcases hb with hb | hb; (have h4 := HS.out b hb; have h5 := hN6; omega); omega)⟩
      · intro a' V hS hI
        obtain ⟨c1, T1, g6, rfl, hA1, hT1, hB6, hN6, hx15⟩ := hI
        have ka : ∀ o, Keeps Nothing V (V.alloc o) := fun o => (Keeps.refl Nothing V).alloc o
        have hsz := hS.size
        refine one_alG ?_
        refine hK 13 _ _ (hS.alloc _) ?_
        exact ⟨c1, T1, V.heap.size, g6, put_swap (by decide) rfl, hA1.keeps (ka _) (fun _ _ h => h) (fun _ h => h), (fun b hb => Nat.lt_of_lt_of_le (hT1 b hb) (ka _).size), blk_new V _ _, (by have := HN.out; omega), (ka _).blk hB6 (fun h => h), hN6, (fun b hb q => by have := hT1 b hb; omega), hx15, (fun q => by have := lt_of_block hB6; omega)⟩
      · intro a' V hS hI
        obtain ⟨g5, g6, rfl, hB5, hN5, hB6, hN6, hx45⟩ := hI
        have hsz := hS.size
        have KV := (KW2.trans hS (fun _ h _ => h))
        have hc := of_any [97] (by decide) da V (fun b hb => Nat.lt_of_lt_of_le (HS.out b hb) KV.size) cs1 (HA.out.keeps (KV) (fun _ _ h => h) (fun _ h => h))
        rw [← GA.out] at hc
        refine one_call2 rfl 17 (.const (.string ⟨#[97]⟩)) (.tmp 18) rfl rfl (by (repeat (first | with_reducible exact ev_eq (by (repeat (with_reducible refine sz_put ?_)); exact of_decide_eq_true rfl) | with_reducible refine ev_ne (by decide) ?_)); all_goals rfl) (by kernel_rfl) ?_
        refine hc.mono ?_
        rintro e V2 ⟨c1, rfl, k2, i1⟩
        refine ⟨_, rfl, ?_⟩
        refine hK 13 _ _ (hS.trans k2 (fun _ h _ => h)) ?_
        exact ⟨c1, (fun b => S b ∨ (V.heap.size ≤ b ∧ b < V2.heap.size)), g5, g6, put_swap (by decide) (put_swap (by decide) rfl), i1, (fun b hb => hb.elim (fun h => Nat.lt_of_lt_of_le (HS.out b h) (KV.trans k2 (fun _ h _ => h)).size) (fun h => h.2)), k2.blk hB5 (fun h => h), hN5, k2.blk hB6 (fun h => h), hN6, (fun b hb q => by have h1 := lt_of_block hB5; have h3 := HNW.out; rcases hb with hb | hb; (have h4 := HS.out b hb; have h5 := hN5; omega); omega), (fun b hb q => by have h1 := lt_of_block hB6; have h3 := HNW.out; rcases hb with hb | hb; (have h4 := HS.out b hb; have h5 := hN6; omega); omega), hx45⟩
      · intro a' V hS hI
        obtain ⟨c1, T1, c3, T3, g5, rfl, hA1, hT1, hA3, hT3, hB5, hN5, hx14, hx34⟩ := hI
        have ka : ∀ o, Keeps Nothing V (V.alloc o) := fun o => (Keeps.refl Nothing V).alloc o
        have hsz := hS.size
        refine one_alG ?_
        refine hK 15 _ _ (hS.alloc _) ?_
        exact ⟨c1, T1, c3, T3, g5, V.heap.size, rfl, hA1.keeps (ka _) (fun _ _ h => h) (fun _ h => h), (fun b hb => Nat.lt_of_lt_of_le (hT1 b hb) (ka _).size), hA3.keeps (ka _) (fun _ _ h => h) (fun _ h => h), (fun b hb => Nat.lt_of_lt_of_le (hT3 b hb) (ka _).size), (ka _).blk hB5 (fun h => h), hN5, blk_new V _ _, (by have := HN.out; omega), hx14, (fun b hb q => by have := hT1 b hb; omega), hx34, (fun b hb q => by have := hT3 b hb; omega), (fun q => by have := lt_of_block hB5; omega)⟩
      · intro a' V hS hI
        obtain ⟨c1, T1, c3, T3, g6, rfl, hA1, hT1, hA3, hT3, hB6, hN6, hx15, hx35⟩ := hI
        have ka : ∀ o, Keeps Nothing V (V.alloc o) := fun o => (Keeps.refl Nothing V).alloc o
        have hsz := hS.size
        refine one_alG ?_
        refine hK 15 _ _ (hS.alloc _) ?_
        exact ⟨c1, T1, c3, T3, V.heap.size, g6, put_swap (by decide) rfl, hA1.keeps (ka _) (fun _ _ h => h) (fun _ h => h), (fun b hb => Nat.lt_of_lt_of_le (hT1 b hb) (ka _).size), hA3.keeps (ka _) (fun _ _ h => h) (fun _ h => h), (fun b hb => Nat.lt_of_lt_of_le (hT3 b hb) (ka _).size), blk_new V _ _, (by have := HN.out; omega), (ka _).blk hB6 (fun h => h), hN6, (fun b hb q => by have := hT1 b hb; omega), hx15, (fun b hb q => by have := hT3 b hb; omega), hx35, (fun q => by have := lt_of_block hB6; omega)⟩
      · intro a' V hS hI
        obtain ⟨c1, T1, g5, g6, rfl, hA1, hT1, hB5, hN5, hB6, hN6, hx14, hx15, hx45⟩ := hI
        have hsz := hS.size
        have KV := (KW2.trans hS (fun _ h _ => h))
        have hc := of_any [97] (by decide) db V (fun b hb => Nat.lt_of_lt_of_le (HS.out b hb) KV.size) cs2 (HB.out.keeps (KV) (fun _ _ h => h) (fun _ h => h))
        rw [← GB.out] at hc
        refine one_call2 rfl 17 (.const (.string ⟨#[97]⟩)) (.tmp 20) rfl rfl (by (repeat (first | with_reducible exact ev_eq (by (repeat (with_reducible refine sz_put ?_)); exact of_decide_eq_true rfl) | with_reducible refine ev_ne (by decide) ?_)); all_goals rfl) (by kernel_rfl) ?_
        refine hc.mono ?_
        rintro e V2 ⟨c3, rfl, k2, i3⟩
        refine ⟨_, rfl, ?_⟩
        refine hK 15 _ _ (hS.trans k2 (fun _ h _ => h)) ?_
        exact ⟨c1, T1, c3, (fun b => S b ∨ (V.heap.size ≤ b ∧ b < V2.heap.size)), g5, g6, put_swap (by decide) (put_swap (by decide) rfl), hA1.keeps k2 (fun _ _ h => h) (fun _ h => h), (fun b hb => Nat.lt_of_lt_of_le (hT1 b hb) k2.size), i3, (fun b hb => hb.elim (fun h => Nat.lt_of_lt_of_le (HS.out b h) (KV.trans k2 (fun _ h _ => h)).size) (fun h => h.2)), k2.blk hB5 (fun h => h), hN5, k2.blk hB6 (fun h => h), hN6, hx14, hx15, (fun b hb q => by have h1 := lt_of_block hB5; have h3 := HNW.out; rcases hb with hb | hb; (have h4 := HS.out b hb; have h5 := hN5; omega); omega), (fun b hb q => by have h1 := lt_of_block hB6; have h3 := HNW.out; rcases hb with hb | hb; (have h4 := HS.out b hb; have h5 := hN6; omega); omega), hx45⟩
      · intro a' V hS hI
        obtain ⟨c1, T1, c3, T3, g5, g6, rfl, hA1, hT1, hA3, hT3, hB5, hN5, hB6, hN6, hx14, hx15, hx34, hx35, hx45⟩ := hI
        have kq : Keeps (fun b => b = g5) V (V.setRow g5 c1.toArray) := (Keeps.refl (fun b => b = g5) V).setRow (g := g5) (fun _ => rfl) _
        refine one_stG (by (repeat (first | with_reducible exact ev_eq (by (repeat (with_reducible refine sz_put ?_)); exact of_decide_eq_true rfl) | with_reducible refine ev_ne (by decide) ?_)); all_goals rfl) (by (repeat (first | with_reducible exact ev_eq (by (repeat (with_reducible refine sz_put ?_)); exact of_decide_eq_true rfl) | with_reducible refine ev_ne (by decide) ?_)); all_goals rfl) hB5 rfl (agg_ok hA1.len hA1.one) ?_
        refine hK 31 _ _ (hS.setRow (g := g5) (fun h => absurd h (Nat.not_lt.2 (by have := HN.out; omega))) _) ?_
        exact ⟨c1, T1, c3, T3, g5, g6, rfl, hA1.keeps kq (fun b hb q => hx14 b hb q) (fun _ h => h), (fun b hb => Nat.lt_of_lt_of_le (hT1 b hb) kq.size), hA3.keeps kq (fun b hb q => hx34 b hb q) (fun _ h => h), (fun b hb => Nat.lt_of_lt_of_le (hT3 b hb) kq.size), hN5, kq.blk hB6 (fun q => hx45 (by first | exact q | exact q.symm)), hN6, hx14, hx15, hx34, hx35, hx45, blk_setRow hB5⟩
      · intro a' V hS hI
        obtain ⟨c1, T1, c3, T3, g5, g6, rfl, hA1, hT1, hA3, hT3, hN5, hB6, hN6, hx14, hx15, hx34, hx35, hx45, hC5⟩ := hI
        have kq : Keeps (fun b => b = g6) V (V.setRow g6 c3.toArray) := (Keeps.refl (fun b => b = g6) V).setRow (g := g6) (fun _ => rfl) _
        refine one_stG (by (repeat (first | with_reducible exact ev_eq (by (repeat (with_reducible refine sz_put ?_)); exact of_decide_eq_true rfl) | with_reducible refine ev_ne (by decide) ?_)); all_goals rfl) (by (repeat (first | with_reducible exact ev_eq (by (repeat (with_reducible refine sz_put ?_)); exact of_decide_eq_true rfl) | with_reducible refine ev_ne (by decide) ?_)); all_goals rfl) hB6 rfl (agg_ok hA3.len hA3.one) ?_
        refine hK 63 _ _ (hS.setRow (g := g6) (fun h => absurd h (Nat.not_lt.2 (by have := HN.out; omega))) _) ?_
        exact ⟨c1, T1, c3, T3, g5, g6, rfl, hA1.keeps kq (fun b hb q => hx15 b hb q) (fun _ h => h), (fun b hb => Nat.lt_of_lt_of_le (hT1 b hb) kq.size), hA3.keeps kq (fun b hb q => hx35 b hb q) (fun _ h => h), (fun b hb => Nat.lt_of_lt_of_le (hT3 b hb) kq.size), hN5, hN6, hx14, hx15, hx34, hx35, hx45, kq.blk hC5 (fun q => hx45 (by first | exact q | exact q.symm)), blk_setRow hB6⟩
      intro a' V hS hI
      obtain ⟨c1, T1, c3, T3, g5, g6, rfl, hA1, hT1, hA3, hT3, hN5, hN6, hx14, hx15, hx34, hx35, hx45, hC5, hC6⟩ := hI
      refine wpMixG_done ?_
      have KW3 := KW2.trans hS (fun _ h _ => h)
      have HA1 := shut hA1
      have HA3 := shut hA3
      have HT1 := shut hT1
      have HT3 := shut hT3
      have HX1 := shut hx14
      have HX3 := shut hx35
      obtain ⟨C1, hC1⟩ : ∃ C, C = c1.toArray := ⟨_, rfl⟩
      have hs1 : C1.size = 3 := by rw [hC1]; simpa using hA1.len
      obtain ⟨C3, hC3⟩ : ∃ C, C = c3.toArray := ⟨_, rfl⟩
      have hs3 : C3.size = 3 := by rw [hC3]; simpa using hA3.len
      rw [← hC1] at hC5
      rw [← hC3] at hC6
      have G1 := shut hC1
      have G3 := shut hC3
      try rw [← hC1]
      try rw [← hC3]
      obtain ⟨s1, hs1'⟩ : ∃ s, ofD [97] da = s := ⟨_, rfl⟩
      obtain ⟨s3, hs3'⟩ : ∃ s, ofD [97] db = s := ⟨_, rfl⟩
      rw [hs1'] at HA1
      rw [hs3'] at HA3
      clear hS hA1 hA3 hT1 hT3 hx14 hx15 hx34 hx35 hx45 hN5 hN6 KW2 BA2 BB2 hC1 hC3 HN hs1' hs3' GA GB hsA hsB
      obtain ⟨y1, y2⟩ := tblk_mid hC5 hs1
      have hp := put_any s1 V (HM.out.keeps KW3) c1 HT1.out HA1.out
      rw [← G1.out] at hp
      try dsimp only
      repeat (first | rw [if_neg Bool.false_ne_true] | go_values | go_skip | go_guarded | go_step | go_upon | go_back)
      refine hp.mono ?_
      rintro e w4 ⟨k4, hq⟩
      have KW4 := KW3.trans k4 (fun _ h _ => h)
      have D5 := k4.blk hC5 (fun h => h)
      have D6 := k4.blk hC6 (fun h => h)
      clear hp y1 y2 hC5 hC6 KW3
      obtain ⟨y1, y2⟩ := tblk_mid D6 hs3
      have hp := put_any s3 w4 (HM.out.keeps KW4) c3 (fun b hb => Nat.lt_of_lt_of_le (HT3.out b hb) k4.size) (HA3.out.keeps k4 (fun _ _ h => h) (fun _ h => h))
      rw [← G3.out] at hp
      rcases hq with ⟨hm, ax, cx, rfl, hO, -⟩ | ⟨-, ev, rfl, hE⟩
      · obtain ⟨L1, hL1⟩ : ∃ L, encSig s1 = L := ⟨_, rfl⟩
        obtain ⟨n1, hn1⟩ : ∃ n, L1.length = n := ⟨_, rfl⟩
        rw [hL1] at hO ⊢
        rw [hn1] at ⊢
        have HO := shut hO
        clear hO
        try dsimp only
        repeat (first | rw [if_neg Bool.false_ne_true] | go_values | go_skip | go_guarded | go_step | go_upon | go_back)

        refine hp.mono ?_
        rintro e w5 ⟨k5, hq⟩
        have KW5 := KW4.trans k5 (fun _ h _ => h)
        have E5 := k5.blk D5 (fun h => h)
        have E6 := k5.blk D6 (fun h => h)
        have HO := shut (k5.own HO.out (fun _ _ h => h))
        have k45 := k4.trans k5 (fun _ h _ => h)
        clear hp y1 y2 D5 D6 KW4 k5 k4
        rcases hq with ⟨hm3, ay, cy, rfl, hO3, -⟩ | ⟨-, ev, rfl, hE⟩
        · obtain ⟨L3, hL3⟩ : ∃ L, encSig s3 = L := ⟨_, rfl⟩
          obtain ⟨n3, hn3⟩ : ∃ n, L3.length = n := ⟨_, rfl⟩
          rw [hL3] at hO3 ⊢
          rw [hn3] at ⊢
          have HO3 := shut hO3
          have HEQ : Shut ((L1 == L3) = true ↔ s1 = s3) := shut (by rw [← hL1, ← hL3]; exact sig_bytes hm hm3)
          have HP1 := shut hn1
          have HP3 := shut hn3
          obtain ⟨zq, hzq⟩ : ∃ z, (L1 == L3) = z := ⟨_, rfl⟩
          have HQ := shut hzq
          clear hO3 hL1 hL3 hm hm3 hn1 hn3 hzq
          try dsimp only
          go_upto_region 8 with (rw [if_neg Bool.false_ne_true])
          refine wp_region_mixG (fun V => Keeps Nothing w5 V) 13 (.one 0 (.take 1 (.take 2 (.take 4 (.take 3 (.take 5 (.take 6 (.take 7 (.take 8 (.one 9 (.take 10 (.take 11 (.take 12 .done))))))))))))) (by kernel_rfl) (by kernel_rfl) (Keeps.refl _ _).drew ?_
          simp only [itemsG, PlanG.map, List.map_cons, List.map_nil, List.getD_cons_zero, List.getD_cons_succ, Nat.reduceBEq]
          have kk : Keeps Nothing w5 w5.drew := (Keeps.refl Nothing w5).drew
          have hct := told12_any w5.drew (HM.out.keeps (KW5.trans kk (fun _ h _ => h)))
          refine wpMixG_one (fun K hK => ?_)
          go_wp2_with fail
          refine hct.mono ?_
          rintro e w6 ⟨rfl, k6⟩
          have kk := kk.trans k6 (fun _ h _ => h)
          clear hct k6
          go_wp2_with fail
          refine hK _ _ (.inr kk) ?_
          clear hK K
          refine wpMixG_free (fun K hK => ?_)
          go_simp
          refine hK _ ?_
          clear hK K
          refine wpMixG_free (fun K hK => ?_)
          go_simp
          refine hK _ ?_
          clear hK K
          refine wpMixG_free (fun K hK => ?_)
          go_simp
          refine hK _ ?_
          clear hK K
          refine wpMixG_yield (v := .string ⟨L1.toArray⟩) (fun V hV => ?_) (fun K hK => ?_)
          · have hcv := run_str V cx L1 (l := n1) HP1.out (own8_at (hV.own HO.out (fun _ _ h => h)))
            go_simp
          go_simp
          refine hK _ ?_
          clear hK K
          refine wpMixG_yield (v := .string ⟨L3.toArray⟩) (fun V hV => ?_) (fun K hK => ?_)
          · have hcv := run_str V cy L3 (l := n3) HP3.out (own8_at (hV.own HO3.out (fun _ _ h => h)))
            go_simp
          go_simp
          refine hK _ ?_
          clear hK K
          have hzq := HQ.out
          refine wpMixG_free (fun K hK => ?_)
          go_simp
          refine hK _ ?_
          clear hK K
          clear hzq
          refine wpMixG_yield (v := .agg C1) (fun V hV => ?_) (fun K hK => ?_)
          · obtain ⟨y1, y2⟩ := tblk_mid (hV.blk E5 (fun h => h)) hs1
            go_simp
          go_simp
          refine hK _ ?_
          clear hK K
          refine wpMixG_yield (v := .agg C3) (fun V hV => ?_) (fun K hK => ?_)
          · obtain ⟨y1, y2⟩ := tblk_mid (hV.blk E6 (fun h => h)) hs3
            go_simp
          go_simp
          refine hK _ ?_
          clear hK K
          have hc := rsame12_any s1 s3 w6 c1 c3 (HA1.out.keeps (k45.trans kk (fun _ h _ => h)) (fun _ _ h => h) (fun _ h => h)) (HA3.out.keeps (k45.trans kk (fun _ h _ => h)) (fun _ _ h => h) (fun _ h => h))
          rw [← G1.out, ← G3.out] at hc
          refine wpMixG_one (fun K hK => ?_)
          go_wp2_with fail
          refine hc.mono ?_
          rintro e w7 ⟨⟨z2, rfl, hz2⟩, k7⟩
          have kk := kk.trans k7 (fun _ h _ => h)
          obtain rfl : z2 = zq := Bool.eq_iff_iff.2 (hz2.trans (by rw [← HQ.out]; exact HEQ.out.symm))
          have hzz : (z2 == z2) = true := beq_self_eq_true _
          clear hc hz2 k7
          go_wp2_with fail
          refine hK _ _ (.inr kk) ?_
          clear hK K
          refine wpMixG_free (fun K hK => ?_)
          go_simp
          refine hK _ ?_
          clear hK K
          refine wpMixG_free (fun K hK => ?_)
          go_simp
          refine hK _ ?_
          clear hK K
          refine wpMixG_free (fun K hK => ?_)
          go_simp
          refine hK _ ?_
          clear hK K
          refine wpMixG_done ?_
          have KF := KW5.trans kk (fun _ h _ => h)
          go_wp2_with fail
          go_ret
          exact ⟨rfl, KF⟩
        · rcases hE with ⟨-, h0, -⟩ | ⟨eb, -, -, rfl, -⟩
          · exact absurd h0 (by decide)
          have hct := told12_any w5 (HM.out.keeps KW5)
          have KT := KW5
          try dsimp only
          repeat (first | rw [if_neg Bool.false_ne_true] | go_values | go_skip | go_guarded | go_step | go_upon | go_back)
          refine hct.mono ?_
          rintro e wt ⟨rfl, kt⟩
          have KF := KT.trans kt (fun _ h _ => h)
          clear hct
          try dsimp only
          repeat (first | rw [if_neg Bool.false_ne_true] | go_values | go_skip | go_guarded | go_step | go_upon | go_back)
          go_ret
          exact ⟨rfl, KF⟩

      · rcases hE with ⟨-, h0, -⟩ | ⟨eb, -, -, rfl, -⟩
        · exact absurd h0 (by decide)
        try dsimp only
        repeat (first | rw [if_neg Bool.false_ne_true] | go_values | go_skip | go_guarded | go_step | go_upon | go_back)

        refine hp.mono ?_
        rintro e w5 ⟨k5, hq⟩
        have KW5 := KW4.trans k5 (fun _ h _ => h)
        clear hp y1 y2 D5 D6 KW4 k5 k4
        have hq : ∃ v n c ev, e = .returned (.tuple #[.slice v n c, ev]) := by
          rcases hq with ⟨-, ax, cx, rfl, -⟩ | ⟨-, ev, rfl, -⟩
          · exact ⟨_, _, _, _, rfl⟩
          · exact ⟨_, _, _, _, rfl⟩
        obtain ⟨v, n, c, ev, rfl⟩ := hq
        have hct := told12_any w5 (HM.out.keeps KW5)
        have KT := KW5
        try dsimp only
        repeat (first | rw [if_neg Bool.false_ne_true] | go_values | go_skip | go_guarded | go_step | go_upon | go_back)
        refine hct.mono ?_
        rintro e wt ⟨rfl, kt⟩
        have KF := KT.trans kt (fun _ h _ => h)
        clear hct
        try dsimp only
        repeat (first | rw [if_neg Bool.false_ne_true] | go_values | go_skip | go_guarded | go_step | go_upon | go_back)
        go_ret
        exact ⟨rfl, KF⟩
set_option maxRecDepth 100000 in
theorem lifted (os : Os) (started : os.Started) (H : Type) (enc : TypeId × Value → H) (F : Stop.Interp) :
    ReturnsInHanded {} Tryz.checked os 6 .any ((Rows.OpenSpec.upto Rows.sigApartSpec).pre6 enc Tryz.prog Tryz.f6 Rows.sigApartUptoRow.domain false) (((Rows.OpenSpec.upto Rows.sigApartSpec).at F).post enc Tryz.prog Tryz.f6 false true false false) := by
  refine cond_shaped (C := Tryz.checked) (s := Rows.OpenSpec.upto Rows.sigApartSpec) (k := Rows.uptoSmall) rfl own started (by kernel_rfl) Tryz.func6
    (OpenSpec.witness (enc := enc) (C := Tryz.checked) (s := Rows.OpenSpec.upto Rows.sigApartSpec) (k := Rows.uptoSmall) rfl false ⟨#[], #[.agg #[.slice none 0 0, .slice none 0 0], .agg #[.slice none 0 0, .slice none 0 0]], []⟩ 8 (by kernel_rfl) (by kernel_rfl) (by kernel_rfl)
      (x := ([.agg [.nil, .nil], .agg [.nil, .nil]], [], [])) (by kernel_rfl) rfl (by kernel_rfl)) ?_
  intro W base args ds gs before hval0 hW hkk hsh
  have hmax := max_of_shaped hsh
  have hval : ∀ (j : Nat) t v, Tryz.f6.params[j]? = some t → args[j]? = some v → Value.okWide Tryz.prog W .any base t v := hval0
  have hW' := hW
  obtain ⟨p, q, hA0, hV, rfl, hfz, hnd⟩ := hW
  have hA : DataW.TrodAll enc Tryz.prog W 0 (fun _ => true) true Tryz.f6.params.toList args.toList ds p := hA0
  rw [Tryz.params6] at hA hval
  obtain ⟨v0, vs0, d0, ds0, p0, q0, hargs, rfl, rfl, h0, r0⟩ := trodAll_cons hA
  obtain ⟨v1, vs1, d1, ds1, p1, q1, rfl, rfl, rfl, h1, r1⟩ := trodAll_cons r0
  obtain ⟨rfl, rfl, rfl⟩ := trodAll_nil r1
  obtain rfl : args = #[v0, v1] := by cases args; simp_all
  obtain ⟨rfl, rfl⟩ := trodVars_none hV
  have hbulk : Rows.uptoBulkAll ([d0, d1] ++ []) ≤ 1048576 := of_decide_eq_true hkk
  simp only [List.append_nil, Rows.uptoBulkAll] at hbulk
  have k0 := h0
  have lt0 : ∀ x ∈ p0, x.block < W.heap.size := by obtain ⟨m, hm⟩ := k0; exact DataW.trod_lt m _ _ _ hm
  have k1 := h1
  have lt1 : ∀ x ∈ p1, x.block < W.heap.size := by obtain ⟨m, hm⟩ := k1; exact DataW.trod_lt m _ _ _ hm
  obtain ⟨cs0, rfl, hsz0⟩ := okWide_struct Tryz.underlying26 (hval 0 26 v0 rfl rfl)
  obtain ⟨fuel0, hf0⟩ := h0
  obtain ⟨x0, hx0⟩ := trod_Cr fuel0 _ _ hf0 (by unfold bigN; simp only; omega)
  obtain ⟨cs1, rfl, hsz1⟩ := okWide_struct Tryz.underlying26 (hval 1 26 v1 rfl rfl)
  obtain ⟨fuel1, hf1⟩ := h1
  obtain ⟨x1, hx1⟩ := trod_Cr fuel1 _ _ hf1 (by unfold bigN; simp only; omega)
  clear hA0 hval0
  have hcall := walk x0 x1 W hmax _ _ (fun _ h => h) hx0 hx1
  have e0 : (Value.agg cs0).cells.toList.toArray = cs0 := rfl
  have e1 : (Value.agg cs1).cells.toList.toArray = cs1 := rfl
  rw [e0, e1] at hcall
  refine hcall.mono fun e W' ⟨he, hk⟩ => ?_
  subst he
  have bel : Below W.heap.size W W' := hk.below (Nat.le_refl _) (fun _ h => h.elim)
  exact ⟨_, rfl, _, _, _, [], _, [], hW', trodAll_mk1 (shut_bool Tryz.underlying4 _), (trodAll_cons_mk (Below.trod laidOut (by kernel_rfl) (of_decide_eq_true (by kernel_rfl)) k0 bel lt0) (trodAll_cons_mk (Below.trod laidOut (by kernel_rfl) (of_decide_eq_true (by kernel_rfl)) k1 bel lt1) trodAll_mk0)), rfl, bel.frame _, fun h => by cases h⟩

theorem over : Rows.sigApartUptoRow.holds Tryz.pinned (Rows.OpenSpec.upto Rows.sigApartSpec) :=
  OpenClaim.holds_of_cond 6 Tryz.f6 rfl rfl rfl rfl rfl rfl rfl ⟨rfl, rfl, rfl, rfl, rfl⟩ rfl rfl rfl rfl rfl (by kernel_rfl) Tryz.func6 (by kernel_rfl)
    (of_decide_eq_true (by kernel_rfl)) (by unfold Func.isWrapper; first | (rw [if_pos (by decide +kernel)]; kernel_rfl) | (rw [if_neg (by decide +kernel)]; exact ⟨rfl, rfl⟩))
    (fun os started H enc _ F => lifted os started H enc F)
/-- For every input of bulk at most 1048576 the law returns true, and its arguments read as before. -/
theorem proved : Rows.SigApartUptoSaid := over
#print axioms proved

end Go.Proofs.YtjbcagbnagefcaaGreat.sigApart

