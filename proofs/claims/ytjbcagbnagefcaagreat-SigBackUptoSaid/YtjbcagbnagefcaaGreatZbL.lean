/- SigBack -/
import Derived.Test.YtjbcagbnagefcaaGreatRows
import Derived.Test.YtjbcagbnagefcaaGreatZb19
import Derived.Test.YtjbcagbnagefcaaGreatZb18
import Derived.Test.YtjbcagbnagefcaaGreatZb20
import Derived.Test.YtjbcagbnagefcaaGreatZb1
import Derived.ProofKit
import Derived.OpenShut
import Derived.ShutString
import Derived.ChangeOld
import Derived.Below
import Derived.JoinedCond
import Derived.HandedShaped
import Derived.Shelf.Vars
namespace Go.Proofs.YtjbcagbnagefcaaGreat.sigBack
open Go.ChangeShapes Go.WideShapes Go.ChangeAt Go.RowKit
open Go.ChangeMaps (open_string shut_string)
theorem own : ownKnob Tryz.prog.godebug = none := by kernel_rfl
theorem laidOut : laidOutB Tryz.prog = true := by kernel_rfl
theorem cond_shaped {H : Type} {enc : TypeId × Value → H} {a : Assume} {C : Checked} {os : Os} {f : FuncId} {fn : Func} {s : OpenSpec} {k : (H : Type) → List (DataW H) → Bool} (hk : s.cond = some k) {F : Stop.Interp} {conds : List PathCond} {apart fresh handsOn again : Bool}
  (own : ownKnob C.prog.godebug = none) (started : os.Started) (noInit : C.prog.inits.idxOf? f = none) (hfn : C.prog.funcs[f]? = some fn)
  (witness : ∃ (w : World) (tape : Tape) (i : Input), w.os = os ∧ (w.forCall tape i).Shaped C.prog ∧ i.vars = [] ∧ Input.okWide C.prog (w.forCall tape i) .any w.heap.size f i ∧
   s.pre6 enc C.prog fn conds apart (w.forCall tape i).memory i.args ∧ a.holds C.prog (lone (Frame.enter C.prog f i.args .normal) [] (w.forCall tape i)))
  (contract : ∀ (W : World) (base : Nat) (args : Array Value) (ds gs : List (DataW H)) (before : List MemPlace),
   (∀ (j : Nat) t v, fn.params[j]? = some t → args[j]? = some v → Value.okWide C.prog W .any base t v) →
   DataW.Whole enc C.prog fn.params.toList s.vars apart W args.toList ds gs before →
   k H (ds ++ gs) = true → W.ShapedOpen C.prog →
   Calls C.prog f args W fun e W' => ∃ v, e = .returned v ∧ (s.at F).post enc C.prog fn apart fresh handsOn again W args v W') :
  ReturnsInHanded a C os f .any (s.pre6 enc C.prog fn conds apart) ((s.at F).post enc C.prog fn apart fresh handsOn again) := by
 refine returnsInHanded_of_calls own started noInit witness ?_
 intro w tape i _ hsh _ hok hpre _
 obtain ⟨_, _, _, fn', hfn', _, _, _, _, hval⟩ := hok
 have e : fn' = fn := Option.some.inj (hfn'.symm.trans hfn)
 subst e
 obtain ⟨ds, gs, before, hw, _, hkk⟩ := (OpenSpec.pre_some hk conds apart _ _).1 hpre.1
 have hw' := DataW.Whole.of_heap (w' := w.forCall tape i) (by rfl) hw
 refine (contract (w.forCall tape i) w.heap.size i.args ds gs before hval hw' hkk hsh).mono fun e W' ⟨v, he, hp⟩ => ?_
 subst he
 exact ChangeSpec.post_blind hp
attribute [local irreducible] wpMix wpMixB wpMixG wpList
attribute [local go_sem ↓] exec_mid_ty exec_store_ty exec_mid_pl exec_store_pl exec_mid_opr exec_store_opr exec_mid_val exec_store_val exec_mid_st exec_store_st exec_mid_fld exec_store_fld exec_mid_str exec_store_str exec_mid_lif exec_store_lif exec_mid_fun exec_store_fun exec_mid_cr exec_store_cr exec_mid_sig exec_store_sig
attribute [local go_sem] rowOk_new World.setRow_alloc_new
theorem max_of_shaped {w : World} (h : w.ShapedOpen Tryz.prog) : MaxV w :=
 cell_of_shapedOpen_int (zero := #[.int .i64 0]) h (of_decide_eq_true (by kernel_rfl)) (by kernel_rfl) rfl (by kernel_rfl) (by kernel_rfl) Tryz.underlying3
theorem may_of {nm : List UInt8} (hn : isName nm = true) {c : CrD} (h : CrP c) : MayS (ofD nm c) := by
 obtain ⟨h1, h2, h3⟩ := h
 have l1 := List.length_filter_le (fun s : StrD => s.pub) c.structs
 have l2 := List.length_filter_le (fun f : FunD => f.pub) c.funcs
 refine ⟨fun x hx => ?_, fun f hf => ?_, hn, ?_, fun x hx => ?_, fun f hf => ?_⟩
 ·obtain ⟨y, hy, rfl⟩ := List.mem_map.1 hx
  exact ⟨(List.mem_filter.1 hy).2, rfl⟩
 ·obtain ⟨y, hy, rfl⟩ := List.mem_map.1 hf
  exact ⟨(List.mem_filter.1 hy).2, rfl, rfl⟩
 ·show (List.map _ _).length + (List.map _ _).length ≤ 256
  rw [List.length_map, List.length_map]
  omega
 ·obtain ⟨y, hy, rfl⟩ := List.mem_map.1 hx
  obtain ⟨q1, q2, q3⟩ := h2 y (List.mem_filter.1 hy).1
  exact ⟨q1, q2, q3⟩
 ·obtain ⟨y, hy, rfl⟩ := List.mem_map.1 hf
  obtain ⟨q1, q2, q3, q4, q5, q6, q7⟩ := h3 y (List.mem_filter.1 hy).1
  exact ⟨q1, q2, q3, q4, q5, ((blP_iff [] 1).2 ⟨by decide, fun _ h => by cases h⟩), by show IntKind.i64.wrap (cntL ([] : List StD) : Int) ≤ 2000; decide⟩
set_option maxRecDepth 100000 in
set_option linter.unusedSimpArgs false in
set_option maxHeartbeats 8000000 in
theorem walk {S : Nat → Prop} (dc : CrD) (bs : List UInt8) (nb : Nat) (hnb : bs.length = nb) (ab : Option Addr) (cb : Nat) (w : World) (hM : MaxV w) (cs1 : List Value) (hS : ∀ b, S b → b < w.heap.size) (ha : CrIs S w dc cs1) (hB : BytesAt w ab bs) : Calls Tryz.prog 4 #[.agg cs1.toArray, .slice ab nb cb] w fun e w' => e = .returned (.bool true) ∧ Keeps Nothing w w' := by
 have HM := shut hM
 have HA := shut ha
 have HS := shut hS
 have HB := shut hB
 have HNB := shut hnb
 have ag1 := agg_ok ha.len ha.one
 obtain ⟨CA, hCA⟩ : ∃ C, C = cs1.toArray := ⟨_, rfl⟩
 have hsA : CA.size = 2 := by rw [hCA]; simpa using ha.len
 rw [← hCA] at ag1 ⊢
 have GA := shut hCA
 clear hCA
 have BA := blk_new w CA 26
 have KW : Keeps Nothing w (w.alloc (.cells CA 26)) := (Keeps.refl Nothing w).alloc _
 clear hM ha hS hB hnb
 go_enter Tryz.func4, Tryz.ntmps4
 go_upto_region 1 with fail
 clear ag1
 generalize (w.alloc (.cells CA 26)) = w0 at *
 obtain ⟨ga, hga⟩ : ∃ ga, w.heap.size = ga := ⟨_, rfl⟩
 rw [hga] at BA ⊢
 clear hga
 obtain ⟨y1, y2⟩ := tblk_mid BA hsA
 have hg1 := great_any dc w0 cs1 (HA.out.keeps (KW) (fun _ _ h => h) (fun _ h => h))
 rw [← GA.out] at hg1
 go_wp2_with fail
 refine hg1.mono ?_
 rintro e w1 ⟨⟨z, rfl⟩, k1⟩
 clear hg1 y1 y2
 have KW1 := KW.trans k1 (fun _ h _ => h)
 have BA1 := k1.blk BA (fun h => h)
 clear BA KW k1
 cases z with
 | true =>
  have hct := told12_any w1 (HM.out.keeps KW1)
  have KT := KW1
  try dsimp only
  repeat (first | rw [if_neg Bool.false_ne_true] | go_values | go_skip | go_guarded | go_step | go_upon | go_back)
  refine hct.mono ?_
  rintro e wt ⟨rfl, kt⟩
  have KF := KT.trans kt (fun _ h _ => h)
  clear hct
  try dsimp only
  repeat (first | rw [if_neg Bool.false_ne_true] | go_values | go_skip | go_guarded | go_step | go_upon | go_back)
  go_ret
  exact ⟨rfl, KF⟩
 | false =>
  by_cases h20 : (2000 : Int) < nb
  ·have hbb : decide ((2000 : Int) < nb) = true := by simp [h20]
   have hct := told12_any w1 (HM.out.keeps KW1)
   have KT := KW1
   try dsimp only
   repeat (first | rw [if_neg Bool.false_ne_true] | go_values | go_skip | go_guarded | go_step | go_upon | go_back)
   refine hct.mono ?_
   rintro e wt ⟨rfl, kt⟩
   have KF := KT.trans kt (fun _ h _ => h)
   clear hct
   try dsimp only
   repeat (first | rw [if_neg Bool.false_ne_true] | go_values | go_skip | go_guarded | go_step | go_upon | go_back)
   go_ret
   exact ⟨rfl, KF⟩
  ·have hbb : decide ((2000 : Int) < nb) = false := by simp [h20]
   have hnb2 : nb ≤ 2000 := by omega
   clear h20
   obtain ⟨y1, y2⟩ := tblk_mid BA1 hsA
   have hg2 := rmay_any dc w1 cs1 (HA.out.keeps (KW1) (fun _ _ h => h) (fun _ h => h))
   rw [← GA.out] at hg2
   try dsimp only
   repeat (first | rw [if_neg Bool.false_ne_true] | go_values | go_skip | go_guarded | go_step | go_upon | go_back)
   refine hg2.mono ?_
   rintro e w2 ⟨⟨z, rfl, hz⟩, k2⟩
   have HZ := shut hz
   clear hg2 y1 y2 hz hbb
   have KW2 := KW1.trans k2 (fun _ h _ => h)
   have BA2 := k2.blk BA1 (fun h => h)
   clear BA1 KW1 k2
   cases z with
   | false =>
    have hct := told12_any w2 (HM.out.keeps KW2)
    have KT := KW2
    try dsimp only
    repeat (first | rw [if_neg Bool.false_ne_true] | go_values | go_skip | go_guarded | go_step | go_upon | go_back)
    refine hct.mono ?_
    rintro e wt ⟨rfl, kt⟩
    have KF := KT.trans kt (fun _ h _ => h)
    clear hct
    try dsimp only
    repeat (first | rw [if_neg Bool.false_ne_true] | go_values | go_skip | go_guarded | go_step | go_upon | go_back)
    go_ret
    exact ⟨rfl, KF⟩
   | true =>
    have hms := may_of (nm := [113]) (by decide) (HZ.out.1 rfl)
    obtain ⟨y1, y2⟩ := tblk_mid BA2 hsA
    have hc := of_any [113] (by decide) dc w2 (fun b hb => Nat.lt_of_lt_of_le (HS.out b hb) KW2.size) cs1 (HA.out.keeps (KW2) (fun _ _ h => h) (fun _ h => h))
    rw [← GA.out] at hc
    obtain ⟨s, hs⟩ : ∃ s, ofD [113] dc = s := ⟨_, rfl⟩
    rw [hs] at hc hms
    have HMS := shut hms
    clear hs hms HZ
    try dsimp only
    repeat (first | rw [if_neg Bool.false_ne_true] | go_values | go_skip | go_guarded | go_step | go_upon | go_back)
    refine hc.mono ?_
    rintro e w3 ⟨c3, rfl, k3, i3⟩
    have hT3 : ∀ b, (S b ∨ (w2.heap.size ≤ b ∧ b < w3.heap.size)) → b < w3.heap.size := fun b hb => hb.elim (fun h => Nat.lt_of_lt_of_le (HS.out b h) (KW2.trans k3 (fun _ h _ => h)).size) (fun h => h.2)
    have ag := agg_ok i3.len i3.one
    obtain ⟨C3, hC3⟩ : ∃ C, C = c3.toArray := ⟨_, rfl⟩
    have hsC3 : C3.size = 3 := by rw [hC3]; simpa using i3.len
    rw [← hC3] at ag ⊢
    have G3 := shut hC3
    clear hC3
    have kb : Keeps Nothing w3 (w3.alloc (.cells C3 32)) := (Keeps.refl Nothing w3).alloc _
    have KW3 := (KW2.trans k3 (fun _ h _ => h)).trans kb (fun _ h _ => h)
    have B3 := blk_new w3 C3 32
    have I3 := shut (i3.keeps kb (fun _ _ h => h) (fun b h => hT3 b h) : SigIs (fun b => b < w3.heap.size) (w3.alloc (.cells C3 32)) s c3)
    have h34 : Shut (∀ b, b < w3.heap.size → b < (w3.alloc (.cells C3 32)).heap.size) := shut (fun b hb => Nat.lt_of_lt_of_le hb kb.size)
    clear hc y1 y2 BA2 KW2 k3 i3 hT3
    go_upto_region 4 with fail
    clear ag kb
    generalize w3.alloc (.cells C3 32) = w4 at *
    obtain ⟨g5, hg5⟩ : ∃ g, w3.heap.size = g := ⟨_, rfl⟩
    rw [hg5] at B3 h34 I3 ⊢
    clear hg5
    obtain ⟨y1, y2⟩ := tblk_mid B3 hsC3
    have hp := put_any s w4 (HM.out.keeps KW3) c3 h34.out I3.out
    rw [← G3.out] at hp
    try dsimp only
    repeat (first | rw [if_neg Bool.false_ne_true] | go_values | go_skip | go_guarded | go_step | go_upon | go_back)
    refine hp.mono ?_
    rintro e w5 ⟨k5, hq⟩
    have KW5 := KW3.trans k5 (fun _ h _ => h)
    have B5 := k5.blk B3 (fun h => h)
    have I5 := shut (I3.out.keeps k5 (fun _ _ h => h) (fun _ h => h) : SigIs (fun b => b < g5) w5 s c3)
    clear hp y1 y2 B3 KW3 k5 I3 h34
    have hq2 : ∃ ax cx, e = .returned (.tuple #[.slice ax (encSig s).length cx, .nilIface]) ∧ Own8 w5 5 ax cx (encSig s) := by
     rcases hq with ⟨-, ax, cx, h1, h2, -⟩ | ⟨hn, -⟩
     ·exact ⟨ax, cx, h1, h2⟩
     ·exact absurd HMS.out hn
    obtain ⟨ax, cx, rfl, hO⟩ := hq2
    obtain ⟨L1, hL1⟩ : ∃ L, encSig s = L := ⟨_, rfl⟩
    obtain ⟨n1, hn1⟩ : ∃ n, L1.length = n := ⟨_, rfl⟩
    rw [hL1] at hO ⊢
    rw [hn1]
    have hl1 := encSig_len HMS.out
    rw [hL1] at hl1
    have hg := get_any w5 (HM.out.keeps KW5) cx hn1 (own8_at hO) (by omega)
    have HL1 := shut hL1
    clear hq hO hL1 hn1 hl1
    try dsimp only
    repeat (first | rw [if_neg Bool.false_ne_true] | go_values | go_skip | go_guarded | go_step | go_upon | go_back)
    refine hg.mono ?_
    rintro e w6 ⟨k6, hq⟩
    have KW6 := KW5.trans k6 (fun _ h _ => h)
    have B6 := k6.blk B5 (fun h => h)
    have I6 := shut (I5.out.keeps k6 (fun _ _ h => h) (fun _ h => h) : SigIs (fun b => b < g5) w6 s c3)
    clear hg B5 KW5 k6 I5
    have hq2 : ∃ c8, e = .returned (.tuple #[.agg c8.toArray, .nilIface]) ∧ SigIs (fun b => b < w6.heap.size) w6 s c8 := by
     rcases hq with ⟨s', c8, h1, h2, h3, h4⟩ | ⟨hn, -⟩
     ·obtain rfl := sig_inj h1 HMS.out (h2.trans HL1.out.symm)
      exact ⟨c8, h3, h4⟩
     ·exact absurd HL1.out (hn s HMS.out)
    obtain ⟨c8, rfl, i8⟩ := hq2
    have ag := agg_ok i8.len i8.one
    obtain ⟨C8, hC8⟩ : ∃ C, C = c8.toArray := ⟨_, rfl⟩
    have hsC8 : C8.size = 3 := by rw [hC8]; simpa using i8.len
    rw [← hC8] at ag ⊢
    have G8 := shut hC8
    clear hC8
    have kb : Keeps Nothing w6 (w6.alloc (.cells C8 32)) := (Keeps.refl Nothing w6).alloc _
    have KW7 := KW6.trans kb (fun _ h _ => h)
    have B7 := kb.blk B6 (fun h => h)
    have B8 := blk_new w6 C8 32
    have I7 := shut (I6.out.keeps kb (fun _ _ h => h) (fun _ h => h) : SigIs (fun b => b < g5) (w6.alloc (.cells C8 32)) s c3)
    have I8 := shut (i8.keeps kb (fun _ _ h => h) (fun _ h => h) : SigIs (fun b => b < w6.heap.size) (w6.alloc (.cells C8 32)) s c8)
    clear hq i8 B6 KW6 I6
    try dsimp only
    go_upto_region 6 with (rw [if_neg Bool.false_ne_true])
    clear ag kb
    generalize w6.alloc (.cells C8 32) = w7 at *
    generalize w6.heap.size = g8 at *
    obtain ⟨y1, y2⟩ := tblk_mid B7 hsC3
    obtain ⟨z1, z2⟩ := tblk_mid B8 hsC8
    have hc := rsame12_any s s w7 c3 c8 I7.out I8.out
    rw [← G3.out, ← G8.out] at hc
    try dsimp only
    repeat (first | rw [if_neg Bool.false_ne_true] | go_values | go_skip | go_guarded | go_step | go_upon | go_back)
    refine hc.mono ?_
    rintro e w8 ⟨⟨z, rfl, hz⟩, k8⟩
    obtain rfl : z = true := hz.2 (by first | rfl | trivial)
    have KW8 := KW7.trans k8 (fun _ h _ => h)
    clear hc hz y1 y2 z1 z2 B7 B8 KW7 k8 I7 I8
    have hg := get_any w8 (HM.out.keeps KW8) cb HNB.out (HB.out.keeps KW8 (fun _ _ h => h)) (by rw [HNB.out]; omega)
    try dsimp only
    repeat (first | rw [if_neg Bool.false_ne_true] | go_values | go_skip | go_guarded | go_step | go_upon | go_back)
    refine hg.mono ?_
    rintro e w9 ⟨k9, hq⟩
    have KW9 := KW8.trans k9 (fun _ h _ => h)
    clear hg KW8 k9
    rcases hq with ⟨s2, c9, hm2, he2, rfl, i9⟩ | ⟨-, ev, rfl, hE⟩
    ·have ag := agg_ok i9.len i9.one
     obtain ⟨C9, hC9⟩ : ∃ C, C = c9.toArray := ⟨_, rfl⟩
     have hsC9 : C9.size = 3 := by rw [hC9]; simpa using i9.len
     rw [← hC9] at ag ⊢
     have G9 := shut hC9
     clear hC9
     have kb : Keeps Nothing w9 (w9.alloc (.cells C9 32)) := (Keeps.refl Nothing w9).alloc _
     have KW10 := KW9.trans kb (fun _ h _ => h)
     have B10 := blk_new w9 C9 32
     have I10 := shut (i9.keeps kb (fun _ _ h => h) (fun _ h => h) : SigIs (fun b => b < w9.heap.size) (w9.alloc (.cells C9 32)) s2 c9)
     have h90 : Shut (∀ b, b < w9.heap.size → b < (w9.alloc (.cells C9 32)).heap.size) := shut (fun b hb => Nat.lt_of_lt_of_le hb kb.size)
     have HM2 := shut hm2
     have HE2 := shut he2
     clear hm2 he2 i9 KW9
     try dsimp only
     go_upto_region 11 with (rw [if_neg Bool.false_ne_true])
     clear ag kb
     generalize w9.alloc (.cells C9 32) = w10 at *
     generalize w9.heap.size = g10 at *
     obtain ⟨y1, y2⟩ := tblk_mid B10 hsC9
     have hp := put_any s2 w10 (HM.out.keeps KW10) c9 h90.out I10.out
     rw [← G9.out] at hp
     try dsimp only
     repeat (first | rw [if_neg Bool.false_ne_true] | go_values | go_skip | go_guarded | go_step | go_upon | go_back)
     refine hp.mono ?_
     rintro e w11 ⟨k11, hq⟩
     have KW11 := KW10.trans k11 (fun _ h _ => h)
     clear hp y1 y2 B10 KW10 k11 I10 h90
     have hq2 : ∃ ax cx, e = .returned (.tuple #[.slice ax nb cx, .nilIface]) ∧ Own8 w11 5 ax cx bs := by
      rcases hq with ⟨-, ax, cx, h1, h2, -⟩ | ⟨hn, -⟩
      ·rw [HE2.out] at h1 h2
       rw [HNB.out] at h1
       exact ⟨ax, cx, h1, h2⟩
      ·exact absurd HM2.out hn
     obtain ⟨ay, cy, rfl, hO⟩ := hq2
     have HO := shut hO
     clear hq hO HE2 HM2
     have hct := told12_any w11 (HM.out.keeps KW11)
     try dsimp only
     repeat (first | rw [if_neg Bool.false_ne_true] | go_values | go_skip | go_guarded | go_step | go_upon | go_back)
     refine hct.mono ?_
     rintro e w12 ⟨rfl, k12⟩
     have KW12 := KW11.trans k12 (fun _ h _ => h)
     have hv1 := run_str w12 cy bs (l := nb) HNB.out (own8_at (k12.own HO.out (fun _ _ h => h)))
     have hv2 := run_str w12 cb bs (l := nb) HNB.out (HB.out.keeps KW12 (fun _ _ h => h))
     have hbb : (bs == bs) = true := beq_self_eq_true _
     clear hct k12 KW11
     try dsimp only
     repeat (first | rw [if_neg Bool.false_ne_true] | go_values | go_skip | go_guarded | go_step | go_upon | go_back)
     go_ret
     exact ⟨rfl, KW12⟩
    ·rcases hE with ⟨-, h0, -⟩ | ⟨eb, -, -, rfl, -⟩
     ·exact absurd h0 (by decide)
     have agz : aggOk 3 (.agg #[.string ⟨#[]⟩, .slice none 0 0, .slice none 0 0]) = true := by simp [aggOk, Value.oneCell']
     have KW10 := KW9.alloc (.cells #[.string ⟨#[]⟩, .slice none 0 0, .slice none 0 0] 32)
     have hct := told12_any (w9.alloc (.cells #[.string ⟨#[]⟩, .slice none 0 0, .slice none 0 0] 32)) (HM.out.keeps KW10)
     have KT := KW10
     try dsimp only
     repeat (first | rw [if_neg Bool.false_ne_true] | go_values | go_skip | go_guarded | go_step | go_upon | go_back)
     refine hct.mono ?_
     rintro e wt ⟨rfl, kt⟩
     have KF := KT.trans kt (fun _ h _ => h)
     clear hct
     try dsimp only
     repeat (first | rw [if_neg Bool.false_ne_true] | go_values | go_skip | go_guarded | go_step | go_upon | go_back)
     go_ret
     exact ⟨rfl, KF⟩
set_option maxRecDepth 100000 in
theorem lifted (os : Os) (started : os.Started) (H : Type) (enc : TypeId × Value → H) (F : Stop.Interp) :
  ReturnsInHanded {} Tryz.checked os 4 .any ((Rows.OpenSpec.upto Rows.sigBackSpec).pre6 enc Tryz.prog Tryz.f4 Rows.sigBackUptoRow.domain false) (((Rows.OpenSpec.upto Rows.sigBackSpec).at F).post enc Tryz.prog Tryz.f4 false true false false) := by
 refine cond_shaped (C := Tryz.checked) (s := Rows.OpenSpec.upto Rows.sigBackSpec) (k := Rows.uptoSmall) rfl own started (by kernel_rfl) Tryz.func4
  (OpenSpec.witness (enc := enc) (C := Tryz.checked) (s := Rows.OpenSpec.upto Rows.sigBackSpec) (k := Rows.uptoSmall) rfl false ⟨#[], #[.agg #[.slice none 0 0, .slice none 0 0], .slice none 0 0], []⟩ 8 (by kernel_rfl) (by kernel_rfl) (by kernel_rfl)
   (x := ([.agg [.nil, .nil], .nil], [], [])) (by kernel_rfl) rfl (by kernel_rfl)) ?_
 intro W base args ds gs before hval0 hW hkk hsh
 have hmax := max_of_shaped hsh
 have hval : ∀ (j : Nat) t v, Tryz.f4.params[j]? = some t → args[j]? = some v → Value.okWide Tryz.prog W .any base t v := hval0
 have hW' := hW
 obtain ⟨p, q, hA0, hV, rfl, hfz, hnd⟩ := hW
 have hA : DataW.TrodAll enc Tryz.prog W 0 (fun _ => true) true Tryz.f4.params.toList args.toList ds p := hA0
 rw [Tryz.params4] at hA hval
 obtain ⟨v0, vs0, d0, ds0, p0, q0, hargs, rfl, rfl, h0, r0⟩ := trodAll_cons hA
 obtain ⟨v1, vs1, d1, ds1, p1, q1, rfl, rfl, rfl, h1, r1⟩ := trodAll_cons r0
 obtain ⟨rfl, rfl, rfl⟩ := trodAll_nil r1
 obtain rfl : args = #[v0, v1] := by cases args; simp_all
 obtain ⟨rfl, rfl⟩ := trodVars_none hV
 have hbulk : Rows.uptoBulkAll ([d0, d1] ++ []) ≤ 1048576 := of_decide_eq_true hkk
 simp only [List.append_nil, Rows.uptoBulkAll] at hbulk
 have k0 := h0
 have lt0 : ∀ x ∈ p0, x.block < W.heap.size := by obtain ⟨m, hm⟩ := k0; exact DataW.trod_lt m _ _ _ hm
 have k1 := h1
 have lt1 : ∀ x ∈ p1, x.block < W.heap.size := by obtain ⟨m, hm⟩ := k1; exact DataW.trod_lt m _ _ _ hm
 obtain ⟨cs0, rfl, hsz0⟩ := okWide_struct Tryz.underlying26 (hval 0 26 v0 rfl rfl)
 obtain ⟨fuel0, hf0⟩ := h0
 obtain ⟨x0, hx0⟩ := trod_Cr fuel0 _ _ hf0 (by unfold bigN; simp only; omega)
 obtain ⟨ao1, len1, cap1, rfl⟩ := okWide_slice Tryz.underlying22 (hval 1 22 v1 rfl rfl)
 obtain ⟨fuel1, hf1⟩ := h1
 obtain ⟨bs1, hn1, hB1, hlc1, hcm1⟩ := open_bytes rfl hf1
 clear hA0 hval0
 have hcall := walk x0 bs1 len1 hn1 ao1 cap1 W hmax _ (fun _ h => h) hx0 hB1
 have e0 : (Value.agg cs0).cells.toList.toArray = cs0 := rfl
 rw [e0] at hcall
 refine hcall.mono fun e W' ⟨he, hk⟩ => ?_
 subst he
 have bel : Below W.heap.size W W' := hk.below (Nat.le_refl _) (fun _ h => h.elim)
 exact ⟨_, rfl, _, _, _, [], _, [], hW', trodAll_mk1 (shut_bool Tryz.underlying4 _), (trodAll_cons_mk (Below.trod laidOut (by kernel_rfl) (of_decide_eq_true (by kernel_rfl)) k0 bel lt0) (trodAll_cons_mk (Below.trod laidOut (by kernel_rfl) (of_decide_eq_true (by kernel_rfl)) k1 bel lt1) trodAll_mk0)), rfl, bel.frame _, fun h => by cases h⟩
theorem over : Rows.sigBackUptoRow.holds Tryz.pinned (Rows.OpenSpec.upto Rows.sigBackSpec) :=
 OpenClaim.holds_of_cond 4 Tryz.f4 rfl rfl rfl rfl rfl rfl rfl ⟨rfl, rfl, rfl, rfl, rfl⟩ rfl rfl rfl rfl rfl (by kernel_rfl) Tryz.func4 (by kernel_rfl)
  (of_decide_eq_true (by kernel_rfl)) (by unfold Func.isWrapper; first | (rw [if_pos (by decide +kernel)]; kernel_rfl) | (rw [if_neg (by decide +kernel)]; exact ⟨rfl, rfl⟩))
  (fun os started H enc _ F => lifted os started H enc F)
theorem proved : Rows.SigBackUptoSaid := over
#print axioms proved
end Go.Proofs.YtjbcagbnagefcaaGreat.sigBack
