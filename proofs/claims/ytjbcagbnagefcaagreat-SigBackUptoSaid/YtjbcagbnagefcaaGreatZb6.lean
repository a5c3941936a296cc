/- Tree17 TrA Tree19 -/
import Derived.Test.YtjbcagbnagefcaaGreatZb4
import Derived.Test.YtjbcagbnagefcaaGreatZb5
import Derived.Test.YtjbcagbnagefcaaGreatZb2
import Derived.Test.YtjbcagbnagefcaaGreatZb1
namespace Go.Proofs.YtjbcagbnagefcaaGreat
open Go.RowKit
attribute [local go_sem ↓] exec_mid_ty exec_store_ty exec_mid_pl exec_store_pl exec_mid_opr exec_store_opr exec_mid_val exec_store_val exec_mid_st exec_store_st exec_mid_fld exec_store_fld exec_mid_str exec_store_str exec_mid_lif exec_store_lif exec_mid_fun exec_store_fun exec_mid_cr exec_store_cr
attribute [local go_sem] rowOk_new World.setRow_alloc_new
attribute [local go_sem ↓] exec_into_pl exec_into_opr exec_into_ty exec_into_val build_valS build_st
def zeroSt : StD := .mk 0 0 false [] zeroTy false zeroPl zeroVal zeroOpr [] []
def stC : List Value := [.int .i64 0, .int .i64 0, .bool false, .string ⟨#[]⟩] ++ tyC ++ [.bool false] ++ plC ++ valC ++ oprC ++ [.slice none 0 0, .slice none 0 0]
theorem zeroSt_is (S : Nat → Prop) (w : World) : StIs S w zeroSt stC := by
 rw [stIs_iff]
 exact ⟨tyC, plC, valC, oprC, none, 0, none, 0, rfl, Nat.zero_le _, zeroTy_is S w, zeroPl_is S w, zeroVal_is S w, zeroOpr_is S w, slIs_nil _ _ _ _ _, slIs_nil _ _ _ _ _⟩
mutual
def StP : StD → Int → Prop
 | .mk x_kind x_pos x_mu x_name x_ty x_has x_place x_val x_cond x_thn x_els, d => (x_kind = 1 ∧ isName x_name = true ∧ TyP x_ty 1 ∧ VldP (.mk x_kind x_pos x_mu x_name x_ty x_has x_place x_val x_cond x_thn x_els) ∧ optD (.mk x_kind x_pos x_mu x_name x_ty x_has x_place x_val x_cond x_thn x_els) (.mk 0 0 false [] zeroTy x_has x_place x_val x_cond x_thn x_els) = zeroSt) ∨ (x_kind = 2 ∧ PlP x_place ∧ ValP x_val ∧ optD (.mk x_kind x_pos x_mu x_name x_ty x_has x_place x_val x_cond x_thn x_els) (.mk 0 0 x_mu x_name x_ty x_has zeroPl zeroVal x_cond x_thn x_els) = zeroSt) ∨ (x_kind = 3 ∧ x_val.kind = 6 ∧ ValP x_val ∧ optD (.mk x_kind x_pos x_mu x_name x_ty x_has x_place x_val x_cond x_thn x_els) (.mk 0 0 x_mu x_name x_ty x_has x_place zeroVal x_cond x_thn x_els) = zeroSt) ∨ (x_kind = 4 ∧ (x_has = true → (d + 1 ≤ 64 ∧ BlsP x_els (d + 1))) ∧ OprP x_cond ∧ (d + 1 ≤ 64 ∧ BlsP x_thn (d + 1)) ∧ optD (.mk x_kind x_pos x_mu x_name x_ty x_has x_place x_val x_cond x_thn x_els) (.mk 0 0 x_mu x_name x_ty x_has x_place x_val zeroOpr [] x_els) = zeroSt) ∨ (x_kind = 5 ∧ OprP x_cond ∧ (d + 1 ≤ 64 ∧ BlsP x_thn (d + 1)) ∧ optD (.mk x_kind x_pos x_mu x_name x_ty x_has x_place x_val x_cond x_thn x_els) (.mk 0 0 x_mu x_name x_ty x_has x_place x_val zeroOpr [] x_els) = zeroSt) ∨ ((x_kind = 6 ∨ x_kind = 7) ∧ (d + 1 ≤ 64 ∧ BlsP x_thn (d + 1)) ∧ optD (.mk x_kind x_pos x_mu x_name x_ty x_has x_place x_val x_cond x_thn x_els) (.mk 0 0 x_mu x_name x_ty x_has x_place x_val x_cond [] x_els) = zeroSt) ∨ ((x_kind = 8 ∨ x_kind = 9) ∧ optD (.mk x_kind x_pos x_mu x_name x_ty x_has x_place x_val x_cond x_thn x_els) (.mk 0 0 x_mu x_name x_ty x_has x_place x_val x_cond x_thn x_els) = zeroSt) ∨ (x_kind = 10 ∧ VldP (.mk x_kind x_pos x_mu x_name x_ty x_has x_place x_val x_cond x_thn x_els) ∧ optD (.mk x_kind x_pos x_mu x_name x_ty x_has x_place x_val x_cond x_thn x_els) (.mk 0 0 x_mu x_name x_ty x_has x_place x_val x_cond x_thn x_els) = zeroSt) ∨ (x_kind = 11 ∧ PlP x_place ∧ optD (.mk x_kind x_pos x_mu x_name x_ty x_has x_place x_val x_cond x_thn x_els) (.mk 0 0 x_mu x_name x_ty x_has zeroPl x_val x_cond x_thn x_els) = zeroSt)
def BlsP : List StD → Int → Prop
 | [], _ => True
 | s :: r, d => StP s d ∧ BlsP r d
end
def BlP (l : List StD) (d : Int) : Prop := d ≤ 64 ∧ BlsP l d
theorem blsP_iff : ∀ (l : List StD) (d : Int), BlsP l d ↔ ∀ e ∈ l, StP e d
 | [], d => by unfold BlsP; simp
 | s :: r, d => by unfold BlsP; rw [blsP_iff r d]; simp
theorem blP_iff (l : List StD) (d : Int) : BlP l d ↔ d ≤ 64 ∧ ∀ e ∈ l, StP e d := by unfold BlP; rw [blsP_iff]
def StmtC (S : Nat → Prop) (a : StD) : Prop := ∀ (w : World) (cs : List Value) (d : Int), MaxV w → 0 ≤ d → d ≤ 64 → StIs S w a cs → Calls Tryz.prog 122 #[.agg cs.toArray, .int .i64 d] w (Tells w (StP a d))
set_option maxRecDepth 100000 in
set_option maxHeartbeats 4000000 in
theorem block_of {S : Nat → Prop} (l : List StD) (H : ∀ e ∈ l, StmtC S e) (w : World) (hM : MaxV w) (d : Int) (hd0 : 0 ≤ d) (hd1 : d ≤ 1000) {ao : Option Addr} (c : Nat) (h : SlIs S w 32 (StIs S w) ao l) : Calls Tryz.prog 113 #[.slice ao l.length c, .int .i64 d] w (Tells w (BlP l d)) := by
 have hl := h.1
 unfold bigN at hl
 have HX := shut h
 have HM := shut hM
 have HH := shut H
 have HP := shut (blP_iff l d)
 clear h hM H
 obtain ⟨X, hX⟩ : ∃ X, X = BlP l d := ⟨_, rfl⟩
 rw [← hX] at HP ⊢
 clear hX
 obtain ⟨n, hn⟩ : ∃ n, l.length = n := ⟨_, rfl⟩
 rw [hn] at hl ⊢
 have HN := shut hn
 clear hn
 go_enter Tryz.func113, Tryz.ntmps113
 by_cases hdeep : d ≤ 64
 rotate_left
 ·have m1 : 64 < d := by omega
  have hno : Shut (¬ X) := shut (fun h => hdeep (HP.out.1 h).1)
  clear HP
  go_wp2_with fail
  go_ret
  exact tells_f hno.out (Keeps.refl _ _)
 have m1 : ¬ 64 < d := by omega
 go_wp2_with fail
 clear m1
 go_loopw [4, 6, 11] (fun s4 s6 s11 wx => ∃ t : Nat, s11 = .int .i64 t ∧ t ≤ n ∧ Keeps Nothing w wx ∧ Shut (∀ f ∈ l.take t, StP f d)) (fun _ _ s11 _ => n - (intOf s11).toNat)
 case atStart => exact ⟨0, rfl, Nat.zero_le _, Keeps.refl _ _, shut (by simp)⟩
 case round =>
  obtain ⟨t, rfl, ht, KL, HT⟩ := hrel
  by_cases hlt : t < n
  ·obtain ⟨a, ha⟩ : ∃ a, l[t]? = some a := ⟨_, List.getElem?_eq_getElem (by rw [HN.out]; exact hlt)⟩
   obtain ⟨g1, o1, rfl, -, cs, l1, r1, hi⟩ := (HX.out.keeps KL (fun _ _ h => h) (fun _ h => h) (fun _ _ _ h => h.keeps KL (fun _ _ h => h) (fun _ h => h))).get ha
   have HA := shut ha
   clear ha
   have m0 : (0 : Int) ≤ t := by omega
   have m1 : (t : Int) < n := by omega
   have ag1 := agg_ok l1 hi.one
   obtain ⟨CA, hCA⟩ : ∃ C, C = cs.toArray := ⟨_, rfl⟩
   obtain ⟨hk, ho⟩ := sub_of r1 l1
   have hsz : CA.size = 32 := by rw [hCA]; simpa using l1
   rw [← hCA] at ag1 ho
   have HCA := shut hCA
   clear hCA r1 l1
   go_upto_region 6 with fail
   have ka : Keeps Nothing wr (wr.alloc (.cells CA 121)) := (Keeps.refl Nothing wr).alloc _
   have BA := blk_new wr CA 121
   have KW := KL.trans ka (fun _ h _ => h)
   have hi := hi.keeps ka (fun _ _ h => h) (fun _ h => h)
   clear hk ho ag1 ka
   generalize wr.heap.size = ga at *
   generalize wr.alloc (.cells CA 121) = wb at *
   have hc := HH.out a (List.mem_of_getElem? HA.out) wb cs d (HM.out.keeps KW) hd0 hdeep hi
   rw [← HCA.out] at hc
   obtain ⟨y1, y2⟩ := tblk_mid BA hsz
   clear hi
   go_wp2_with fail
   refine hc.mono ?_
   rintro e w1 ⟨⟨z, rfl, hz⟩, k1⟩
   have KW := KW.trans k1 (fun _ h _ => h)
   clear hc y1 y2 BA k1
   cases z with
   | true =>
    have HT2 := shut (all_take HA.out HT.out (hz.1 rfl))
    clear hz
    go_wp2_with fail
    go_roundw
    case rel => exact ⟨t + 1, by go_num, by omega, KW, HT2⟩
    case measure => simp [intOf]; omega
   | false =>
    have hno : Shut (¬ X) := shut (fun h => by have h2 := hz.2 ((HP.out.1 h).2 a (List.mem_of_getElem? HA.out)); cases h2)
    clear hz HP
    go_wp2_with fail
    go_ret
    exact tells_f hno.out KW
  ·obtain rfl : t = n := by omega
   have m1 : ¬ (t : Int) < t := by omega
   have hyes : Shut X := shut (HP.out.2 ⟨hdeep, all_of_take HN.out HT.out⟩)
   clear HP
   go_wp2_with fail
   go_ret
   exact tells_t hyes.out KL
theorem val_kind_cell {w w0 : World} {S : Nat → Prop} {g : Nat} {v : ValD} {s : List Value} (h1 : midOk w g 11 15 = true) (h2 : midOf w g 11 15 = s.toArray) (hv : ValIs S w0 v s) : w.cell? ⟨g, 11, none⟩ = some (.int .i64 v.kind) := by
 obtain ⟨s1, s5, s10, p13, q13, p14, q14, rfl, -⟩ := hv
 have h := range_midOk h1
 rw [h2] at h
 exact h 0 _ rfl
end Go.Proofs.YtjbcagbnagefcaaGreat
namespace Go.Proofs.YtjbcagbnagefcaaGreat
open Go.RowKit
attribute [local go_sem ↓] exec_mid_ty exec_store_ty exec_mid_pl exec_store_pl exec_mid_opr exec_store_opr exec_mid_val exec_store_val exec_mid_st exec_store_st exec_mid_fld exec_store_fld exec_mid_str exec_store_str exec_mid_lif exec_store_lif exec_mid_fun exec_store_fun exec_mid_cr exec_store_cr
attribute [local go_sem] rowOk_new World.setRow_alloc_new
attribute [local go_sem ↓] exec_into_pl exec_into_opr exec_into_ty exec_into_val build_valS build_st
set_option maxRecDepth 100000 in
set_option linter.unusedSimpArgs false in
set_option maxHeartbeats 16000000 in
theorem stmt_k1 {S : Nat → Prop} {a_pos : Int} {a_mu : Bool} {a_name : List UInt8} {a_ty : TyD} {a_has : Bool} {a_place : PlD} {a_val : ValD} {a_cond : OprD} {a_thn a_els : List StD}  : StmtC S (.mk 1 a_pos a_mu a_name a_ty a_has a_place a_val a_cond a_thn a_els) := by
 intro w cs d hM hd0 hd1 ha
 have HV0 := shut ha
 have HM := shut hM
 clear hM
 have wd : IntKind.i64.wrap (d + 1) = d + 1 := by rw [IntKind.wrap_i64]; omega
 have HQ : Shut (StP (.mk 1 a_pos a_mu a_name a_ty a_has a_place a_val a_cond a_thn a_els) d ↔ isName a_name = true ∧ TyP a_ty 1 ∧ VldP (.mk 1 a_pos a_mu a_name a_ty a_has a_place a_val a_cond a_thn a_els) ∧ optD (.mk 1 a_pos a_mu a_name a_ty a_has a_place a_val a_cond a_thn a_els) (.mk 0 0 false [] zeroTy a_has a_place a_val a_cond a_thn a_els) = zeroSt) := shut (by unfold StP; simp)
 obtain ⟨X, hX⟩ : ∃ X, X = StP (.mk 1 a_pos a_mu a_name a_ty a_has a_place a_val a_cond a_thn a_els) d := ⟨_, rfl⟩
 rw [← hX] at HQ ⊢
 clear hX
 have ag1 := agg_ok ha.len ha.one
 rw [stIs_iff] at ha
 obtain ⟨s4, s9, s11, s26, p30, q30, p31, q31, hcs, ah_name, ah_ty, ah_place, ah_val, ah_cond, ah_thn, ah_els⟩ := ha
 have HCA := shut hcs
 clear hcs
 simp only [StD.kind, StD.pos, StD.mu, StD.name, StD.ty, StD.has, StD.place, StD.val, StD.cond, StD.thn, StD.els] at ah_name ah_ty ah_place ah_val ah_cond ah_thn ah_els HCA
 obtain ⟨CA, hCA⟩ : ∃ C, C = cs.toArray := ⟨_, rfl⟩
 rw [← hCA] at ag1 ⊢
 have HCS := shut hCA
 rw [HCA.out] at hCA
 have GCA := shut hCA
 clear hCA HCA
 have al_ty := ah_ty.len
 have al_place := ah_place.len
 have al_val := ah_val.len
 have al_cond := ah_cond.len
 have KW : Keeps Nothing w (w.alloc (.cells CA 121)) := (Keeps.refl Nothing w).alloc _
 have BA := blk_new w CA 121
 go_enter Tryz.func122, Tryz.ntmps122
 go_upto_region 1 with fail
 generalize w.heap.size = ga at *
 generalize w.alloc (.cells CA 121) = wb at *
 have hsz : CA.size = 32 := by rw [HCS.out]; simpa using HV0.out.len
 obtain ⟨y1, y2⟩ := tblk_mid BA hsz
 go_upto_region 3 with fail
 have ZB := StB2.new KW BA HCS.out HV0.out
 clear y1 y2 ag1 hsz
 have BA := blk_alloc BA (.cells CA 121)
 have KW := KW.alloc (.cells CA 121)
 have hgz : ga ≠ wb.heap.size := ZB.2.2.1
 generalize wb.heap.size = gz at *
 generalize wb.alloc (.cells CA 121) = wc at *
 obtain ⟨ae0, -, -, -, -, -, -, -, -, -, -⟩ := StB al_ty al_place al_val al_cond GCA.out BA
 have hcn := lname_any wc a_name (by unfold bigN at ah_name; omega)
 obtain ⟨z101, hz101⟩ : ∃ z, isName a_name = z := ⟨_, rfl⟩
 rw [hz101] at hcn
 obtain ⟨-, -, -, ae3, -, -, -, -, -, -, -⟩ := StB al_ty al_place al_val al_cond GCA.out BA
 unfold txV at *
 try dsimp only
 repeat (first | go_values | go_skip | go_guarded | go_step | go_upon | go_back)
 refine hcn.mono ?_
 rintro e w101 ⟨rfl, rfl⟩
 clear hcn ae3
 try dsimp only
 cases z101 with
 | false =>
  obtain ⟨u20, hu20⟩ := ZB.cell 2 (by omega)
  have hr20 := ZB.free 2
  have ZB1 := ZB.set_mu false
  obtain ⟨u30, hu30⟩ := ZB.cell 3 (by omega)
  have hr30 := ZB.free 3
  obtain ⟨u31, hu31⟩ := ZB1.cell 3 (by omega)
  have hr31 := ZB1.free 3
  have ZB2 := ZB1.set_name
  have hf40 := ZB.fit 4 4 (by omega)
  have hf41 := ZB2.fit 4 4 (by omega)
  have hg4 : aggOk 4 (.agg #[.int .i64 0, .string ⟨#[]⟩, .slice none 0 0, .slice none 0 0]) = true := agg_ok (zeroTy_is S w).len (zeroTy_is S w).one
  have ZB3 := ZB2.set_ty
  go_upto_region 29 with fail
  any_goals try (rename_i hfz; simp [hr20, hr30, hr31] at hfz; done)
  clear hu20 hr20 hu30 hr30 hu31 hr31 hf40 hf41 hg4
  clear ZB1 ZB2
  have ZB := ZB3
  clear ZB3
  have KW := ZB.1
  have BA := ZB.2.2.2.1
  generalize midSet (World.setCell (World.setCell (w101) ⟨gz, 2, none⟩ (.bool false)) ⟨gz, 3, none⟩ (.string ⟨#[]⟩)) gz 4 #[.int .i64 0, .string ⟨#[]⟩, .slice none 0 0, .slice none 0 0] = w102 at *
  obtain ⟨u00, hu00⟩ := ZB.cell 0 (by omega)
  have hr00 := ZB.free 0
  have ZB1 := ZB.set_kind 0
  obtain ⟨u10, hu10⟩ := ZB.cell 1 (by omega)
  have hr10 := ZB.free 1
  obtain ⟨u11, hu11⟩ := ZB1.cell 1 (by omega)
  have hr11 := ZB1.free 1
  have ZB2 := ZB1.set_pos 0
  go_upto_region 30 with fail
  any_goals try (rename_i hfz; simp [hr00, hr10, hr11] at hfz; done)
  clear hu00 hr00 hu10 hr10 hu11 hr11
  clear ZB1
  have ZB := ZB2
  clear ZB2
  have KW := ZB.1
  have BA := ZB.2.2.2.1
  generalize World.setCell (World.setCell (w102) ⟨gz, 0, none⟩ (.int .i64 0)) ⟨gz, 1, none⟩ (.int .i64 0) = w103 at *
  have hno : Shut (¬ X) := shut (fun h => by have h2 := (HQ.out.1 h).1; rw [hz101] at h2; cases h2)
  clear HQ
  have KW := ZB.1
  clear ZB BA
  repeat (first | go_values | go_skip | go_guarded | go_step | go_upon | go_back)
  go_ret
  exact tells_f hno.out KW
 | true =>
  obtain ⟨-, -, -, -, ⟨ae4, af4⟩, -, -, -, -, -, -⟩ := StB al_ty al_place al_val al_cond GCA.out BA
  have hc := kind_any a_ty w101 s4 1 (HM.out.keeps KW) (by omega) (by omega) (ah_ty.keeps KW (fun _ _ h => h) (fun _ h => h))
  try dsimp only
  repeat (first | go_values | go_skip | go_guarded | go_step | go_upon | go_back)
  refine hc.mono ?_
  rintro e w104 ⟨⟨z104, rfl, hz104⟩, k104⟩
  have KW := KW.trans k104 (fun _ h _ => h)
  have BA := k104.blk BA (fun h => h)
  have ZB := ZB.keeps k104
  clear hc k104 ae4 af4
  try dsimp only
  cases z104 with
  | false =>
   obtain ⟨u20, hu20⟩ := ZB.cell 2 (by omega)
   have hr20 := ZB.free 2
   have ZB1 := ZB.set_mu false
   obtain ⟨u30, hu30⟩ := ZB.cell 3 (by omega)
   have hr30 := ZB.free 3
   obtain ⟨u31, hu31⟩ := ZB1.cell 3 (by omega)
   have hr31 := ZB1.free 3
   have ZB2 := ZB1.set_name
   have hf40 := ZB.fit 4 4 (by omega)
   have hf41 := ZB2.fit 4 4 (by omega)
   have hg4 : aggOk 4 (.agg #[.int .i64 0, .string ⟨#[]⟩, .slice none 0 0, .slice none 0 0]) = true := agg_ok (zeroTy_is S w).len (zeroTy_is S w).one
   have ZB3 := ZB2.set_ty
   go_upto_region 29 with fail
   any_goals try (rename_i hfz; simp [hr20, hr30, hr31] at hfz; done)
   clear hu20 hr20 hu30 hr30 hu31 hr31 hf40 hf41 hg4
   clear ZB1 ZB2
   have ZB := ZB3
   clear ZB3
   have KW := ZB.1
   have BA := ZB.2.2.2.1
   generalize midSet (World.setCell (World.setCell (w104) ⟨gz, 2, none⟩ (.bool false)) ⟨gz, 3, none⟩ (.string ⟨#[]⟩)) gz 4 #[.int .i64 0, .string ⟨#[]⟩, .slice none 0 0, .slice none 0 0] = w105 at *
   obtain ⟨u00, hu00⟩ := ZB.cell 0 (by omega)
   have hr00 := ZB.free 0
   have ZB1 := ZB.set_kind 0
   obtain ⟨u10, hu10⟩ := ZB.cell 1 (by omega)
   have hr10 := ZB.free 1
   obtain ⟨u11, hu11⟩ := ZB1.cell 1 (by omega)
   have hr11 := ZB1.free 1
   have ZB2 := ZB1.set_pos 0
   go_upto_region 30 with fail
   any_goals try (rename_i hfz; simp [hr00, hr10, hr11] at hfz; done)
   clear hu00 hr00 hu10 hr10 hu11 hr11
   clear ZB1
   have ZB := ZB2
   clear ZB2
   have KW := ZB.1
   have BA := ZB.2.2.2.1
   generalize World.setCell (World.setCell (w105) ⟨gz, 0, none⟩ (.int .i64 0)) ⟨gz, 1, none⟩ (.int .i64 0) = w106 at *
   have hno : Shut (¬ X) := shut (fun h => by have h2 := hz104.2 (HQ.out.1 h).2.1; cases h2)
   clear HQ
   have KW := ZB.1
   clear ZB BA
   repeat (first | go_values | go_skip | go_guarded | go_step | go_upon | go_back)
   go_ret
   exact tells_f hno.out KW
  | true =>
   have hcv := valued_any (.mk 1 a_pos a_mu a_name a_ty a_has a_place a_val a_cond a_thn a_els) w104 (HM.out.keeps KW) cs (HV0.out.keeps KW (fun _ _ h => h) (fun _ h => h))
   rw [← HCS.out] at hcv
   obtain ⟨y1, y2⟩ := tblk_mid BA (show CA.size = 32 by rw [HCS.out]; simpa using HV0.out.len)
   have hc := hcv
   try dsimp only
   repeat (first | go_values | go_skip | go_guarded | go_step | go_upon | go_back)
   refine hc.mono ?_
   rintro e w107 ⟨⟨z107, rfl, hz107⟩, k107⟩
   have KW := KW.trans k107 (fun _ h _ => h)
   have BA := k107.blk BA (fun h => h)
   have ZB := ZB.keeps k107
   clear hc k107 y1 y2
   try dsimp only
   clear hcv
   cases z107 with
   | false =>
    obtain ⟨u20, hu20⟩ := ZB.cell 2 (by omega)
    have hr20 := ZB.free 2
    have ZB1 := ZB.set_mu false
    obtain ⟨u30, hu30⟩ := ZB.cell 3 (by omega)
    have hr30 := ZB.free 3
    obtain ⟨u31, hu31⟩ := ZB1.cell 3 (by omega)
    have hr31 := ZB1.free 3
    have ZB2 := ZB1.set_name
    have hf40 := ZB.fit 4 4 (by omega)
    have hf41 := ZB2.fit 4 4 (by omega)
    have hg4 : aggOk 4 (.agg #[.int .i64 0, .string ⟨#[]⟩, .slice none 0 0, .slice none 0 0]) = true := agg_ok (zeroTy_is S w).len (zeroTy_is S w).one
    have ZB3 := ZB2.set_ty
    go_upto_region 29 with fail
    any_goals try (rename_i hfz; simp [hr20, hr30, hr31] at hfz; done)
    clear hu20 hr20 hu30 hr30 hu31 hr31 hf40 hf41 hg4
    clear ZB1 ZB2
    have ZB := ZB3
    clear ZB3
    have KW := ZB.1
    have BA := ZB.2.2.2.1
    generalize midSet (World.setCell (World.setCell (w107) ⟨gz, 2, none⟩ (.bool false)) ⟨gz, 3, none⟩ (.string ⟨#[]⟩)) gz 4 #[.int .i64 0, .string ⟨#[]⟩, .slice none 0 0, .slice none 0 0] = w108 at *
    obtain ⟨u00, hu00⟩ := ZB.cell 0 (by omega)
    have hr00 := ZB.free 0
    have ZB1 := ZB.set_kind 0
    obtain ⟨u10, hu10⟩ := ZB.cell 1 (by omega)
    have hr10 := ZB.free 1
    obtain ⟨u11, hu11⟩ := ZB1.cell 1 (by omega)
    have hr11 := ZB1.free 1
    have ZB2 := ZB1.set_pos 0
    go_upto_region 30 with fail
    any_goals try (rename_i hfz; simp [hr00, hr10, hr11] at hfz; done)
    clear hu00 hr00 hu10 hr10 hu11 hr11
    clear ZB1
    have ZB := ZB2
    clear ZB2
    have KW := ZB.1
    have BA := ZB.2.2.2.1
    generalize World.setCell (World.setCell (w108) ⟨gz, 0, none⟩ (.int .i64 0)) ⟨gz, 1, none⟩ (.int .i64 0) = w109 at *
    have hno : Shut (¬ X) := shut (fun h => by have h2 := hz107.2 (HQ.out.1 h).2.2.1; cases h2)
    clear HQ
    have KW := ZB.1
    clear ZB BA
    repeat (first | go_values | go_skip | go_guarded | go_step | go_upon | go_back)
    go_ret
    exact tells_f hno.out KW
   | true =>
    obtain ⟨u20, hu20⟩ := ZB.cell 2 (by omega)
    have hr20 := ZB.free 2
    have ZB1 := ZB.set_mu false
    obtain ⟨u30, hu30⟩ := ZB.cell 3 (by omega)
    have hr30 := ZB.free 3
    obtain ⟨u31, hu31⟩ := ZB1.cell 3 (by omega)
    have hr31 := ZB1.free 3
    have ZB2 := ZB1.set_name
    have hf40 := ZB.fit 4 4 (by omega)
    have hf41 := ZB2.fit 4 4 (by omega)
    have hg4 : aggOk 4 (.agg #[.int .i64 0, .string ⟨#[]⟩, .slice none 0 0, .slice none 0 0]) = true := agg_ok (zeroTy_is S w).len (zeroTy_is S w).one
    have ZB3 := ZB2.set_ty
    go_upto_region 29 with fail
    any_goals try (rename_i hfz; simp [hr20, hr30, hr31] at hfz; done)
    clear hu20 hr20 hu30 hr30 hu31 hr31 hf40 hf41 hg4
    clear ZB1 ZB2
    have ZB := ZB3
    clear ZB3
    have KW := ZB.1
    have BA := ZB.2.2.2.1
    generalize midSet (World.setCell (World.setCell (w107) ⟨gz, 2, none⟩ (.bool false)) ⟨gz, 3, none⟩ (.string ⟨#[]⟩)) gz 4 #[.int .i64 0, .string ⟨#[]⟩, .slice none 0 0, .slice none 0 0] = w110 at *
    obtain ⟨u00, hu00⟩ := ZB.cell 0 (by omega)
    have hr00 := ZB.free 0
    have ZB1 := ZB.set_kind 0
    obtain ⟨u10, hu10⟩ := ZB.cell 1 (by omega)
    have hr10 := ZB.free 1
    obtain ⟨u11, hu11⟩ := ZB1.cell 1 (by omega)
    have hr11 := ZB1.free 1
    have ZB2 := ZB1.set_pos 0
    go_upto_region 30 with fail
    any_goals try (rename_i hfz; simp [hr00, hr10, hr11] at hfz; done)
    clear hu00 hr00 hu10 hr10 hu11 hr11
    clear ZB1
    have ZB := ZB2
    clear ZB2
    have KW := ZB.1
    have BA := ZB.2.2.2.1
    generalize World.setCell (World.setCell (w110) ⟨gz, 0, none⟩ (.int .i64 0)) ⟨gz, 1, none⟩ (.int .i64 0) = w111 at *
    obtain ⟨K, hg, hn, BA2, cz, BZ, hvz⟩ := ZB
    have hszz : cz.toArray.size = 32 := by simpa using hvz.len
    have hsza : CA.size = 32 := by rw [HCS.out]; simpa using HV0.out.len
    obtain ⟨y1, y2⟩ := tblk_mid BZ hszz
    obtain ⟨y3, y4⟩ := tblk_mid BA hsza
    have hc0 := optional_any _ _ w111 cs cz (HV0.out.keeps K (fun _ _ h => h) (fun _ h => h)) (hvz.keeps K (fun _ _ h => h) (fun _ h => h))
    rw [← HCS.out] at hc0
    have hc := hc0
    clear hc0 hvz BA2 hg hn hszz hsza
    generalize cz.toArray = CZ at *
    try dsimp only
    repeat (first | go_values | go_skip | go_guarded | go_step | go_upon | go_back)
    refine hc.mono ?_
    rintro e w8 ⟨k8, es, rfl, hes⟩
    clear hc y1 y2 y3 y4
    have hc0 := sameStmt_any _ zeroSt w8 es stC hes (zeroSt_is S w8)
    have hc : Calls Tryz.prog 128 #[.agg es.toArray, .agg #[.int .i64 0, .int .i64 0, .bool false, .string ⟨#[]⟩, .int .i64 0, .string ⟨#[]⟩, .slice none 0 0, .slice none 0 0, .bool false, .string ⟨#[]⟩, .slice none 0 0, .int .i64 0, .int .i64 0, .int .i64 0, .string ⟨#[]⟩, .slice none 0 0, .int .i64 0, .int .i64 0, .string ⟨#[]⟩, .slice none 0 0, .int .i64 0, .string ⟨#[]⟩, .slice none 0 0, .string ⟨#[]⟩, .slice none 0 0, .slice none 0 0, .int .i64 0, .int .i64 0, .string ⟨#[]⟩, .slice none 0 0, .slice none 0 0, .slice none 0 0]] w8 (Tells w8 _) := hc0
    clear hc0 hes
    generalize es.toArray = ES at *
    try dsimp only
    repeat (first | go_values | go_skip | go_guarded | go_step | go_upon | go_back)
    refine hc.mono ?_
    rintro e w9 ⟨⟨z, rfl, hz⟩, k9⟩
    have HZ : Shut (z = true ↔ X) := shut (by rw [hz, HQ.out]; exact ⟨fun h => ⟨hz101, hz104.1 rfl, hz107.1 rfl, h⟩, fun h => h.2.2.2⟩)
    clear hc hz HQ
    try dsimp only
    repeat (first | go_values | go_skip | go_guarded | go_step | go_upon | go_back)
    go_ret
    exact tells_z HZ.out ((K.trans k8 (fun _ h _ => h)).trans k9 (fun _ h _ => h))
end Go.Proofs.YtjbcagbnagefcaaGreat
namespace Go.Proofs.YtjbcagbnagefcaaGreat
open Go.RowKit
attribute [local go_sem ↓] exec_mid_ty exec_store_ty exec_mid_pl exec_store_pl exec_mid_opr exec_store_opr exec_mid_val exec_store_val exec_mid_st exec_store_st exec_mid_fld exec_store_fld exec_mid_str exec_store_str exec_mid_lif exec_store_lif exec_mid_fun exec_store_fun exec_mid_cr exec_store_cr
attribute [local go_sem] rowOk_new World.setRow_alloc_new
attribute [local go_sem ↓] exec_into_pl exec_into_opr exec_into_ty exec_into_val build_valS build_st
set_option maxRecDepth 100000 in
set_option linter.unusedSimpArgs false in
set_option maxHeartbeats 16000000 in
theorem stmt_k2 {S : Nat → Prop} {a_pos : Int} {a_mu : Bool} {a_name : List UInt8} {a_ty : TyD} {a_has : Bool} {a_place : PlD} {a_val : ValD} {a_cond : OprD} {a_thn a_els : List StD}  : StmtC S (.mk 2 a_pos a_mu a_name a_ty a_has a_place a_val a_cond a_thn a_els) := by
 intro w cs d hM hd0 hd1 ha
 have HV0 := shut ha
 have HM := shut hM
 clear hM
 have wd : IntKind.i64.wrap (d + 1) = d + 1 := by rw [IntKind.wrap_i64]; omega
 have HQ : Shut (StP (.mk 2 a_pos a_mu a_name a_ty a_has a_place a_val a_cond a_thn a_els) d ↔ PlP a_place ∧ ValP a_val ∧ optD (.mk 2 a_pos a_mu a_name a_ty a_has a_place a_val a_cond a_thn a_els) (.mk 0 0 a_mu a_name a_ty a_has zeroPl zeroVal a_cond a_thn a_els) = zeroSt) := shut (by unfold StP; simp)
 obtain ⟨X, hX⟩ : ∃ X, X = StP (.mk 2 a_pos a_mu a_name a_ty a_has a_place a_val a_cond a_thn a_els) d := ⟨_, rfl⟩
 rw [← hX] at HQ ⊢
 clear hX
 have ag1 := agg_ok ha.len ha.one
 rw [stIs_iff] at ha
 obtain ⟨s4, s9, s11, s26, p30, q30, p31, q31, hcs, ah_name, ah_ty, ah_place, ah_val, ah_cond, ah_thn, ah_els⟩ := ha
 have HCA := shut hcs
 clear hcs
 simp only [StD.kind, StD.pos, StD.mu, StD.name, StD.ty, StD.has, StD.place, StD.val, StD.cond, StD.thn, StD.els] at ah_name ah_ty ah_place ah_val ah_cond ah_thn ah_els HCA
 obtain ⟨CA, hCA⟩ : ∃ C, C = cs.toArray := ⟨_, rfl⟩
 rw [← hCA] at ag1 ⊢
 have HCS := shut hCA
 rw [HCA.out] at hCA
 have GCA := shut hCA
 clear hCA HCA
 have al_ty := ah_ty.len
 have al_place := ah_place.len
 have al_val := ah_val.len
 have al_cond := ah_cond.len
 have KW : Keeps Nothing w (w.alloc (.cells CA 121)) := (Keeps.refl Nothing w).alloc _
 have BA := blk_new w CA 121
 go_enter Tryz.func122, Tryz.ntmps122
 go_upto_region 1 with fail
 generalize w.heap.size = ga at *
 generalize w.alloc (.cells CA 121) = wb at *
 have hsz : CA.size = 32 := by rw [HCS.out]; simpa using HV0.out.len
 obtain ⟨y1, y2⟩ := tblk_mid BA hsz
 go_upto_region 3 with fail
 have ZB := StB2.new KW BA HCS.out HV0.out
 clear y1 y2 ag1 hsz
 have BA := blk_alloc BA (.cells CA 121)
 have KW := KW.alloc (.cells CA 121)
 have hgz : ga ≠ wb.heap.size := ZB.2.2.1
 generalize wb.heap.size = gz at *
 generalize wb.alloc (.cells CA 121) = wc at *
 obtain ⟨ae0, -, -, -, -, -, -, -, -, -, -⟩ := StB al_ty al_place al_val al_cond GCA.out BA
 obtain ⟨-, -, -, -, -, -, ⟨ae9, af9⟩, -, -, -, -⟩ := StB al_ty al_place al_val al_cond GCA.out BA
 have hc := place_any a_place wc s9 (ah_place.keeps KW (fun _ _ h => h) (fun _ h => h))
 try dsimp only
 repeat (first | go_values | go_skip | go_guarded | go_step | go_upon | go_back)
 refine hc.mono ?_
 rintro e w112 ⟨⟨z112, rfl, hz112⟩, k112⟩
 have KW := KW.trans k112 (fun _ h _ => h)
 have BA := k112.blk BA (fun h => h)
 have ZB := ZB.keeps k112
 clear hc k112 ae9 af9
 try dsimp only
 cases z112 with
 | false =>
  have hf90 := ZB.fit 9 2 (by omega)
  have hg9 : aggOk 2 (.agg #[.string ⟨#[]⟩, .slice none 0 0]) = true := agg_ok (zeroPl_is S w).len (zeroPl_is S w).one
  have ZB1 := ZB.set_place
  have hf110 := ZB.fit 11 15 (by omega)
  have hf111 := ZB1.fit 11 15 (by omega)
  have hg11 : aggOk 15 (.agg #[.int .i64 0, .int .i64 0, .int .i64 0, .string ⟨#[]⟩, .slice none 0 0, .int .i64 0, .int .i64 0, .string ⟨#[]⟩, .slice none 0 0, .int .i64 0, .string ⟨#[]⟩, .slice none 0 0, .string ⟨#[]⟩, .slice none 0 0, .slice none 0 0]) = true := agg_ok (zeroVal_is S w).len (zeroVal_is S w).one
  have ZB2 := ZB1.set_val
  go_upto_region 29 with fail
  clear hf90 hg9 hf110 hf111 hg11
  clear ZB1
  have ZB := ZB2
  clear ZB2
  have KW := ZB.1
  have BA := ZB.2.2.2.1
  generalize midSet (midSet (w112) gz 9 #[.string ⟨#[]⟩, .slice none 0 0]) gz 11 #[.int .i64 0, .int .i64 0, .int .i64 0, .string ⟨#[]⟩, .slice none 0 0, .int .i64 0, .int .i64 0, .string ⟨#[]⟩, .slice none 0 0, .int .i64 0, .string ⟨#[]⟩, .slice none 0 0, .string ⟨#[]⟩, .slice none 0 0, .slice none 0 0] = w113 at *
  obtain ⟨u00, hu00⟩ := ZB.cell 0 (by omega)
  have hr00 := ZB.free 0
  have ZB1 := ZB.set_kind 0
  obtain ⟨u10, hu10⟩ := ZB.cell 1 (by omega)
  have hr10 := ZB.free 1
  obtain ⟨u11, hu11⟩ := ZB1.cell 1 (by omega)
  have hr11 := ZB1.free 1
  have ZB2 := ZB1.set_pos 0
  go_upto_region 30 with fail
  any_goals try (rename_i hfz; simp [hr00, hr10, hr11] at hfz; done)
  clear hu00 hr00 hu10 hr10 hu11 hr11
  clear ZB1
  have ZB := ZB2
  clear ZB2
  have KW := ZB.1
  have BA := ZB.2.2.2.1
  generalize World.setCell (World.setCell (w113) ⟨gz, 0, none⟩ (.int .i64 0)) ⟨gz, 1, none⟩ (.int .i64 0) = w114 at *
  have hno : Shut (¬ X) := shut (fun h => by have h2 := hz112.2 (HQ.out.1 h).1; cases h2)
  clear HQ
  have KW := ZB.1
  clear ZB BA
  repeat (first | go_values | go_skip | go_guarded | go_step | go_upon | go_back)
  go_ret
  exact tells_f hno.out KW
 | true =>
  obtain ⟨-, -, -, -, -, -, -, ⟨ae11, af11⟩, -, -, -⟩ := StB al_ty al_place al_val al_cond GCA.out BA
  have hc := value_any a_val w112 (HM.out.keeps KW) s11 (ah_val.keeps KW (fun _ _ h => h) (fun _ h => h))
  try dsimp only
  repeat (first | go_values | go_skip | go_guarded | go_step | go_upon | go_back)
  refine hc.mono ?_
  rintro e w115 ⟨⟨z115, rfl, hz115⟩, k115⟩
  have KW := KW.trans k115 (fun _ h _ => h)
  have BA := k115.blk BA (fun h => h)
  have ZB := ZB.keeps k115
  clear hc k115 ae11 af11
  try dsimp only
  cases z115 with
  | false =>
   have hf90 := ZB.fit 9 2 (by omega)
   have hg9 : aggOk 2 (.agg #[.string ⟨#[]⟩, .slice none 0 0]) = true := agg_ok (zeroPl_is S w).len (zeroPl_is S w).one
   have ZB1 := ZB.set_place
   have hf110 := ZB.fit 11 15 (by omega)
   have hf111 := ZB1.fit 11 15 (by omega)
   have hg11 : aggOk 15 (.agg #[.int .i64 0, .int .i64 0, .int .i64 0, .string ⟨#[]⟩, .slice none 0 0, .int .i64 0, .int .i64 0, .string ⟨#[]⟩, .slice none 0 0, .int .i64 0, .string ⟨#[]⟩, .slice none 0 0, .string ⟨#[]⟩, .slice none 0 0, .slice none 0 0]) = true := agg_ok (zeroVal_is S w).len (zeroVal_is S w).one
   have ZB2 := ZB1.set_val
   go_upto_region 29 with fail
   clear hf90 hg9 hf110 hf111 hg11
   clear ZB1
   have ZB := ZB2
   clear ZB2
   have KW := ZB.1
   have BA := ZB.2.2.2.1
   generalize midSet (midSet (w115) gz 9 #[.string ⟨#[]⟩, .slice none 0 0]) gz 11 #[.int .i64 0, .int .i64 0, .int .i64 0, .string ⟨#[]⟩, .slice none 0 0, .int .i64 0, .int .i64 0, .string ⟨#[]⟩, .slice none 0 0, .int .i64 0, .string ⟨#[]⟩, .slice none 0 0, .string ⟨#[]⟩, .slice none 0 0, .slice none 0 0] = w116 at *
   obtain ⟨u00, hu00⟩ := ZB.cell 0 (by omega)
   have hr00 := ZB.free 0
   have ZB1 := ZB.set_kind 0
   obtain ⟨u10, hu10⟩ := ZB.cell 1 (by omega)
   have hr10 := ZB.free 1
   obtain ⟨u11, hu11⟩ := ZB1.cell 1 (by omega)
   have hr11 := ZB1.free 1
   have ZB2 := ZB1.set_pos 0
   go_upto_region 30 with fail
   any_goals try (rename_i hfz; simp [hr00, hr10, hr11] at hfz; done)
   clear hu00 hr00 hu10 hr10 hu11 hr11
   clear ZB1
   have ZB := ZB2
   clear ZB2
   have KW := ZB.1
   have BA := ZB.2.2.2.1
   generalize World.setCell (World.setCell (w116) ⟨gz, 0, none⟩ (.int .i64 0)) ⟨gz, 1, none⟩ (.int .i64 0) = w117 at *
   have hno : Shut (¬ X) := shut (fun h => by have h2 := hz115.2 (HQ.out.1 h).2.1; cases h2)
   clear HQ
   have KW := ZB.1
   clear ZB BA
   repeat (first | go_values | go_skip | go_guarded | go_step | go_upon | go_back)
   go_ret
   exact tells_f hno.out KW
  | true =>
   have hf90 := ZB.fit 9 2 (by omega)
   have hg9 : aggOk 2 (.agg #[.string ⟨#[]⟩, .slice none 0 0]) = true := agg_ok (zeroPl_is S w).len (zeroPl_is S w).one
   have ZB1 := ZB.set_place
   have hf110 := ZB.fit 11 15 (by omega)
   have hf111 := ZB1.fit 11 15 (by omega)
   have hg11 : aggOk 15 (.agg #[.int .i64 0, .int .i64 0, .int .i64 0, .string ⟨#[]⟩, .slice none 0 0, .int .i64 0, .int .i64 0, .string ⟨#[]⟩, .slice none 0 0, .int .i64 0, .string ⟨#[]⟩, .slice none 0 0, .string ⟨#[]⟩, .slice none 0 0, .slice none 0 0]) = true := agg_ok (zeroVal_is S w).len (zeroVal_is S w).one
   have ZB2 := ZB1.set_val
   go_upto_region 29 with fail
   clear hf90 hg9 hf110 hf111 hg11
   clear ZB1
   have ZB := ZB2
   clear ZB2
   have KW := ZB.1
   have BA := ZB.2.2.2.1
   generalize midSet (midSet (w115) gz 9 #[.string ⟨#[]⟩, .slice none 0 0]) gz 11 #[.int .i64 0, .int .i64 0, .int .i64 0, .string ⟨#[]⟩, .slice none 0 0, .int .i64 0, .int .i64 0, .string ⟨#[]⟩, .slice none 0 0, .int .i64 0, .string ⟨#[]⟩, .slice none 0 0, .string ⟨#[]⟩, .slice none 0 0, .slice none 0 0] = w118 at *
   obtain ⟨u00, hu00⟩ := ZB.cell 0 (by omega)
   have hr00 := ZB.free 0
   have ZB1 := ZB.set_kind 0
   obtain ⟨u10, hu10⟩ := ZB.cell 1 (by omega)
   have hr10 := ZB.free 1
   obtain ⟨u11, hu11⟩ := ZB1.cell 1 (by omega)
   have hr11 := ZB1.free 1
   have ZB2 := ZB1.set_pos 0
   go_upto_region 30 with fail
   any_goals try (rename_i hfz; simp [hr00, hr10, hr11] at hfz; done)
   clear hu00 hr00 hu10 hr10 hu11 hr11
   clear ZB1
   have ZB := ZB2
   clear ZB2
   have KW := ZB.1
   have BA := ZB.2.2.2.1
   generalize World.setCell (World.setCell (w118) ⟨gz, 0, none⟩ (.int .i64 0)) ⟨gz, 1, none⟩ (.int .i64 0) = w119 at *
   obtain ⟨K, hg, hn, BA2, cz, BZ, hvz⟩ := ZB
   have hszz : cz.toArray.size = 32 := by simpa using hvz.len
   have hsza : CA.size = 32 := by rw [HCS.out]; simpa using HV0.out.len
   obtain ⟨y1, y2⟩ := tblk_mid BZ hszz
   obtain ⟨y3, y4⟩ := tblk_mid BA hsza
   have hc0 := optional_any _ _ w119 cs cz (HV0.out.keeps K (fun _ _ h => h) (fun _ h => h)) (hvz.keeps K (fun _ _ h => h) (fun _ h => h))
   rw [← HCS.out] at hc0
   have hc := hc0
   clear hc0 hvz BA2 hg hn hszz hsza
   generalize cz.toArray = CZ at *
   try dsimp only
   repeat (first | go_values | go_skip | go_guarded | go_step | go_upon | go_back)
   refine hc.mono ?_
   rintro e w8 ⟨k8, es, rfl, hes⟩
   clear hc y1 y2 y3 y4
   have hc0 := sameStmt_any _ zeroSt w8 es stC hes (zeroSt_is S w8)
   have hc : Calls Tryz.prog 128 #[.agg es.toArray, .agg #[.int .i64 0, .int .i64 0, .bool false, .string ⟨#[]⟩, .int .i64 0, .string ⟨#[]⟩, .slice none 0 0, .slice none 0 0, .bool false, .string ⟨#[]⟩, .slice none 0 0, .int .i64 0, .int .i64 0, .int .i64 0, .string ⟨#[]⟩, .slice none 0 0, .int .i64 0, .int .i64 0, .string ⟨#[]⟩, .slice none 0 0, .int .i64 0, .string ⟨#[]⟩, .slice none 0 0, .string ⟨#[]⟩, .slice none 0 0, .slice none 0 0, .int .i64 0, .int .i64 0, .string ⟨#[]⟩, .slice none 0 0, .slice none 0 0, .slice none 0 0]] w8 (Tells w8 _) := hc0
   clear hc0 hes
   generalize es.toArray = ES at *
   try dsimp only
   repeat (first | go_values | go_skip | go_guarded | go_step | go_upon | go_back)
   refine hc.mono ?_
   rintro e w9 ⟨⟨z, rfl, hz⟩, k9⟩
   have HZ : Shut (z = true ↔ X) := shut (by rw [hz, HQ.out]; exact ⟨fun h => ⟨hz112.1 rfl, hz115.1 rfl, h⟩, fun h => h.2.2⟩)
   clear hc hz HQ
   try dsimp only
   repeat (first | go_values | go_skip | go_guarded | go_step | go_upon | go_back)
   go_ret
   exact tells_z HZ.out ((K.trans k8 (fun _ h _ => h)).trans k9 (fun _ h _ => h))
set_option maxRecDepth 100000 in
set_option linter.unusedSimpArgs false in
set_option maxHeartbeats 16000000 in
theorem stmt_k3 {S : Nat → Prop} {a_pos : Int} {a_mu : Bool} {a_name : List UInt8} {a_ty : TyD} {a_has : Bool} {a_place : PlD} {a_val : ValD} {a_cond : OprD} {a_thn a_els : List StD}  : StmtC S (.mk 3 a_pos a_mu a_name a_ty a_has a_place a_val a_cond a_thn a_els) := by
 intro w cs d hM hd0 hd1 ha
 have HV0 := shut ha
 have HM := shut hM
 clear hM
 have wd : IntKind.i64.wrap (d + 1) = d + 1 := by rw [IntKind.wrap_i64]; omega
 have HQ : Shut (StP (.mk 3 a_pos a_mu a_name a_ty a_has a_place a_val a_cond a_thn a_els) d ↔ a_val.kind = 6 ∧ ValP a_val ∧ optD (.mk 3 a_pos a_mu a_name a_ty a_has a_place a_val a_cond a_thn a_els) (.mk 0 0 a_mu a_name a_ty a_has a_place zeroVal a_cond a_thn a_els) = zeroSt) := shut (by unfold StP; simp)
 obtain ⟨X, hX⟩ : ∃ X, X = StP (.mk 3 a_pos a_mu a_name a_ty a_has a_place a_val a_cond a_thn a_els) d := ⟨_, rfl⟩
 rw [← hX] at HQ ⊢
 clear hX
 have ag1 := agg_ok ha.len ha.one
 rw [stIs_iff] at ha
 obtain ⟨s4, s9, s11, s26, p30, q30, p31, q31, hcs, ah_name, ah_ty, ah_place, ah_val, ah_cond, ah_thn, ah_els⟩ := ha
 have HCA := shut hcs
 clear hcs
 simp only [StD.kind, StD.pos, StD.mu, StD.name, StD.ty, StD.has, StD.place, StD.val, StD.cond, StD.thn, StD.els] at ah_name ah_ty ah_place ah_val ah_cond ah_thn ah_els HCA
 obtain ⟨CA, hCA⟩ : ∃ C, C = cs.toArray := ⟨_, rfl⟩
 rw [← hCA] at ag1 ⊢
 have HCS := shut hCA
 rw [HCA.out] at hCA
 have GCA := shut hCA
 clear hCA HCA
 have al_ty := ah_ty.len
 have al_place := ah_place.len
 have al_val := ah_val.len
 have al_cond := ah_cond.len
 have KW : Keeps Nothing w (w.alloc (.cells CA 121)) := (Keeps.refl Nothing w).alloc _
 have BA := blk_new w CA 121
 go_enter Tryz.func122, Tryz.ntmps122
 go_upto_region 1 with fail
 generalize w.heap.size = ga at *
 generalize w.alloc (.cells CA 121) = wb at *
 have hsz : CA.size = 32 := by rw [HCS.out]; simpa using HV0.out.len
 obtain ⟨y1, y2⟩ := tblk_mid BA hsz
 go_upto_region 3 with fail
 have ZB := StB2.new KW BA HCS.out HV0.out
 clear y1 y2 ag1 hsz
 have BA := blk_alloc BA (.cells CA 121)
 have KW := KW.alloc (.cells CA 121)
 have hgz : ga ≠ wb.heap.size := ZB.2.2.1
 generalize wb.heap.size = gz at *
 generalize wb.alloc (.cells CA 121) = wc at *
 obtain ⟨ae0, -, -, -, -, -, -, -, -, -, -⟩ := StB al_ty al_place al_val al_cond GCA.out BA
 obtain ⟨-, -, -, -, -, -, -, ⟨ae11, af11⟩, -, -, -⟩ := StB al_ty al_place al_val al_cond GCA.out BA
 have hv := val_kind_cell ae11 af11 ah_val
 clear ae11 af11
 by_cases hv6 : a_val.kind = 6
 rotate_left
 ·have hqb : (a_val.kind == 6) = false := by rw [beq_eq_false_iff_ne]; exact hv6
  have hf110 := ZB.fit 11 15 (by omega)
  have hg11 : aggOk 15 (.agg #[.int .i64 0, .int .i64 0, .int .i64 0, .string ⟨#[]⟩, .slice none 0 0, .int .i64 0, .int .i64 0, .string ⟨#[]⟩, .slice none 0 0, .int .i64 0, .string ⟨#[]⟩, .slice none 0 0, .string ⟨#[]⟩, .slice none 0 0, .slice none 0 0]) = true := agg_ok (zeroVal_is S w).len (zeroVal_is S w).one
  have ZB1 := ZB.set_val
  go_upto_region 29 with fail
  clear hf110 hg11
  have ZB := ZB1
  clear ZB1
  have KW := ZB.1
  have BA := ZB.2.2.2.1
  generalize midSet (wc) gz 11 #[.int .i64 0, .int .i64 0, .int .i64 0, .string ⟨#[]⟩, .slice none 0 0, .int .i64 0, .int .i64 0, .string ⟨#[]⟩, .slice none 0 0, .int .i64 0, .string ⟨#[]⟩, .slice none 0 0, .string ⟨#[]⟩, .slice none 0 0, .slice none 0 0] = w120 at *
  clear hv
  obtain ⟨u00, hu00⟩ := ZB.cell 0 (by omega)
  have hr00 := ZB.free 0
  have ZB1 := ZB.set_kind 0
  obtain ⟨u10, hu10⟩ := ZB.cell 1 (by omega)
  have hr10 := ZB.free 1
  obtain ⟨u11, hu11⟩ := ZB1.cell 1 (by omega)
  have hr11 := ZB1.free 1
  have ZB2 := ZB1.set_pos 0
  go_upto_region 30 with fail
  any_goals try (rename_i hfz; simp [hr00, hr10, hr11] at hfz; done)
  clear hu00 hr00 hu10 hr10 hu11 hr11
  clear ZB1
  have ZB := ZB2
  clear ZB2
  have KW := ZB.1
  have BA := ZB.2.2.2.1
  generalize World.setCell (World.setCell (w120) ⟨gz, 0, none⟩ (.int .i64 0)) ⟨gz, 1, none⟩ (.int .i64 0) = w121 at *
  have hno : Shut (¬ X) := shut (fun h => by exact hv6 (HQ.out.1 h).1)
  clear HQ
  have KW := ZB.1
  clear ZB BA
  repeat (first | go_values | go_skip | go_guarded | go_step | go_upon | go_back)
  go_ret
  exact tells_f hno.out KW
 rw [hv6] at hv
 have HV6 := shut hv6
 clear hv6
 obtain ⟨-, -, -, -, -, -, -, ⟨ae11, af11⟩, -, -, -⟩ := StB al_ty al_place al_val al_cond GCA.out BA
 have hc := value_any a_val wc (HM.out.keeps KW) s11 (ah_val.keeps KW (fun _ _ h => h) (fun _ h => h))
 try dsimp only
 repeat (first | go_values | go_skip | go_guarded | go_step | go_upon | go_back)
 refine hc.mono ?_
 rintro e w122 ⟨⟨z122, rfl, hz122⟩, k122⟩
 have KW := KW.trans k122 (fun _ h _ => h)
 have BA := k122.blk BA (fun h => h)
 have ZB := ZB.keeps k122
 clear hc k122 ae11 af11
 try dsimp only
 cases z122 with
 | false =>
  have hf110 := ZB.fit 11 15 (by omega)
  have hg11 : aggOk 15 (.agg #[.int .i64 0, .int .i64 0, .int .i64 0, .string ⟨#[]⟩, .slice none 0 0, .int .i64 0, .int .i64 0, .string ⟨#[]⟩, .slice none 0 0, .int .i64 0, .string ⟨#[]⟩, .slice none 0 0, .string ⟨#[]⟩, .slice none 0 0, .slice none 0 0]) = true := agg_ok (zeroVal_is S w).len (zeroVal_is S w).one
  have ZB1 := ZB.set_val
  go_upto_region 29 with fail
  clear hf110 hg11
  have ZB := ZB1
  clear ZB1
  have KW := ZB.1
  have BA := ZB.2.2.2.1
  generalize midSet (w122) gz 11 #[.int .i64 0, .int .i64 0, .int .i64 0, .string ⟨#[]⟩, .slice none 0 0, .int .i64 0, .int .i64 0, .string ⟨#[]⟩, .slice none 0 0, .int .i64 0, .string ⟨#[]⟩, .slice none 0 0, .string ⟨#[]⟩, .slice none 0 0, .slice none 0 0] = w123 at *
  obtain ⟨u00, hu00⟩ := ZB.cell 0 (by omega)
  have hr00 := ZB.free 0
  have ZB1 := ZB.set_kind 0
  obtain ⟨u10, hu10⟩ := ZB.cell 1 (by omega)
  have hr10 := ZB.free 1
  obtain ⟨u11, hu11⟩ := ZB1.cell 1 (by omega)
  have hr11 := ZB1.free 1
  have ZB2 := ZB1.set_pos 0
  go_upto_region 30 with fail
  any_goals try (rename_i hfz; simp [hr00, hr10, hr11] at hfz; done)
  clear hu00 hr00 hu10 hr10 hu11 hr11
  clear ZB1
  have ZB := ZB2
  clear ZB2
  have KW := ZB.1
  have BA := ZB.2.2.2.1
  generalize World.setCell (World.setCell (w123) ⟨gz, 0, none⟩ (.int .i64 0)) ⟨gz, 1, none⟩ (.int .i64 0) = w124 at *
  have hno : Shut (¬ X) := shut (fun h => by have h2 := hz122.2 (HQ.out.1 h).2.1; cases h2)
  clear HQ
  have KW := ZB.1
  clear ZB BA
  repeat (first | go_values | go_skip | go_guarded | go_step | go_upon | go_back)
  go_ret
  exact tells_f hno.out KW
 | true =>
  have hf110 := ZB.fit 11 15 (by omega)
  have hg11 : aggOk 15 (.agg #[.int .i64 0, .int .i64 0, .int .i64 0, .string ⟨#[]⟩, .slice none 0 0, .int .i64 0, .int .i64 0, .string ⟨#[]⟩, .slice none 0 0, .int .i64 0, .string ⟨#[]⟩, .slice none 0 0, .string ⟨#[]⟩, .slice none 0 0, .slice none 0 0]) = true := agg_ok (zeroVal_is S w).len (zeroVal_is S w).one
  have ZB1 := ZB.set_val
  go_upto_region 29 with fail
  clear hf110 hg11
  have ZB := ZB1
  clear ZB1
  have KW := ZB.1
  have BA := ZB.2.2.2.1
  generalize midSet (w122) gz 11 #[.int .i64 0, .int .i64 0, .int .i64 0, .string ⟨#[]⟩, .slice none 0 0, .int .i64 0, .int .i64 0, .string ⟨#[]⟩, .slice none 0 0, .int .i64 0, .string ⟨#[]⟩, .slice none 0 0, .string ⟨#[]⟩, .slice none 0 0, .slice none 0 0] = w125 at *
  obtain ⟨u00, hu00⟩ := ZB.cell 0 (by omega)
  have hr00 := ZB.free 0
  have ZB1 := ZB.set_kind 0
  obtain ⟨u10, hu10⟩ := ZB.cell 1 (by omega)
  have hr10 := ZB.free 1
  obtain ⟨u11, hu11⟩ := ZB1.cell 1 (by omega)
  have hr11 := ZB1.free 1
  have ZB2 := ZB1.set_pos 0
  go_upto_region 30 with fail
  any_goals try (rename_i hfz; simp [hr00, hr10, hr11] at hfz; done)
  clear hu00 hr00 hu10 hr10 hu11 hr11
  clear ZB1
  have ZB := ZB2
  clear ZB2
  have KW := ZB.1
  have BA := ZB.2.2.2.1
  generalize World.setCell (World.setCell (w125) ⟨gz, 0, none⟩ (.int .i64 0)) ⟨gz, 1, none⟩ (.int .i64 0) = w126 at *
  obtain ⟨K, hg, hn, BA2, cz, BZ, hvz⟩ := ZB
  have hszz : cz.toArray.size = 32 := by simpa using hvz.len
  have hsza : CA.size = 32 := by rw [HCS.out]; simpa using HV0.out.len
  obtain ⟨y1, y2⟩ := tblk_mid BZ hszz
  obtain ⟨y3, y4⟩ := tblk_mid BA hsza
  have hc0 := optional_any _ _ w126 cs cz (HV0.out.keeps K (fun _ _ h => h) (fun _ h => h)) (hvz.keeps K (fun _ _ h => h) (fun _ h => h))
  rw [← HCS.out] at hc0
  have hc := hc0
  clear hc0 hvz BA2 hg hn hszz hsza
  generalize cz.toArray = CZ at *
  try dsimp only
  repeat (first | go_values | go_skip | go_guarded | go_step | go_upon | go_back)
  refine hc.mono ?_
  rintro e w8 ⟨k8, es, rfl, hes⟩
  clear hc y1 y2 y3 y4
  have hc0 := sameStmt_any _ zeroSt w8 es stC hes (zeroSt_is S w8)
  have hc : Calls Tryz.prog 128 #[.agg es.toArray, .agg #[.int .i64 0, .int .i64 0, .bool false, .string ⟨#[]⟩, .int .i64 0, .string ⟨#[]⟩, .slice none 0 0, .slice none 0 0, .bool false, .string ⟨#[]⟩, .slice none 0 0, .int .i64 0, .int .i64 0, .int .i64 0, .string ⟨#[]⟩, .slice none 0 0, .int .i64 0, .int .i64 0, .string ⟨#[]⟩, .slice none 0 0, .int .i64 0, .string ⟨#[]⟩, .slice none 0 0, .string ⟨#[]⟩, .slice none 0 0, .slice none 0 0, .int .i64 0, .int .i64 0, .string ⟨#[]⟩, .slice none 0 0, .slice none 0 0, .slice none 0 0]] w8 (Tells w8 _) := hc0
  clear hc0 hes
  generalize es.toArray = ES at *
  try dsimp only
  repeat (first | go_values | go_skip | go_guarded | go_step | go_upon | go_back)
  refine hc.mono ?_
  rintro e w9 ⟨⟨z, rfl, hz⟩, k9⟩
  have HZ : Shut (z = true ↔ X) := shut (by rw [hz, HQ.out]; exact ⟨fun h => ⟨HV6.out, hz122.1 rfl, h⟩, fun h => h.2.2⟩)
  clear hc hz HQ
  try dsimp only
  repeat (first | go_values | go_skip | go_guarded | go_step | go_upon | go_back)
  go_ret
  exact tells_z HZ.out ((K.trans k8 (fun _ h _ => h)).trans k9 (fun _ h _ => h))
set_option maxRecDepth 100000 in
set_option linter.unusedSimpArgs false in
set_option maxHeartbeats 16000000 in
theorem stmt_k11 {S : Nat → Prop} {a_pos : Int} {a_mu : Bool} {a_name : List UInt8} {a_ty : TyD} {a_has : Bool} {a_place : PlD} {a_val : ValD} {a_cond : OprD} {a_thn a_els : List StD}  : StmtC S (.mk 11 a_pos a_mu a_name a_ty a_has a_place a_val a_cond a_thn a_els) := by
 intro w cs d hM hd0 hd1 ha
 have HV0 := shut ha
 have HM := shut hM
 clear hM
 have wd : IntKind.i64.wrap (d + 1) = d + 1 := by rw [IntKind.wrap_i64]; omega
 have HQ : Shut (StP (.mk 11 a_pos a_mu a_name a_ty a_has a_place a_val a_cond a_thn a_els) d ↔ PlP a_place ∧ optD (.mk 11 a_pos a_mu a_name a_ty a_has a_place a_val a_cond a_thn a_els) (.mk 0 0 a_mu a_name a_ty a_has zeroPl a_val a_cond a_thn a_els) = zeroSt) := shut (by unfold StP; simp)
 obtain ⟨X, hX⟩ : ∃ X, X = StP (.mk 11 a_pos a_mu a_name a_ty a_has a_place a_val a_cond a_thn a_els) d := ⟨_, rfl⟩
 rw [← hX] at HQ ⊢
 clear hX
 have ag1 := agg_ok ha.len ha.one
 rw [stIs_iff] at ha
 obtain ⟨s4, s9, s11, s26, p30, q30, p31, q31, hcs, ah_name, ah_ty, ah_place, ah_val, ah_cond, ah_thn, ah_els⟩ := ha
 have HCA := shut hcs
 clear hcs
 simp only [StD.kind, StD.pos, StD.mu, StD.name, StD.ty, StD.has, StD.place, StD.val, StD.cond, StD.thn, StD.els] at ah_name ah_ty ah_place ah_val ah_cond ah_thn ah_els HCA
 obtain ⟨CA, hCA⟩ : ∃ C, C = cs.toArray := ⟨_, rfl⟩
 rw [← hCA] at ag1 ⊢
 have HCS := shut hCA
 rw [HCA.out] at hCA
 have GCA := shut hCA
 clear hCA HCA
 have al_ty := ah_ty.len
 have al_place := ah_place.len
 have al_val := ah_val.len
 have al_cond := ah_cond.len
 have KW : Keeps Nothing w (w.alloc (.cells CA 121)) := (Keeps.refl Nothing w).alloc _
 have BA := blk_new w CA 121
 go_enter Tryz.func122, Tryz.ntmps122
 go_upto_region 1 with fail
 generalize w.heap.size = ga at *
 generalize w.alloc (.cells CA 121) = wb at *
 have hsz : CA.size = 32 := by rw [HCS.out]; simpa using HV0.out.len
 obtain ⟨y1, y2⟩ := tblk_mid BA hsz
 go_upto_region 3 with fail
 have ZB := StB2.new KW BA HCS.out HV0.out
 clear y1 y2 ag1 hsz
 have BA := blk_alloc BA (.cells CA 121)
 have KW := KW.alloc (.cells CA 121)
 have hgz : ga ≠ wb.heap.size := ZB.2.2.1
 generalize wb.heap.size = gz at *
 generalize wb.alloc (.cells CA 121) = wc at *
 obtain ⟨ae0, -, -, -, -, -, -, -, -, -, -⟩ := StB al_ty al_place al_val al_cond GCA.out BA
 obtain ⟨-, -, -, -, -, -, ⟨ae9, af9⟩, -, -, -, -⟩ := StB al_ty al_place al_val al_cond GCA.out BA
 have hc := place_any a_place wc s9 (ah_place.keeps KW (fun _ _ h => h) (fun _ h => h))
 try dsimp only
 repeat (first | go_values | go_skip | go_guarded | go_step | go_upon | go_back)
 refine hc.mono ?_
 rintro e w127 ⟨⟨z127, rfl, hz127⟩, k127⟩
 have KW := KW.trans k127 (fun _ h _ => h)
 have BA := k127.blk BA (fun h => h)
 have ZB := ZB.keeps k127
 clear hc k127 ae9 af9
 try dsimp only
 cases z127 with
 | false =>
  have hf90 := ZB.fit 9 2 (by omega)
  have hg9 : aggOk 2 (.agg #[.string ⟨#[]⟩, .slice none 0 0]) = true := agg_ok (zeroPl_is S w).len (zeroPl_is S w).one
  have ZB1 := ZB.set_place
  go_upto_region 29 with fail
  clear hf90 hg9
  have ZB := ZB1
  clear ZB1
  have KW := ZB.1
  have BA := ZB.2.2.2.1
  generalize midSet (w127) gz 9 #[.string ⟨#[]⟩, .slice none 0 0] = w128 at *
  obtain ⟨u00, hu00⟩ := ZB.cell 0 (by omega)
  have hr00 := ZB.free 0
  have ZB1 := ZB.set_kind 0
  obtain ⟨u10, hu10⟩ := ZB.cell 1 (by omega)
  have hr10 := ZB.free 1
  obtain ⟨u11, hu11⟩ := ZB1.cell 1 (by omega)
  have hr11 := ZB1.free 1
  have ZB2 := ZB1.set_pos 0
  go_upto_region 30 with fail
  any_goals try (rename_i hfz; simp [hr00, hr10, hr11] at hfz; done)
  clear hu00 hr00 hu10 hr10 hu11 hr11
  clear ZB1
  have ZB := ZB2
  clear ZB2
  have KW := ZB.1
  have BA := ZB.2.2.2.1
  generalize World.setCell (World.setCell (w128) ⟨gz, 0, none⟩ (.int .i64 0)) ⟨gz, 1, none⟩ (.int .i64 0) = w129 at *
  have hno : Shut (¬ X) := shut (fun h => by have h2 := hz127.2 (HQ.out.1 h).1; cases h2)
  clear HQ
  have KW := ZB.1
  clear ZB BA
  repeat (first | go_values | go_skip | go_guarded | go_step | go_upon | go_back)
  go_ret
  exact tells_f hno.out KW
 | true =>
  have hf90 := ZB.fit 9 2 (by omega)
  have hg9 : aggOk 2 (.agg #[.string ⟨#[]⟩, .slice none 0 0]) = true := agg_ok (zeroPl_is S w).len (zeroPl_is S w).one
  have ZB1 := ZB.set_place
  go_upto_region 29 with fail
  clear hf90 hg9
  have ZB := ZB1
  clear ZB1
  have KW := ZB.1
  have BA := ZB.2.2.2.1
  generalize midSet (w127) gz 9 #[.string ⟨#[]⟩, .slice none 0 0] = w130 at *
  obtain ⟨u00, hu00⟩ := ZB.cell 0 (by omega)
  have hr00 := ZB.free 0
  have ZB1 := ZB.set_kind 0
  obtain ⟨u10, hu10⟩ := ZB.cell 1 (by omega)
  have hr10 := ZB.free 1
  obtain ⟨u11, hu11⟩ := ZB1.cell 1 (by omega)
  have hr11 := ZB1.free 1
  have ZB2 := ZB1.set_pos 0
  go_upto_region 30 with fail
  any_goals try (rename_i hfz; simp [hr00, hr10, hr11] at hfz; done)
  clear hu00 hr00 hu10 hr10 hu11 hr11
  clear ZB1
  have ZB := ZB2
  clear ZB2
  have KW := ZB.1
  have BA := ZB.2.2.2.1
  generalize World.setCell (World.setCell (w130) ⟨gz, 0, none⟩ (.int .i64 0)) ⟨gz, 1, none⟩ (.int .i64 0) = w131 at *
  obtain ⟨K, hg, hn, BA2, cz, BZ, hvz⟩ := ZB
  have hszz : cz.toArray.size = 32 := by simpa using hvz.len
  have hsza : CA.size = 32 := by rw [HCS.out]; simpa using HV0.out.len
  obtain ⟨y1, y2⟩ := tblk_mid BZ hszz
  obtain ⟨y3, y4⟩ := tblk_mid BA hsza
  have hc0 := optional_any _ _ w131 cs cz (HV0.out.keeps K (fun _ _ h => h) (fun _ h => h)) (hvz.keeps K (fun _ _ h => h) (fun _ h => h))
  rw [← HCS.out] at hc0
  have hc := hc0
  clear hc0 hvz BA2 hg hn hszz hsza
  generalize cz.toArray = CZ at *
  try dsimp only
  repeat (first | go_values | go_skip | go_guarded | go_step | go_upon | go_back)
  refine hc.mono ?_
  rintro e w8 ⟨k8, es, rfl, hes⟩
  clear hc y1 y2 y3 y4
  have hc0 := sameStmt_any _ zeroSt w8 es stC hes (zeroSt_is S w8)
  have hc : Calls Tryz.prog 128 #[.agg es.toArray, .agg #[.int .i64 0, .int .i64 0, .bool false, .string ⟨#[]⟩, .int .i64 0, .string ⟨#[]⟩, .slice none 0 0, .slice none 0 0, .bool false, .string ⟨#[]⟩, .slice none 0 0, .int .i64 0, .int .i64 0, .int .i64 0, .string ⟨#[]⟩, .slice none 0 0, .int .i64 0, .int .i64 0, .string ⟨#[]⟩, .slice none 0 0, .int .i64 0, .string ⟨#[]⟩, .slice none 0 0, .string ⟨#[]⟩, .slice none 0 0, .slice none 0 0, .int .i64 0, .int .i64 0, .string ⟨#[]⟩, .slice none 0 0, .slice none 0 0, .slice none 0 0]] w8 (Tells w8 _) := hc0
  clear hc0 hes
  generalize es.toArray = ES at *
  try dsimp only
  repeat (first | go_values | go_skip | go_guarded | go_step | go_upon | go_back)
  refine hc.mono ?_
  rintro e w9 ⟨⟨z, rfl, hz⟩, k9⟩
  have HZ : Shut (z = true ↔ X) := shut (by rw [hz, HQ.out]; exact ⟨fun h => ⟨hz127.1 rfl, h⟩, fun h => h.2⟩)
  clear hc hz HQ
  try dsimp only
  repeat (first | go_values | go_skip | go_guarded | go_step | go_upon | go_back)
  go_ret
  exact tells_z HZ.out ((K.trans k8 (fun _ h _ => h)).trans k9 (fun _ h _ => h))
end Go.Proofs.YtjbcagbnagefcaaGreat
namespace Go.Proofs.YtjbcagbnagefcaaGreat
open Go.RowKit
attribute [local go_sem ↓] exec_mid_ty exec_store_ty exec_mid_pl exec_store_pl exec_mid_opr exec_store_opr exec_mid_val exec_store_val exec_mid_st exec_store_st exec_mid_fld exec_store_fld exec_mid_str exec_store_str exec_mid_lif exec_store_lif exec_mid_fun exec_store_fun exec_mid_cr exec_store_cr
attribute [local go_sem] rowOk_new World.setRow_alloc_new
attribute [local go_sem ↓] exec_into_pl exec_into_opr exec_into_ty exec_into_val build_valS build_st
set_option maxRecDepth 100000 in
set_option linter.unusedSimpArgs false in
set_option maxHeartbeats 16000000 in
theorem stmt_k4 {S : Nat → Prop} {a_pos : Int} {a_mu : Bool} {a_name : List UInt8} {a_ty : TyD} {a_has : Bool} {a_place : PlD} {a_val : ValD} {a_cond : OprD} {a_thn a_els : List StD} (IH_thn : Shut (∀ e ∈ a_thn, StmtC S e)) (IH_els : Shut (∀ e ∈ a_els, StmtC S e)) : StmtC S (.mk 4 a_pos a_mu a_name a_ty a_has a_place a_val a_cond a_thn a_els) := by
 intro w cs d hM hd0 hd1 ha
 have HV0 := shut ha
 have HM := shut hM
 clear hM
 have wd : IntKind.i64.wrap (d + 1) = d + 1 := by rw [IntKind.wrap_i64]; omega
 have HQ : Shut (StP (.mk 4 a_pos a_mu a_name a_ty a_has a_place a_val a_cond a_thn a_els) d ↔ (a_has = true → BlP a_els (d + 1)) ∧ OprP a_cond ∧ BlP a_thn (d + 1) ∧ optD (.mk 4 a_pos a_mu a_name a_ty a_has a_place a_val a_cond a_thn a_els) (.mk 0 0 a_mu a_name a_ty a_has a_place a_val zeroOpr [] a_els) = zeroSt) := shut (by unfold StP BlP; simp)
 obtain ⟨X, hX⟩ : ∃ X, X = StP (.mk 4 a_pos a_mu a_name a_ty a_has a_place a_val a_cond a_thn a_els) d := ⟨_, rfl⟩
 rw [← hX] at HQ ⊢
 clear hX
 have ag1 := agg_ok ha.len ha.one
 rw [stIs_iff] at ha
 obtain ⟨s4, s9, s11, s26, p30, q30, p31, q31, hcs, ah_name, ah_ty, ah_place, ah_val, ah_cond, ah_thn, ah_els⟩ := ha
 have HCA := shut hcs
 clear hcs
 simp only [StD.kind, StD.pos, StD.mu, StD.name, StD.ty, StD.has, StD.place, StD.val, StD.cond, StD.thn, StD.els] at ah_name ah_ty ah_place ah_val ah_cond ah_thn ah_els HCA
 obtain ⟨CA, hCA⟩ : ∃ C, C = cs.toArray := ⟨_, rfl⟩
 rw [← hCA] at ag1 ⊢
 have HCS := shut hCA
 rw [HCA.out] at hCA
 have GCA := shut hCA
 clear hCA HCA
 have al_ty := ah_ty.len
 have al_place := ah_place.len
 have al_val := ah_val.len
 have al_cond := ah_cond.len
 have KW : Keeps Nothing w (w.alloc (.cells CA 121)) := (Keeps.refl Nothing w).alloc _
 have BA := blk_new w CA 121
 go_enter Tryz.func122, Tryz.ntmps122
 go_upto_region 1 with fail
 generalize w.heap.size = ga at *
 generalize w.alloc (.cells CA 121) = wb at *
 have hsz : CA.size = 32 := by rw [HCS.out]; simpa using HV0.out.len
 obtain ⟨y1, y2⟩ := tblk_mid BA hsz
 go_upto_region 3 with fail
 have ZB := StB2.new KW BA HCS.out HV0.out
 clear y1 y2 ag1 hsz
 have BA := blk_alloc BA (.cells CA 121)
 have KW := KW.alloc (.cells CA 121)
 have hgz : ga ≠ wb.heap.size := ZB.2.2.1
 generalize wb.heap.size = gz at *
 generalize wb.alloc (.cells CA 121) = wc at *
 obtain ⟨ae0, -, -, -, -, -, -, -, -, -, -⟩ := StB al_ty al_place al_val al_cond GCA.out BA
 obtain ⟨-, -, -, -, -, ae8, -, -, -, -, -⟩ := StB al_ty al_place al_val al_cond GCA.out BA
 cases a_has with
 | false =>
  obtain ⟨-, -, -, -, -, -, -, -, ⟨ae26, af26⟩, -, -⟩ := StB al_ty al_place al_val al_cond GCA.out BA
  have hc := oper_any a_cond wc s26 (ah_cond.keeps KW (fun _ _ h => h) (fun _ h => h))
  try dsimp only
  repeat (first | go_values | go_skip | go_guarded | go_step | go_upon | go_back)
  refine hc.mono ?_
  rintro e w132 ⟨⟨z132, rfl, hz132⟩, k132⟩
  have KW := KW.trans k132 (fun _ h _ => h)
  have BA := k132.blk BA (fun h => h)
  have ZB := ZB.keeps k132
  clear hc k132 ae26 af26
  try dsimp only
  cases z132 with
  | false =>
   have hf260 := ZB.fit 26 4 (by omega)
   have hg26 : aggOk 4 (.agg #[.int .i64 0, .int .i64 0, .string ⟨#[]⟩, .slice none 0 0]) = true := agg_ok (zeroOpr_is S w).len (zeroOpr_is S w).one
   have ZB1 := ZB.set_cond
   go_upto_region 24 with fail
   clear hf260 hg26
   have ZB := ZB1
   clear ZB1
   have KW := ZB.1
   have BA := ZB.2.2.2.1
   generalize midSet (w132) gz 26 #[.int .i64 0, .int .i64 0, .string ⟨#[]⟩, .slice none 0 0] = w133 at *
   obtain ⟨u300, hu300⟩ := ZB.cell 30 (by omega)
   have hr300 := ZB.free 30
   have ZB1 := ZB.set_thn
   go_upto_region 29 with fail
   any_goals try (rename_i hfz; simp [hr300] at hfz; done)
   clear hu300 hr300
   have ZB := ZB1
   clear ZB1
   have KW := ZB.1
   have BA := ZB.2.2.2.1
   generalize World.setCell (w133) ⟨gz, 30, none⟩ (.slice none 0 0) = w134 at *
   obtain ⟨u00, hu00⟩ := ZB.cell 0 (by omega)
   have hr00 := ZB.free 0
   have ZB1 := ZB.set_kind 0
   obtain ⟨u10, hu10⟩ := ZB.cell 1 (by omega)
   have hr10 := ZB.free 1
   obtain ⟨u11, hu11⟩ := ZB1.cell 1 (by omega)
   have hr11 := ZB1.free 1
   have ZB2 := ZB1.set_pos 0
   go_upto_region 30 with fail
   any_goals try (rename_i hfz; simp [hr00, hr10, hr11] at hfz; done)
   clear hu00 hr00 hu10 hr10 hu11 hr11
   clear ZB1
   have ZB := ZB2
   clear ZB2
   have KW := ZB.1
   have BA := ZB.2.2.2.1
   generalize World.setCell (World.setCell (w134) ⟨gz, 0, none⟩ (.int .i64 0)) ⟨gz, 1, none⟩ (.int .i64 0) = w135 at *
   have hno : Shut (¬ X) := shut (fun h => by have h2 := hz132.2 (HQ.out.1 h).2.1; cases h2)
   clear HQ
   have KW := ZB.1
   clear ZB BA
   repeat (first | go_values | go_skip | go_guarded | go_step | go_upon | go_back)
   go_ret
   exact tells_f hno.out KW
  | true =>
   have hf260 := ZB.fit 26 4 (by omega)
   have hg26 : aggOk 4 (.agg #[.int .i64 0, .int .i64 0, .string ⟨#[]⟩, .slice none 0 0]) = true := agg_ok (zeroOpr_is S w).len (zeroOpr_is S w).one
   have ZB1 := ZB.set_cond
   go_upto_region 24 with fail
   clear hf260 hg26
   have ZB := ZB1
   clear ZB1
   have KW := ZB.1
   have BA := ZB.2.2.2.1
   generalize midSet (w132) gz 26 #[.int .i64 0, .int .i64 0, .string ⟨#[]⟩, .slice none 0 0] = w136 at *
   obtain ⟨-, -, -, -, -, -, -, -, -, ae30, -⟩ := StB al_ty al_place al_val al_cond GCA.out BA
   have hc := block_of a_thn (fun e he => IH_thn.out e he) w136 (HM.out.keeps KW) (d + 1) (by omega) (by omega) q30 (ah_thn.keeps KW (fun _ _ h => h) (fun _ h => h) (fun _ _ _ h => h.keeps KW (fun _ _ h => h) (fun _ h => h)))
   try dsimp only
   repeat (first | go_values | go_skip | go_guarded | go_step | go_upon | go_back)
   refine hc.mono ?_
   rintro e w137 ⟨⟨z137, rfl, hz137⟩, k137⟩
   have KW := KW.trans k137 (fun _ h _ => h)
   have BA := k137.blk BA (fun h => h)
   have ZB := ZB.keeps k137
   clear hc k137 ae30
   try dsimp only
   cases z137 with
   | false =>
    obtain ⟨u300, hu300⟩ := ZB.cell 30 (by omega)
    have hr300 := ZB.free 30
    have ZB1 := ZB.set_thn
    go_upto_region 29 with fail
    any_goals try (rename_i hfz; simp [hr300] at hfz; done)
    clear hu300 hr300
    have ZB := ZB1
    clear ZB1
    have KW := ZB.1
    have BA := ZB.2.2.2.1
    generalize World.setCell (w137) ⟨gz, 30, none⟩ (.slice none 0 0) = w138 at *
    obtain ⟨u00, hu00⟩ := ZB.cell 0 (by omega)
    have hr00 := ZB.free 0
    have ZB1 := ZB.set_kind 0
    obtain ⟨u10, hu10⟩ := ZB.cell 1 (by omega)
    have hr10 := ZB.free 1
    obtain ⟨u11, hu11⟩ := ZB1.cell 1 (by omega)
    have hr11 := ZB1.free 1
    have ZB2 := ZB1.set_pos 0
    go_upto_region 30 with fail
    any_goals try (rename_i hfz; simp [hr00, hr10, hr11] at hfz; done)
    clear hu00 hr00 hu10 hr10 hu11 hr11
    clear ZB1
    have ZB := ZB2
    clear ZB2
    have KW := ZB.1
    have BA := ZB.2.2.2.1
    generalize World.setCell (World.setCell (w138) ⟨gz, 0, none⟩ (.int .i64 0)) ⟨gz, 1, none⟩ (.int .i64 0) = w139 at *
    have hno : Shut (¬ X) := shut (fun h => by have h2 := hz137.2 (HQ.out.1 h).2.2.1; cases h2)
    clear HQ
    have KW := ZB.1
    clear ZB BA
    repeat (first | go_values | go_skip | go_guarded | go_step | go_upon | go_back)
    go_ret
    exact tells_f hno.out KW
   | true =>
    obtain ⟨u300, hu300⟩ := ZB.cell 30 (by omega)
    have hr300 := ZB.free 30
    have ZB1 := ZB.set_thn
    go_upto_region 29 with fail
    any_goals try (rename_i hfz; simp [hr300] at hfz; done)
    clear hu300 hr300
    have ZB := ZB1
    clear ZB1
    have KW := ZB.1
    have BA := ZB.2.2.2.1
    generalize World.setCell (w137) ⟨gz, 30, none⟩ (.slice none 0 0) = w140 at *
    obtain ⟨u00, hu00⟩ := ZB.cell 0 (by omega)
    have hr00 := ZB.free 0
    have ZB1 := ZB.set_kind 0
    obtain ⟨u10, hu10⟩ := ZB.cell 1 (by omega)
    have hr10 := ZB.free 1
    obtain ⟨u11, hu11⟩ := ZB1.cell 1 (by omega)
    have hr11 := ZB1.free 1
    have ZB2 := ZB1.set_pos 0
    go_upto_region 30 with fail
    any_goals try (rename_i hfz; simp [hr00, hr10, hr11] at hfz; done)
    clear hu00 hr00 hu10 hr10 hu11 hr11
    clear ZB1
    have ZB := ZB2
    clear ZB2
    have KW := ZB.1
    have BA := ZB.2.2.2.1
    generalize World.setCell (World.setCell (w140) ⟨gz, 0, none⟩ (.int .i64 0)) ⟨gz, 1, none⟩ (.int .i64 0) = w141 at *
    obtain ⟨K, hg, hn, BA2, cz, BZ, hvz⟩ := ZB
    have hszz : cz.toArray.size = 32 := by simpa using hvz.len
    have hsza : CA.size = 32 := by rw [HCS.out]; simpa using HV0.out.len
    obtain ⟨y1, y2⟩ := tblk_mid BZ hszz
    obtain ⟨y3, y4⟩ := tblk_mid BA hsza
    have hc0 := optional_any _ _ w141 cs cz (HV0.out.keeps K (fun _ _ h => h) (fun _ h => h)) (hvz.keeps K (fun _ _ h => h) (fun _ h => h))
    rw [← HCS.out] at hc0
    have hc := hc0
    clear hc0 hvz BA2 hg hn hszz hsza
    generalize cz.toArray = CZ at *
    try dsimp only
    repeat (first | go_values | go_skip | go_guarded | go_step | go_upon | go_back)
    refine hc.mono ?_
    rintro e w8 ⟨k8, es, rfl, hes⟩
    clear hc y1 y2 y3 y4
    have hc0 := sameStmt_any _ zeroSt w8 es stC hes (zeroSt_is S w8)
    have hc : Calls Tryz.prog 128 #[.agg es.toArray, .agg #[.int .i64 0, .int .i64 0, .bool false, .string ⟨#[]⟩, .int .i64 0, .string ⟨#[]⟩, .slice none 0 0, .slice none 0 0, .bool false, .string ⟨#[]⟩, .slice none 0 0, .int .i64 0, .int .i64 0, .int .i64 0, .string ⟨#[]⟩, .slice none 0 0, .int .i64 0, .int .i64 0, .string ⟨#[]⟩, .slice none 0 0, .int .i64 0, .string ⟨#[]⟩, .slice none 0 0, .string ⟨#[]⟩, .slice none 0 0, .slice none 0 0, .int .i64 0, .int .i64 0, .string ⟨#[]⟩, .slice none 0 0, .slice none 0 0, .slice none 0 0]] w8 (Tells w8 _) := hc0
    clear hc0 hes
    generalize es.toArray = ES at *
    try dsimp only
    repeat (first | go_values | go_skip | go_guarded | go_step | go_upon | go_back)
    refine hc.mono ?_
    rintro e w9 ⟨⟨z, rfl, hz⟩, k9⟩
    have HZ : Shut (z = true ↔ X) := shut (by rw [hz, HQ.out]; exact ⟨fun h => ⟨(fun h => by cases h), hz132.1 rfl, hz137.1 rfl, h⟩, fun h => h.2.2.2⟩)
    clear hc hz HQ
    try dsimp only
    repeat (first | go_values | go_skip | go_guarded | go_step | go_upon | go_back)
    go_ret
    exact tells_z HZ.out ((K.trans k8 (fun _ h _ => h)).trans k9 (fun _ h _ => h))
 | true =>
  obtain ⟨-, -, -, -, -, -, -, -, -, -, ae31⟩ := StB al_ty al_place al_val al_cond GCA.out BA
  have hc := block_of a_els (fun e he => IH_els.out e he) wc (HM.out.keeps KW) (d + 1) (by omega) (by omega) q31 (ah_els.keeps KW (fun _ _ h => h) (fun _ h => h) (fun _ _ _ h => h.keeps KW (fun _ _ h => h) (fun _ h => h)))
  try dsimp only
  repeat (first | go_values | go_skip | go_guarded | go_step | go_upon | go_back)
  refine hc.mono ?_
  rintro e w142 ⟨⟨z142, rfl, hz142⟩, k142⟩
  have KW := KW.trans k142 (fun _ h _ => h)
  have BA := k142.blk BA (fun h => h)
  have ZB := ZB.keeps k142
  clear hc k142 ae31
  try dsimp only
  go_upto_region 22 with fail
  try simp only [Bool.false_eq_true, ↓reduceIte]
  cases z142 with
  | false =>
   have hf260 := ZB.fit 26 4 (by omega)
   have hg26 : aggOk 4 (.agg #[.int .i64 0, .int .i64 0, .string ⟨#[]⟩, .slice none 0 0]) = true := agg_ok (zeroOpr_is S w).len (zeroOpr_is S w).one
   have ZB1 := ZB.set_cond
   go_upto_region 24 with fail
   try simp only [Bool.false_eq_true, ↓reduceIte]
   clear hf260 hg26
   have ZB := ZB1
   clear ZB1
   have KW := ZB.1
   have BA := ZB.2.2.2.1
   generalize midSet (w142) gz 26 #[.int .i64 0, .int .i64 0, .string ⟨#[]⟩, .slice none 0 0] = w143 at *
   obtain ⟨u300, hu300⟩ := ZB.cell 30 (by omega)
   have hr300 := ZB.free 30
   have ZB1 := ZB.set_thn
   go_upto_region 29 with fail
   try simp only [Bool.false_eq_true, ↓reduceIte]
   any_goals try (rename_i hfz; simp [hr300] at hfz; done)
   clear hu300 hr300
   have ZB := ZB1
   clear ZB1
   have KW := ZB.1
   have BA := ZB.2.2.2.1
   generalize World.setCell (w143) ⟨gz, 30, none⟩ (.slice none 0 0) = w144 at *
   obtain ⟨u00, hu00⟩ := ZB.cell 0 (by omega)
   have hr00 := ZB.free 0
   have ZB1 := ZB.set_kind 0
   obtain ⟨u10, hu10⟩ := ZB.cell 1 (by omega)
   have hr10 := ZB.free 1
   obtain ⟨u11, hu11⟩ := ZB1.cell 1 (by omega)
   have hr11 := ZB1.free 1
   have ZB2 := ZB1.set_pos 0
   go_upto_region 30 with fail
   any_goals try (rename_i hfz; simp [hr00, hr10, hr11] at hfz; done)
   clear hu00 hr00 hu10 hr10 hu11 hr11
   clear ZB1
   have ZB := ZB2
   clear ZB2
   have KW := ZB.1
   have BA := ZB.2.2.2.1
   generalize World.setCell (World.setCell (w144) ⟨gz, 0, none⟩ (.int .i64 0)) ⟨gz, 1, none⟩ (.int .i64 0) = w145 at *
   have hno : Shut (¬ X) := shut (fun h => by have h2 := hz142.2 ((HQ.out.1 h).1 rfl); cases h2)
   clear HQ
   have KW := ZB.1
   clear ZB BA
   repeat (first | go_values | go_skip | go_guarded | go_step | go_upon | go_back)
   go_ret
   exact tells_f hno.out KW
  | true =>
   obtain ⟨-, -, -, -, -, -, -, -, ⟨ae26, af26⟩, -, -⟩ := StB al_ty al_place al_val al_cond GCA.out BA
   have hc := oper_any a_cond w142 s26 (ah_cond.keeps KW (fun _ _ h => h) (fun _ h => h))
   try dsimp only
   repeat (first | go_values | go_skip | go_guarded | go_step | go_upon | go_back)
   refine hc.mono ?_
   rintro e w146 ⟨⟨z146, rfl, hz146⟩, k146⟩
   have KW := KW.trans k146 (fun _ h _ => h)
   have BA := k146.blk BA (fun h => h)
   have ZB := ZB.keeps k146
   clear hc k146 ae26 af26
   try dsimp only
   cases z146 with
   | false =>
    have hf260 := ZB.fit 26 4 (by omega)
    have hg26 : aggOk 4 (.agg #[.int .i64 0, .int .i64 0, .string ⟨#[]⟩, .slice none 0 0]) = true := agg_ok (zeroOpr_is S w).len (zeroOpr_is S w).one
    have ZB1 := ZB.set_cond
    go_upto_region 24 with fail
    try simp only [Bool.false_eq_true, ↓reduceIte]
    clear hf260 hg26
    have ZB := ZB1
    clear ZB1
    have KW := ZB.1
    have BA := ZB.2.2.2.1
    generalize midSet (w146) gz 26 #[.int .i64 0, .int .i64 0, .string ⟨#[]⟩, .slice none 0 0] = w147 at *
    obtain ⟨u300, hu300⟩ := ZB.cell 30 (by omega)
    have hr300 := ZB.free 30
    have ZB1 := ZB.set_thn
    go_upto_region 29 with fail
    try simp only [Bool.false_eq_true, ↓reduceIte]
    any_goals try (rename_i hfz; simp [hr300] at hfz; done)
    clear hu300 hr300
    have ZB := ZB1
    clear ZB1
    have KW := ZB.1
    have BA := ZB.2.2.2.1
    generalize World.setCell (w147) ⟨gz, 30, none⟩ (.slice none 0 0) = w148 at *
    obtain ⟨u00, hu00⟩ := ZB.cell 0 (by omega)
    have hr00 := ZB.free 0
    have ZB1 := ZB.set_kind 0
    obtain ⟨u10, hu10⟩ := ZB.cell 1 (by omega)
    have hr10 := ZB.free 1
    obtain ⟨u11, hu11⟩ := ZB1.cell 1 (by omega)
    have hr11 := ZB1.free 1
    have ZB2 := ZB1.set_pos 0
    go_upto_region 30 with fail
    any_goals try (rename_i hfz; simp [hr00, hr10, hr11] at hfz; done)
    clear hu00 hr00 hu10 hr10 hu11 hr11
    clear ZB1
    have ZB := ZB2
    clear ZB2
    have KW := ZB.1
    have BA := ZB.2.2.2.1
    generalize World.setCell (World.setCell (w148) ⟨gz, 0, none⟩ (.int .i64 0)) ⟨gz, 1, none⟩ (.int .i64 0) = w149 at *
    have hno : Shut (¬ X) := shut (fun h => by have h2 := hz146.2 (HQ.out.1 h).2.1; cases h2)
    clear HQ
    have KW := ZB.1
    clear ZB BA
    repeat (first | go_values | go_skip | go_guarded | go_step | go_upon | go_back)
    go_ret
    exact tells_f hno.out KW
   | true =>
    have hf260 := ZB.fit 26 4 (by omega)
    have hg26 : aggOk 4 (.agg #[.int .i64 0, .int .i64 0, .string ⟨#[]⟩, .slice none 0 0]) = true := agg_ok (zeroOpr_is S w).len (zeroOpr_is S w).one
    have ZB1 := ZB.set_cond
    go_upto_region 24 with fail
    clear hf260 hg26
    have ZB := ZB1
    clear ZB1
    have KW := ZB.1
    have BA := ZB.2.2.2.1
    generalize midSet (w146) gz 26 #[.int .i64 0, .int .i64 0, .string ⟨#[]⟩, .slice none 0 0] = w150 at *
    obtain ⟨-, -, -, -, -, -, -, -, -, ae30, -⟩ := StB al_ty al_place al_val al_cond GCA.out BA
    have hc := block_of a_thn (fun e he => IH_thn.out e he) w150 (HM.out.keeps KW) (d + 1) (by omega) (by omega) q30 (ah_thn.keeps KW (fun _ _ h => h) (fun _ h => h) (fun _ _ _ h => h.keeps KW (fun _ _ h => h) (fun _ h => h)))
    try dsimp only
    repeat (first | go_values | go_skip | go_guarded | go_step | go_upon | go_back)
    refine hc.mono ?_
    rintro e w151 ⟨⟨z151, rfl, hz151⟩, k151⟩
    have KW := KW.trans k151 (fun _ h _ => h)
    have BA := k151.blk BA (fun h => h)
    have ZB := ZB.keeps k151
    clear hc k151 ae30
    try dsimp only
    cases z151 with
    | false =>
     obtain ⟨u300, hu300⟩ := ZB.cell 30 (by omega)
     have hr300 := ZB.free 30
     have ZB1 := ZB.set_thn
     go_upto_region 29 with fail
     try simp only [Bool.false_eq_true, ↓reduceIte]
     any_goals try (rename_i hfz; simp [hr300] at hfz; done)
     clear hu300 hr300
     have ZB := ZB1
     clear ZB1
     have KW := ZB.1
     have BA := ZB.2.2.2.1
     generalize World.setCell (w151) ⟨gz, 30, none⟩ (.slice none 0 0) = w152 at *
     obtain ⟨u00, hu00⟩ := ZB.cell 0 (by omega)
     have hr00 := ZB.free 0
     have ZB1 := ZB.set_kind 0
     obtain ⟨u10, hu10⟩ := ZB.cell 1 (by omega)
     have hr10 := ZB.free 1
     obtain ⟨u11, hu11⟩ := ZB1.cell 1 (by omega)
     have hr11 := ZB1.free 1
     have ZB2 := ZB1.set_pos 0
     go_upto_region 30 with fail
     any_goals try (rename_i hfz; simp [hr00, hr10, hr11] at hfz; done)
     clear hu00 hr00 hu10 hr10 hu11 hr11
     clear ZB1
     have ZB := ZB2
     clear ZB2
     have KW := ZB.1
     have BA := ZB.2.2.2.1
     generalize World.setCell (World.setCell (w152) ⟨gz, 0, none⟩ (.int .i64 0)) ⟨gz, 1, none⟩ (.int .i64 0) = w153 at *
     have hno : Shut (¬ X) := shut (fun h => by have h2 := hz151.2 (HQ.out.1 h).2.2.1; cases h2)
     clear HQ
     have KW := ZB.1
     clear ZB BA
     repeat (first | go_values | go_skip | go_guarded | go_step | go_upon | go_back)
     go_ret
     exact tells_f hno.out KW
    | true =>
     obtain ⟨u300, hu300⟩ := ZB.cell 30 (by omega)
     have hr300 := ZB.free 30
     have ZB1 := ZB.set_thn
     go_upto_region 29 with fail
     any_goals try (rename_i hfz; simp [hr300] at hfz; done)
     clear hu300 hr300
     have ZB := ZB1
     clear ZB1
     have KW := ZB.1
     have BA := ZB.2.2.2.1
     generalize World.setCell (w151) ⟨gz, 30, none⟩ (.slice none 0 0) = w154 at *
     obtain ⟨u00, hu00⟩ := ZB.cell 0 (by omega)
     have hr00 := ZB.free 0
     have ZB1 := ZB.set_kind 0
     obtain ⟨u10, hu10⟩ := ZB.cell 1 (by omega)
     have hr10 := ZB.free 1
     obtain ⟨u11, hu11⟩ := ZB1.cell 1 (by omega)
     have hr11 := ZB1.free 1
     have ZB2 := ZB1.set_pos 0
     go_upto_region 30 with fail
     any_goals try (rename_i hfz; simp [hr00, hr10, hr11] at hfz; done)
     clear hu00 hr00 hu10 hr10 hu11 hr11
     clear ZB1
     have ZB := ZB2
     clear ZB2
     have KW := ZB.1
     have BA := ZB.2.2.2.1
     generalize World.setCell (World.setCell (w154) ⟨gz, 0, none⟩ (.int .i64 0)) ⟨gz, 1, none⟩ (.int .i64 0) = w155 at *
     obtain ⟨K, hg, hn, BA2, cz, BZ, hvz⟩ := ZB
     have hszz : cz.toArray.size = 32 := by simpa using hvz.len
     have hsza : CA.size = 32 := by rw [HCS.out]; simpa using HV0.out.len
     obtain ⟨y1, y2⟩ := tblk_mid BZ hszz
     obtain ⟨y3, y4⟩ := tblk_mid BA hsza
     have hc0 := optional_any _ _ w155 cs cz (HV0.out.keeps K (fun _ _ h => h) (fun _ h => h)) (hvz.keeps K (fun _ _ h => h) (fun _ h => h))
     rw [← HCS.out] at hc0
     have hc := hc0
     clear hc0 hvz BA2 hg hn hszz hsza
     generalize cz.toArray = CZ at *
     try dsimp only
     repeat (first | go_values | go_skip | go_guarded | go_step | go_upon | go_back)
     refine hc.mono ?_
     rintro e w8 ⟨k8, es, rfl, hes⟩
     clear hc y1 y2 y3 y4
     have hc0 := sameStmt_any _ zeroSt w8 es stC hes (zeroSt_is S w8)
     have hc : Calls Tryz.prog 128 #[.agg es.toArray, .agg #[.int .i64 0, .int .i64 0, .bool false, .string ⟨#[]⟩, .int .i64 0, .string ⟨#[]⟩, .slice none 0 0, .slice none 0 0, .bool false, .string ⟨#[]⟩, .slice none 0 0, .int .i64 0, .int .i64 0, .int .i64 0, .string ⟨#[]⟩, .slice none 0 0, .int .i64 0, .int .i64 0, .string ⟨#[]⟩, .slice none 0 0, .int .i64 0, .string ⟨#[]⟩, .slice none 0 0, .string ⟨#[]⟩, .slice none 0 0, .slice none 0 0, .int .i64 0, .int .i64 0, .string ⟨#[]⟩, .slice none 0 0, .slice none 0 0, .slice none 0 0]] w8 (Tells w8 _) := hc0
     clear hc0 hes
     generalize es.toArray = ES at *
     try dsimp only
     repeat (first | go_values | go_skip | go_guarded | go_step | go_upon | go_back)
     refine hc.mono ?_
     rintro e w9 ⟨⟨z, rfl, hz⟩, k9⟩
     have HZ : Shut (z = true ↔ X) := shut (by rw [hz, HQ.out]; exact ⟨fun h => ⟨fun _ => hz142.1 rfl, hz146.1 rfl, hz151.1 rfl, h⟩, fun h => h.2.2.2⟩)
     clear hc hz HQ
     try dsimp only
     repeat (first | go_values | go_skip | go_guarded | go_step | go_upon | go_back)
     go_ret
     exact tells_z HZ.out ((K.trans k8 (fun _ h _ => h)).trans k9 (fun _ h _ => h))
end Go.Proofs.YtjbcagbnagefcaaGreat
namespace Go.Proofs.YtjbcagbnagefcaaGreat
open Go.RowKit
attribute [local go_sem ↓] exec_mid_ty exec_store_ty exec_mid_pl exec_store_pl exec_mid_opr exec_store_opr exec_mid_val exec_store_val exec_mid_st exec_store_st exec_mid_fld exec_store_fld exec_mid_str exec_store_str exec_mid_lif exec_store_lif exec_mid_fun exec_store_fun exec_mid_cr exec_store_cr
attribute [local go_sem] rowOk_new World.setRow_alloc_new
attribute [local go_sem ↓] exec_into_pl exec_into_opr exec_into_ty exec_into_val build_valS build_st
set_option maxRecDepth 100000 in
set_option linter.unusedSimpArgs false in
set_option maxHeartbeats 16000000 in
theorem stmt_k5 {S : Nat → Prop} {a_pos : Int} {a_mu : Bool} {a_name : List UInt8} {a_ty : TyD} {a_has : Bool} {a_place : PlD} {a_val : ValD} {a_cond : OprD} {a_thn a_els : List StD} (IH_thn : Shut (∀ e ∈ a_thn, StmtC S e)) : StmtC S (.mk 5 a_pos a_mu a_name a_ty a_has a_place a_val a_cond a_thn a_els) := by
 intro w cs d hM hd0 hd1 ha
 have HV0 := shut ha
 have HM := shut hM
 clear hM
 have wd : IntKind.i64.wrap (d + 1) = d + 1 := by rw [IntKind.wrap_i64]; omega
 have HQ : Shut (StP (.mk 5 a_pos a_mu a_name a_ty a_has a_place a_val a_cond a_thn a_els) d ↔ OprP a_cond ∧ BlP a_thn (d + 1) ∧ optD (.mk 5 a_pos a_mu a_name a_ty a_has a_place a_val a_cond a_thn a_els) (.mk 0 0 a_mu a_name a_ty a_has a_place a_val zeroOpr [] a_els) = zeroSt) := shut (by unfold StP BlP; simp)
 obtain ⟨X, hX⟩ : ∃ X, X = StP (.mk 5 a_pos a_mu a_name a_ty a_has a_place a_val a_cond a_thn a_els) d := ⟨_, rfl⟩
 rw [← hX] at HQ ⊢
 clear hX
 have ag1 := agg_ok ha.len ha.one
 rw [stIs_iff] at ha
 obtain ⟨s4, s9, s11, s26, p30, q30, p31, q31, hcs, ah_name, ah_ty, ah_place, ah_val, ah_cond, ah_thn, ah_els⟩ := ha
 have HCA := shut hcs
 clear hcs
 simp only [StD.kind, StD.pos, StD.mu, StD.name, StD.ty, StD.has, StD.place, StD.val, StD.cond, StD.thn, StD.els] at ah_name ah_ty ah_place ah_val ah_cond ah_thn ah_els HCA
 obtain ⟨CA, hCA⟩ : ∃ C, C = cs.toArray := ⟨_, rfl⟩
 rw [← hCA] at ag1 ⊢
 have HCS := shut hCA
 rw [HCA.out] at hCA
 have GCA := shut hCA
 clear hCA HCA
 have al_ty := ah_ty.len
 have al_place := ah_place.len
 have al_val := ah_val.len
 have al_cond := ah_cond.len
 have KW : Keeps Nothing w (w.alloc (.cells CA 121)) := (Keeps.refl Nothing w).alloc _
 have BA := blk_new w CA 121
 go_enter Tryz.func122, Tryz.ntmps122
 go_upto_region 1 with fail
 generalize w.heap.size = ga at *
 generalize w.alloc (.cells CA 121) = wb at *
 have hsz : CA.size = 32 := by rw [HCS.out]; simpa using HV0.out.len
 obtain ⟨y1, y2⟩ := tblk_mid BA hsz
 go_upto_region 3 with fail
 have ZB := StB2.new KW BA HCS.out HV0.out
 clear y1 y2 ag1 hsz
 have BA := blk_alloc BA (.cells CA 121)
 have KW := KW.alloc (.cells CA 121)
 have hgz : ga ≠ wb.heap.size := ZB.2.2.1
 generalize wb.heap.size = gz at *
 generalize wb.alloc (.cells CA 121) = wc at *
 obtain ⟨ae0, -, -, -, -, -, -, -, -, -, -⟩ := StB al_ty al_place al_val al_cond GCA.out BA
 obtain ⟨-, -, -, -, -, -, -, -, ⟨ae26, af26⟩, -, -⟩ := StB al_ty al_place al_val al_cond GCA.out BA
 have hc := oper_any a_cond wc s26 (ah_cond.keeps KW (fun _ _ h => h) (fun _ h => h))
 try dsimp only
 repeat (first | go_values | go_skip | go_guarded | go_step | go_upon | go_back)
 refine hc.mono ?_
 rintro e w156 ⟨⟨z156, rfl, hz156⟩, k156⟩
 have KW := KW.trans k156 (fun _ h _ => h)
 have BA := k156.blk BA (fun h => h)
 have ZB := ZB.keeps k156
 clear hc k156 ae26 af26
 try dsimp only
 cases z156 with
 | false =>
  have hf260 := ZB.fit 26 4 (by omega)
  have hg26 : aggOk 4 (.agg #[.int .i64 0, .int .i64 0, .string ⟨#[]⟩, .slice none 0 0]) = true := agg_ok (zeroOpr_is S w).len (zeroOpr_is S w).one
  have ZB1 := ZB.set_cond
  go_upto_region 24 with fail
  clear hf260 hg26
  have ZB := ZB1
  clear ZB1
  have KW := ZB.1
  have BA := ZB.2.2.2.1
  generalize midSet (w156) gz 26 #[.int .i64 0, .int .i64 0, .string ⟨#[]⟩, .slice none 0 0] = w157 at *
  obtain ⟨u300, hu300⟩ := ZB.cell 30 (by omega)
  have hr300 := ZB.free 30
  have ZB1 := ZB.set_thn
  go_upto_region 29 with fail
  any_goals try (rename_i hfz; simp [hr300] at hfz; done)
  clear hu300 hr300
  have ZB := ZB1
  clear ZB1
  have KW := ZB.1
  have BA := ZB.2.2.2.1
  generalize World.setCell (w157) ⟨gz, 30, none⟩ (.slice none 0 0) = w158 at *
  obtain ⟨u00, hu00⟩ := ZB.cell 0 (by omega)
  have hr00 := ZB.free 0
  have ZB1 := ZB.set_kind 0
  obtain ⟨u10, hu10⟩ := ZB.cell 1 (by omega)
  have hr10 := ZB.free 1
  obtain ⟨u11, hu11⟩ := ZB1.cell 1 (by omega)
  have hr11 := ZB1.free 1
  have ZB2 := ZB1.set_pos 0
  go_upto_region 30 with fail
  any_goals try (rename_i hfz; simp [hr00, hr10, hr11] at hfz; done)
  clear hu00 hr00 hu10 hr10 hu11 hr11
  clear ZB1
  have ZB := ZB2
  clear ZB2
  have KW := ZB.1
  have BA := ZB.2.2.2.1
  generalize World.setCell (World.setCell (w158) ⟨gz, 0, none⟩ (.int .i64 0)) ⟨gz, 1, none⟩ (.int .i64 0) = w159 at *
  have hno : Shut (¬ X) := shut (fun h => by have h2 := hz156.2 (HQ.out.1 h).1; cases h2)
  clear HQ
  have KW := ZB.1
  clear ZB BA
  repeat (first | go_values | go_skip | go_guarded | go_step | go_upon | go_back)
  go_ret
  exact tells_f hno.out KW
 | true =>
  have hf260 := ZB.fit 26 4 (by omega)
  have hg26 : aggOk 4 (.agg #[.int .i64 0, .int .i64 0, .string ⟨#[]⟩, .slice none 0 0]) = true := agg_ok (zeroOpr_is S w).len (zeroOpr_is S w).one
  have ZB1 := ZB.set_cond
  go_upto_region 24 with fail
  clear hf260 hg26
  have ZB := ZB1
  clear ZB1
  have KW := ZB.1
  have BA := ZB.2.2.2.1
  generalize midSet (w156) gz 26 #[.int .i64 0, .int .i64 0, .string ⟨#[]⟩, .slice none 0 0] = w160 at *
  obtain ⟨-, -, -, -, -, -, -, -, -, ae30, -⟩ := StB al_ty al_place al_val al_cond GCA.out BA
  have hc := block_of a_thn (fun e he => IH_thn.out e he) w160 (HM.out.keeps KW) (d + 1) (by omega) (by omega) q30 (ah_thn.keeps KW (fun _ _ h => h) (fun _ h => h) (fun _ _ _ h => h.keeps KW (fun _ _ h => h) (fun _ h => h)))
  try dsimp only
  repeat (first | go_values | go_skip | go_guarded | go_step | go_upon | go_back)
  refine hc.mono ?_
  rintro e w161 ⟨⟨z161, rfl, hz161⟩, k161⟩
  have KW := KW.trans k161 (fun _ h _ => h)
  have BA := k161.blk BA (fun h => h)
  have ZB := ZB.keeps k161
  clear hc k161 ae30
  try dsimp only
  cases z161 with
  | false =>
   obtain ⟨u300, hu300⟩ := ZB.cell 30 (by omega)
   have hr300 := ZB.free 30
   have ZB1 := ZB.set_thn
   go_upto_region 29 with fail
   any_goals try (rename_i hfz; simp [hr300] at hfz; done)
   clear hu300 hr300
   have ZB := ZB1
   clear ZB1
   have KW := ZB.1
   have BA := ZB.2.2.2.1
   generalize World.setCell (w161) ⟨gz, 30, none⟩ (.slice none 0 0) = w162 at *
   obtain ⟨u00, hu00⟩ := ZB.cell 0 (by omega)
   have hr00 := ZB.free 0
   have ZB1 := ZB.set_kind 0
   obtain ⟨u10, hu10⟩ := ZB.cell 1 (by omega)
   have hr10 := ZB.free 1
   obtain ⟨u11, hu11⟩ := ZB1.cell 1 (by omega)
   have hr11 := ZB1.free 1
   have ZB2 := ZB1.set_pos 0
   go_upto_region 30 with fail
   any_goals try (rename_i hfz; simp [hr00, hr10, hr11] at hfz; done)
   clear hu00 hr00 hu10 hr10 hu11 hr11
   clear ZB1
   have ZB := ZB2
   clear ZB2
   have KW := ZB.1
   have BA := ZB.2.2.2.1
   generalize World.setCell (World.setCell (w162) ⟨gz, 0, none⟩ (.int .i64 0)) ⟨gz, 1, none⟩ (.int .i64 0) = w163 at *
   have hno : Shut (¬ X) := shut (fun h => by have h2 := hz161.2 (HQ.out.1 h).2.1; cases h2)
   clear HQ
   have KW := ZB.1
   clear ZB BA
   repeat (first | go_values | go_skip | go_guarded | go_step | go_upon | go_back)
   go_ret
   exact tells_f hno.out KW
  | true =>
   obtain ⟨u300, hu300⟩ := ZB.cell 30 (by omega)
   have hr300 := ZB.free 30
   have ZB1 := ZB.set_thn
   go_upto_region 29 with fail
   any_goals try (rename_i hfz; simp [hr300] at hfz; done)
   clear hu300 hr300
   have ZB := ZB1
   clear ZB1
   have KW := ZB.1
   have BA := ZB.2.2.2.1
   generalize World.setCell (w161) ⟨gz, 30, none⟩ (.slice none 0 0) = w164 at *
   obtain ⟨u00, hu00⟩ := ZB.cell 0 (by omega)
   have hr00 := ZB.free 0
   have ZB1 := ZB.set_kind 0
   obtain ⟨u10, hu10⟩ := ZB.cell 1 (by omega)
   have hr10 := ZB.free 1
   obtain ⟨u11, hu11⟩ := ZB1.cell 1 (by omega)
   have hr11 := ZB1.free 1
   have ZB2 := ZB1.set_pos 0
   go_upto_region 30 with fail
   any_goals try (rename_i hfz; simp [hr00, hr10, hr11] at hfz; done)
   clear hu00 hr00 hu10 hr10 hu11 hr11
   clear ZB1
   have ZB := ZB2
   clear ZB2
   have KW := ZB.1
   have BA := ZB.2.2.2.1
   generalize World.setCell (World.setCell (w164) ⟨gz, 0, none⟩ (.int .i64 0)) ⟨gz, 1, none⟩ (.int .i64 0) = w165 at *
   obtain ⟨K, hg, hn, BA2, cz, BZ, hvz⟩ := ZB
   have hszz : cz.toArray.size = 32 := by simpa using hvz.len
   have hsza : CA.size = 32 := by rw [HCS.out]; simpa using HV0.out.len
   obtain ⟨y1, y2⟩ := tblk_mid BZ hszz
   obtain ⟨y3, y4⟩ := tblk_mid BA hsza
   have hc0 := optional_any _ _ w165 cs cz (HV0.out.keeps K (fun _ _ h => h) (fun _ h => h)) (hvz.keeps K (fun _ _ h => h) (fun _ h => h))
   rw [← HCS.out] at hc0
   have hc := hc0
   clear hc0 hvz BA2 hg hn hszz hsza
   generalize cz.toArray = CZ at *
   try dsimp only
   repeat (first | go_values | go_skip | go_guarded | go_step | go_upon | go_back)
   refine hc.mono ?_
   rintro e w8 ⟨k8, es, rfl, hes⟩
   clear hc y1 y2 y3 y4
   have hc0 := sameStmt_any _ zeroSt w8 es stC hes (zeroSt_is S w8)
   have hc : Calls Tryz.prog 128 #[.agg es.toArray, .agg #[.int .i64 0, .int .i64 0, .bool false, .string ⟨#[]⟩, .int .i64 0, .string ⟨#[]⟩, .slice none 0 0, .slice none 0 0, .bool false, .string ⟨#[]⟩, .slice none 0 0, .int .i64 0, .int .i64 0, .int .i64 0, .string ⟨#[]⟩, .slice none 0 0, .int .i64 0, .int .i64 0, .string ⟨#[]⟩, .slice none 0 0, .int .i64 0, .string ⟨#[]⟩, .slice none 0 0, .string ⟨#[]⟩, .slice none 0 0, .slice none 0 0, .int .i64 0, .int .i64 0, .string ⟨#[]⟩, .slice none 0 0, .slice none 0 0, .slice none 0 0]] w8 (Tells w8 _) := hc0
   clear hc0 hes
   generalize es.toArray = ES at *
   try dsimp only
   repeat (first | go_values | go_skip | go_guarded | go_step | go_upon | go_back)
   refine hc.mono ?_
   rintro e w9 ⟨⟨z, rfl, hz⟩, k9⟩
   have HZ : Shut (z = true ↔ X) := shut (by rw [hz, HQ.out]; exact ⟨fun h => ⟨hz156.1 rfl, hz161.1 rfl, h⟩, fun h => h.2.2⟩)
   clear hc hz HQ
   try dsimp only
   repeat (first | go_values | go_skip | go_guarded | go_step | go_upon | go_back)
   go_ret
   exact tells_z HZ.out ((K.trans k8 (fun _ h _ => h)).trans k9 (fun _ h _ => h))
set_option maxRecDepth 100000 in
set_option linter.unusedSimpArgs false in
set_option maxHeartbeats 16000000 in
theorem stmt_k6 {S : Nat → Prop} {a_pos : Int} {a_mu : Bool} {a_name : List UInt8} {a_ty : TyD} {a_has : Bool} {a_place : PlD} {a_val : ValD} {a_cond : OprD} {a_thn a_els : List StD} (IH_thn : Shut (∀ e ∈ a_thn, StmtC S e)) : StmtC S (.mk 6 a_pos a_mu a_name a_ty a_has a_place a_val a_cond a_thn a_els) := by
 intro w cs d hM hd0 hd1 ha
 have HV0 := shut ha
 have HM := shut hM
 clear hM
 have wd : IntKind.i64.wrap (d + 1) = d + 1 := by rw [IntKind.wrap_i64]; omega
 have HQ : Shut (StP (.mk 6 a_pos a_mu a_name a_ty a_has a_place a_val a_cond a_thn a_els) d ↔ BlP a_thn (d + 1) ∧ optD (.mk 6 a_pos a_mu a_name a_ty a_has a_place a_val a_cond a_thn a_els) (.mk 0 0 a_mu a_name a_ty a_has a_place a_val a_cond [] a_els) = zeroSt) := shut (by unfold StP BlP; simp)
 obtain ⟨X, hX⟩ : ∃ X, X = StP (.mk 6 a_pos a_mu a_name a_ty a_has a_place a_val a_cond a_thn a_els) d := ⟨_, rfl⟩
 rw [← hX] at HQ ⊢
 clear hX
 have ag1 := agg_ok ha.len ha.one
 rw [stIs_iff] at ha
 obtain ⟨s4, s9, s11, s26, p30, q30, p31, q31, hcs, ah_name, ah_ty, ah_place, ah_val, ah_cond, ah_thn, ah_els⟩ := ha
 have HCA := shut hcs
 clear hcs
 simp only [StD.kind, StD.pos, StD.mu, StD.name, StD.ty, StD.has, StD.place, StD.val, StD.cond, StD.thn, StD.els] at ah_name ah_ty ah_place ah_val ah_cond ah_thn ah_els HCA
 obtain ⟨CA, hCA⟩ : ∃ C, C = cs.toArray := ⟨_, rfl⟩
 rw [← hCA] at ag1 ⊢
 have HCS := shut hCA
 rw [HCA.out] at hCA
 have GCA := shut hCA
 clear hCA HCA
 have al_ty := ah_ty.len
 have al_place := ah_place.len
 have al_val := ah_val.len
 have al_cond := ah_cond.len
 have KW : Keeps Nothing w (w.alloc (.cells CA 121)) := (Keeps.refl Nothing w).alloc _
 have BA := blk_new w CA 121
 go_enter Tryz.func122, Tryz.ntmps122
 go_upto_region 1 with fail
 generalize w.heap.size = ga at *
 generalize w.alloc (.cells CA 121) = wb at *
 have hsz : CA.size = 32 := by rw [HCS.out]; simpa using HV0.out.len
 obtain ⟨y1, y2⟩ := tblk_mid BA hsz
 go_upto_region 3 with fail
 have ZB := StB2.new KW BA HCS.out HV0.out
 clear y1 y2 ag1 hsz
 have BA := blk_alloc BA (.cells CA 121)
 have KW := KW.alloc (.cells CA 121)
 have hgz : ga ≠ wb.heap.size := ZB.2.2.1
 generalize wb.heap.size = gz at *
 generalize wb.alloc (.cells CA 121) = wc at *
 obtain ⟨ae0, -, -, -, -, -, -, -, -, -, -⟩ := StB al_ty al_place al_val al_cond GCA.out BA
 obtain ⟨-, -, -, -, -, -, -, -, -, ae30, -⟩ := StB al_ty al_place al_val al_cond GCA.out BA
 have hc := block_of a_thn (fun e he => IH_thn.out e he) wc (HM.out.keeps KW) (d + 1) (by omega) (by omega) q30 (ah_thn.keeps KW (fun _ _ h => h) (fun _ h => h) (fun _ _ _ h => h.keeps KW (fun _ _ h => h) (fun _ h => h)))
 try dsimp only
 repeat (first | go_values | go_skip | go_guarded | go_step | go_upon | go_back)
 refine hc.mono ?_
 rintro e w166 ⟨⟨z166, rfl, hz166⟩, k166⟩
 have KW := KW.trans k166 (fun _ h _ => h)
 have BA := k166.blk BA (fun h => h)
 have ZB := ZB.keeps k166
 clear hc k166 ae30
 try dsimp only
 cases z166 with
 | false =>
  obtain ⟨u300, hu300⟩ := ZB.cell 30 (by omega)
  have hr300 := ZB.free 30
  have ZB1 := ZB.set_thn
  go_upto_region 29 with fail
  any_goals try (rename_i hfz; simp [hr300] at hfz; done)
  clear hu300 hr300
  have ZB := ZB1
  clear ZB1
  have KW := ZB.1
  have BA := ZB.2.2.2.1
  generalize World.setCell (w166) ⟨gz, 30, none⟩ (.slice none 0 0) = w167 at *
  obtain ⟨u00, hu00⟩ := ZB.cell 0 (by omega)
  have hr00 := ZB.free 0
  have ZB1 := ZB.set_kind 0
  obtain ⟨u10, hu10⟩ := ZB.cell 1 (by omega)
  have hr10 := ZB.free 1
  obtain ⟨u11, hu11⟩ := ZB1.cell 1 (by omega)
  have hr11 := ZB1.free 1
  have ZB2 := ZB1.set_pos 0
  go_upto_region 30 with fail
  any_goals try (rename_i hfz; simp [hr00, hr10, hr11] at hfz; done)
  clear hu00 hr00 hu10 hr10 hu11 hr11
  clear ZB1
  have ZB := ZB2
  clear ZB2
  have KW := ZB.1
  have BA := ZB.2.2.2.1
  generalize World.setCell (World.setCell (w167) ⟨gz, 0, none⟩ (.int .i64 0)) ⟨gz, 1, none⟩ (.int .i64 0) = w168 at *
  have hno : Shut (¬ X) := shut (fun h => by have h2 := hz166.2 (HQ.out.1 h).1; cases h2)
  clear HQ
  have KW := ZB.1
  clear ZB BA
  repeat (first | go_values | go_skip | go_guarded | go_step | go_upon | go_back)
  go_ret
  exact tells_f hno.out KW
 | true =>
  obtain ⟨u300, hu300⟩ := ZB.cell 30 (by omega)
  have hr300 := ZB.free 30
  have ZB1 := ZB.set_thn
  go_upto_region 29 with fail
  any_goals try (rename_i hfz; simp [hr300] at hfz; done)
  clear hu300 hr300
  have ZB := ZB1
  clear ZB1
  have KW := ZB.1
  have BA := ZB.2.2.2.1
  generalize World.setCell (w166) ⟨gz, 30, none⟩ (.slice none 0 0) = w169 at *
  obtain ⟨u00, hu00⟩ := ZB.cell 0 (by omega)
  have hr00 := ZB.free 0
  have ZB1 := ZB.set_kind 0
  obtain ⟨u10, hu10⟩ := ZB.cell 1 (by omega)
  have hr10 := ZB.free 1
  obtain ⟨u11, hu11⟩ := ZB1.cell 1 (by omega)
  have hr11 := ZB1.free 1
  have ZB2 := ZB1.set_pos 0
  go_upto_region 30 with fail
  any_goals try (rename_i hfz; simp [hr00, hr10, hr11] at hfz; done)
  clear hu00 hr00 hu10 hr10 hu11 hr11
  clear ZB1
  have ZB := ZB2
  clear ZB2
  have KW := ZB.1
  have BA := ZB.2.2.2.1
  generalize World.setCell (World.setCell (w169) ⟨gz, 0, none⟩ (.int .i64 0)) ⟨gz, 1, none⟩ (.int .i64 0) = w170 at *
  obtain ⟨K, hg, hn, BA2, cz, BZ, hvz⟩ := ZB
  have hszz : cz.toArray.size = 32 := by simpa using hvz.len
  have hsza : CA.size = 32 := by rw [HCS.out]; simpa using HV0.out.len
  obtain ⟨y1, y2⟩ := tblk_mid BZ hszz
  obtain ⟨y3, y4⟩ := tblk_mid BA hsza
  have hc0 := optional_any _ _ w170 cs cz (HV0.out.keeps K (fun _ _ h => h) (fun _ h => h)) (hvz.keeps K (fun _ _ h => h) (fun _ h => h))
  rw [← HCS.out] at hc0
  have hc := hc0
  clear hc0 hvz BA2 hg hn hszz hsza
  generalize cz.toArray = CZ at *
  try dsimp only
  repeat (first | go_values | go_skip | go_guarded | go_step | go_upon | go_back)
  refine hc.mono ?_
  rintro e w8 ⟨k8, es, rfl, hes⟩
  clear hc y1 y2 y3 y4
  have hc0 := sameStmt_any _ zeroSt w8 es stC hes (zeroSt_is S w8)
  have hc : Calls Tryz.prog 128 #[.agg es.toArray, .agg #[.int .i64 0, .int .i64 0, .bool false, .string ⟨#[]⟩, .int .i64 0, .string ⟨#[]⟩, .slice none 0 0, .slice none 0 0, .bool false, .string ⟨#[]⟩, .slice none 0 0, .int .i64 0, .int .i64 0, .int .i64 0, .string ⟨#[]⟩, .slice none 0 0, .int .i64 0, .int .i64 0, .string ⟨#[]⟩, .slice none 0 0, .int .i64 0, .string ⟨#[]⟩, .slice none 0 0, .string ⟨#[]⟩, .slice none 0 0, .slice none 0 0, .int .i64 0, .int .i64 0, .string ⟨#[]⟩, .slice none 0 0, .slice none 0 0, .slice none 0 0]] w8 (Tells w8 _) := hc0
  clear hc0 hes
  generalize es.toArray = ES at *
  try dsimp only
  repeat (first | go_values | go_skip | go_guarded | go_step | go_upon | go_back)
  refine hc.mono ?_
  rintro e w9 ⟨⟨z, rfl, hz⟩, k9⟩
  have HZ : Shut (z = true ↔ X) := shut (by rw [hz, HQ.out]; exact ⟨fun h => ⟨hz166.1 rfl, h⟩, fun h => h.2⟩)
  clear hc hz HQ
  try dsimp only
  repeat (first | go_values | go_skip | go_guarded | go_step | go_upon | go_back)
  go_ret
  exact tells_z HZ.out ((K.trans k8 (fun _ h _ => h)).trans k9 (fun _ h _ => h))
set_option maxRecDepth 100000 in
set_option linter.unusedSimpArgs false in
set_option maxHeartbeats 16000000 in
theorem stmt_k7 {S : Nat → Prop} {a_pos : Int} {a_mu : Bool} {a_name : List UInt8} {a_ty : TyD} {a_has : Bool} {a_place : PlD} {a_val : ValD} {a_cond : OprD} {a_thn a_els : List StD} (IH_thn : Shut (∀ e ∈ a_thn, StmtC S e)) : StmtC S (.mk 7 a_pos a_mu a_name a_ty a_has a_place a_val a_cond a_thn a_els) := by
 intro w cs d hM hd0 hd1 ha
 have HV0 := shut ha
 have HM := shut hM
 clear hM
 have wd : IntKind.i64.wrap (d + 1) = d + 1 := by rw [IntKind.wrap_i64]; omega
 have HQ : Shut (StP (.mk 7 a_pos a_mu a_name a_ty a_has a_place a_val a_cond a_thn a_els) d ↔ BlP a_thn (d + 1) ∧ optD (.mk 7 a_pos a_mu a_name a_ty a_has a_place a_val a_cond a_thn a_els) (.mk 0 0 a_mu a_name a_ty a_has a_place a_val a_cond [] a_els) = zeroSt) := shut (by unfold StP BlP; simp)
 obtain ⟨X, hX⟩ : ∃ X, X = StP (.mk 7 a_pos a_mu a_name a_ty a_has a_place a_val a_cond a_thn a_els) d := ⟨_, rfl⟩
 rw [← hX] at HQ ⊢
 clear hX
 have ag1 := agg_ok ha.len ha.one
 rw [stIs_iff] at ha
 obtain ⟨s4, s9, s11, s26, p30, q30, p31, q31, hcs, ah_name, ah_ty, ah_place, ah_val, ah_cond, ah_thn, ah_els⟩ := ha
 have HCA := shut hcs
 clear hcs
 simp only [StD.kind, StD.pos, StD.mu, StD.name, StD.ty, StD.has, StD.place, StD.val, StD.cond, StD.thn, StD.els] at ah_name ah_ty ah_place ah_val ah_cond ah_thn ah_els HCA
 obtain ⟨CA, hCA⟩ : ∃ C, C = cs.toArray := ⟨_, rfl⟩
 rw [← hCA] at ag1 ⊢
 have HCS := shut hCA
 rw [HCA.out] at hCA
 have GCA := shut hCA
 clear hCA HCA
 have al_ty := ah_ty.len
 have al_place := ah_place.len
 have al_val := ah_val.len
 have al_cond := ah_cond.len
 have KW : Keeps Nothing w (w.alloc (.cells CA 121)) := (Keeps.refl Nothing w).alloc _
 have BA := blk_new w CA 121
 go_enter Tryz.func122, Tryz.ntmps122
 go_upto_region 1 with fail
 generalize w.heap.size = ga at *
 generalize w.alloc (.cells CA 121) = wb at *
 have hsz : CA.size = 32 := by rw [HCS.out]; simpa using HV0.out.len
 obtain ⟨y1, y2⟩ := tblk_mid BA hsz
 go_upto_region 3 with fail
 have ZB := StB2.new KW BA HCS.out HV0.out
 clear y1 y2 ag1 hsz
 have BA := blk_alloc BA (.cells CA 121)
 have KW := KW.alloc (.cells CA 121)
 have hgz : ga ≠ wb.heap.size := ZB.2.2.1
 generalize wb.heap.size = gz at *
 generalize wb.alloc (.cells CA 121) = wc at *
 obtain ⟨ae0, -, -, -, -, -, -, -, -, -, -⟩ := StB al_ty al_place al_val al_cond GCA.out BA
 obtain ⟨-, -, -, -, -, -, -, -, -, ae30, -⟩ := StB al_ty al_place al_val al_cond GCA.out BA
 have hc := block_of a_thn (fun e he => IH_thn.out e he) wc (HM.out.keeps KW) (d + 1) (by omega) (by omega) q30 (ah_thn.keeps KW (fun _ _ h => h) (fun _ h => h) (fun _ _ _ h => h.keeps KW (fun _ _ h => h) (fun _ h => h)))
 try dsimp only
 repeat (first | go_values | go_skip | go_guarded | go_step | go_upon | go_back)
 refine hc.mono ?_
 rintro e w171 ⟨⟨z171, rfl, hz171⟩, k171⟩
 have KW := KW.trans k171 (fun _ h _ => h)
 have BA := k171.blk BA (fun h => h)
 have ZB := ZB.keeps k171
 clear hc k171 ae30
 try dsimp only
 cases z171 with
 | false =>
  obtain ⟨u300, hu300⟩ := ZB.cell 30 (by omega)
  have hr300 := ZB.free 30
  have ZB1 := ZB.set_thn
  go_upto_region 29 with fail
  any_goals try (rename_i hfz; simp [hr300] at hfz; done)
  clear hu300 hr300
  have ZB := ZB1
  clear ZB1
  have KW := ZB.1
  have BA := ZB.2.2.2.1
  generalize World.setCell (w171) ⟨gz, 30, none⟩ (.slice none 0 0) = w172 at *
  obtain ⟨u00, hu00⟩ := ZB.cell 0 (by omega)
  have hr00 := ZB.free 0
  have ZB1 := ZB.set_kind 0
  obtain ⟨u10, hu10⟩ := ZB.cell 1 (by omega)
  have hr10 := ZB.free 1
  obtain ⟨u11, hu11⟩ := ZB1.cell 1 (by omega)
  have hr11 := ZB1.free 1
  have ZB2 := ZB1.set_pos 0
  go_upto_region 30 with fail
  any_goals try (rename_i hfz; simp [hr00, hr10, hr11] at hfz; done)
  clear hu00 hr00 hu10 hr10 hu11 hr11
  clear ZB1
  have ZB := ZB2
  clear ZB2
  have KW := ZB.1
  have BA := ZB.2.2.2.1
  generalize World.setCell (World.setCell (w172) ⟨gz, 0, none⟩ (.int .i64 0)) ⟨gz, 1, none⟩ (.int .i64 0) = w173 at *
  have hno : Shut (¬ X) := shut (fun h => by have h2 := hz171.2 (HQ.out.1 h).1; cases h2)
  clear HQ
  have KW := ZB.1
  clear ZB BA
  repeat (first | go_values | go_skip | go_guarded | go_step | go_upon | go_back)
  go_ret
  exact tells_f hno.out KW
 | true =>
  obtain ⟨u300, hu300⟩ := ZB.cell 30 (by omega)
  have hr300 := ZB.free 30
  have ZB1 := ZB.set_thn
  go_upto_region 29 with fail
  any_goals try (rename_i hfz; simp [hr300] at hfz; done)
  clear hu300 hr300
  have ZB := ZB1
  clear ZB1
  have KW := ZB.1
  have BA := ZB.2.2.2.1
  generalize World.setCell (w171) ⟨gz, 30, none⟩ (.slice none 0 0) = w174 at *
  obtain ⟨u00, hu00⟩ := ZB.cell 0 (by omega)
  have hr00 := ZB.free 0
  have ZB1 := ZB.set_kind 0
  obtain ⟨u10, hu10⟩ := ZB.cell 1 (by omega)
  have hr10 := ZB.free 1
  obtain ⟨u11, hu11⟩ := ZB1.cell 1 (by omega)
  have hr11 := ZB1.free 1
  have ZB2 := ZB1.set_pos 0
  go_upto_region 30 with fail
  any_goals try (rename_i hfz; simp [hr00, hr10, hr11] at hfz; done)
  clear hu00 hr00 hu10 hr10 hu11 hr11
  clear ZB1
  have ZB := ZB2
  clear ZB2
  have KW := ZB.1
  have BA := ZB.2.2.2.1
  generalize World.setCell (World.setCell (w174) ⟨gz, 0, none⟩ (.int .i64 0)) ⟨gz, 1, none⟩ (.int .i64 0) = w175 at *
  obtain ⟨K, hg, hn, BA2, cz, BZ, hvz⟩ := ZB
  have hszz : cz.toArray.size = 32 := by simpa using hvz.len
  have hsza : CA.size = 32 := by rw [HCS.out]; simpa using HV0.out.len
  obtain ⟨y1, y2⟩ := tblk_mid BZ hszz
  obtain ⟨y3, y4⟩ := tblk_mid BA hsza
  have hc0 := optional_any _ _ w175 cs cz (HV0.out.keeps K (fun _ _ h => h) (fun _ h => h)) (hvz.keeps K (fun _ _ h => h) (fun _ h => h))
  rw [← HCS.out] at hc0
  have hc := hc0
  clear hc0 hvz BA2 hg hn hszz hsza
  generalize cz.toArray = CZ at *
  try dsimp only
  repeat (first | go_values | go_skip | go_guarded | go_step | go_upon | go_back)
  refine hc.mono ?_
  rintro e w8 ⟨k8, es, rfl, hes⟩
  clear hc y1 y2 y3 y4
  have hc0 := sameStmt_any _ zeroSt w8 es stC hes (zeroSt_is S w8)
  have hc : Calls Tryz.prog 128 #[.agg es.toArray, .agg #[.int .i64 0, .int .i64 0, .bool false, .string ⟨#[]⟩, .int .i64 0, .string ⟨#[]⟩, .slice none 0 0, .slice none 0 0, .bool false, .string ⟨#[]⟩, .slice none 0 0, .int .i64 0, .int .i64 0, .int .i64 0, .string ⟨#[]⟩, .slice none 0 0, .int .i64 0, .int .i64 0, .string ⟨#[]⟩, .slice none 0 0, .int .i64 0, .string ⟨#[]⟩, .slice none 0 0, .string ⟨#[]⟩, .slice none 0 0, .slice none 0 0, .int .i64 0, .int .i64 0, .string ⟨#[]⟩, .slice none 0 0, .slice none 0 0, .slice none 0 0]] w8 (Tells w8 _) := hc0
  clear hc0 hes
  generalize es.toArray = ES at *
  try dsimp only
  repeat (first | go_values | go_skip | go_guarded | go_step | go_upon | go_back)
  refine hc.mono ?_
  rintro e w9 ⟨⟨z, rfl, hz⟩, k9⟩
  have HZ : Shut (z = true ↔ X) := shut (by rw [hz, HQ.out]; exact ⟨fun h => ⟨hz171.1 rfl, h⟩, fun h => h.2⟩)
  clear hc hz HQ
  try dsimp only
  repeat (first | go_values | go_skip | go_guarded | go_step | go_upon | go_back)
  go_ret
  exact tells_z HZ.out ((K.trans k8 (fun _ h _ => h)).trans k9 (fun _ h _ => h))
end Go.Proofs.YtjbcagbnagefcaaGreat
namespace Go.Proofs.YtjbcagbnagefcaaGreat
open Go.RowKit
attribute [local go_sem ↓] exec_mid_ty exec_store_ty exec_mid_pl exec_store_pl exec_mid_opr exec_store_opr exec_mid_val exec_store_val exec_mid_st exec_store_st exec_mid_fld exec_store_fld exec_mid_str exec_store_str exec_mid_lif exec_store_lif exec_mid_fun exec_store_fun exec_mid_cr exec_store_cr
attribute [local go_sem] rowOk_new World.setRow_alloc_new
attribute [local go_sem ↓] exec_into_pl exec_into_opr exec_into_ty exec_into_val build_valS build_st
set_option maxRecDepth 100000 in
set_option linter.unusedSimpArgs false in
set_option maxHeartbeats 16000000 in
theorem stmt_k8 {S : Nat → Prop} {a_pos : Int} {a_mu : Bool} {a_name : List UInt8} {a_ty : TyD} {a_has : Bool} {a_place : PlD} {a_val : ValD} {a_cond : OprD} {a_thn a_els : List StD}  : StmtC S (.mk 8 a_pos a_mu a_name a_ty a_has a_place a_val a_cond a_thn a_els) := by
 intro w cs d hM hd0 hd1 ha
 have HV0 := shut ha
 have HM := shut hM
 clear hM
 have wd : IntKind.i64.wrap (d + 1) = d + 1 := by rw [IntKind.wrap_i64]; omega
 have HQ : Shut (StP (.mk 8 a_pos a_mu a_name a_ty a_has a_place a_val a_cond a_thn a_els) d ↔ optD (.mk 8 a_pos a_mu a_name a_ty a_has a_place a_val a_cond a_thn a_els) (.mk 0 0 a_mu a_name a_ty a_has a_place a_val a_cond a_thn a_els) = zeroSt) := shut (by unfold StP; simp)
 obtain ⟨X, hX⟩ : ∃ X, X = StP (.mk 8 a_pos a_mu a_name a_ty a_has a_place a_val a_cond a_thn a_els) d := ⟨_, rfl⟩
 rw [← hX] at HQ ⊢
 clear hX
 have ag1 := agg_ok ha.len ha.one
 rw [stIs_iff] at ha
 obtain ⟨s4, s9, s11, s26, p30, q30, p31, q31, hcs, ah_name, ah_ty, ah_place, ah_val, ah_cond, ah_thn, ah_els⟩ := ha
 have HCA := shut hcs
 clear hcs
 simp only [StD.kind, StD.pos, StD.mu, StD.name, StD.ty, StD.has, StD.place, StD.val, StD.cond, StD.thn, StD.els] at ah_name ah_ty ah_place ah_val ah_cond ah_thn ah_els HCA
 obtain ⟨CA, hCA⟩ : ∃ C, C = cs.toArray := ⟨_, rfl⟩
 rw [← hCA] at ag1 ⊢
 have HCS := shut hCA
 rw [HCA.out] at hCA
 have GCA := shut hCA
 clear hCA HCA
 have al_ty := ah_ty.len
 have al_place := ah_place.len
 have al_val := ah_val.len
 have al_cond := ah_cond.len
 have KW : Keeps Nothing w (w.alloc (.cells CA 121)) := (Keeps.refl Nothing w).alloc _
 have BA := blk_new w CA 121
 go_enter Tryz.func122, Tryz.ntmps122
 go_upto_region 1 with fail
 generalize w.heap.size = ga at *
 generalize w.alloc (.cells CA 121) = wb at *
 have hsz : CA.size = 32 := by rw [HCS.out]; simpa using HV0.out.len
 obtain ⟨y1, y2⟩ := tblk_mid BA hsz
 go_upto_region 3 with fail
 have ZB := StB2.new KW BA HCS.out HV0.out
 clear y1 y2 ag1 hsz
 have BA := blk_alloc BA (.cells CA 121)
 have KW := KW.alloc (.cells CA 121)
 have hgz : ga ≠ wb.heap.size := ZB.2.2.1
 generalize wb.heap.size = gz at *
 generalize wb.alloc (.cells CA 121) = wc at *
 obtain ⟨ae0, -, -, -, -, -, -, -, -, -, -⟩ := StB al_ty al_place al_val al_cond GCA.out BA
 obtain ⟨u00, hu00⟩ := ZB.cell 0 (by omega)
 have hr00 := ZB.free 0
 have ZB1 := ZB.set_kind 0
 obtain ⟨u10, hu10⟩ := ZB.cell 1 (by omega)
 have hr10 := ZB.free 1
 obtain ⟨u11, hu11⟩ := ZB1.cell 1 (by omega)
 have hr11 := ZB1.free 1
 have ZB2 := ZB1.set_pos 0
 go_upto_region 30 with fail
 any_goals try (rename_i hfz; simp [hr00, hr10, hr11] at hfz; done)
 clear hu00 hr00 hu10 hr10 hu11 hr11
 clear ZB1
 have ZB := ZB2
 clear ZB2
 have KW := ZB.1
 have BA := ZB.2.2.2.1
 generalize World.setCell (World.setCell (wc) ⟨gz, 0, none⟩ (.int .i64 0)) ⟨gz, 1, none⟩ (.int .i64 0) = w176 at *
 obtain ⟨K, hg, hn, BA2, cz, BZ, hvz⟩ := ZB
 have hszz : cz.toArray.size = 32 := by simpa using hvz.len
 have hsza : CA.size = 32 := by rw [HCS.out]; simpa using HV0.out.len
 obtain ⟨y1, y2⟩ := tblk_mid BZ hszz
 obtain ⟨y3, y4⟩ := tblk_mid BA hsza
 have hc0 := optional_any _ _ w176 cs cz (HV0.out.keeps K (fun _ _ h => h) (fun _ h => h)) (hvz.keeps K (fun _ _ h => h) (fun _ h => h))
 rw [← HCS.out] at hc0
 have hc := hc0
 clear hc0 hvz BA2 hg hn hszz hsza
 generalize cz.toArray = CZ at *
 try dsimp only
 repeat (first | go_values | go_skip | go_guarded | go_step | go_upon | go_back)
 refine hc.mono ?_
 rintro e w8 ⟨k8, es, rfl, hes⟩
 clear hc y1 y2 y3 y4
 have hc0 := sameStmt_any _ zeroSt w8 es stC hes (zeroSt_is S w8)
 have hc : Calls Tryz.prog 128 #[.agg es.toArray, .agg #[.int .i64 0, .int .i64 0, .bool false, .string ⟨#[]⟩, .int .i64 0, .string ⟨#[]⟩, .slice none 0 0, .slice none 0 0, .bool false, .string ⟨#[]⟩, .slice none 0 0, .int .i64 0, .int .i64 0, .int .i64 0, .string ⟨#[]⟩, .slice none 0 0, .int .i64 0, .int .i64 0, .string ⟨#[]⟩, .slice none 0 0, .int .i64 0, .string ⟨#[]⟩, .slice none 0 0, .string ⟨#[]⟩, .slice none 0 0, .slice none 0 0, .int .i64 0, .int .i64 0, .string ⟨#[]⟩, .slice none 0 0, .slice none 0 0, .slice none 0 0]] w8 (Tells w8 _) := hc0
 clear hc0 hes
 generalize es.toArray = ES at *
 try dsimp only
 repeat (first | go_values | go_skip | go_guarded | go_step | go_upon | go_back)
 refine hc.mono ?_
 rintro e w9 ⟨⟨z, rfl, hz⟩, k9⟩
 have HZ : Shut (z = true ↔ X) := shut (by exact hz.trans HQ.out.symm)
 clear hc hz HQ
 try dsimp only
 repeat (first | go_values | go_skip | go_guarded | go_step | go_upon | go_back)
 go_ret
 exact tells_z HZ.out ((K.trans k8 (fun _ h _ => h)).trans k9 (fun _ h _ => h))
set_option maxRecDepth 100000 in
set_option linter.unusedSimpArgs false in
set_option maxHeartbeats 16000000 in
theorem stmt_k9 {S : Nat → Prop} {a_pos : Int} {a_mu : Bool} {a_name : List UInt8} {a_ty : TyD} {a_has : Bool} {a_place : PlD} {a_val : ValD} {a_cond : OprD} {a_thn a_els : List StD}  : StmtC S (.mk 9 a_pos a_mu a_name a_ty a_has a_place a_val a_cond a_thn a_els) := by
 intro w cs d hM hd0 hd1 ha
 have HV0 := shut ha
 have HM := shut hM
 clear hM
 have wd : IntKind.i64.wrap (d + 1) = d + 1 := by rw [IntKind.wrap_i64]; omega
 have HQ : Shut (StP (.mk 9 a_pos a_mu a_name a_ty a_has a_place a_val a_cond a_thn a_els) d ↔ optD (.mk 9 a_pos a_mu a_name a_ty a_has a_place a_val a_cond a_thn a_els) (.mk 0 0 a_mu a_name a_ty a_has a_place a_val a_cond a_thn a_els) = zeroSt) := shut (by unfold StP; simp)
 obtain ⟨X, hX⟩ : ∃ X, X = StP (.mk 9 a_pos a_mu a_name a_ty a_has a_place a_val a_cond a_thn a_els) d := ⟨_, rfl⟩
 rw [← hX] at HQ ⊢
 clear hX
 have ag1 := agg_ok ha.len ha.one
 rw [stIs_iff] at ha
 obtain ⟨s4, s9, s11, s26, p30, q30, p31, q31, hcs, ah_name, ah_ty, ah_place, ah_val, ah_cond, ah_thn, ah_els⟩ := ha
 have HCA := shut hcs
 clear hcs
 simp only [StD.kind, StD.pos, StD.mu, StD.name, StD.ty, StD.has, StD.place, StD.val, StD.cond, StD.thn, StD.els] at ah_name ah_ty ah_place ah_val ah_cond ah_thn ah_els HCA
 obtain ⟨CA, hCA⟩ : ∃ C, C = cs.toArray := ⟨_, rfl⟩
 rw [← hCA] at ag1 ⊢
 have HCS := shut hCA
 rw [HCA.out] at hCA
 have GCA := shut hCA
 clear hCA HCA
 have al_ty := ah_ty.len
 have al_place := ah_place.len
 have al_val := ah_val.len
 have al_cond := ah_cond.len
 have KW : Keeps Nothing w (w.alloc (.cells CA 121)) := (Keeps.refl Nothing w).alloc _
 have BA := blk_new w CA 121
 go_enter Tryz.func122, Tryz.ntmps122
 go_upto_region 1 with fail
 generalize w.heap.size = ga at *
 generalize w.alloc (.cells CA 121) = wb at *
 have hsz : CA.size = 32 := by rw [HCS.out]; simpa using HV0.out.len
 obtain ⟨y1, y2⟩ := tblk_mid BA hsz
 go_upto_region 3 with fail
 have ZB := StB2.new KW BA HCS.out HV0.out
 clear y1 y2 ag1 hsz
 have BA := blk_alloc BA (.cells CA 121)
 have KW := KW.alloc (.cells CA 121)
 have hgz : ga ≠ wb.heap.size := ZB.2.2.1
 generalize wb.heap.size = gz at *
 generalize wb.alloc (.cells CA 121) = wc at *
 obtain ⟨ae0, -, -, -, -, -, -, -, -, -, -⟩ := StB al_ty al_place al_val al_cond GCA.out BA
 obtain ⟨u00, hu00⟩ := ZB.cell 0 (by omega)
 have hr00 := ZB.free 0
 have ZB1 := ZB.set_kind 0
 obtain ⟨u10, hu10⟩ := ZB.cell 1 (by omega)
 have hr10 := ZB.free 1
 obtain ⟨u11, hu11⟩ := ZB1.cell 1 (by omega)
 have hr11 := ZB1.free 1
 have ZB2 := ZB1.set_pos 0
 go_upto_region 30 with fail
 any_goals try (rename_i hfz; simp [hr00, hr10, hr11] at hfz; done)
 clear hu00 hr00 hu10 hr10 hu11 hr11
 clear ZB1
 have ZB := ZB2
 clear ZB2
 have KW := ZB.1
 have BA := ZB.2.2.2.1
 generalize World.setCell (World.setCell (wc) ⟨gz, 0, none⟩ (.int .i64 0)) ⟨gz, 1, none⟩ (.int .i64 0) = w177 at *
 obtain ⟨K, hg, hn, BA2, cz, BZ, hvz⟩ := ZB
 have hszz : cz.toArray.size = 32 := by simpa using hvz.len
 have hsza : CA.size = 32 := by rw [HCS.out]; simpa using HV0.out.len
 obtain ⟨y1, y2⟩ := tblk_mid BZ hszz
 obtain ⟨y3, y4⟩ := tblk_mid BA hsza
 have hc0 := optional_any _ _ w177 cs cz (HV0.out.keeps K (fun _ _ h => h) (fun _ h => h)) (hvz.keeps K (fun _ _ h => h) (fun _ h => h))
 rw [← HCS.out] at hc0
 have hc := hc0
 clear hc0 hvz BA2 hg hn hszz hsza
 generalize cz.toArray = CZ at *
 try dsimp only
 repeat (first | go_values | go_skip | go_guarded | go_step | go_upon | go_back)
 refine hc.mono ?_
 rintro e w8 ⟨k8, es, rfl, hes⟩
 clear hc y1 y2 y3 y4
 have hc0 := sameStmt_any _ zeroSt w8 es stC hes (zeroSt_is S w8)
 have hc : Calls Tryz.prog 128 #[.agg es.toArray, .agg #[.int .i64 0, .int .i64 0, .bool false, .string ⟨#[]⟩, .int .i64 0, .string ⟨#[]⟩, .slice none 0 0, .slice none 0 0, .bool false, .string ⟨#[]⟩, .slice none 0 0, .int .i64 0, .int .i64 0, .int .i64 0, .string ⟨#[]⟩, .slice none 0 0, .int .i64 0, .int .i64 0, .string ⟨#[]⟩, .slice none 0 0, .int .i64 0, .string ⟨#[]⟩, .slice none 0 0, .string ⟨#[]⟩, .slice none 0 0, .slice none 0 0, .int .i64 0, .int .i64 0, .string ⟨#[]⟩, .slice none 0 0, .slice none 0 0, .slice none 0 0]] w8 (Tells w8 _) := hc0
 clear hc0 hes
 generalize es.toArray = ES at *
 try dsimp only
 repeat (first | go_values | go_skip | go_guarded | go_step | go_upon | go_back)
 refine hc.mono ?_
 rintro e w9 ⟨⟨z, rfl, hz⟩, k9⟩
 have HZ : Shut (z = true ↔ X) := shut (by exact hz.trans HQ.out.symm)
 clear hc hz HQ
 try dsimp only
 repeat (first | go_values | go_skip | go_guarded | go_step | go_upon | go_back)
 go_ret
 exact tells_z HZ.out ((K.trans k8 (fun _ h _ => h)).trans k9 (fun _ h _ => h))
set_option maxRecDepth 100000 in
set_option linter.unusedSimpArgs false in
set_option maxHeartbeats 16000000 in
theorem stmt_k10 {S : Nat → Prop} {a_pos : Int} {a_mu : Bool} {a_name : List UInt8} {a_ty : TyD} {a_has : Bool} {a_place : PlD} {a_val : ValD} {a_cond : OprD} {a_thn a_els : List StD}  : StmtC S (.mk 10 a_pos a_mu a_name a_ty a_has a_place a_val a_cond a_thn a_els) := by
 intro w cs d hM hd0 hd1 ha
 have HV0 := shut ha
 have HM := shut hM
 clear hM
 have wd : IntKind.i64.wrap (d + 1) = d + 1 := by rw [IntKind.wrap_i64]; omega
 have HQ : Shut (StP (.mk 10 a_pos a_mu a_name a_ty a_has a_place a_val a_cond a_thn a_els) d ↔ VldP (.mk 10 a_pos a_mu a_name a_ty a_has a_place a_val a_cond a_thn a_els) ∧ optD (.mk 10 a_pos a_mu a_name a_ty a_has a_place a_val a_cond a_thn a_els) (.mk 0 0 a_mu a_name a_ty a_has a_place a_val a_cond a_thn a_els) = zeroSt) := shut (by unfold StP; simp)
 obtain ⟨X, hX⟩ : ∃ X, X = StP (.mk 10 a_pos a_mu a_name a_ty a_has a_place a_val a_cond a_thn a_els) d := ⟨_, rfl⟩
 rw [← hX] at HQ ⊢
 clear hX
 have ag1 := agg_ok ha.len ha.one
 rw [stIs_iff] at ha
 obtain ⟨s4, s9, s11, s26, p30, q30, p31, q31, hcs, ah_name, ah_ty, ah_place, ah_val, ah_cond, ah_thn, ah_els⟩ := ha
 have HCA := shut hcs
 clear hcs
 simp only [StD.kind, StD.pos, StD.mu, StD.name, StD.ty, StD.has, StD.place, StD.val, StD.cond, StD.thn, StD.els] at ah_name ah_ty ah_place ah_val ah_cond ah_thn ah_els HCA
 obtain ⟨CA, hCA⟩ : ∃ C, C = cs.toArray := ⟨_, rfl⟩
 rw [← hCA] at ag1 ⊢
 have HCS := shut hCA
 rw [HCA.out] at hCA
 have GCA := shut hCA
 clear hCA HCA
 have al_ty := ah_ty.len
 have al_place := ah_place.len
 have al_val := ah_val.len
 have al_cond := ah_cond.len
 have KW : Keeps Nothing w (w.alloc (.cells CA 121)) := (Keeps.refl Nothing w).alloc _
 have BA := blk_new w CA 121
 go_enter Tryz.func122, Tryz.ntmps122
 go_upto_region 1 with fail
 generalize w.heap.size = ga at *
 generalize w.alloc (.cells CA 121) = wb at *
 have hsz : CA.size = 32 := by rw [HCS.out]; simpa using HV0.out.len
 obtain ⟨y1, y2⟩ := tblk_mid BA hsz
 go_upto_region 3 with fail
 have ZB := StB2.new KW BA HCS.out HV0.out
 clear y1 y2 ag1 hsz
 have BA := blk_alloc BA (.cells CA 121)
 have KW := KW.alloc (.cells CA 121)
 have hgz : ga ≠ wb.heap.size := ZB.2.2.1
 generalize wb.heap.size = gz at *
 generalize wb.alloc (.cells CA 121) = wc at *
 obtain ⟨ae0, -, -, -, -, -, -, -, -, -, -⟩ := StB al_ty al_place al_val al_cond GCA.out BA
 have hcv := valued_any (.mk 10 a_pos a_mu a_name a_ty a_has a_place a_val a_cond a_thn a_els) wc (HM.out.keeps KW) cs (HV0.out.keeps KW (fun _ _ h => h) (fun _ h => h))
 rw [← HCS.out] at hcv
 obtain ⟨y1, y2⟩ := tblk_mid BA (show CA.size = 32 by rw [HCS.out]; simpa using HV0.out.len)
 have hc := hcv
 try dsimp only
 repeat (first | go_values | go_skip | go_guarded | go_step | go_upon | go_back)
 refine hc.mono ?_
 rintro e w178 ⟨⟨z178, rfl, hz178⟩, k178⟩
 have KW := KW.trans k178 (fun _ h _ => h)
 have BA := k178.blk BA (fun h => h)
 have ZB := ZB.keeps k178
 clear hc k178 y1 y2
 try dsimp only
 clear hcv
 cases z178 with
 | false =>
  obtain ⟨u00, hu00⟩ := ZB.cell 0 (by omega)
  have hr00 := ZB.free 0
  have ZB1 := ZB.set_kind 0
  obtain ⟨u10, hu10⟩ := ZB.cell 1 (by omega)
  have hr10 := ZB.free 1
  obtain ⟨u11, hu11⟩ := ZB1.cell 1 (by omega)
  have hr11 := ZB1.free 1
  have ZB2 := ZB1.set_pos 0
  go_upto_region 30 with fail
  any_goals try (rename_i hfz; simp [hr00, hr10, hr11] at hfz; done)
  clear hu00 hr00 hu10 hr10 hu11 hr11
  clear ZB1
  have ZB := ZB2
  clear ZB2
  have KW := ZB.1
  have BA := ZB.2.2.2.1
  generalize World.setCell (World.setCell (w178) ⟨gz, 0, none⟩ (.int .i64 0)) ⟨gz, 1, none⟩ (.int .i64 0) = w179 at *
  have hno : Shut (¬ X) := shut (fun h => by have h2 := hz178.2 (HQ.out.1 h).1; cases h2)
  clear HQ
  have KW := ZB.1
  clear ZB BA
  repeat (first | go_values | go_skip | go_guarded | go_step | go_upon | go_back)
  go_ret
  exact tells_f hno.out KW
 | true =>
  obtain ⟨u00, hu00⟩ := ZB.cell 0 (by omega)
  have hr00 := ZB.free 0
  have ZB1 := ZB.set_kind 0
  obtain ⟨u10, hu10⟩ := ZB.cell 1 (by omega)
  have hr10 := ZB.free 1
  obtain ⟨u11, hu11⟩ := ZB1.cell 1 (by omega)
  have hr11 := ZB1.free 1
  have ZB2 := ZB1.set_pos 0
  go_upto_region 30 with fail
  any_goals try (rename_i hfz; simp [hr00, hr10, hr11] at hfz; done)
  clear hu00 hr00 hu10 hr10 hu11 hr11
  clear ZB1
  have ZB := ZB2
  clear ZB2
  have KW := ZB.1
  have BA := ZB.2.2.2.1
  generalize World.setCell (World.setCell (w178) ⟨gz, 0, none⟩ (.int .i64 0)) ⟨gz, 1, none⟩ (.int .i64 0) = w180 at *
  obtain ⟨K, hg, hn, BA2, cz, BZ, hvz⟩ := ZB
  have hszz : cz.toArray.size = 32 := by simpa using hvz.len
  have hsza : CA.size = 32 := by rw [HCS.out]; simpa using HV0.out.len
  obtain ⟨y1, y2⟩ := tblk_mid BZ hszz
  obtain ⟨y3, y4⟩ := tblk_mid BA hsza
  have hc0 := optional_any _ _ w180 cs cz (HV0.out.keeps K (fun _ _ h => h) (fun _ h => h)) (hvz.keeps K (fun _ _ h => h) (fun _ h => h))
  rw [← HCS.out] at hc0
  have hc := hc0
  clear hc0 hvz BA2 hg hn hszz hsza
  generalize cz.toArray = CZ at *
  try dsimp only
  repeat (first | go_values | go_skip | go_guarded | go_step | go_upon | go_back)
  refine hc.mono ?_
  rintro e w8 ⟨k8, es, rfl, hes⟩
  clear hc y1 y2 y3 y4
  have hc0 := sameStmt_any _ zeroSt w8 es stC hes (zeroSt_is S w8)
  have hc : Calls Tryz.prog 128 #[.agg es.toArray, .agg #[.int .i64 0, .int .i64 0, .bool false, .string ⟨#[]⟩, .int .i64 0, .string ⟨#[]⟩, .slice none 0 0, .slice none 0 0, .bool false, .string ⟨#[]⟩, .slice none 0 0, .int .i64 0, .int .i64 0, .int .i64 0, .string ⟨#[]⟩, .slice none 0 0, .int .i64 0, .int .i64 0, .string ⟨#[]⟩, .slice none 0 0, .int .i64 0, .string ⟨#[]⟩, .slice none 0 0, .string ⟨#[]⟩, .slice none 0 0, .slice none 0 0, .int .i64 0, .int .i64 0, .string ⟨#[]⟩, .slice none 0 0, .slice none 0 0, .slice none 0 0]] w8 (Tells w8 _) := hc0
  clear hc0 hes
  generalize es.toArray = ES at *
  try dsimp only
  repeat (first | go_values | go_skip | go_guarded | go_step | go_upon | go_back)
  refine hc.mono ?_
  rintro e w9 ⟨⟨z, rfl, hz⟩, k9⟩
  have HZ : Shut (z = true ↔ X) := shut (by rw [hz, HQ.out]; exact ⟨fun h => ⟨hz178.1 rfl, h⟩, fun h => h.2⟩)
  clear hc hz HQ
  try dsimp only
  repeat (first | go_values | go_skip | go_guarded | go_step | go_upon | go_back)
  go_ret
  exact tells_z HZ.out ((K.trans k8 (fun _ h _ => h)).trans k9 (fun _ h _ => h))
end Go.Proofs.YtjbcagbnagefcaaGreat
namespace Go.Proofs.YtjbcagbnagefcaaGreat
open Go.RowKit
attribute [local go_sem ↓] exec_mid_ty exec_store_ty exec_mid_pl exec_store_pl exec_mid_opr exec_store_opr exec_mid_val exec_store_val exec_mid_st exec_store_st exec_mid_fld exec_store_fld exec_mid_str exec_store_str exec_mid_lif exec_store_lif exec_mid_fun exec_store_fun exec_mid_cr exec_store_cr
attribute [local go_sem] rowOk_new World.setRow_alloc_new
attribute [local go_sem ↓] exec_into_pl exec_into_opr exec_into_ty exec_into_val build_valS build_st
set_option maxRecDepth 100000 in
set_option maxHeartbeats 4000000 in
theorem stmt_none {S : Nat → Prop} {a_kind a_pos a_mu a_name a_ty a_has a_place a_val a_cond a_thn a_els} (hn : ∀ j ∈ [1, 2, 3, 4, 5, 6, 7, 8, 9, 10, 11], a_kind ≠ j) : StmtC S (.mk a_kind a_pos a_mu a_name a_ty a_has a_place a_val a_cond a_thn a_els) := by
 intro w cs d hM hd0 hd1 ha
 have HV0 := shut ha
 simp only [List.mem_cons, List.not_mem_nil, or_false, forall_eq_or_imp, forall_eq] at hn
 obtain ⟨k1, k2, k3, k4, k5, k6, k7, k8, k9, k10, k11⟩ := hn
 have HQ : Shut (¬ StP (.mk a_kind a_pos a_mu a_name a_ty a_has a_place a_val a_cond a_thn a_els) d) := shut (by unfold StP; simp [k1, k2, k3, k4, k5, k6, k7, k8, k9, k10, k11])
 obtain ⟨X, hX⟩ : ∃ X, X = StP (.mk a_kind a_pos a_mu a_name a_ty a_has a_place a_val a_cond a_thn a_els) d := ⟨_, rfl⟩
 rw [← hX] at HQ ⊢
 clear hX
 have ag1 := agg_ok ha.len ha.one
 rw [stIs_iff] at ha
 obtain ⟨s4, s9, s11, s26, p30, q30, p31, q31, hcs, ah_name, ah_ty, ah_place, ah_val, ah_cond, ah_thn, ah_els⟩ := ha
 have HCA := shut hcs
 clear hcs
 simp only [StD.kind, StD.pos, StD.mu, StD.name, StD.ty, StD.has, StD.place, StD.val, StD.cond, StD.thn, StD.els] at ah_name ah_ty ah_place ah_val ah_cond ah_thn ah_els HCA
 obtain ⟨CA, hCA⟩ : ∃ C, C = cs.toArray := ⟨_, rfl⟩
 rw [← hCA] at ag1 ⊢
 have HCS := shut hCA
 rw [HCA.out] at hCA
 have GCA := shut hCA
 clear hCA HCA
 have al_ty := ah_ty.len
 have al_place := ah_place.len
 have al_val := ah_val.len
 have al_cond := ah_cond.len
 have KW : Keeps Nothing w (w.alloc (.cells CA 121)) := (Keeps.refl Nothing w).alloc _
 have BA := blk_new w CA 121
 go_enter Tryz.func122, Tryz.ntmps122
 go_upto_region 1 with fail
 generalize w.heap.size = ga at *
 generalize w.alloc (.cells CA 121) = wb at *
 have hsz : CA.size = 32 := by rw [HCS.out]; simpa using HV0.out.len
 obtain ⟨y1, y2⟩ := tblk_mid BA hsz
 go_upto_region 3 with fail
 have ZB := StB2.new KW BA HCS.out HV0.out
 clear y1 y2 ag1 hsz
 have BA := blk_alloc BA (.cells CA 121)
 have KW := KW.alloc (.cells CA 121)
 have hgz : ga ≠ wb.heap.size := ZB.2.2.1
 generalize wb.heap.size = gz at *
 generalize wb.alloc (.cells CA 121) = wc at *
 obtain ⟨ae0, -, -, -, -, -, -, -, -, -, -⟩ := StB al_ty al_place al_val al_cond GCA.out BA
 repeat (first | go_values | go_skip | go_guarded | go_step | go_upon | go_back)
 go_ret
 exact tells_f HQ.out KW
theorem stmt_any {S : Nat → Prop} : ∀ a : StD, StmtC S a := by
 refine StD.ind ?_
 intro a_kind a_pos a_mu a_name a_ty a_has a_place a_val a_cond a_thn a_els ih_thn ih_els
 by_cases k1 : a_kind = 1
 ·subst k1; exact stmt_k1
 by_cases k2 : a_kind = 2
 ·subst k2; exact stmt_k2
 by_cases k3 : a_kind = 3
 ·subst k3; exact stmt_k3
 by_cases k4 : a_kind = 4
 ·subst k4; exact stmt_k4 (shut ih_thn) (shut ih_els)
 by_cases k5 : a_kind = 5
 ·subst k5; exact stmt_k5 (shut ih_thn)
 by_cases k6 : a_kind = 6
 ·subst k6; exact stmt_k6 (shut ih_thn)
 by_cases k7 : a_kind = 7
 ·subst k7; exact stmt_k7 (shut ih_thn)
 by_cases k8 : a_kind = 8
 ·subst k8; exact stmt_k8
 by_cases k9 : a_kind = 9
 ·subst k9; exact stmt_k9
 by_cases k10 : a_kind = 10
 ·subst k10; exact stmt_k10
 by_cases k11 : a_kind = 11
 ·subst k11; exact stmt_k11
 refine stmt_none fun j hj => ?_
 simp only [List.mem_cons, List.not_mem_nil, or_false] at hj
 rcases hj with rfl | rfl | rfl | rfl | rfl | rfl | rfl | rfl | rfl | rfl | rfl <;> assumption
theorem block_any {S : Nat → Prop} (l : List StD) (w : World) (hM : MaxV w) (d : Int) (hd0 : 0 ≤ d) (hd1 : d ≤ 1000) {ao : Option Addr} (c : Nat) (h : SlIs S w 32 (StIs S w) ao l) : Calls Tryz.prog 113 #[.slice ao l.length c, .int .i64 d] w (Tells w (BlP l d)) :=
 block_of l (fun e _ => stmt_any e) w hM d hd0 hd1 c h
end Go.Proofs.YtjbcagbnagefcaaGreat
namespace Go.Proofs.YtjbcagbnagefcaaGreat
open Go.RowKit
attribute [local go_sem ↓] exec_mid_ty exec_store_ty exec_mid_pl exec_store_pl exec_mid_opr exec_store_opr exec_mid_val exec_store_val exec_mid_st exec_store_st exec_mid_fld exec_store_fld exec_mid_str exec_store_str exec_mid_lif exec_store_lif exec_mid_fun exec_store_fun exec_mid_cr exec_store_cr
attribute [local go_sem] rowOk_new World.setRow_alloc_new
mutual
def cntS : StD → Nat
 | .mk _ _ _ _ _ _ _ _ _ thn els => cntL thn + cntL els
def cntL : List StD → Nat
 | [] => 0
 | s :: r => 1 + cntS s + cntL r
end
def sumS : List StD → Nat
 | [] => 0
 | s :: r => cntS s + sumS r
theorem cntL_sum : ∀ l : List StD, cntL l = l.length + sumS l
 | [] => by unfold cntL sumS; rfl
 | s :: r => by unfold cntL sumS; rw [cntL_sum r, List.length_cons]; omega
theorem cntS_mk (s : StD) : cntS s = cntL s.thn + cntL s.els := by cases s; unfold cntS; rfl
theorem sumS_take {l : List StD} {t : Nat} {a : StD} (h : l[t]? = some a) : sumS (l.take (t + 1)) = sumS (l.take t) + cntS a := by
 rw [List.take_add_one, h]
 have : ∀ (xs : List StD) (y : StD), sumS (xs ++ [y]) = sumS xs + cntS y := by
  intro xs y
  induction xs with
  | nil => simp [sumS]
  | cons x r ih => simp only [List.cons_append, sumS, ih]; omega
 exact this _ _
theorem wrap_step {v z1 z2 : Int} {A B C : Nat} (h : v = IntKind.i64.wrap A) (h1 : z1 = IntKind.i64.wrap B) (h2 : z2 = IntKind.i64.wrap C) : IntKind.i64.wrap (IntKind.i64.wrap (v + z1) + z2) = IntKind.i64.wrap ((A + (B + C) : Nat) : Int) := by
 subst h h1 h2
 simp only [IntKind.wrap_i64]
 omega
def Counts (w : World) (n : Nat) (e : Ending) (w' : World) : Prop := (∃ z : Int, e = .returned (.int .i64 z) ∧ Shut (z = IntKind.i64.wrap (n : Int))) ∧ Keeps Nothing w w'
def CountC (S : Nat → Prop) (l : List StD) : Prop := ∀ (w : World) (ao : Option Addr) (c : Nat), SlIs S w 32 (StIs S w) ao l → Calls Tryz.prog 114 #[.slice ao l.length c] w (Counts w (cntL l))
set_option maxRecDepth 100000 in
set_option maxHeartbeats 4000000 in
theorem count_of {S : Nat → Prop} (l : List StD) (H : ∀ e ∈ l, CountC S e.thn ∧ CountC S e.els) : CountC S l := by
 intro w ao c h
 have hl := h.1
 unfold bigN at hl
 have HX := shut h
 have HH := shut H
 have HC := shut (cntL_sum l)
 clear h H
 obtain ⟨N, hN⟩ : ∃ N, N = cntL l := ⟨_, rfl⟩
 rw [← hN] at HC ⊢
 clear hN
 obtain ⟨n, hn⟩ : ∃ n, l.length = n := ⟨_, rfl⟩
 rw [hn] at hl HC ⊢
 have HN := shut hn
 clear hn
 go_enter Tryz.func114, Tryz.ntmps114
 go_wp2_with fail
 go_loopw [3, 5, 10] (fun s3 s5 s10 wx => ∃ (t : Nat) (v : Int), s10 = .int .i64 t ∧ s3 = .int .i64 v ∧ t ≤ n ∧ Keeps Nothing w wx ∧ Shut (v = IntKind.i64.wrap ((n + sumS (l.take t) : Nat) : Int))) (fun _ _ s10 _ => n - (intOf s10).toNat)
 case atStart => exact ⟨0, n, rfl, rfl, Nat.zero_le _, Keeps.refl _ _, shut (by simp only [List.take_zero, sumS, IntKind.wrap_i64]; omega)⟩
 case round =>
  obtain ⟨t, v, rfl, rfl, ht, KL, HT⟩ := hrel
  by_cases hlt : t < n
  ·obtain ⟨a, ha⟩ : ∃ a, l[t]? = some a := ⟨_, List.getElem?_eq_getElem (by rw [HN.out]; exact hlt)⟩
   obtain ⟨g1, o1, rfl, -, cs, l1, r1, hi⟩ := (HX.out.keeps KL (fun _ _ h => h) (fun _ h => h) (fun _ _ _ h => h.keeps KL (fun _ _ h => h) (fun _ h => h))).get ha
   have HA := shut ha
   clear ha
   have m0 : (0 : Int) ≤ t := by omega
   have m1 : (t : Int) < n := by omega
   have ag1 := agg_ok l1 hi.one
   obtain ⟨CA, hCA⟩ : ∃ C, C = cs.toArray := ⟨_, rfl⟩
   obtain ⟨hk, ho⟩ := sub_of r1 l1
   have hsz : CA.size = 32 := by rw [hCA]; simpa using l1
   rw [← hCA] at ag1 ho
   have HCA := shut hCA
   clear hCA r1 l1
   go_upto_region 5 with fail
   have ka : Keeps Nothing wr (wr.alloc (.cells CA 121)) := (Keeps.refl Nothing wr).alloc _
   have BA := blk_new wr CA 121
   have KW := KL.trans ka (fun _ h _ => h)
   have hi := hi.keeps ka (fun _ _ h => h) (fun _ h => h)
   clear hk ho ag1 ka
   generalize wr.heap.size = ga at *
   generalize wr.alloc (.cells CA 121) = wb at *
   have HS : Shut (∀ {z1 z2 : Int}, z1 = IntKind.i64.wrap (cntL a.thn : Int) → z2 = IntKind.i64.wrap (cntL a.els : Int) → IntKind.i64.wrap (IntKind.i64.wrap (v + z1) + z2) = IntKind.i64.wrap ((n + sumS (l.take (t + 1)) : Nat) : Int)) := shut (by
    intro z1 z2 h1 h2
    rw [sumS_take HA.out, cntS_mk, ← Nat.add_assoc]
    exact wrap_step HT.out h1 h2)
   have HB := shut (HH.out a (List.mem_of_getElem? HA.out))
   clear HA
   obtain ⟨a_kind, a_pos, a_mu, a_name, a_ty, a_has, a_place, a_val, a_cond, a_thn, a_els⟩ := a
   rw [stIs_iff] at hi
   obtain ⟨s4, s9, s11, s26, p30, q30, p31, q31, hcs, ah_name, ah_ty, ah_place, ah_val, ah_cond, ah_thn, ah_els⟩ := hi
   rw [hcs] at HCA
   simp only [StD.kind, StD.pos, StD.mu, StD.name, StD.ty, StD.has, StD.place, StD.val, StD.cond, StD.thn, StD.els] at ah_name ah_ty ah_place ah_val ah_cond ah_thn ah_els HCA
   have GCA := HCA
   clear HCA hcs
   have al_ty := ah_ty.len
   have al_place := ah_place.len
   have al_val := ah_val.len
   have al_cond := ah_cond.len
   simp only [StD.thn, StD.els] at HS HB
   clear ah_name ah_ty ah_place ah_val ah_cond
   have BW := BA
   obtain ⟨-, -, -, -, -, -, -, -, -, ae30, ae31⟩ := StB al_ty al_place al_val al_cond GCA.out BA
   go_wp2_with fail
   refine wp_region_mix (fun V => Keeps Nothing wb V) [(true, 0), (true, 1), (true, 2), (true, 5), (true, 6), (false, 3), (true, 4), (false, 7), (true, 8), (true, 9)] (by kernel_rfl) (by kernel_rfl) (Keeps.refl _ _).drew ?_
   simp only [mixItems, List.map_cons, List.map_nil, List.getD_cons_zero, List.getD_cons_succ]
   repeat (refine wpMix_free (fun K hK => ?_); go_simp; refine hK _ ?_; clear hK K)
   refine wpMix_yield (v := .slice p30 a_thn.length q30) (fun V hV => ?_) (fun K hK => ?_)
   ·have y1 := hV.cell ae30 (fun h => h)
    go_simp
   go_simp
   refine hK _ ?_
   clear hK K
   repeat (refine wpMix_free (fun K hK => ?_); go_simp; refine hK _ ?_; clear hK K)
   refine wpMix_yield (v := .slice p31 a_els.length q31) (fun V hV => ?_) (fun K hK => ?_)
   ·have y1 := hV.cell ae31 (fun h => h)
    go_simp
   go_simp
   refine hK _ ?_
   clear hK K ae30 ae31
   have kk0 : Keeps Nothing wb wb.drew := (Keeps.refl Nothing wb).drew
   have hc1 := HB.out.1 wb.drew p30 q30 (ah_thn.keeps kk0 (fun _ _ h => h) (fun _ h => h) (fun _ _ _ h => h.keeps kk0 (fun _ _ h => h) (fun _ h => h)))
   refine wpMix_one (fun K hK => ?_)
   go_wp2_with fail
   refine hc1.mono ?_
   rintro e w1 ⟨⟨z1, rfl, hz1⟩, k1⟩
   have kk1 : Keeps Nothing wb w1 := kk0.trans k1 (fun _ h _ => h)
   clear hc1 k1
   go_wp2_with fail
   refine hK _ _ kk1 ?_
   clear hK K
   repeat (refine wpMix_free (fun K hK => ?_); go_simp; refine hK _ ?_; clear hK K)
   have hc2 := HB.out.2 w1 p31 q31 (ah_els.keeps kk1 (fun _ _ h => h) (fun _ h => h) (fun _ _ _ h => h.keeps kk1 (fun _ _ h => h) (fun _ h => h)))
   refine wpMix_one (fun K hK => ?_)
   go_wp2_with fail
   refine hc2.mono ?_
   rintro e w2 ⟨⟨z2, rfl, hz2⟩, k2⟩
   have kk2 : Keeps Nothing wb w2 := kk1.trans k2 (fun _ h _ => h)
   clear hc2 k2
   go_wp2_with fail
   refine hK _ _ kk2 ?_
   clear hK K
   repeat (refine wpMix_free (fun K hK => ?_); go_simp; refine hK _ ?_; clear hK K)
   refine wpMix_nil ?_
   have HV := shut (HS.out hz1.out hz2.out)
   clear HS HB hz1 hz2
   go_wp2_with fail
   go_roundw
   case rel => exact ⟨t + 1, _, by go_num, rfl, by omega, KW.trans kk2 (fun _ h _ => h), HV⟩
   case measure => simp [intOf]; omega
  ·obtain rfl : t = n := by omega
   have m1 : ¬ (t : Int) < t := by omega
   have HV := shut (show v = IntKind.i64.wrap ((N : Nat) : Int) by rw [HC.out, HT.out, List.take_of_length_le (Nat.le_of_eq HN.out)])
   clear HC HT
   go_wp2_with fail
   go_ret
   exact ⟨⟨_, rfl, HV⟩, KL⟩
theorem count_st {S : Nat → Prop} : ∀ a : StD, CountC S a.thn ∧ CountC S a.els := by
 refine StD.ind ?_
 intro a_kind a_pos a_mu a_name a_ty a_has a_place a_val a_cond a_thn a_els ih_thn ih_els
 exact ⟨count_of _ ih_thn, count_of _ ih_els⟩
theorem count_any {S : Nat → Prop} (l : List StD) : CountC S l := count_of l (fun e _ => count_st e)
end Go.Proofs.YtjbcagbnagefcaaGreat
