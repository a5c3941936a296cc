/- Which crates are great; what is told of a few. -/
import Derived.Test.YtjbcagbnagefcaaTrB
import Derived.Test.YtjbcagbnagefcaaTree27
import Derived.Test.YtjbcagbnagefcaaTrC
import Derived.Test.YtjbcagbnagefcaaTree5
import Derived.Test.YtjbcagbnagefcaaTree6
namespace Go.Proofs.Ytjbcagbnagefcaa
open Go.RowKit

attribute [local go_sem ↓] exec_mid_ty exec_store_ty exec_mid_pl exec_store_pl exec_mid_opr exec_store_opr exec_mid_val exec_store_val exec_mid_st exec_store_st exec_mid_fld exec_store_fld exec_mid_str exec_store_str exec_mid_lif exec_store_lif exec_mid_fun exec_store_fun exec_mid_cr exec_store_cr
attribute [local go_sem] rowOk_new World.setRow_alloc_new

theorem build_ty0 (ρ : Operand → Value) (dst : Option Tmp) (ty' : TypeId) (pos : String) (af : Array Edge) (gd : Option (Nat × Bool)) (w : World) :
    (execOp ρ ⟨dst, .build 33 #[], ty', pos, af, gd⟩).run Try.prog w = .ok (.value (.agg #[.int .i64 0, .string ⟨#[]⟩, .slice none 0 0, .slice none 0 0])) w := by
  kernel_rfl
/-- It tells yes or no, and keeps all that there was. -/
def SomeB (w : World) (e : Ending) (w' : World) : Prop := (∃ z : Bool, e = .returned (.bool z)) ∧ Keeps Nothing w w'

set_option maxRecDepth 100000 in
set_option linter.unusedSimpArgs false in
set_option maxHeartbeats 8000000 in
theorem great_any {S : Nat → Prop} (a : CrD) (w : World) (cs : List Value) (ha : CrIs S w a cs) : Calls Try.prog 6 #[.agg cs.toArray] w (SomeB w) := by
  obtain ⟨a_structs, a_funcs⟩ := a
  have ag1 := agg_ok ha.len ha.one
  obtain ⟨p0, q0, p1, q1, hcs, ah_structs, ah_funcs⟩ := ha
  have HCA := shut hcs
  clear hcs
  simp only at ah_structs ah_funcs HCA
  obtain ⟨CA, hCA⟩ : ∃ C, C = cs.toArray := ⟨_, rfl⟩
  rw [← hCA] at ag1 ⊢
  rw [HCA.out] at hCA
  have GCA := shut hCA
  clear hCA HCA
  have KW : Keeps Nothing w (w.alloc (.cells CA 25)) := (Keeps.refl Nothing w).alloc _
  have BA := blk_new w CA 25
  go_enter Try.func6, Try.ntmps6
  go_upto_region 1 with fail
  clear ag1
  generalize w.heap.size = ga at *
  generalize w.alloc (.cells CA 25) = wb at *
  obtain ⟨n, hn⟩ : ∃ n, a_structs.length = n := ⟨_, rfl⟩
  have hnb : n ≤ bigN := by rw [← hn]; exact ah_structs.1
  obtain ⟨m, hm⟩ : ∃ m, a_funcs.length = m := ⟨_, rfl⟩
  have hmb : m ≤ bigN := by rw [← hm]; exact ah_funcs.1
  unfold bigN at hnb hmb
  rw [hn, hm] at GCA
  have Hm := shut hm
  clear hn hm
  obtain ⟨ae0, ae1⟩ := CrB  GCA.out BA
  by_cases hn3 : n ≤ 300
  rotate_left
  · have m2 : 300 < (n : Int) := by omega
    repeat (first | rw [if_neg Bool.false_ne_true] | go_values | go_skip | go_guarded | go_step | go_upon | go_back)
    go_ret
    exact ⟨⟨_, rfl⟩, KW⟩
  have m2 : ¬ 300 < (n : Int) := by omega
  by_cases hm3 : m ≤ 300
  rotate_left
  · have m3 : 300 < (m : Int) := by omega
    repeat (first | rw [if_neg Bool.false_ne_true] | go_values | go_skip | go_guarded | go_step | go_upon | go_back)
    go_ret
    exact ⟨⟨_, rfl⟩, KW⟩
  have m3 : ¬ 300 < (m : Int) := by omega
  go_wp2_with fail
  clear m2 m3 hn3 hm3
  clear ae0 ae1
  go_loopw [3] (fun s3 wx => ∃ t : Nat, s3 = .int .i64 t ∧ t ≤ m ∧ Keeps Nothing wb wx) (fun s3 _ => m - (intOf s3).toNat)
  case atStart => exact ⟨0, rfl, Nat.zero_le _, Keeps.refl _ _⟩
  case round =>
    obtain ⟨t, rfl, ht, KL⟩ := hrel
    have BA := KL.blk BA (fun h => h)
    have KW := KW.trans KL (fun _ h _ => h)
    obtain ⟨-, ae1⟩ := CrB  GCA.out BA
    by_cases hlt : t < m
    rotate_left
    · obtain rfl : t = m := by omega
      have m1 : ¬ (t : Int) < t := by omega
      go_wp2_with fail
      go_ret
      exact ⟨⟨_, rfl⟩, KW⟩
    obtain ⟨a, ha⟩ : ∃ a, a_funcs[t]? = some a := ⟨_, List.getElem?_eq_getElem (by rw [Hm.out]; exact hlt)⟩
    obtain ⟨g1, o1, rfl, -, cs2, l1, r1, hi⟩ := (ah_funcs.keeps KW (fun _ _ h => h) (fun _ h => h) (fun _ _ _ h => h.keeps KW (fun _ _ h => h) (fun _ h => h))).get ha
    have HA := shut ha
    clear ha
    have m0 : (0 : Int) ≤ t := by omega
    have m1 : (t : Int) < m := by omega
    obtain ⟨f_pub, f_name, f_lives, f_params, f_result, f_body, f_pos⟩ := a
    obtain ⟨p2, q2, p3, q3, s4, p8, q8, hcs, fh_name, fh_lives, fh_params, fh_result, fh_body⟩ := hi
    rw [hcs] at r1
    simp only at fh_body fh_result r1
    have al_result := fh_result.len
    have R1 := shut r1
    clear hcs l1 r1 fh_lives fh_params fh_result fh_name HA
    have hlb := fh_body.1
    unfold bigN at hlb
    obtain ⟨-, -, -, -, -, be8, -⟩ := FunR al_result R1.out
    have hc := deep_any (S := S) f_body wr p8 q8 70 fh_body
    go_wp2_with fail
    refine hc.mono ?_
    rintro e w1 ⟨⟨z, rfl⟩, k1⟩
    have KL := KL.trans k1 (fun _ h _ => h)
    have KW := KW.trans k1 (fun _ h _ => h)
    have BA := k1.blk BA (fun h => h)
    have R1 := shut (rangeAt_keeps R1.out k1 (fun h => h))
    have fh_body := (fh_body.keeps k1 (fun _ _ h => h) (fun _ h => h) (fun _ _ _ h => h.keeps k1 (fun _ _ h => h) (fun _ h => h)))
    clear hc k1 be8 ae1
    try dsimp only
    by_cases hz : 68 < z
    · skip
      repeat (first | rw [if_neg Bool.false_ne_true] | go_values | go_skip | go_guarded | go_step | go_upon | go_back)
      go_ret
      exact ⟨⟨_, rfl⟩, KW⟩
    obtain ⟨-, ae1⟩ := CrB  GCA.out BA
    obtain ⟨-, -, -, -, -, be8, -⟩ := FunR al_result R1.out
    by_cases hb : 2100 < (f_body.length : Int)
    · skip
      repeat (first | rw [if_neg Bool.false_ne_true] | go_values | go_skip | go_guarded | go_step | go_upon | go_back)
      go_ret
      exact ⟨⟨_, rfl⟩, KW⟩
    have hc := rcount_any (S := S) f_body w1 p8 q8 fh_body
    repeat (first | rw [if_neg Bool.false_ne_true] | go_values | go_skip | go_guarded | go_step | go_upon | go_back)
    refine hc.mono ?_
    rintro e w2 ⟨⟨z2, rfl, -⟩, k2⟩
    have KL := KL.trans k2 (fun _ h _ => h)
    have KW := KW.trans k2 (fun _ h _ => h)
    clear hc k2 be8 ae1 hz hb
    try dsimp only
    by_cases hz2 : 2100 < z2
    · skip
      repeat (first | rw [if_neg Bool.false_ne_true] | go_values | go_skip | go_guarded | go_step | go_upon | go_back)
      go_ret
      exact ⟨⟨_, rfl⟩, KW⟩
    go_wp2_with fail
    go_roundw
    case rel => exact ⟨t + 1, by go_num, by omega, KL⟩
    case measure => simp [intOf]; omega

end Go.Proofs.Ytjbcagbnagefcaa
namespace Go.Proofs.Ytjbcagbnagefcaa
open Go.RowKit

def letD : StD := .mk 1 0 true [120] (.mk 1 [] [] []) false zeroPl zeroVal zeroOpr [] []
def badD : StD := .mk 1 0 true [120] zeroTy false zeroPl zeroVal zeroOpr [] []
def parD : FldD := ⟨false, [112], .mk 2 [] [] []⟩
def funD (s : StD) : FunD := ⟨false, [102], [], [parD], zeroTy, [s], 0⟩
theorem let_is (S : Nat → Prop) (w : World) : StIs S w letD [.int .i64 1, .int .i64 0, .bool true, .string ⟨#[120]⟩, .int .i64 1, .string ⟨#[]⟩, .slice none 0 0, .slice none 0 0, .bool false, .string ⟨#[]⟩, .slice none 0 0, .int .i64 0, .int .i64 0, .int .i64 0, .string ⟨#[]⟩, .slice none 0 0, .int .i64 0, .int .i64 0, .string ⟨#[]⟩, .slice none 0 0, .int .i64 0, .string ⟨#[]⟩, .slice none 0 0, .string ⟨#[]⟩, .slice none 0 0, .slice none 0 0, .int .i64 0, .int .i64 0, .string ⟨#[]⟩, .slice none 0 0, .slice none 0 0, .slice none 0 0] := by
  rw [stIs_iff]
  refine ⟨[.int .i64 1, .string ⟨#[]⟩, .slice none 0 0, .slice none 0 0], plC, valC, oprC, none, 0, none, 0, rfl, by decide, ?_, zeroPl_is S w, zeroVal_is S w, zeroOpr_is S w, slIs_nil _ _ _ _ _, slIs_nil _ _ _ _ _⟩
  show TyIs S w (.mk 1 [] [] []) _
  rw [tyIs_iff]
  exact ⟨none, 0, none, 0, rfl, Nat.zero_le _, slIs_nil _ _ _ _ _, slIs_nil _ _ _ _ _⟩
theorem bad_is (S : Nat → Prop) (w : World) : StIs S w badD [.int .i64 1, .int .i64 0, .bool true, .string ⟨#[120]⟩, .int .i64 0, .string ⟨#[]⟩, .slice none 0 0, .slice none 0 0, .bool false, .string ⟨#[]⟩, .slice none 0 0, .int .i64 0, .int .i64 0, .int .i64 0, .string ⟨#[]⟩, .slice none 0 0, .int .i64 0, .int .i64 0, .string ⟨#[]⟩, .slice none 0 0, .int .i64 0, .string ⟨#[]⟩, .slice none 0 0, .string ⟨#[]⟩, .slice none 0 0, .slice none 0 0, .int .i64 0, .int .i64 0, .string ⟨#[]⟩, .slice none 0 0, .slice none 0 0, .slice none 0 0] := by
  rw [stIs_iff]
  exact ⟨tyC, plC, valC, oprC, none, 0, none, 0, rfl, by decide, zeroTy_is S w, zeroPl_is S w, zeroVal_is S w, zeroOpr_is S w, slIs_nil _ _ _ _ _, slIs_nil _ _ _ _ _⟩
theorem par_is (S : Nat → Prop) (w : World) : FldIs S w parD [.bool false, .string ⟨#[112]⟩, .int .i64 2, .string ⟨#[]⟩, .slice none 0 0, .slice none 0 0] := by
  refine ⟨[.int .i64 2, .string ⟨#[]⟩, .slice none 0 0, .slice none 0 0], rfl, by decide, ?_⟩
  show TyIs S w (.mk 2 [] [] []) _
  rw [tyIs_iff]
  exact ⟨none, 0, none, 0, rfl, Nat.zero_le _, slIs_nil _ _ _ _ _, slIs_nil _ _ _ _ _⟩
/-- A row of one, in a block of its own. -/
theorem one_row {α : Type} {S : Nat → Prop} {w : World} {k : Nat} {P : α → List Value → Prop} {a : α} {cs : List Value} {b : Nat} {t : TypeId} (hb : Blk w b cs.toArray t) (hS : S b) (hl : cs.length = k) (hp : P a cs) : SlIs S w k P (some ⟨b, 0, none⟩) [a] :=
  ⟨by unfold bigN; simp, .inr ⟨b, 0, rfl, hS, ⟨cs, hl, rangeAt_blk hb, hp⟩, trivial⟩⟩
theorem fun_is {S : Nat → Prop} {w : World} {s : StD} {cs : List Value} {gp gs : Nat} {t1 t2 : TypeId} (bp : Blk w gp #[.bool false, .string ⟨#[112]⟩, .int .i64 2, .string ⟨#[]⟩, .slice none 0 0, .slice none 0 0] t1) (bs : Blk w gs cs.toArray t2) (hs : StIs S w s cs) (h1 : S gp) (h2 : S gs) : FunIs S w (funD s) [.bool false, .string ⟨#[102]⟩, .slice none 0 0, .slice (some ⟨gp, 0, none⟩) 1 1, .int .i64 0, .string ⟨#[]⟩, .slice none 0 0, .slice none 0 0, .slice (some ⟨gs, 0, none⟩) 1 1, .int .i64 0] := by
  refine ⟨none, 0, some ⟨gp, 0, none⟩, 1, tyC, some ⟨gs, 0, none⟩, 1, rfl, (by show ([102] : List UInt8).length ≤ bigN; decide), slIs_nil _ _ _ _ _, ?_, zeroTy_is S w, ?_⟩
  · exact one_row (cs := [.bool false, .string ⟨#[112]⟩, .int .i64 2, .string ⟨#[]⟩, .slice none 0 0, .slice none 0 0]) bp h1 rfl (par_is S w)
  · exact one_row bs h2 hs.len hs
theorem name_f : isName [102] = true := by decide
theorem name_p : isName [112] = true := by decide
theorem name_x : isName [120] = true := by decide
theorem ty_int (d : Int) (h : d ≤ 64) (k : Int) (hk : k = 1 ∨ k = 2) : TyP (.mk k [] [] []) d := by
  unfold TyP
  exact ⟨h, .inr (.inr ⟨hk, rfl, rfl, rfl⟩)⟩
theorem ty_zero (d : Int) : ¬ TyP zeroTy d := by
  unfold zeroTy TyP
  simp
theorem let_p : StP letD 1 := by
  unfold letD StP
  refine .inl ⟨rfl, name_x, ty_int 1 (by decide) 1 (.inl rfl), ?_, rfl⟩
  intro h
  cases h
theorem bad_p : ¬ StP badD 1 := by
  unfold badD StP
  simp [ty_zero]
theorem cr0_p : CrP ⟨[], []⟩ := ⟨by decide, (fun s h => by cases h), (fun s h => by cases h)⟩
theorem crf_p : CrP ⟨[], [funD letD]⟩ := by
  refine ⟨by decide, (fun s h => by cases h), fun f hf => ?_⟩
  obtain rfl : f = funD letD := by simpa using hf
  refine ⟨(fun l h => by cases h), name_f, by decide, ⟨fun f hf => ?_, by decide⟩, .inl ⟨rfl, rfl, rfl, rfl⟩, ?_, ?_⟩
  · obtain rfl : f = parD := by simpa [funD] using hf
    exact ⟨(fun h => by cases h), name_p, ty_int 1 (by decide) 2 (.inr rfl)⟩
  · rw [blP_iff]
    refine ⟨by decide, fun e he => ?_⟩
    obtain rfl : e = letD := by simpa [funD] using he
    exact let_p
  · show IntKind.i64.wrap ((cntL [letD] : Nat) : Int) ≤ 2000
    have : cntL [letD] = 1 := by simp [cntL, cntS, letD]
    rw [this, IntKind.wrap_i64]
    decide
theorem crg_p : ¬ CrP ⟨[], [funD badD]⟩ := by
  intro h
  have h2 := (h.2.2 (funD badD) (by simp)).2.2.2.2.2.1
  rw [blP_iff] at h2
  exact bad_p (h2.2 badD (by simp [funD]))
theorem cnt_let : cntL [letD] = 1 := by simp [cntL, cntS, letD]
theorem nm_f : nmD (funD letD) = [[112], [120]] := by simp [nmD, funD, parD, ltL, ltS, letD]

end Go.Proofs.Ytjbcagbnagefcaa

namespace Go.Proofs.Ytjbcagbnagefcaa
open Go.RowKit

attribute [local go_sem ↓] exec_mid_ty exec_store_ty exec_mid_pl exec_store_pl exec_mid_opr exec_store_opr exec_mid_val exec_store_val exec_mid_st exec_store_st exec_mid_fld exec_store_fld exec_mid_str exec_store_str exec_mid_lif exec_store_lif exec_mid_fun exec_store_fun exec_mid_cr exec_store_cr
attribute [local go_sem] rowOk_new World.setRow_alloc_new

attribute [local go_sem ↓] exec_into_pl exec_into_opr exec_into_ty exec_into_val build_valS build_st build_ty0
def ToldPost (w : World) (e : Ending) (w' : World) : Prop := e = .returned (.bool true) ∧ Keeps Nothing w w'
theorem rowR_sl {w : World} {e : TypeId} {ao : Option Addr} {cap : Nat} {l : List (List UInt8)} (h : RowR w e ao cap (l.map txV)) (hl : l.length ≤ bigN) (hx : ∀ x ∈ l, x.length ≤ bigN) : SlIs (fun _ => True) w 1 TxIs ao l := by
  refine ⟨hl, ?_⟩
  by_cases hn : l = []
  · exact .inl hn
  · obtain ⟨g, o, rfl⟩ := h.head (by simpa using hn)
    refine .inr ⟨g, o, rfl, trivial, rowIs_mk fun j d hd => ⟨[txV d], rfl, ?_, rfl, hx d (List.mem_of_getElem? hd)⟩⟩
    intro i v hi
    have hj := h.cell (j := j) (v := txV d) (by simp [hd])
    cases i with
    | zero =>
      obtain rfl : txV d = v := by simpa using hi
      rw [Nat.mul_one, Nat.add_zero]
      exact hj
    | succ i => simp at hi
theorem midCs_bad : midCs #[.int .i64 1, .int .i64 0, .bool true, .string ⟨#[120]⟩, .int .i64 1, .string ⟨#[]⟩, .slice none 0 0, .slice none 0 0, .bool false, .string ⟨#[]⟩, .slice none 0 0, .int .i64 0, .int .i64 0, .int .i64 0, .string ⟨#[]⟩, .slice none 0 0, .int .i64 0, .int .i64 0, .string ⟨#[]⟩, .slice none 0 0, .int .i64 0, .string ⟨#[]⟩, .slice none 0 0, .string ⟨#[]⟩, .slice none 0 0, .slice none 0 0, .int .i64 0, .int .i64 0, .string ⟨#[]⟩, .slice none 0 0, .slice none 0 0, .slice none 0 0] #[.int .i64 0, .string ⟨#[]⟩, .slice none 0 0, .slice none 0 0] 4 = #[.int .i64 1, .int .i64 0, .bool true, .string ⟨#[120]⟩, .int .i64 0, .string ⟨#[]⟩, .slice none 0 0, .slice none 0 0, .bool false, .string ⟨#[]⟩, .slice none 0 0, .int .i64 0, .int .i64 0, .int .i64 0, .string ⟨#[]⟩, .slice none 0 0, .int .i64 0, .int .i64 0, .string ⟨#[]⟩, .slice none 0 0, .int .i64 0, .string ⟨#[]⟩, .slice none 0 0, .string ⟨#[]⟩, .slice none 0 0, .slice none 0 0, .int .i64 0, .int .i64 0, .string ⟨#[]⟩, .slice none 0 0, .slice none 0 0, .slice none 0 0] := by rfl

set_option maxRecDepth 100000 in
set_option linter.unusedSimpArgs false in
set_option maxHeartbeats 8000000 in
theorem told7_any (w : World) (hM : MaxV w) : Calls Try.prog 8 #[] w (ToldPost w) := by
  have HM := shut hM
  clear hM
  go_enter Try.func8, Try.ntmps8
  have g1 : aggOk 32 (.agg #[.int .i64 1, .int .i64 0, .bool true, .string ⟨#[120]⟩, .int .i64 1, .string ⟨#[]⟩, .slice none 0 0, .slice none 0 0, .bool false, .string ⟨#[]⟩, .slice none 0 0, .int .i64 0, .int .i64 0, .int .i64 0, .string ⟨#[]⟩, .slice none 0 0, .int .i64 0, .int .i64 0, .string ⟨#[]⟩, .slice none 0 0, .int .i64 0, .string ⟨#[]⟩, .slice none 0 0, .string ⟨#[]⟩, .slice none 0 0, .slice none 0 0, .int .i64 0, .int .i64 0, .string ⟨#[]⟩, .slice none 0 0, .slice none 0 0, .slice none 0 0]) = true := by kernel_rfl
  go_upto_region 2 with fail
  have BA := blk_new w #[.int .i64 1, .int .i64 0, .bool true, .string ⟨#[120]⟩, .int .i64 1, .string ⟨#[]⟩, .slice none 0 0, .slice none 0 0, .bool false, .string ⟨#[]⟩, .slice none 0 0, .int .i64 0, .int .i64 0, .int .i64 0, .string ⟨#[]⟩, .slice none 0 0, .int .i64 0, .int .i64 0, .string ⟨#[]⟩, .slice none 0 0, .int .i64 0, .string ⟨#[]⟩, .slice none 0 0, .string ⟨#[]⟩, .slice none 0 0, .slice none 0 0, .int .i64 0, .int .i64 0, .string ⟨#[]⟩, .slice none 0 0, .slice none 0 0, .slice none 0 0] 46
  have K : Keeps Nothing w (w.alloc (.cells #[.int .i64 1, .int .i64 0, .bool true, .string ⟨#[120]⟩, .int .i64 1, .string ⟨#[]⟩, .slice none 0 0, .slice none 0 0, .bool false, .string ⟨#[]⟩, .slice none 0 0, .int .i64 0, .int .i64 0, .int .i64 0, .string ⟨#[]⟩, .slice none 0 0, .int .i64 0, .int .i64 0, .string ⟨#[]⟩, .slice none 0 0, .int .i64 0, .string ⟨#[]⟩, .slice none 0 0, .string ⟨#[]⟩, .slice none 0 0, .slice none 0 0, .int .i64 0, .int .i64 0, .string ⟨#[]⟩, .slice none 0 0, .slice none 0 0, .slice none 0 0] 46)) := (Keeps.refl Nothing w).alloc _
  generalize w.heap.size = ga at *
  generalize w.alloc (.cells #[.int .i64 1, .int .i64 0, .bool true, .string ⟨#[120]⟩, .int .i64 1, .string ⟨#[]⟩, .slice none 0 0, .slice none 0 0, .bool false, .string ⟨#[]⟩, .slice none 0 0, .int .i64 0, .int .i64 0, .int .i64 0, .string ⟨#[]⟩, .slice none 0 0, .int .i64 0, .int .i64 0, .string ⟨#[]⟩, .slice none 0 0, .int .i64 0, .string ⟨#[]⟩, .slice none 0 0, .string ⟨#[]⟩, .slice none 0 0, .slice none 0 0, .int .i64 0, .int .i64 0, .string ⟨#[]⟩, .slice none 0 0, .slice none 0 0, .slice none 0 0] 46) = wa at *
  have hlt := lt_of_block BA
  obtain ⟨y1, y2⟩ := tblk_mid BA (n := 32) rfl
  go_upto_region 3 with fail
  clear y1 y2
  have BB := blk_new wa #[.int .i64 1, .int .i64 0, .bool true, .string ⟨#[120]⟩, .int .i64 1, .string ⟨#[]⟩, .slice none 0 0, .slice none 0 0, .bool false, .string ⟨#[]⟩, .slice none 0 0, .int .i64 0, .int .i64 0, .int .i64 0, .string ⟨#[]⟩, .slice none 0 0, .int .i64 0, .int .i64 0, .string ⟨#[]⟩, .slice none 0 0, .int .i64 0, .string ⟨#[]⟩, .slice none 0 0, .string ⟨#[]⟩, .slice none 0 0, .slice none 0 0, .int .i64 0, .int .i64 0, .string ⟨#[]⟩, .slice none 0 0, .slice none 0 0, .slice none 0 0] 46
  have KS := shut K.size
  have BA := blk_alloc BA (.cells #[.int .i64 1, .int .i64 0, .bool true, .string ⟨#[120]⟩, .int .i64 1, .string ⟨#[]⟩, .slice none 0 0, .slice none 0 0, .bool false, .string ⟨#[]⟩, .slice none 0 0, .int .i64 0, .int .i64 0, .int .i64 0, .string ⟨#[]⟩, .slice none 0 0, .int .i64 0, .int .i64 0, .string ⟨#[]⟩, .slice none 0 0, .int .i64 0, .string ⟨#[]⟩, .slice none 0 0, .string ⟨#[]⟩, .slice none 0 0, .slice none 0 0, .int .i64 0, .int .i64 0, .string ⟨#[]⟩, .slice none 0 0, .slice none 0 0, .slice none 0 0] 46)
  have K := K.alloc (.cells #[.int .i64 1, .int .i64 0, .bool true, .string ⟨#[120]⟩, .int .i64 1, .string ⟨#[]⟩, .slice none 0 0, .slice none 0 0, .bool false, .string ⟨#[]⟩, .slice none 0 0, .int .i64 0, .int .i64 0, .int .i64 0, .string ⟨#[]⟩, .slice none 0 0, .int .i64 0, .int .i64 0, .string ⟨#[]⟩, .slice none 0 0, .int .i64 0, .string ⟨#[]⟩, .slice none 0 0, .string ⟨#[]⟩, .slice none 0 0, .slice none 0 0, .int .i64 0, .int .i64 0, .string ⟨#[]⟩, .slice none 0 0, .slice none 0 0, .slice none 0 0] 46)
  generalize hgb : wa.heap.size = gb at *
  have HGB := shut hgb
  have KS : Shut (w.heap.size ≤ gb) := shut (by have := KS.out; omega)
  clear hgb
  generalize hwb : wa.alloc (.cells #[.int .i64 1, .int .i64 0, .bool true, .string ⟨#[120]⟩, .int .i64 1, .string ⟨#[]⟩, .slice none 0 0, .slice none 0 0, .bool false, .string ⟨#[]⟩, .slice none 0 0, .int .i64 0, .int .i64 0, .int .i64 0, .string ⟨#[]⟩, .slice none 0 0, .int .i64 0, .int .i64 0, .string ⟨#[]⟩, .slice none 0 0, .int .i64 0, .string ⟨#[]⟩, .slice none 0 0, .string ⟨#[]⟩, .slice none 0 0, .slice none 0 0, .int .i64 0, .int .i64 0, .string ⟨#[]⟩, .slice none 0 0, .slice none 0 0, .slice none 0 0] 46) = wb at *
  have hsb : Shut (wb.heap.size = gb + 1) := shut (by rw [← hwb, World.size_alloc, HGB.out])
  clear hwb
  have hne : Shut (ga < gb) := shut hlt
  have hf := midFit_blk BB (o := 4) (n := 4) (by decide)
  have g2 : aggOk 4 (.agg #[.int .i64 0, .string ⟨#[]⟩, .slice none 0 0, .slice none 0 0]) = true := by kernel_rfl
  go_upto_region 4 with fail
  clear hf
  have BC := blk_midSet BB 4 #[.int .i64 0, .string ⟨#[]⟩, .slice none 0 0, .slice none 0 0]
  rw [midCs_bad] at BC
  have BA : Blk (midSet wb gb 4 #[.int .i64 0, .string ⟨#[]⟩, .slice none 0 0, .slice none 0 0]) ga #[.int .i64 1, .int .i64 0, .bool true, .string ⟨#[120]⟩, .int .i64 1, .string ⟨#[]⟩, .slice none 0 0, .slice none 0 0, .bool false, .string ⟨#[]⟩, .slice none 0 0, .int .i64 0, .int .i64 0, .int .i64 0, .string ⟨#[]⟩, .slice none 0 0, .int .i64 0, .int .i64 0, .string ⟨#[]⟩, .slice none 0 0, .int .i64 0, .string ⟨#[]⟩, .slice none 0 0, .string ⟨#[]⟩, .slice none 0 0, .slice none 0 0, .int .i64 0, .int .i64 0, .string ⟨#[]⟩, .slice none 0 0, .slice none 0 0, .slice none 0 0] 46 := blk_setRow_other BA (Nat.ne_of_lt hne.out)
  have K : Keeps Nothing w (midSet wb gb 4 #[.int .i64 0, .string ⟨#[]⟩, .slice none 0 0, .slice none 0 0]) := midSet_keeps K (fun h => by have h1 := KS.out; omega) 4 #[.int .i64 0, .string ⟨#[]⟩, .slice none 0 0, .slice none 0 0]
  clear BB g2 hsb
  generalize midSet wb gb 4 #[.int .i64 0, .string ⟨#[]⟩, .slice none 0 0, .slice none 0 0] = wc at *
  have gF : ∀ gp gs, aggOk 10 (.agg #[.bool false, .string ⟨#[102]⟩, .slice none 0 0, .slice (some ⟨gp, 0, none⟩) 1 1, .int .i64 0, .string ⟨#[]⟩, .slice none 0 0, .slice none 0 0, .slice (some ⟨gs, 0, none⟩) 1 1, .int .i64 0]) = true := fun gp gs => by kernel_rfl
  have gF := gF wc.heap.size (wc.heap.size + 1)
  have BA := blk_alloc BA (.cells #[.bool false, .string ⟨#[112]⟩, .int .i64 2, .string ⟨#[]⟩, .slice none 0 0, .slice none 0 0] 50)
  obtain ⟨y1, y2⟩ := tblk_mid BA (n := 32) rfl
  go_upto_region 5 with fail
  clear y1 y2 gF
  have BA := blk_alloc (blk_alloc BA (.cells #[.int .i64 1, .int .i64 0, .bool true, .string ⟨#[120]⟩, .int .i64 1, .string ⟨#[]⟩, .slice none 0 0, .slice none 0 0, .bool false, .string ⟨#[]⟩, .slice none 0 0, .int .i64 0, .int .i64 0, .int .i64 0, .string ⟨#[]⟩, .slice none 0 0, .int .i64 0, .int .i64 0, .string ⟨#[]⟩, .slice none 0 0, .int .i64 0, .string ⟨#[]⟩, .slice none 0 0, .string ⟨#[]⟩, .slice none 0 0, .slice none 0 0, .int .i64 0, .int .i64 0, .string ⟨#[]⟩, .slice none 0 0, .slice none 0 0, .slice none 0 0] 46)) (.cells #[.bool false, .string ⟨#[102]⟩, .slice none 0 0, .slice (some ⟨wc.heap.size, 0, none⟩) 1 1, .int .i64 0, .string ⟨#[]⟩, .slice none 0 0, .slice none 0 0, .slice (some ⟨wc.heap.size + 1, 0, none⟩) 1 1, .int .i64 0] 36)
  have BC := blk_alloc (blk_alloc (blk_alloc BC (.cells #[.bool false, .string ⟨#[112]⟩, .int .i64 2, .string ⟨#[]⟩, .slice none 0 0, .slice none 0 0] 50)) (.cells #[.int .i64 1, .int .i64 0, .bool true, .string ⟨#[120]⟩, .int .i64 1, .string ⟨#[]⟩, .slice none 0 0, .slice none 0 0, .bool false, .string ⟨#[]⟩, .slice none 0 0, .int .i64 0, .int .i64 0, .int .i64 0, .string ⟨#[]⟩, .slice none 0 0, .int .i64 0, .int .i64 0, .string ⟨#[]⟩, .slice none 0 0, .int .i64 0, .string ⟨#[]⟩, .slice none 0 0, .string ⟨#[]⟩, .slice none 0 0, .slice none 0 0, .int .i64 0, .int .i64 0, .string ⟨#[]⟩, .slice none 0 0, .slice none 0 0, .slice none 0 0] 46)) (.cells #[.bool false, .string ⟨#[102]⟩, .slice none 0 0, .slice (some ⟨wc.heap.size, 0, none⟩) 1 1, .int .i64 0, .string ⟨#[]⟩, .slice none 0 0, .slice none 0 0, .slice (some ⟨wc.heap.size + 1, 0, none⟩) 1 1, .int .i64 0] 36)
  have BP := blk_alloc (blk_alloc (blk_new wc #[.bool false, .string ⟨#[112]⟩, .int .i64 2, .string ⟨#[]⟩, .slice none 0 0, .slice none 0 0] 50) (.cells #[.int .i64 1, .int .i64 0, .bool true, .string ⟨#[120]⟩, .int .i64 1, .string ⟨#[]⟩, .slice none 0 0, .slice none 0 0, .bool false, .string ⟨#[]⟩, .slice none 0 0, .int .i64 0, .int .i64 0, .int .i64 0, .string ⟨#[]⟩, .slice none 0 0, .int .i64 0, .int .i64 0, .string ⟨#[]⟩, .slice none 0 0, .int .i64 0, .string ⟨#[]⟩, .slice none 0 0, .string ⟨#[]⟩, .slice none 0 0, .slice none 0 0, .int .i64 0, .int .i64 0, .string ⟨#[]⟩, .slice none 0 0, .slice none 0 0, .slice none 0 0] 46)) (.cells #[.bool false, .string ⟨#[102]⟩, .slice none 0 0, .slice (some ⟨wc.heap.size, 0, none⟩) 1 1, .int .i64 0, .string ⟨#[]⟩, .slice none 0 0, .slice none 0 0, .slice (some ⟨wc.heap.size + 1, 0, none⟩) 1 1, .int .i64 0] 36)
  have BS := blk_alloc (blk_new (wc.alloc (.cells #[.bool false, .string ⟨#[112]⟩, .int .i64 2, .string ⟨#[]⟩, .slice none 0 0, .slice none 0 0] 50)) #[.int .i64 1, .int .i64 0, .bool true, .string ⟨#[120]⟩, .int .i64 1, .string ⟨#[]⟩, .slice none 0 0, .slice none 0 0, .bool false, .string ⟨#[]⟩, .slice none 0 0, .int .i64 0, .int .i64 0, .int .i64 0, .string ⟨#[]⟩, .slice none 0 0, .int .i64 0, .int .i64 0, .string ⟨#[]⟩, .slice none 0 0, .int .i64 0, .string ⟨#[]⟩, .slice none 0 0, .string ⟨#[]⟩, .slice none 0 0, .slice none 0 0, .int .i64 0, .int .i64 0, .string ⟨#[]⟩, .slice none 0 0, .slice none 0 0, .slice none 0 0] 46) (.cells #[.bool false, .string ⟨#[102]⟩, .slice none 0 0, .slice (some ⟨wc.heap.size, 0, none⟩) 1 1, .int .i64 0, .string ⟨#[]⟩, .slice none 0 0, .slice none 0 0, .slice (some ⟨wc.heap.size + 1, 0, none⟩) 1 1, .int .i64 0] 36)
  have BF := blk_new ((wc.alloc (.cells #[.bool false, .string ⟨#[112]⟩, .int .i64 2, .string ⟨#[]⟩, .slice none 0 0, .slice none 0 0] 50)).alloc (.cells #[.int .i64 1, .int .i64 0, .bool true, .string ⟨#[120]⟩, .int .i64 1, .string ⟨#[]⟩, .slice none 0 0, .slice none 0 0, .bool false, .string ⟨#[]⟩, .slice none 0 0, .int .i64 0, .int .i64 0, .int .i64 0, .string ⟨#[]⟩, .slice none 0 0, .int .i64 0, .int .i64 0, .string ⟨#[]⟩, .slice none 0 0, .int .i64 0, .string ⟨#[]⟩, .slice none 0 0, .string ⟨#[]⟩, .slice none 0 0, .slice none 0 0, .int .i64 0, .int .i64 0, .string ⟨#[]⟩, .slice none 0 0, .slice none 0 0, .slice none 0 0] 46)) #[.bool false, .string ⟨#[102]⟩, .slice none 0 0, .slice (some ⟨wc.heap.size, 0, none⟩) 1 1, .int .i64 0, .string ⟨#[]⟩, .slice none 0 0, .slice none 0 0, .slice (some ⟨wc.heap.size + 1, 0, none⟩) 1 1, .int .i64 0] 36
  rw [World.size_alloc] at BS
  rw [World.size_alloc, World.size_alloc] at BF
  have K := ((K.alloc (.cells #[.bool false, .string ⟨#[112]⟩, .int .i64 2, .string ⟨#[]⟩, .slice none 0 0, .slice none 0 0] 50)).alloc (.cells #[.int .i64 1, .int .i64 0, .bool true, .string ⟨#[120]⟩, .int .i64 1, .string ⟨#[]⟩, .slice none 0 0, .slice none 0 0, .bool false, .string ⟨#[]⟩, .slice none 0 0, .int .i64 0, .int .i64 0, .int .i64 0, .string ⟨#[]⟩, .slice none 0 0, .int .i64 0, .int .i64 0, .string ⟨#[]⟩, .slice none 0 0, .int .i64 0, .string ⟨#[]⟩, .slice none 0 0, .string ⟨#[]⟩, .slice none 0 0, .slice none 0 0, .int .i64 0, .int .i64 0, .string ⟨#[]⟩, .slice none 0 0, .slice none 0 0, .slice none 0 0] 46)).alloc (.cells #[.bool false, .string ⟨#[102]⟩, .slice none 0 0, .slice (some ⟨wc.heap.size, 0, none⟩) 1 1, .int .i64 0, .string ⟨#[]⟩, .slice none 0 0, .slice none 0 0, .slice (some ⟨wc.heap.size + 1, 0, none⟩) 1 1, .int .i64 0] 36)
  clear KS HGB hne hlt
  generalize hgf : wc.heap.size + 1 + 1 = gf at *
  generalize hgs : wc.heap.size + 1 = gs at *
  generalize hgp : wc.heap.size = gp at *
  clear hgf hgs hgp
  generalize ((wc.alloc (.cells #[.bool false, .string ⟨#[112]⟩, .int .i64 2, .string ⟨#[]⟩, .slice none 0 0, .slice none 0 0] 50)).alloc (.cells #[.int .i64 1, .int .i64 0, .bool true, .string ⟨#[120]⟩, .int .i64 1, .string ⟨#[]⟩, .slice none 0 0, .slice none 0 0, .bool false, .string ⟨#[]⟩, .slice none 0 0, .int .i64 0, .int .i64 0, .int .i64 0, .string ⟨#[]⟩, .slice none 0 0, .int .i64 0, .int .i64 0, .string ⟨#[]⟩, .slice none 0 0, .int .i64 0, .string ⟨#[]⟩, .slice none 0 0, .string ⟨#[]⟩, .slice none 0 0, .slice none 0 0, .int .i64 0, .int .i64 0, .string ⟨#[]⟩, .slice none 0 0, .slice none 0 0, .slice none 0 0] 46)).alloc (.cells #[.bool false, .string ⟨#[102]⟩, .slice none 0 0, .slice (some ⟨gp, 0, none⟩) 1 1, .int .i64 0, .string ⟨#[]⟩, .slice none 0 0, .slice none 0 0, .slice (some ⟨gs, 0, none⟩) 1 1, .int .i64 0] 36) = wd at *
  have gF : aggOk 10 (.agg #[.bool false, .string ⟨#[102]⟩, .slice none 0 0, .slice (some ⟨gp, 0, none⟩) 1 1, .int .i64 0, .string ⟨#[]⟩, .slice none 0 0, .slice none 0 0, .slice (some ⟨gs, 0, none⟩) 1 1, .int .i64 0]) = true := by kernel_rfl
  obtain ⟨y1, y2⟩ := tblk_mid BF (n := 10) rfl
  go_upto_region 6 with fail
  clear y1 y2 gF
  have k1 : Keeps Nothing wd (wd.alloc (.cells #[.bool false, .string ⟨#[102]⟩, .slice none 0 0, .slice (some ⟨gp, 0, none⟩) 1 1, .int .i64 0, .string ⟨#[]⟩, .slice none 0 0, .slice none 0 0, .slice (some ⟨gs, 0, none⟩) 1 1, .int .i64 0] 36)) := (Keeps.refl Nothing wd).alloc _
  have HPG := shut (lt_of_block BP)
  have HSG := shut (lt_of_block BS)
  have HFG := shut (lt_of_block BF)
  have BG := blk_new wd #[.bool false, .string ⟨#[102]⟩, .slice none 0 0, .slice (some ⟨gp, 0, none⟩) 1 1, .int .i64 0, .string ⟨#[]⟩, .slice none 0 0, .slice none 0 0, .slice (some ⟨gs, 0, none⟩) 1 1, .int .i64 0] 36
  have BA := k1.blk BA (fun h => h)
  have BC := k1.blk BC (fun h => h)
  have BP := k1.blk BP (fun h => h)
  have BS := k1.blk BS (fun h => h)
  have BF := k1.blk BF (fun h => h)
  have hgg := K.size
  have hfg := lt_of_block BF
  have K := K.trans k1 (fun _ h _ => h)
  clear k1
  generalize hgg2 : wd.heap.size = gg at *
  generalize hwe : wd.alloc (.cells #[.bool false, .string ⟨#[102]⟩, .slice none 0 0, .slice (some ⟨gp, 0, none⟩) 1 1, .int .i64 0, .string ⟨#[]⟩, .slice none 0 0, .slice none 0 0, .slice (some ⟨gs, 0, none⟩) 1 1, .int .i64 0] 36) = we at *
  have hse : Shut (we.heap.size = gg + 1) := shut (by rw [← hwe, World.size_alloc, hgg2])
  clear hwe hgg2
  have HG := shut hgg
  clear hgg hfg
  have k2 : Keeps Nothing we (we.alloc (.cells #[.int .i64 1, .int .i64 0, .bool true, .string ⟨#[120]⟩, .int .i64 0, .string ⟨#[]⟩, .slice none 0 0, .slice none 0 0, .bool false, .string ⟨#[]⟩, .slice none 0 0, .int .i64 0, .int .i64 0, .int .i64 0, .string ⟨#[]⟩, .slice none 0 0, .int .i64 0, .int .i64 0, .string ⟨#[]⟩, .slice none 0 0, .int .i64 0, .string ⟨#[]⟩, .slice none 0 0, .string ⟨#[]⟩, .slice none 0 0, .slice none 0 0, .int .i64 0, .int .i64 0, .string ⟨#[]⟩, .slice none 0 0, .slice none 0 0, .slice none 0 0] 46)) := (Keeps.refl Nothing we).alloc _
  have BG2 := k2.blk BG (fun h => h)
  have hcell := blk_cell BG2 8 (v := .slice (some ⟨gs, 0, none⟩) 1 1) rfl
  have hfree := blk_free BG2 8
  obtain ⟨y1, y2⟩ := tblk_mid BC (n := 32) rfl
  go_upto_region 7 with fail
  any_goals try (rename_i hfz; simp [hfree] at hfz; done)
  clear y1 y2 hcell hfree g1
  have hhg : we.heap.size ≠ gg := by have := hse.out; omega
  have BH := blk_other (blk_new we #[.int .i64 1, .int .i64 0, .bool true, .string ⟨#[120]⟩, .int .i64 0, .string ⟨#[]⟩, .slice none 0 0, .slice none 0 0, .bool false, .string ⟨#[]⟩, .slice none 0 0, .int .i64 0, .int .i64 0, .int .i64 0, .string ⟨#[]⟩, .slice none 0 0, .int .i64 0, .int .i64 0, .string ⟨#[]⟩, .slice none 0 0, .int .i64 0, .string ⟨#[]⟩, .slice none 0 0, .string ⟨#[]⟩, .slice none 0 0, .slice none 0 0, .int .i64 0, .int .i64 0, .string ⟨#[]⟩, .slice none 0 0, .slice none 0 0, .slice none 0 0] 46) ⟨gg, 8, none⟩ hhg (.slice (some ⟨we.heap.size, 0, none⟩) 1 1)
  have BG : Blk ((we.alloc (.cells #[.int .i64 1, .int .i64 0, .bool true, .string ⟨#[120]⟩, .int .i64 0, .string ⟨#[]⟩, .slice none 0 0, .slice none 0 0, .bool false, .string ⟨#[]⟩, .slice none 0 0, .int .i64 0, .int .i64 0, .int .i64 0, .string ⟨#[]⟩, .slice none 0 0, .int .i64 0, .int .i64 0, .string ⟨#[]⟩, .slice none 0 0, .int .i64 0, .string ⟨#[]⟩, .slice none 0 0, .string ⟨#[]⟩, .slice none 0 0, .slice none 0 0, .int .i64 0, .int .i64 0, .string ⟨#[]⟩, .slice none 0 0, .slice none 0 0, .slice none 0 0] 46)).setCell ⟨gg, 8, none⟩ (.slice (some ⟨we.heap.size, 0, none⟩) 1 1)) gg #[.bool false, .string ⟨#[102]⟩, .slice none 0 0, .slice (some ⟨gp, 0, none⟩) 1 1, .int .i64 0, .string ⟨#[]⟩, .slice none 0 0, .slice none 0 0, .slice (some ⟨we.heap.size, 0, none⟩) 1 1, .int .i64 0] 36 := blk_set BG2 8 _
  have BP := blk_other (k2.blk BP (fun h => h)) ⟨gg, 8, none⟩ (Nat.ne_of_lt HPG.out) (.slice (some ⟨we.heap.size, 0, none⟩) 1 1)
  have BS := blk_other (k2.blk BS (fun h => h)) ⟨gg, 8, none⟩ (Nat.ne_of_lt HSG.out) (.slice (some ⟨we.heap.size, 0, none⟩) 1 1)
  have BF := blk_other (k2.blk BF (fun h => h)) ⟨gg, 8, none⟩ (Nat.ne_of_lt HFG.out) (.slice (some ⟨we.heap.size, 0, none⟩) 1 1)
  have K := (K.trans k2 (fun _ h _ => h)).setCell (p := ⟨gg, 8, none⟩) (fun h => absurd (show gg < w.heap.size from h) (Nat.not_lt.2 HG.out)) (.slice (some ⟨we.heap.size, 0, none⟩) 1 1)
  clear k2 hhg BG2 BA BC hse HPG HSG HFG HG
  generalize ((we.alloc (.cells #[.int .i64 1, .int .i64 0, .bool true, .string ⟨#[120]⟩, .int .i64 0, .string ⟨#[]⟩, .slice none 0 0, .slice none 0 0, .bool false, .string ⟨#[]⟩, .slice none 0 0, .int .i64 0, .int .i64 0, .int .i64 0, .string ⟨#[]⟩, .slice none 0 0, .int .i64 0, .int .i64 0, .string ⟨#[]⟩, .slice none 0 0, .int .i64 0, .string ⟨#[]⟩, .slice none 0 0, .string ⟨#[]⟩, .slice none 0 0, .slice none 0 0, .int .i64 0, .int .i64 0, .string ⟨#[]⟩, .slice none 0 0, .slice none 0 0, .slice none 0 0] 46)).setCell ⟨gg, 8, none⟩ (.slice (some ⟨we.heap.size, 0, none⟩) 1 1)) = wf at *
  generalize we.heap.size = gb at *
  have hc := may_any (S := fun _ => True) ⟨[], []⟩ wf (HM.out.keeps K) [.slice none 0 0, .slice none 0 0] ⟨none, 0, none, 0, rfl, slIs_nil _ _ _ _ _, slIs_nil _ _ _ _ _⟩
  go_wp2_with fail
  refine hc.mono ?_
  rintro e w1 ⟨⟨z, rfl, hz⟩, k1⟩
  obtain rfl : z = true := hz.2 cr0_p
  have K := K.trans k1 (fun _ h _ => h)
  have BP := k1.blk BP (fun h => h)
  have BS := k1.blk BS (fun h => h)
  have BF := k1.blk BF (fun h => h)
  have BG := k1.blk BG (fun h => h)
  have BH := k1.blk BH (fun h => h)
  clear hc hz k1
  try dsimp only
  have k2 : Keeps Nothing w1 (w1.alloc (.cells #[.bool false, .string ⟨#[102]⟩, .slice none 0 0, .slice (some ⟨gp, 0, none⟩) 1 1, .int .i64 0, .string ⟨#[]⟩, .slice none 0 0, .slice none 0 0, .slice (some ⟨gs, 0, none⟩) 1 1, .int .i64 0] 36)) := (Keeps.refl Nothing w1).alloc _
  have BX := blk_new w1 #[.bool false, .string ⟨#[102]⟩, .slice none 0 0, .slice (some ⟨gp, 0, none⟩) 1 1, .int .i64 0, .string ⟨#[]⟩, .slice none 0 0, .slice none 0 0, .slice (some ⟨gs, 0, none⟩) 1 1, .int .i64 0] 36
  have hc := may_any (S := fun _ => True) ⟨[], [funD letD]⟩ _ (HM.out.keeps (K.trans k2 (fun _ h _ => h))) [.slice none 0 0, .slice (some ⟨w1.heap.size, 0, none⟩) 1 1] ⟨none, 0, some ⟨w1.heap.size, 0, none⟩, 1, rfl, slIs_nil _ _ _ _ _, one_row (cs := [.bool false, .string ⟨#[102]⟩, .slice none 0 0, .slice (some ⟨gp, 0, none⟩) 1 1, .int .i64 0, .string ⟨#[]⟩, .slice none 0 0, .slice none 0 0, .slice (some ⟨gs, 0, none⟩) 1 1, .int .i64 0]) BX trivial rfl (fun_is (k2.blk BP (fun h => h)) (cs := [.int .i64 1, .int .i64 0, .bool true, .string ⟨#[120]⟩, .int .i64 1, .string ⟨#[]⟩, .slice none 0 0, .slice none 0 0, .bool false, .string ⟨#[]⟩, .slice none 0 0, .int .i64 0, .int .i64 0, .int .i64 0, .string ⟨#[]⟩, .slice none 0 0, .int .i64 0, .int .i64 0, .string ⟨#[]⟩, .slice none 0 0, .int .i64 0, .string ⟨#[]⟩, .slice none 0 0, .string ⟨#[]⟩, .slice none 0 0, .slice none 0 0, .int .i64 0, .int .i64 0, .string ⟨#[]⟩, .slice none 0 0, .slice none 0 0, .slice none 0 0]) (k2.blk BS (fun h => h)) (let_is _ _) trivial trivial)⟩
  obtain ⟨y1, y2⟩ := tblk_mid BF (n := 10) rfl
  clear BX
  go_wp2_with fail
  refine hc.mono ?_
  rintro e w2 ⟨⟨z, rfl, hz⟩, k3⟩
  obtain rfl : z = true := hz.2 crf_p
  have k1 := k2.trans k3 (fun _ h _ => h)
  have K := K.trans k1 (fun _ h _ => h)
  have BP := k1.blk BP (fun h => h)
  have BS := k1.blk BS (fun h => h)
  have BF := k1.blk BF (fun h => h)
  have BG := k1.blk BG (fun h => h)
  have BH := k1.blk BH (fun h => h)
  clear hc hz k1 k2 k3 y1 y2
  try dsimp only
  have k2 : Keeps Nothing w2 (w2.alloc (.cells #[.bool false, .string ⟨#[102]⟩, .slice none 0 0, .slice (some ⟨gp, 0, none⟩) 1 1, .int .i64 0, .string ⟨#[]⟩, .slice none 0 0, .slice none 0 0, .slice (some ⟨gb, 0, none⟩) 1 1, .int .i64 0] 36)) := (Keeps.refl Nothing w2).alloc _
  have BX := blk_new w2 #[.bool false, .string ⟨#[102]⟩, .slice none 0 0, .slice (some ⟨gp, 0, none⟩) 1 1, .int .i64 0, .string ⟨#[]⟩, .slice none 0 0, .slice none 0 0, .slice (some ⟨gb, 0, none⟩) 1 1, .int .i64 0] 36
  have hc := may_any (S := fun _ => True) ⟨[], [funD badD]⟩ _ (HM.out.keeps (K.trans k2 (fun _ h _ => h))) [.slice none 0 0, .slice (some ⟨w2.heap.size, 0, none⟩) 1 1] ⟨none, 0, some ⟨w2.heap.size, 0, none⟩, 1, rfl, slIs_nil _ _ _ _ _, one_row (cs := [.bool false, .string ⟨#[102]⟩, .slice none 0 0, .slice (some ⟨gp, 0, none⟩) 1 1, .int .i64 0, .string ⟨#[]⟩, .slice none 0 0, .slice none 0 0, .slice (some ⟨gb, 0, none⟩) 1 1, .int .i64 0]) BX trivial rfl (fun_is (k2.blk BP (fun h => h)) (cs := [.int .i64 1, .int .i64 0, .bool true, .string ⟨#[120]⟩, .int .i64 0, .string ⟨#[]⟩, .slice none 0 0, .slice none 0 0, .bool false, .string ⟨#[]⟩, .slice none 0 0, .int .i64 0, .int .i64 0, .int .i64 0, .string ⟨#[]⟩, .slice none 0 0, .int .i64 0, .int .i64 0, .string ⟨#[]⟩, .slice none 0 0, .int .i64 0, .string ⟨#[]⟩, .slice none 0 0, .string ⟨#[]⟩, .slice none 0 0, .slice none 0 0, .int .i64 0, .int .i64 0, .string ⟨#[]⟩, .slice none 0 0, .slice none 0 0, .slice none 0 0]) (k2.blk BH (fun h => h)) (bad_is _ _) trivial trivial)⟩
  obtain ⟨y1, y2⟩ := tblk_mid BG (n := 10) rfl
  clear BX
  go_wp2_with fail
  refine hc.mono ?_
  rintro e w3 ⟨⟨z, rfl, hz⟩, k3⟩
  obtain rfl : z = false := by cases z with | false => rfl | true => exact absurd (hz.1 rfl) crg_p
  have k1 := k2.trans k3 (fun _ h _ => h)
  have K := K.trans k1 (fun _ h _ => h)
  have BP := k1.blk BP (fun h => h)
  have BS := k1.blk BS (fun h => h)
  have BF := k1.blk BF (fun h => h)
  have BG := k1.blk BG (fun h => h)
  have BH := k1.blk BH (fun h => h)
  clear hc hz k1 k2 k3 y1 y2 BG BH
  try dsimp only
  have k2 : Keeps Nothing w3 (w3.alloc (.cells #[] 48)) := (Keeps.refl Nothing w3).alloc _
  have hc := same_any (S := fun _ => True) (S' := fun _ => True) ⟨[], []⟩ ⟨[], []⟩ (w3.alloc (.cells #[] 48)) [.slice none 0 0, .slice none 0 0] [.slice (some ⟨w3.heap.size, 0, none⟩) 0 0, .slice none 0 0] ⟨none, 0, none, 0, rfl, slIs_nil _ _ _ _ _, slIs_nil _ _ _ _ _⟩ ⟨some ⟨w3.heap.size, 0, none⟩, 0, none, 0, rfl, slIs_nil _ _ _ _ _, slIs_nil _ _ _ _ _⟩
  go_wp2_with fail
  refine hc.mono ?_
  rintro e w4 ⟨⟨z, rfl, hz⟩, k3⟩
  obtain rfl : z = true := hz.2 (by first | rfl | trivial)
  have k1 := k2.trans k3 (fun _ h _ => h)
  have K := K.trans k1 (fun _ h _ => h)
  have BP := k1.blk BP (fun h => h)
  have BS := k1.blk BS (fun h => h)
  have BF := k1.blk BF (fun h => h)
  clear hc hz k1 k2 k3
  try dsimp only
  have ef := blk_cell BF 8 (v := .slice (some ⟨gs, 0, none⟩) 1 1) rfl
  have hc := count_any (S := fun _ => True) [letD] w4 (some ⟨gs, 0, none⟩) 1 (one_row (cs := [.int .i64 1, .int .i64 0, .bool true, .string ⟨#[120]⟩, .int .i64 1, .string ⟨#[]⟩, .slice none 0 0, .slice none 0 0, .bool false, .string ⟨#[]⟩, .slice none 0 0, .int .i64 0, .int .i64 0, .int .i64 0, .string ⟨#[]⟩, .slice none 0 0, .int .i64 0, .int .i64 0, .string ⟨#[]⟩, .slice none 0 0, .int .i64 0, .string ⟨#[]⟩, .slice none 0 0, .string ⟨#[]⟩, .slice none 0 0, .slice none 0 0, .int .i64 0, .int .i64 0, .string ⟨#[]⟩, .slice none 0 0, .slice none 0 0, .slice none 0 0]) BS trivial rfl (let_is _ _))
  go_wp2_with fail
  refine hc.mono ?_
  rintro e w5 ⟨⟨z, rfl, hz⟩, k1⟩
  obtain rfl : z = 1 := by rw [hz.out, cnt_let, IntKind.wrap_i64]; decide
  have K := K.trans k1 (fun _ h _ => h)
  have BP := k1.blk BP (fun h => h)
  have BS := k1.blk BS (fun h => h)
  have BF := k1.blk BF (fun h => h)
  clear hc hz k1 ef
  try dsimp only
  have hc := names_any (funD letD) w5 [.bool false, .string ⟨#[102]⟩, .slice none 0 0, .slice (some ⟨gp, 0, none⟩) 1 1, .int .i64 0, .string ⟨#[]⟩, .slice none 0 0, .slice none 0 0, .slice (some ⟨gs, 0, none⟩) 1 1, .int .i64 0] (fun_is BP (cs := [.int .i64 1, .int .i64 0, .bool true, .string ⟨#[120]⟩, .int .i64 1, .string ⟨#[]⟩, .slice none 0 0, .slice none 0 0, .bool false, .string ⟨#[]⟩, .slice none 0 0, .int .i64 0, .int .i64 0, .int .i64 0, .string ⟨#[]⟩, .slice none 0 0, .int .i64 0, .int .i64 0, .string ⟨#[]⟩, .slice none 0 0, .int .i64 0, .string ⟨#[]⟩, .slice none 0 0, .string ⟨#[]⟩, .slice none 0 0, .slice none 0 0, .int .i64 0, .int .i64 0, .string ⟨#[]⟩, .slice none 0 0, .slice none 0 0, .slice none 0 0]) BS (let_is _ _) (lt_of_block BP) (lt_of_block BS)) (by show 1 + cntL [letD] ≤ _; rw [cnt_let]; decide)
  rw [nm_f] at hc
  obtain ⟨y1, y2⟩ := tblk_mid BF (n := 10) rfl
  go_wp2_with fail
  refine hc.mono ?_
  rintro e w6 ⟨aR, cR, rfl, RR, k1, -⟩
  have K := K.trans k1 (fun _ h _ => h)
  clear hc k1 y1 y2 BP BS BF
  try dsimp only
  have k2 : Keeps Nothing w6 (w6.alloc (.cells #[.string ⟨#[112]⟩, .string ⟨#[120]⟩] 9)) := (Keeps.refl Nothing w6).alloc _
  have BX := blk_new w6 #[.string ⟨#[112]⟩, .string ⟨#[120]⟩] 9
  have hs : SlIs (fun _ => True) (w6.alloc (.cells #[.string ⟨#[112]⟩, .string ⟨#[120]⟩] 9)) 1 TxIs (some ⟨w6.heap.size, 0, none⟩) [[112], [120]] := ⟨by decide, .inr ⟨_, 0, rfl, trivial, ⟨[txV [112]], rfl, (fun j v hj => by cases j with | zero => (obtain rfl := Option.some.inj hj; exact blk_cell BX 0 rfl) | succ j => cases hj), rfl, by decide⟩, ⟨[txV [120]], rfl, (fun j v hj => by cases j with | zero => (obtain rfl := Option.some.inj hj; exact blk_cell BX 1 rfl) | succ j => cases hj), rfl, by decide⟩, trivial⟩⟩
  have hc := rtexts_any (w6.alloc (.cells #[.string ⟨#[112]⟩, .string ⟨#[120]⟩] 9)) cR 2 (rowR_sl (RR.keepsN k2) (by decide) (by decide)) hs
  clear BX hs
  go_wp2_with fail
  refine hc.mono ?_
  rintro e w7 ⟨⟨z, rfl, hz⟩, k3⟩
  obtain rfl : z = true := hz.2 (by first | rfl | trivial)
  have K := (K.trans k2 (fun _ h _ => h)).trans k3 (fun _ h _ => h)
  clear hc hz k2 k3
  try dsimp only
  go_wp2_with fail
  go_ret
  exact ⟨rfl, K⟩

end Go.Proofs.Ytjbcagbnagefcaa
