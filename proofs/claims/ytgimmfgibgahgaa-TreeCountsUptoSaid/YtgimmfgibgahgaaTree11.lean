/- Package tree: which rows of operands may be. -/
import Derived.Test.YtgimmfgibgahgaaTree10
namespace Go.Proofs.Ytgimmfgibgahgaa
open Go.RowKit

attribute [local go_sem ↓] exec_mid_ty exec_store_ty exec_mid_pl exec_store_pl exec_mid_opr exec_store_opr exec_mid_val exec_store_val exec_mid_st exec_store_st exec_mid_fld exec_store_fld exec_mid_str exec_store_str exec_mid_lif exec_store_lif exec_mid_fun exec_store_fun exec_mid_cr exec_store_cr
attribute [local go_sem] rowOk_new World.setRow_alloc_new

theorem ent_oprs1 : Entered 108 := entered_of Try.func108 (by kernel_rfl) (by kernel_rfl)

set_option maxRecDepth 100000 in
set_option maxHeartbeats 4000000 in
theorem noper_any {S : Nat → Prop} (a : OprD) (w : World) (cs : List Value) (ha : OprIs S w a cs) : Calls Try.prog 108 #[.agg cs.toArray] w (Tells w (¬ OprP a)) := by
  have ag1 := agg_ok ha.len ha.one
  have hl : cs.toArray.size = 4 := by simpa using ha.len
  have KW : Keeps Nothing w (w.alloc (.cells cs.toArray 44)) := (Keeps.refl Nothing w).alloc _
  have BA := blk_new w cs.toArray 44
  have hb := ha.keeps KW (fun _ _ h => h) (fun _ h => h)
  have hc := oper_any a _ cs hb
  clear ha hb
  generalize cs.toArray = C at *
  go_enter Try.func108, Try.ntmps108
  go_upto_region 1 with fail
  generalize w.heap.size = ga at *
  generalize w.alloc (.cells C 44) = wb at *
  obtain ⟨y1, y2⟩ := tblk_mid BA hl
  go_wp2_with fail
  refine hc.mono ?_
  rintro e w1 ⟨⟨z, rfl, hz⟩, k1⟩
  have KW := KW.trans k1 (fun _ h _ => h)
  have HZ : Shut ((!z) = true ↔ ¬ OprP a) := shut (by rw [← hz]; cases z <;> simp)
  clear hc hz y1 y2
  go_wp2_with fail
  go_ret
  exact tells_z HZ.out KW

set_option maxRecDepth 100000 in
set_option maxHeartbeats 4000000 in
theorem index_opr (f : FuncId) (hcf : Entered f) {S : Nat → Prop} {l : List OprD} {p : OprD → Prop} (hf : ∀ a ∈ l, ∀ (W : World) (cs : List Value), OprIs S W a cs → Calls Try.prog f #[.agg cs.toArray] W (Tells W (p a)))
    (w : World) {ao : Option Addr} (c : Nat) (h : SlIs S w 4 (OprIs S w) ao l) :
    Calls Try.prog 113 #[.slice ao l.length c, .func (.func f) #[] #[]] w fun e w' => (∃ i : Int, e = .returned (.int .i64 i) ∧ (0 ≤ i ↔ ∃ a ∈ l, p a)) ∧ Keeps Nothing w w' := by
  have hlx := h.1
  unfold bigN at hlx
  have HX := shut h
  have HF := shut hf
  clear h hf
  obtain ⟨n, hn⟩ : ∃ n, l.length = n := ⟨_, rfl⟩
  rw [hn] at hlx ⊢
  have HN := shut hn
  clear hn
  go_enter Try.func113, Try.ntmps113
  go_wp2_with fail
  go_loopw [5, 8] (fun s5 s8 wx => ∃ t : Nat, s8 = .int .i64 t ∧ t ≤ n ∧ Keeps Nothing w wx ∧ Shut (∀ a ∈ l.take t, ¬ p a)) (fun _ s8 _ => n - (intOf s8).toNat)
  case atStart => exact ⟨0, rfl, Nat.zero_le _, Keeps.refl _ _, shut (by simp)⟩
  case round =>
    obtain ⟨t, rfl, ht, K, HT⟩ := hrel
    by_cases hlt : t < n
    · obtain ⟨a, ha⟩ : ∃ a, l[t]? = some a := ⟨_, List.getElem?_eq_getElem (by rw [HN.out]; exact hlt)⟩
      have HA := shut ha
      obtain ⟨g1, o1, rfl, -, cs, l1, r1, i1⟩ := (HX.out.keeps K (fun _ _ h => h) (fun _ h => h) (fun _ _ _ h => h.keeps K (fun _ _ h => h) (fun _ h => h))).get ha
      have ag1 := agg_ok l1 i1.one
      have hcm := List.mem_of_getElem? ha
      clear ha
      have m0 : (0 : Int) ≤ t := by omega
      have m1 : (t : Int) < n := by omega
      have hk := midOk_range r1
      have ho := midOf_range r1
      rw [l1] at hk ho
      obtain ⟨C, hC⟩ : ∃ C, C = cs.toArray := ⟨_, rfl⟩
      rw [← hC] at ag1 ho
      have hcall := HF.out a hcm wr cs i1
      rw [← hC] at hcall
      clear hC r1 i1
      have hcf2 := hcf #[.agg C] wr
      go_wp2_with fail
      clear hcf2
      refine hcall.mono ?_
      rintro e w3 ⟨⟨z, rfl, hzz⟩, k3⟩
      have KD := K.trans k3 (fun _ h _ => h)
      clear hcall K k3 hk ho ag1
      have HZ := shut hzz
      clear hzz
      cases z with
      | true =>
        have HY : Shut (∃ a ∈ l, p a) := shut ⟨a, hcm, HZ.out.1 rfl⟩
        clear HZ
        go_wp2_with fail
        go_ret
        exact ⟨⟨(t : Int), rfl, ⟨fun _ => HY.out, fun _ => m0⟩⟩, KD⟩
      | false =>
        have HT2 := shut (all_take (P := fun a => ¬ p a) HA.out HT.out (fun h => by have h2 := HZ.out.2 h; cases h2))
        clear HZ
        go_wp2_with fail
        go_roundw
        case rel => exact ⟨t + 1, by go_num, by omega, KD, HT2⟩
        case measure => simp [intOf]; omega
    · obtain rfl : t = n := by omega
      have m1 : ¬ (t : Int) < t := by omega
      have HALL := shut (all_of_take (P := fun a => ¬ p a) HN.out HT.out)
      go_wp2_with fail
      go_ret
      exact ⟨⟨-1, rfl, ⟨fun h => absurd h (by omega), fun ⟨a, h1, h2⟩ => absurd h2 (HALL.out a h1)⟩⟩, K⟩

set_option maxRecDepth 100000 in
set_option maxHeartbeats 4000000 in
theorem contains_opr (f : FuncId) (hcf : Entered f) {S : Nat → Prop} {l : List OprD} {p : OprD → Prop} (hf : ∀ a ∈ l, ∀ (W : World) (cs : List Value), OprIs S W a cs → Calls Try.prog f #[.agg cs.toArray] W (Tells W (p a)))
    (w : World) {ao : Option Addr} (c : Nat) (h : SlIs S w 4 (OprIs S w) ao l) :
    Calls Try.prog 107 #[.slice ao l.length c, .func (.func f) #[] #[]] w (Tells w (∃ a ∈ l, p a)) := by
  have hc := index_opr f hcf hf w c h
  clear h hf
  go_enter Try.func107, Try.ntmps107
  go_wp2_with fail
  refine hc.mono ?_
  rintro e w1 ⟨⟨i, rfl, hi⟩, k1⟩
  have HI : Shut (0 ≤ i ↔ ∃ a ∈ l, p a) := shut hi
  clear hc hi
  go_wp2_with fail
  go_ret
  exact tells_z (by rw [← HI.out, decide_eq_true_iff]) k1

/-- Rows of operands that may be. -/
def OprsP (l : List OprD) : Prop := (∀ o ∈ l, OprP o) ∧ l.length ≤ 64

set_option maxRecDepth 100000 in
set_option maxHeartbeats 4000000 in
theorem opers_any (w : World) {S : Nat → Prop} {ao : Option Addr} {l : List OprD} (c : Nat) (h : SlIs S w 4 (OprIs S w) ao l) : Calls Try.prog 104 #[.slice ao l.length c] w (Tells w (OprsP l)) := by
  have hl := h.1
  unfold bigN at hl
  have hc := contains_opr 108 ent_oprs1 (fun a _ W cs hw => noper_any a W cs hw) w c h
  have HP : Shut (OprsP l ↔ (¬ ∃ a ∈ l, ¬ OprP a) ∧ l.length ≤ 64) := shut (by
    unfold OprsP
    exact ⟨fun h => ⟨fun ⟨a, h1, h2⟩ => h2 (h.1 a h1), h.2⟩, fun h => ⟨fun a h1 => Classical.byContradiction (fun h2 => h.1 ⟨a, h1, h2⟩), h.2⟩⟩)
  obtain ⟨X, hX⟩ : ∃ X, X = OprsP l := ⟨_, rfl⟩
  rw [← hX] at HP ⊢
  clear hX h
  obtain ⟨n, hn⟩ : ∃ n, l.length = n := ⟨_, rfl⟩
  rw [hn] at hl hc HP ⊢
  clear hn
  go_enter Try.func104, Try.ntmps104
  by_cases h64 : n ≤ 64
  · have m1 : (n : Int) ≤ 64 := by omega
    go_wp2_with fail
    refine hc.mono ?_
    rintro e w1 ⟨⟨z, rfl, hz⟩, k1⟩
    have HZ : Shut ((!z) = true ↔ X) := shut (by rw [HP.out, ← hz]; cases z <;> simp [h64])
    clear hc hz HP
    go_wp2_with fail
    go_ret
    exact tells_z HZ.out k1
  · have m1 : ¬ (n : Int) ≤ 64 := by omega
    have hno : Shut (¬ X) := shut (fun h => h64 (HP.out.1 h).2)
    clear hc HP
    go_wp2_with fail
    go_ret
    exact tells_f hno.out (Keeps.refl _ _)

end Go.Proofs.Ytgimmfgibgahgaa
