/- Package tree: which statements' values may be. -/
import Derived.Test.YtgimmfgibgahgaaTree14
namespace Go.Proofs.Ytgimmfgibgahgaa
open Go.RowKit

attribute [local go_sem ↓] exec_mid_ty exec_store_ty exec_mid_pl exec_store_pl exec_mid_opr exec_store_opr exec_mid_val exec_store_val exec_mid_st exec_store_st exec_mid_fld exec_store_fld exec_mid_str exec_store_str exec_mid_lif exec_store_lif exec_mid_fun exec_store_fun exec_mid_cr exec_store_cr
attribute [local go_sem] rowOk_new World.setRow_alloc_new

/-- A value that is there may be. -/
def VldP (s : StD) : Prop := s.has = true → ValP s.val

set_option maxRecDepth 100000 in
set_option maxHeartbeats 4000000 in
theorem valued_any {S : Nat → Prop} (a : StD) (w : World) (hM : MaxV w) (cs : List Value) (ha : StIs S w a cs) : Calls Try.prog 95 #[.agg cs.toArray] w (Tells w (VldP a)) := by
  obtain ⟨a_kind, a_pos, a_mu, a_name, a_ty, a_has, a_place, a_val, a_cond, a_thn, a_els⟩ := a
  have HP : Shut (VldP (.mk a_kind a_pos a_mu a_name a_ty a_has a_place a_val a_cond a_thn a_els) ↔ (a_has = true → ValP a_val)) := shut Iff.rfl
  obtain ⟨X, hX⟩ : ∃ X, X = VldP (.mk a_kind a_pos a_mu a_name a_ty a_has a_place a_val a_cond a_thn a_els) := ⟨_, rfl⟩
  rw [← hX] at HP ⊢
  clear hX
  have HM := shut hM
  clear hM
  have ag1 := agg_ok ha.len ha.one
  rw [stIs_iff] at ha
  obtain ⟨s4, s9, s11, s26, p30, q30, p31, q31, hcs, ah_name, ah_ty, ah_place, ah_val, ah_cond, ah_thn, ah_els⟩ := ha
  have HCA := shut hcs
  clear hcs
  simp only [StD.kind, StD.pos, StD.mu, StD.name, StD.ty, StD.has, StD.place, StD.val, StD.cond, StD.thn, StD.els] at ah_name ah_ty ah_place ah_val ah_cond ah_thn ah_els HCA
  obtain ⟨CA, hCA⟩ : ∃ C, C = cs.toArray := ⟨_, rfl⟩
  rw [← hCA] at ag1 ⊢
  rw [HCA.out] at hCA
  have GCA := shut hCA
  clear hCA HCA
  have al_ty := ah_ty.len
  have al_place := ah_place.len
  have al_val := ah_val.len
  have al_cond := ah_cond.len
  have KW : Keeps Nothing w (w.alloc (.cells CA 49)) := (Keeps.refl Nothing w).alloc _
  have BA := blk_new w CA 49
  go_enter Try.func95, Try.ntmps95
  go_upto_region 1 with fail
  clear ag1
  generalize w.heap.size = ga at *
  generalize w.alloc (.cells CA 49) = wb at *
  obtain ⟨-, -, -, -, -, ae8, -, ⟨ae11, af11⟩, -, -, -⟩ := StB al_ty al_place al_val al_cond GCA.out BA
  cases a_has with
  | false =>
    have hy : Shut X := shut (HP.out.2 (fun h => by cases h))
    clear HP
    go_wp2_with fail
    go_ret
    exact tells_t hy.out KW
  | true =>
    have hc := value_any a_val wb (HM.out.keeps KW) s11 (ah_val.keeps KW (fun _ _ h => h) (fun _ h => h))
    go_wp2_with fail
    refine hc.mono ?_
    rintro e w1 ⟨⟨z, rfl, hz⟩, k1⟩
    have KW := KW.trans k1 (fun _ h _ => h)
    have BA := k1.blk BA (fun h => h)
    have HZ : Shut (z = true ↔ X) := shut (by rw [hz, HP.out]; exact ⟨fun h _ => h, fun h => h (by first | rfl | trivial)⟩)
    clear hc hz k1 ae8 ae11 af11 HP
    obtain ⟨-, -, -, -, -, ae8, -, -, -, -, -⟩ := StB al_ty al_place al_val al_cond GCA.out BA
    cases z with
    | false =>
      go_wp2_with fail
      go_ret
      exact tells_f (fun h => by have h2 := HZ.out.2 h; cases h2) KW
    | true =>
      have hy : Shut X := shut (HZ.out.1 rfl)
      clear HZ
      go_wp2_with fail
      go_ret
      exact tells_t hy.out KW

end Go.Proofs.Ytgimmfgibgahgaa
