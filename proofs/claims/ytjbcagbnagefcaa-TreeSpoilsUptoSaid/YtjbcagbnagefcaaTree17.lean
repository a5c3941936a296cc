/- Package tree: which statements may be. -/
import Derived.Test.YtjbcagbnagefcaaTrT
import Derived.Test.YtjbcagbnagefcaaTree4
namespace Go.Proofs.Ytjbcagbnagefcaa
open Go.RowKit

attribute [local go_sem ↓] exec_mid_ty exec_store_ty exec_mid_pl exec_store_pl exec_mid_opr exec_store_opr exec_mid_val exec_store_val exec_mid_st exec_store_st exec_mid_fld exec_store_fld exec_mid_str exec_store_str exec_mid_lif exec_store_lif exec_mid_fun exec_store_fun exec_mid_cr exec_store_cr
attribute [local go_sem] rowOk_new World.setRow_alloc_new

attribute [local go_sem ↓] exec_into_pl exec_into_opr exec_into_ty exec_into_val build_valS build_st

def zeroSt : StD := .mk 0 0 false [] zeroTy false zeroPl zeroVal zeroOpr [] []
def stC : List Value := [.int .i64 0, .int .i64 0, .bool false, .string ⟨#[]⟩] ++ tyC ++ [.bool false] ++ plC ++ valC ++ oprC ++ [.slice none 0 0, .slice none 0 0]
theorem zeroSt_is (S : Nat → Prop) (w : World) : StIs S w zeroSt stC := by
  rw [stIs_iff]
  exact ⟨tyC, plC, valC, oprC, none, 0, none, 0, rfl, Nat.zero_le _, zeroTy_is S w, zeroPl_is S w, zeroVal_is S w, zeroOpr_is S w, slIs_nil _ _ _ _ _, slIs_nil _ _ _ _ _⟩
mutual
/-- A statement that may be, so deep. -/
def StP : StD → Int → Prop
  | .mk x_kind x_pos x_mu x_name x_ty x_has x_place x_val x_cond x_thn x_els, d => (x_kind = 1 ∧ isName x_name = true ∧ TyP x_ty 1 ∧ VldP (.mk x_kind x_pos x_mu x_name x_ty x_has x_place x_val x_cond x_thn x_els) ∧ optD (.mk x_kind x_pos x_mu x_name x_ty x_has x_place x_val x_cond x_thn x_els) (.mk 0 0 false [] zeroTy x_has x_place x_val x_cond x_thn x_els) = zeroSt) ∨ (x_kind = 2 ∧ PlP x_place ∧ ValP x_val ∧ optD (.mk x_kind x_pos x_mu x_name x_ty x_has x_place x_val x_cond x_thn x_els) (.mk 0 0 x_mu x_name x_ty x_has zeroPl zeroVal x_cond x_thn x_els) = zeroSt) ∨ (x_kind = 3 ∧ x_val.kind = 6 ∧ ValP x_val ∧ optD (.mk x_kind x_pos x_mu x_name x_ty x_has x_place x_val x_cond x_thn x_els) (.mk 0 0 x_mu x_name x_ty x_has x_place zeroVal x_cond x_thn x_els) = zeroSt) ∨ (x_kind = 4 ∧ (x_has = true → (d + 1 ≤ 64 ∧ BlsP x_els (d + 1))) ∧ OprP x_cond ∧ (d + 1 ≤ 64 ∧ BlsP x_thn (d + 1)) ∧ optD (.mk x_kind x_pos x_mu x_name x_ty x_has x_place x_val x_cond x_thn x_els) (.mk 0 0 x_mu x_name x_ty x_has x_place x_val zeroOpr [] x_els) = zeroSt) ∨ (x_kind = 5 ∧ OprP x_cond ∧ (d + 1 ≤ 64 ∧ BlsP x_thn (d + 1)) ∧ optD (.mk x_kind x_pos x_mu x_name x_ty x_has x_place x_val x_cond x_thn x_els) (.mk 0 0 x_mu x_name x_ty x_has x_place x_val zeroOpr [] x_els) = zeroSt) ∨ ((x_kind = 6 ∨ x_kind = 7) ∧ (d + 1 ≤ 64 ∧ BlsP x_thn (d + 1)) ∧ optD (.mk x_kind x_pos x_mu x_name x_ty x_has x_place x_val x_cond x_thn x_els) (.mk 0 0 x_mu x_name x_ty x_has x_place x_val x_cond [] x_els) = zeroSt) ∨ ((x_kind = 8 ∨ x_kind = 9) ∧ optD (.mk x_kind x_pos x_mu x_name x_ty x_has x_place x_val x_cond x_thn x_els) (.mk 0 0 x_mu x_name x_ty x_has x_place x_val x_cond x_thn x_els) = zeroSt) ∨ (x_kind = 10 ∧ VldP (.mk x_kind x_pos x_mu x_name x_ty x_has x_place x_val x_cond x_thn x_els) ∧ optD (.mk x_kind x_pos x_mu x_name x_ty x_has x_place x_val x_cond x_thn x_els) (.mk 0 0 x_mu x_name x_ty x_has x_place x_val x_cond x_thn x_els) = zeroSt) ∨ (x_kind = 11 ∧ PlP x_place ∧ optD (.mk x_kind x_pos x_mu x_name x_ty x_has x_place x_val x_cond x_thn x_els) (.mk 0 0 x_mu x_name x_ty x_has zeroPl x_val x_cond x_thn x_els) = zeroSt)
def BlsP : List StD → Int → Prop
  | [], _ => True
  | s :: r, d => StP s d ∧ BlsP r d
end
/-- A block that may be, so deep. -/
def BlP (l : List StD) (d : Int) : Prop := d ≤ 64 ∧ BlsP l d
theorem blsP_iff : ∀ (l : List StD) (d : Int), BlsP l d ↔ ∀ e ∈ l, StP e d
  | [], d => by unfold BlsP; simp
  | s :: r, d => by unfold BlsP; rw [blsP_iff r d]; simp
theorem blP_iff (l : List StD) (d : Int) : BlP l d ↔ d ≤ 64 ∧ ∀ e ∈ l, StP e d := by unfold BlP; rw [blsP_iff]
/-- What stmt tells of one statement, however deep. -/
def StmtC (S : Nat → Prop) (a : StD) : Prop := ∀ (w : World) (cs : List Value) (d : Int), MaxV w → 0 ≤ d → d ≤ 64 → StIs S w a cs → Calls Try.prog 76 #[.agg cs.toArray, .int .i64 d] w (Tells w (StP a d))

set_option maxRecDepth 100000 in
set_option maxHeartbeats 4000000 in
theorem block_of {S : Nat → Prop} (l : List StD) (H : ∀ e ∈ l, StmtC S e) (w : World) (hM : MaxV w) (d : Int) (hd0 : 0 ≤ d) (hd1 : d ≤ 1000) {ao : Option Addr} (c : Nat) (h : SlIs S w 32 (StIs S w) ao l) : Calls Try.prog 50 #[.slice ao l.length c, .int .i64 d] w (Tells w (BlP l d)) := by
  have hl := h.1
  unfold bigN at hl
  have HX := shut h
  have HM := shut hM
  have HH := shut H
  have HP := shut (blP_iff l d)
  clear h hM H
  obtain ⟨X, hX⟩ : ∃ X, X = BlP l d := ⟨_, rfl⟩
  rw [← hX] at HP ⊢
  clear hX
  obtain ⟨n, hn⟩ : ∃ n, l.length = n := ⟨_, rfl⟩
  rw [hn] at hl ⊢
  have HN := shut hn
  clear hn
  go_enter Try.func50, Try.ntmps50
  by_cases hdeep : d ≤ 64
  rotate_left
  · have m1 : 64 < d := by omega
    have hno : Shut (¬ X) := shut (fun h => hdeep (HP.out.1 h).1)
    clear HP
    go_wp2_with fail
    go_ret
    exact tells_f hno.out (Keeps.refl _ _)
  have m1 : ¬ 64 < d := by omega
  go_wp2_with fail
  clear m1
  go_loopw [4, 6, 11] (fun s4 s6 s11 wx => ∃ t : Nat, s11 = .int .i64 t ∧ t ≤ n ∧ Keeps Nothing w wx ∧ Shut (∀ f ∈ l.take t, StP f d)) (fun _ _ s11 _ => n - (intOf s11).toNat)
  case atStart => exact ⟨0, rfl, Nat.zero_le _, Keeps.refl _ _, shut (by simp)⟩
  case round =>
    obtain ⟨t, rfl, ht, KL, HT⟩ := hrel
    by_cases hlt : t < n
    · obtain ⟨a, ha⟩ : ∃ a, l[t]? = some a := ⟨_, List.getElem?_eq_getElem (by rw [HN.out]; exact hlt)⟩
      obtain ⟨g1, o1, rfl, -, cs, l1, r1, hi⟩ := (HX.out.keeps KL (fun _ _ h => h) (fun _ h => h) (fun _ _ _ h => h.keeps KL (fun _ _ h => h) (fun _ h => h))).get ha
      have HA := shut ha
      clear ha
      have m0 : (0 : Int) ≤ t := by omega
      have m1 : (t : Int) < n := by omega
      have ag1 := agg_ok l1 hi.one
      obtain ⟨CA, hCA⟩ : ∃ C, C = cs.toArray := ⟨_, rfl⟩
      obtain ⟨hk, ho⟩ := sub_of r1 l1
      have hsz : CA.size = 32 := by rw [hCA]; simpa using l1
      rw [← hCA] at ag1 ho
      have HCA := shut hCA
      clear hCA r1 l1
      go_upto_region 6 with fail
      have ka : Keeps Nothing wr (wr.alloc (.cells CA 46)) := (Keeps.refl Nothing wr).alloc _
      have BA := blk_new wr CA 46
      have KW := KL.trans ka (fun _ h _ => h)
      have hi := hi.keeps ka (fun _ _ h => h) (fun _ h => h)
      clear hk ho ag1 ka
      generalize wr.heap.size = ga at *
      generalize wr.alloc (.cells CA 46) = wb at *
      have hc := HH.out a (List.mem_of_getElem? HA.out) wb cs d (HM.out.keeps KW) hd0 hdeep hi
      rw [← HCA.out] at hc
      obtain ⟨y1, y2⟩ := tblk_mid BA hsz
      clear hi
      go_wp2_with fail
      refine hc.mono ?_
      rintro e w1 ⟨⟨z, rfl, hz⟩, k1⟩
      have KW := KW.trans k1 (fun _ h _ => h)
      clear hc y1 y2 BA k1
      cases z with
      | true =>
        have HT2 := shut (all_take HA.out HT.out (hz.1 rfl))
        clear hz
        go_wp2_with fail
        go_roundw
        case rel => exact ⟨t + 1, by go_num, by omega, KW, HT2⟩
        case measure => simp [intOf]; omega
      | false =>
        have hno : Shut (¬ X) := shut (fun h => by have h2 := hz.2 ((HP.out.1 h).2 a (List.mem_of_getElem? HA.out)); cases h2)
        clear hz HP
        go_wp2_with fail
        go_ret
        exact tells_f hno.out KW
    · obtain rfl : t = n := by omega
      have m1 : ¬ (t : Int) < t := by omega
      have hyes : Shut X := shut (HP.out.2 ⟨hdeep, all_of_take HN.out HT.out⟩)
      clear HP
      go_wp2_with fail
      go_ret
      exact tells_t hyes.out KL
theorem val_kind_cell {w w0 : World} {S : Nat → Prop} {g : Nat} {v : ValD} {s : List Value} (h1 : midOk w g 11 15 = true) (h2 : midOf w g 11 15 = s.toArray) (hv : ValIs S w0 v s) : w.cell? ⟨g, 11, none⟩ = some (.int .i64 v.kind) := by
  obtain ⟨s1, s5, s10, p13, q13, p14, q14, rfl, -⟩ := hv
  have h := range_midOk h1
  rw [h2] at h
  exact h 0 _ rfl


end Go.Proofs.Ytjbcagbnagefcaa
