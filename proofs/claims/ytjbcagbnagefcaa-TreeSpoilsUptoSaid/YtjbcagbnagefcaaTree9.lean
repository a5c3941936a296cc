/- Package tree: which places, types, fields may be. -/
import Derived.Test.YtjbcagbnagefcaaTree8
namespace Go.Proofs.Ytjbcagbnagefcaa
open Go.RowKit

attribute [local go_sem ↓] exec_mid_ty exec_store_ty exec_mid_pl exec_store_pl exec_mid_opr exec_store_opr exec_mid_val exec_store_val exec_mid_st exec_store_st exec_mid_fld exec_store_fld exec_mid_str exec_store_str exec_mid_lif exec_store_lif exec_mid_fun exec_store_fun exec_mid_cr exec_store_cr
attribute [local go_sem] rowOk_new World.setRow_alloc_new

/-- A place that may be. -/
def PlP (p : PlD) : Prop := (∀ s ∈ p.path, s = [42] ∨ isName s = true) ∧ isName p.name = true ∧ p.path.length ≤ 64

set_option maxRecDepth 100000 in
set_option maxHeartbeats 2000000 in
theorem place_any {S : Nat → Prop} (a : PlD) (w : World) (cs : List Value) (ha : PlIs S w a cs) : Calls Try.prog 94 #[.agg cs.toArray] w (Tells w (PlP a)) := by
  obtain ⟨a_name, a_path⟩ := a
  have HP : Shut (PlP ⟨a_name, a_path⟩ ↔ (∀ s ∈ a_path, s = [42] ∨ isName s = true) ∧ isName a_name = true ∧ a_path.length ≤ 64) := shut Iff.rfl
  obtain ⟨X, hX⟩ : ∃ X, X = (⟨a_name, a_path⟩ : PlD) := ⟨_, rfl⟩
  rw [← hX] at HP ⊢
  clear hX
  have ag1 := agg_ok ha.len ha.one
  obtain ⟨p1, q1, hcs, ah_name, ah_path⟩ := ha
  have HCA := shut hcs
  clear hcs
  simp only at ah_name ah_path HCA
  obtain ⟨CA, hCA⟩ : ∃ C, C = cs.toArray := ⟨_, rfl⟩
  rw [← hCA] at ag1 ⊢
  rw [HCA.out] at hCA
  have GCA := shut hCA
  clear hCA HCA
  have KW : Keeps Nothing w (w.alloc (.cells CA 39)) := (Keeps.refl Nothing w).alloc _
  have BA := blk_new w CA 39
  go_enter Try.func94, Try.ntmps94
  go_upto_region 1 with fail
  clear ag1
  generalize w.heap.size = ga at *
  generalize w.alloc (.cells CA 39) = wb at *
  obtain ⟨n, hn⟩ : ∃ n, a_path.length = n := ⟨_, rfl⟩
  have hnb : n ≤ bigN := by rw [← hn]; exact ah_path.1
  unfold bigN at hnb
  rw [hn] at GCA HP
  have HN := shut hn
  clear hn
  obtain ⟨-, ae1⟩ := PlB  GCA.out BA
  go_wp2_with fail
  clear ae1
  go_loopw [4, 8] (fun s4 s8 wx => ∃ t : Nat, s8 = .int .i64 t ∧ t ≤ n ∧ Keeps Nothing wb wx ∧ Shut (∀ s ∈ a_path.take t, s = [42] ∨ isName s = true)) (fun _ s8 _ => n - (intOf s8).toNat)
  case atStart => exact ⟨0, rfl, Nat.zero_le _, Keeps.refl _ _, shut (by simp)⟩
  case round =>
    obtain ⟨t, rfl, ht, KL, HT⟩ := hrel
    have BA := KL.blk BA (fun h => h)
    have KW := KW.trans KL (fun _ h _ => h)
    by_cases hlt : t < n
    · obtain ⟨a, ha⟩ : ∃ a, a_path[t]? = some a := ⟨_, List.getElem?_eq_getElem (by rw [HN.out]; exact hlt)⟩
      obtain ⟨g1, o1, rfl, e1, hal⟩ := tx_cell (ah_path.keeps KW (fun _ _ h => h) (fun _ h => h) (fun _ _ _ h => h)) ha
      have hc := fun W => lname_any W a (by unfold bigN at hal; omega)
      have HA := shut ha
      clear ha hal
      have m0 : (0 : Int) ≤ t := by omega
      have m1 : (t : Int) < n := by omega
      obtain ⟨z, hz⟩ : ∃ z, isName a = z := ⟨_, rfl⟩
      rw [hz] at hc
      have HZ := shut hz
      clear hz
      by_cases hst : a = [42]
      · subst hst
        have HT2 := shut (all_take HA.out HT.out (.inl rfl))
        have hq : (([42] : List UInt8) == [42]) = true := rfl
        clear HZ hc
        go_wp2_with fail
        go_roundw
        case rel => exact ⟨t + 1, by go_num, by omega, KL, HT2⟩
        case measure => simp [intOf]; omega
      · have hq : (a == [42]) = false := by rw [beq_eq_false_iff_ne]; exact hst
        have HS := shut hst
        clear hst
        go_wp2_with fail
        refine (hc _).mono ?_
        rintro e w1 ⟨rfl, rfl⟩
        clear hc e1
        cases z with
        | true =>
          have HT2 := shut (all_take HA.out HT.out (.inr HZ.out))
          clear HZ
          go_wp2_with fail
          go_roundw
          case rel => exact ⟨t + 1, by go_num, by omega, KL, HT2⟩
          case measure => simp [intOf]; omega
        | false =>
          have hno : Shut (¬ PlP X) := shut (fun h => by
            rcases (HP.out.1 h).1 a (List.mem_of_getElem? HA.out) with h2 | h2
            · exact HS.out h2
            · rw [HZ.out] at h2; cases h2)
          clear HZ HP
          go_wp2_with fail
          go_ret
          exact tells_f hno.out KW
    · obtain rfl : t = n := by omega
      have m1 : ¬ (t : Int) < t := by omega
      have HALL := shut (all_of_take HN.out HT.out)
      have hc := fun W => lname_any W a_name (by unfold bigN at ah_name; omega)
      obtain ⟨z, hz⟩ : ∃ z, isName a_name = z := ⟨_, rfl⟩
      rw [hz] at hc HP
      clear hz
      obtain ⟨ae0, ae1⟩ := PlB  GCA.out BA
      unfold txV at *
      go_wp2_with fail
      refine (hc _).mono ?_
      rintro e w1 ⟨rfl, rfl⟩
      clear hc
      cases z with
      | false =>
        have hno : Shut (¬ PlP X) := shut (fun h => by have h2 := (HP.out.1 h).2.1; cases h2)
        clear HP HALL
        go_wp2_with fail
        go_ret
        exact tells_f hno.out KW
      | true =>
        have hz : Shut (decide ((t : Int) ≤ 64) = true ↔ PlP X) := shut (by
          rw [decide_eq_true_iff, HP.out]
          exact ⟨fun h => ⟨HALL.out, by first | rfl | trivial, by omega⟩, fun h => by have := h.2.2; omega⟩)
        clear HP HALL
        go_wp2_with fail
        go_ret
        exact tells_z hz.out KW

set_option maxRecDepth 100000 in
set_option maxHeartbeats 2000000 in
theorem nothing_any {S : Nat → Prop} (a : TyD) (w : World) (cs : List Value) (ha : TyIs S w a cs) : Calls Try.prog 48 #[.agg cs.toArray] w (Tells w (a.name = [] ∧ a.lives = [] ∧ a.elem = [])) := by
  obtain ⟨a_kind, a_name, a_lives, a_elem⟩ := a
  have ag1 := agg_ok ha.len ha.one
  rw [tyIs_iff] at ha
  obtain ⟨p2, q2, p3, q3, hcs, ah_name, ah_lives, ah_elem⟩ := ha
  have HCA := shut hcs
  clear hcs
  simp only [TyD.kind, TyD.name, TyD.lives, TyD.elem] at ah_name ah_lives ah_elem HCA
  obtain ⟨CA, hCA⟩ : ∃ C, C = cs.toArray := ⟨_, rfl⟩
  rw [← hCA] at ag1 ⊢
  rw [HCA.out] at hCA
  have GCA := shut hCA
  clear hCA HCA
  have KW : Keeps Nothing w (w.alloc (.cells CA 33)) := (Keeps.refl Nothing w).alloc _
  have BA := blk_new w CA 33
  go_enter Try.func48, Try.ntmps48
  go_upto_region 1 with fail
  clear ag1
  generalize w.heap.size = ga at *
  generalize w.alloc (.cells CA 33) = wb at *
  simp only [TyD.name, TyD.lives, TyD.elem]
  obtain ⟨-, ae1, ae2, ae3⟩ := TyB  GCA.out BA
  unfold txV at *
  by_cases h1 : a_name = []
  rotate_left
  · have hq : (a_name == []) = false := by rw [beq_eq_false_iff_ne]; exact h1
    have HN := shut h1
    clear h1
    go_wp2_with fail
    go_ret
    refine tells_f ?_ KW
    rintro ⟨h, _, _⟩
    exact HN.out h
  subst h1
  have hq : (([] : List UInt8) == []) = true := rfl
  by_cases h2 : a_lives = []
  rotate_left
  · have hl : ¬ (a_lives.length : Int) = 0 := by have := List.length_pos_iff.2 h2; omega
    have hlb : ((a_lives.length : Int) == 0) = false := by rw [beq_eq_false_iff_ne]; exact hl
    have HN := shut h2
    clear h2
    go_wp2_with fail
    go_ret
    refine tells_f ?_ KW
    rintro ⟨_, h, _⟩
    exact HN.out h
  subst h2
  by_cases h3 : a_elem = []
  rotate_left
  · have hl : ¬ (a_elem.length : Int) = 0 := by have := List.length_pos_iff.2 h3; omega
    have hlb : ((a_elem.length : Int) == 0) = false := by rw [beq_eq_false_iff_ne]; exact hl
    have HN := shut h3
    clear h3
    go_wp2_with fail
    go_ret
    refine tells_f ?_ KW
    rintro ⟨_, _, h⟩
    exact HN.out h
  subst h3
  go_wp2_with fail
  go_ret
  exact tells_t ⟨rfl, rfl, rfl⟩ KW

mutual
/-- A type that may be, so deep. -/
def TyP : TyD → Int → Prop
  | .mk k n lv el, d => d ≤ 64 ∧ ((k = 3 ∧ DoubleP n ∧ LivesP lv ∧ el = []) ∨ ((k = 4 ∨ k = 5) ∧ n = [] ∧ lv.length ≤ 1 ∧ LivesP lv ∧ TysP el (d + 1)) ∨ ((k = 1 ∨ k = 2) ∧ n = [] ∧ lv = [] ∧ el = []))
def TysP : List TyD → Int → Prop
  | [], _ => False
  | t :: r, d => r = [] ∧ TyP t d
end

set_option maxRecDepth 100000 in
set_option maxHeartbeats 4000000 in
theorem kind_any {S : Nat → Prop} : ∀ (a : TyD) (w : World) (cs : List Value) (d : Int), MaxV w → 0 ≤ d → d ≤ 1000 → TyIs S w a cs → Calls Try.prog 49 #[.agg cs.toArray, .int .i64 d] w (Tells w (TyP a d)) := by
  refine TyD.ind ?_
  intro a_kind a_name a_lives a_elem ih w cs d hM hd0 hd1 ha
  have IH := shut ih
  clear ih
  have HI := shut ha
  have HP : Shut (TyP (.mk a_kind a_name a_lives a_elem) d ↔ d ≤ 64 ∧ ((a_kind = 3 ∧ DoubleP a_name ∧ LivesP a_lives ∧ a_elem = []) ∨ ((a_kind = 4 ∨ a_kind = 5) ∧ a_name = [] ∧ a_lives.length ≤ 1 ∧ LivesP a_lives ∧ TysP a_elem (d + 1)) ∨ ((a_kind = 1 ∨ a_kind = 2) ∧ a_name = [] ∧ a_lives = [] ∧ a_elem = []))) := shut (by unfold TyP; exact Iff.rfl)
  have HM := shut hM
  clear hM
  obtain ⟨X, hX⟩ : ∃ X, X = TyP (.mk a_kind a_name a_lives a_elem) d := ⟨_, rfl⟩
  rw [← hX] at HP ⊢
  clear hX
  have ag1 := agg_ok ha.len ha.one
  rw [tyIs_iff] at ha
  obtain ⟨p2, q2, p3, q3, hcs, ah_name, ah_lives, ah_elem⟩ := ha
  have HCA := shut hcs
  clear hcs
  simp only [TyD.kind, TyD.name, TyD.lives, TyD.elem] at ah_name ah_lives ah_elem HCA
  obtain ⟨CA, hCA⟩ : ∃ C, C = cs.toArray := ⟨_, rfl⟩
  rw [← hCA] at ag1 ⊢
  have HCS := shut hCA
  rw [HCA.out] at hCA
  have GCA := shut hCA
  clear hCA HCA
  have KW : Keeps Nothing w (w.alloc (.cells CA 33)) := (Keeps.refl Nothing w).alloc _
  have BA := blk_new w CA 33
  go_enter Try.func49, Try.ntmps49
  go_upto_region 1 with fail
  clear ag1
  generalize w.heap.size = ga at *
  generalize w.alloc (.cells CA 33) = wb at *
  by_cases hdeep : d ≤ 64
  rotate_left
  · have m1 : 64 < d := by omega
    have hno : Shut (¬ X) := shut (fun h => hdeep (HP.out.1 h).1)
    clear HP
    go_wp2_with fail
    go_ret
    exact tells_f hno.out KW
  have m1 : ¬ 64 < d := by omega
  by_cases k3 : a_kind = 3
  · subst k3
    have HQ : Shut (X ↔ DoubleP a_name ∧ LivesP a_lives ∧ a_elem = []) := shut (HP.out.trans (by simp [hdeep]))
    clear HP
    obtain ⟨ae0, ae1, -, -⟩ := TyB  GCA.out BA
    unfold txV at *
    have hc := double_any wb (HM.out.keeps KW) a_name ah_name
    go_wp2_with fail
    refine hc.mono ?_
    rintro e w1 ⟨⟨z, rfl, hz⟩, k1⟩
    have KW := KW.trans k1 (fun _ h _ => h)
    have BA := k1.blk BA (fun h => h)
    clear hc k1 ae0 ae1
    cases z with
    | false =>
      have hno : Shut (¬ X) := shut (fun h => by have h2 := hz.2 (HQ.out.1 h).1; cases h2)
      clear HQ hz GCA BA
      go_wp2_with fail
      go_ret
      exact tells_f hno.out KW
    | true =>
      have H1 := shut (hz.1 rfl)
      clear hz
      obtain ⟨-, -, ae2, -⟩ := TyB  GCA.out BA
      have hc := lives_any w1 q2 (ah_lives.keeps KW (fun _ _ h => h) (fun _ h => h) (fun _ _ _ h => h))
      go_wp2_with fail
      refine hc.mono ?_
      rintro e w2 ⟨⟨z, rfl, hz⟩, k2⟩
      have KW := KW.trans k2 (fun _ h _ => h)
      have BA := k2.blk BA (fun h => h)
      clear hc k2 ae2
      cases z with
      | false =>
        have hno : Shut (¬ X) := shut (fun h => by have h2 := hz.2 (HQ.out.1 h).2.1; cases h2)
        clear HQ hz GCA BA
        go_wp2_with fail
        go_ret
        exact tells_f hno.out KW
      | true =>
        have H2 := shut (hz.1 rfl)
        clear hz
        obtain ⟨-, -, -, ae3⟩ := TyB  GCA.out BA
        by_cases he : a_elem = []
        · subst he
          have hy : Shut X := shut (HQ.out.2 ⟨H1.out, H2.out, rfl⟩)
          clear HQ H1 H2
          go_wp2_with fail
          go_ret
          exact tells_t hy.out KW
        · have hl : ¬ (a_elem.length : Int) = 0 := by have := List.length_pos_iff.2 he; omega
          have hlb : ((a_elem.length : Int) == 0) = false := by rw [beq_eq_false_iff_ne]; exact hl
          have hno : Shut (¬ X) := shut (fun h => he (HQ.out.1 h).2.2)
          clear HQ H1 H2 he
          go_wp2_with fail
          go_ret
          exact tells_f hno.out KW
  by_cases k45 : a_kind = 4 ∨ a_kind = 5
  · have HQ : Shut (X ↔ a_name = [] ∧ a_lives.length ≤ 1 ∧ LivesP a_lives ∧ TysP a_elem (d + 1)) := shut (HP.out.trans (by
      constructor
      · rintro ⟨_, h | h | h⟩
        · exact absurd h.1 k3
        · exact h.2
        · omega
      · intro h
        exact ⟨hdeep, .inr (.inl ⟨k45, h⟩)⟩))
    clear HP
    have wd : IntKind.i64.wrap (d + 1) = d + 1 := by rw [IntKind.wrap_i64]; omega
    rcases k45 with rfl | rfl
    all_goals
      obtain ⟨ae0, ae1, ae2, -⟩ := TyB  GCA.out BA
      unfold txV at *
      by_cases h1 : a_name = []
      rotate_left
      · have hq : (a_name == []) = false := by rw [beq_eq_false_iff_ne]; exact h1
        have hno : Shut (¬ X) := shut (fun h => h1 (HQ.out.1 h).1)
        clear HQ h1
        go_wp2_with fail
        go_ret
        exact tells_f hno.out KW
      subst h1
      have hq : (([] : List UInt8) == []) = true := rfl
      by_cases h2 : a_lives.length ≤ 1
      rotate_left
      · have hl : ¬ (a_lives.length : Int) ≤ 1 := by omega
        have hno : Shut (¬ X) := shut (fun h => h2 (HQ.out.1 h).2.1)
        clear HQ h2
        go_wp2_with fail
        go_ret
        exact tells_f hno.out KW
      have hl : (a_lives.length : Int) ≤ 1 := by omega
      have hc := lives_any wb q2 (ah_lives.keeps KW (fun _ _ h => h) (fun _ h => h) (fun _ _ _ h => h))
      go_wp2_with fail
      refine hc.mono ?_
      rintro e w1 ⟨⟨z, rfl, hz⟩, k1⟩
      have KW := KW.trans k1 (fun _ h _ => h)
      have BA := k1.blk BA (fun h => h)
      clear hc k1 ae0 ae1 ae2
      cases z with
      | false =>
        have hno : Shut (¬ X) := shut (fun h => by have h3 := hz.2 (HQ.out.1 h).2.2.1; cases h3)
        clear HQ hz GCA BA
        go_wp2_with fail
        go_ret
        exact tells_f hno.out KW
      | true =>
        have H1 := shut (hz.1 rfl)
        clear hz
        obtain ⟨-, -, -, ae3⟩ := TyB  GCA.out BA
        by_cases he : a_elem.length = 1
        rotate_left
        · have hle : ¬ (a_elem.length : Int) = 1 := by omega
          have hno : Shut (¬ X) := shut (fun h => by
            have h4 := (HQ.out.1 h).2.2.2
            cases a_elem with
            | nil => unfold TysP at h4; exact h4
            | cons t r => unfold TysP at h4; obtain ⟨rfl, _⟩ := h4; exact he rfl)
          clear HQ H1 he
          go_wp2_with fail
          go_ret
          exact tells_f hno.out KW
        obtain ⟨t, rfl⟩ : ∃ t, a_elem = [t] := by
          cases a_elem with
          | nil => cases he
          | cons t r =>
            cases r with
            | nil => exact ⟨t, rfl⟩
            | cons _ _ => simp at he
        have HT : Shut (TysP [t] (d + 1) ↔ TyP t (d + 1)) := shut (by unfold TysP; simp)
        obtain ⟨g1, o1, rfl, -, cs1, l1, r1, i1⟩ := (ah_elem.keeps KW (fun _ _ h => h) (fun _ h => h) (fun _ _ _ h => h.keeps KW (fun _ _ h => h) (fun _ h => h))).get (j := 0) (d := t) rfl
        rw [Nat.zero_mul, Nat.add_zero] at r1
        obtain ⟨f1, f2⟩ := sub_of r1 l1
        have hc := IH.out t (by simp) w1 cs1 (d + 1) (HM.out.keeps KW) (by omega) (by omega) i1
        generalize cs1.toArray = C1 at *
        go_wp2_with fail
        refine hc.mono ?_
        rintro e w2 ⟨⟨z, rfl, hz⟩, k2⟩
        have hz2 : Shut (z = true ↔ X) := shut (by
          rw [HQ.out, HT.out]
          exact ⟨fun h => ⟨by first | rfl | trivial, h2, H1.out, hz.1 h⟩, fun h => hz.2 h.2.2.2⟩)
        clear hc hz HQ HT H1 f1 f2 r1 i1
        go_wp2_with fail
        go_ret
        exact tells_z hz2.out (KW.trans k2 (fun _ h _ => h))
  by_cases k12 : a_kind = 1 ∨ a_kind = 2
  · have HQ : Shut (X ↔ a_name = [] ∧ a_lives = [] ∧ a_elem = []) := shut (HP.out.trans (by
      constructor
      · rintro ⟨_, h | h | h⟩
        · exact absurd h.1 k3
        · exact absurd h.1 k45
        · exact h.2
      · intro h
        exact ⟨hdeep, .inr (.inr ⟨k12, h⟩)⟩))
    clear HP
    have hcn := nothing_any _ wb cs (HI.out.keeps KW (fun _ _ h => h) (fun _ h => h))
    obtain ⟨y1, y2⟩ := tblk_mid BA (n := 4) (by rw [GCA.out]; rfl)
    rw [show cs.toArray = CA from HCS.out.symm] at hcn
    rcases k12 with rfl | rfl
    all_goals
      obtain ⟨ae0, -, -, -⟩ := TyB  GCA.out BA
      go_wp2_with fail
      refine hcn.mono ?_
      rintro e w1 ⟨⟨z, rfl, hz⟩, k1⟩
      have hz2 : Shut (z = true ↔ X) := shut (hz.trans HQ.out.symm)
      clear hcn hz HQ y1 y2
      go_wp2_with fail
      go_ret
      exact tells_z hz2.out (KW.trans k1 (fun _ h _ => h))
  have hno : Shut (¬ X) := shut (fun h => by
    obtain ⟨_, h2⟩ := HP.out.1 h
    rcases h2 with h2 | h2 | h2
    · exact k3 h2.1
    · exact k45 h2.1
    · exact k12 h2.1)
  clear HP
  have n1 : ¬ a_kind = 1 := fun h => k12 (.inl h)
  have n2 : ¬ a_kind = 2 := fun h => k12 (.inr h)
  have n4 : ¬ a_kind = 4 := fun h => k45 (.inl h)
  have n5 : ¬ a_kind = 5 := fun h => k45 (.inr h)
  clear k45 k12
  obtain ⟨ae0, -, -, -⟩ := TyB  GCA.out BA
  go_wp2_with fail
  go_ret
  exact tells_f hno.out KW

end Go.Proofs.Ytjbcagbnagefcaa
