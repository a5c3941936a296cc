/- The document's answer: which types, fields, operands may be. -/
import Derived.Test.YtjbcagbnagefcaaTree22
import Derived.Test.YtjbcagbnagefcaaTrS
namespace Go.Proofs.Ytjbcagbnagefcaa
open Go.RowKit

attribute [local go_sem ↓] exec_mid_ty exec_store_ty exec_mid_pl exec_store_pl exec_mid_opr exec_store_opr exec_mid_val exec_store_val exec_mid_st exec_store_st exec_mid_fld exec_store_fld exec_mid_str exec_store_str exec_mid_lif exec_store_lif exec_mid_fun exec_store_fun exec_mid_cr exec_store_cr
attribute [local go_sem] rowOk_new World.setRow_alloc_new

set_option maxRecDepth 100000 in
set_option maxHeartbeats 4000000 in
theorem rkind_any {S : Nat → Prop} : ∀ (a : TyD) (w : World) (cs : List Value) (d : Int), 0 ≤ d → d ≤ 1000 → TyIs S w a cs → Calls Try.prog 41 #[.agg cs.toArray, .int .i64 d] w (Tells w (TyP a d)) := by
  refine TyD.ind ?_
  intro a_kind a_name a_lives a_elem ih w cs d hd0 hd1 ha
  have IH := shut ih
  clear ih
  have HP : Shut (TyP (.mk a_kind a_name a_lives a_elem) d ↔ d ≤ 64 ∧ ((a_kind = 3 ∧ DoubleP a_name ∧ LivesP a_lives ∧ a_elem = []) ∨ ((a_kind = 4 ∨ a_kind = 5) ∧ a_name = [] ∧ a_lives.length ≤ 1 ∧ LivesP a_lives ∧ TysP a_elem (d + 1)) ∨ ((a_kind = 1 ∨ a_kind = 2) ∧ a_name = [] ∧ a_lives = [] ∧ a_elem = []))) := shut (by unfold TyP; exact Iff.rfl)
  obtain ⟨X, hX⟩ : ∃ X, X = TyP (.mk a_kind a_name a_lives a_elem) d := ⟨_, rfl⟩
  rw [← hX] at HP ⊢
  clear hX
  have ag1 := agg_ok ha.len ha.one
  rw [tyIs_iff] at ha
  obtain ⟨p2, q2, p3, q3, hcs, ah_name, ah_lives, ah_elem⟩ := ha
  have HCA := shut hcs
  clear hcs
  simp only [TyD.kind, TyD.name, TyD.lives, TyD.elem] at ah_name ah_lives ah_elem HCA
  obtain ⟨CA, hCA⟩ : ∃ C, C = cs.toArray := ⟨_, rfl⟩
  rw [← hCA] at ag1 ⊢
  rw [HCA.out] at hCA
  have GCA := shut hCA
  clear hCA HCA
  have KW : Keeps Nothing w (w.alloc (.cells CA 33)) := (Keeps.refl Nothing w).alloc _
  have BA := blk_new w CA 33
  go_enter Try.func41, Try.ntmps41
  go_upto_region 1 with fail
  clear ag1
  generalize w.heap.size = ga at *
  generalize w.alloc (.cells CA 33) = wb at *
  by_cases hdeep : d ≤ 64
  rotate_left
  · have m1 : 64 < d := by omega
    have hno : Shut (¬ X) := shut (fun h => hdeep (HP.out.1 h).1)
    clear HP
    go_wp2_with fail
    go_ret
    exact tells_f hno.out KW
  have m1 : ¬ 64 < d := by omega
  by_cases k3 : a_kind = 3
  · subst k3
    have HQ : Shut (X ↔ DoubleP a_name ∧ LivesP a_lives ∧ a_elem = []) := shut (HP.out.trans (by simp [hdeep]))
    clear HP
    obtain ⟨ae0, ae1, -, -⟩ := TyB  GCA.out BA
    unfold txV at *
    have hc := rlong_any wb a_name ah_name
    go_wp2_with fail
    refine hc.mono ?_
    rintro e w1 ⟨⟨z, rfl, hz⟩, k1⟩
    have KW := KW.trans k1 (fun _ h _ => h)
    have BA := k1.blk BA (fun h => h)
    clear hc k1 ae0 ae1
    cases z with
    | false =>
      have hno : Shut (¬ X) := shut (fun h => by have h2 := hz.2 (HQ.out.1 h).1; cases h2)
      clear HQ hz GCA BA
      go_wp2_with fail
      go_ret
      exact tells_f hno.out KW
    | true =>
      have H1 := shut (hz.1 rfl)
      clear hz
      obtain ⟨-, -, ae2, -⟩ := TyB  GCA.out BA
      have hc := rlives_any w1 q2 (ah_lives.keeps KW (fun _ _ h => h) (fun _ h => h) (fun _ _ _ h => h))
      go_wp2_with fail
      refine hc.mono ?_
      rintro e w2 ⟨⟨z, rfl, hz⟩, k2⟩
      have KW := KW.trans k2 (fun _ h _ => h)
      have BA := k2.blk BA (fun h => h)
      clear hc k2 ae2
      cases z with
      | false =>
        have hno : Shut (¬ X) := shut (fun h => by have h2 := hz.2 (HQ.out.1 h).2.1; cases h2)
        clear HQ hz GCA BA
        go_wp2_with fail
        go_ret
        exact tells_f hno.out KW
      | true =>
        have H2 := shut (hz.1 rfl)
        clear hz
        obtain ⟨-, -, -, ae3⟩ := TyB  GCA.out BA
        by_cases he : a_elem = []
        · subst he
          have hy : Shut X := shut (HQ.out.2 ⟨H1.out, H2.out, rfl⟩)
          clear HQ H1 H2
          go_wp2_with fail
          go_ret
          exact tells_t hy.out KW
        · have hl : ¬ (a_elem.length : Int) = 0 := by have := List.length_pos_iff.2 he; omega
          have hlb : ((a_elem.length : Int) == 0) = false := by rw [beq_eq_false_iff_ne]; exact hl
          have hno : Shut (¬ X) := shut (fun h => he (HQ.out.1 h).2.2)
          clear HQ H1 H2 he
          go_wp2_with fail
          go_ret
          exact tells_f hno.out KW
  by_cases k45 : a_kind = 4 ∨ a_kind = 5
  · have HQ : Shut (X ↔ a_name = [] ∧ a_lives.length ≤ 1 ∧ LivesP a_lives ∧ TysP a_elem (d + 1)) := shut (HP.out.trans (by
      constructor
      · rintro ⟨_, h | h | h⟩
        · exact absurd h.1 k3
        · exact h.2
        · omega
      · intro h
        exact ⟨hdeep, .inr (.inl ⟨k45, h⟩)⟩))
    clear HP
    have wd : IntKind.i64.wrap (d + 1) = d + 1 := by rw [IntKind.wrap_i64]; omega
    rcases k45 with rfl | rfl
    all_goals
      obtain ⟨ae0, ae1, ae2, -⟩ := TyB  GCA.out BA
      unfold txV at *
      by_cases h1 : a_name = []
      rotate_left
      · have hq : (a_name == []) = false := by rw [beq_eq_false_iff_ne]; exact h1
        have hno : Shut (¬ X) := shut (fun h => h1 (HQ.out.1 h).1)
        clear HQ h1
        go_wp2_with fail
        go_ret
        exact tells_f hno.out KW
      subst h1
      have hq : (([] : List UInt8) == []) = true := rfl
      by_cases h2 : a_lives.length ≤ 1
      rotate_left
      · have hl : ¬ (a_lives.length : Int) ≤ 1 := by omega
        have hno : Shut (¬ X) := shut (fun h => h2 (HQ.out.1 h).2.1)
        clear HQ h2
        go_wp2_with fail
        go_ret
        exact tells_f hno.out KW
      have hl : (a_lives.length : Int) ≤ 1 := by omega
      have hc := rlives_any wb q2 (ah_lives.keeps KW (fun _ _ h => h) (fun _ h => h) (fun _ _ _ h => h))
      go_wp2_with fail
      refine hc.mono ?_
      rintro e w1 ⟨⟨z, rfl, hz⟩, k1⟩
      have KW := KW.trans k1 (fun _ h _ => h)
      have BA := k1.blk BA (fun h => h)
      clear hc k1 ae0 ae1 ae2
      cases z with
      | false =>
        have hno : Shut (¬ X) := shut (fun h => by have h3 := hz.2 (HQ.out.1 h).2.2.1; cases h3)
        clear HQ hz GCA BA
        go_wp2_with fail
        go_ret
        exact tells_f hno.out KW
      | true =>
        have H1 := shut (hz.1 rfl)
        clear hz
        obtain ⟨-, -, -, ae3⟩ := TyB  GCA.out BA
        by_cases he : a_elem.length = 1
        rotate_left
        · have hle : ¬ (a_elem.length : Int) = 1 := by omega
          have hno : Shut (¬ X) := shut (fun h => by
            have h4 := (HQ.out.1 h).2.2.2
            cases a_elem with
            | nil => unfold TysP at h4; exact h4
            | cons t r => unfold TysP at h4; obtain ⟨rfl, _⟩ := h4; exact he rfl)
          clear HQ H1 he
          go_wp2_with fail
          go_ret
          exact tells_f hno.out KW
        obtain ⟨t, rfl⟩ : ∃ t, a_elem = [t] := by
          cases a_elem with
          | nil => cases he
          | cons t r =>
            cases r with
            | nil => exact ⟨t, rfl⟩
            | cons _ _ => simp at he
        have HT : Shut (TysP [t] (d + 1) ↔ TyP t (d + 1)) := shut (by unfold TysP; simp)
        obtain ⟨g1, o1, rfl, -, cs1, l1, r1, i1⟩ := (ah_elem.keeps KW (fun _ _ h => h) (fun _ h => h) (fun _ _ _ h => h.keeps KW (fun _ _ h => h) (fun _ h => h))).get (j := 0) (d := t) rfl
        rw [Nat.zero_mul, Nat.add_zero] at r1
        obtain ⟨f1, f2⟩ := sub_of r1 l1
        have hc := IH.out t (by simp) w1 cs1 (d + 1) (by omega) (by omega) i1
        generalize cs1.toArray = C1 at *
        go_wp2_with fail
        refine hc.mono ?_
        rintro e w2 ⟨⟨z, rfl, hz⟩, k2⟩
        have hz2 : Shut (z = true ↔ X) := shut (by
          rw [HQ.out, HT.out]
          exact ⟨fun h => ⟨by first | rfl | trivial, h2, H1.out, hz.1 h⟩, fun h => hz.2 h.2.2.2⟩)
        clear hc hz HQ HT H1 f1 f2 r1 i1
        go_wp2_with fail
        go_ret
        exact tells_z hz2.out (KW.trans k2 (fun _ h _ => h))
  by_cases k12 : a_kind = 1 ∨ a_kind = 2
  · have HQ : Shut (X ↔ a_name = [] ∧ a_lives = [] ∧ a_elem = []) := shut (HP.out.trans (by
      constructor
      · rintro ⟨_, h | h | h⟩
        · exact absurd h.1 k3
        · exact absurd h.1 k45
        · exact h.2
      · intro h
        exact ⟨hdeep, .inr (.inr ⟨k12, h⟩)⟩))
    clear HP
    rcases k12 with rfl | rfl
    all_goals
      obtain ⟨ae0, ae1, ae2, ae3⟩ := TyB  GCA.out BA
      unfold txV at *
      by_cases h1 : a_name = []
      rotate_left
      · have hq : (a_name == []) = false := by rw [beq_eq_false_iff_ne]; exact h1
        have hno : Shut (¬ X) := shut (fun h => h1 (HQ.out.1 h).1)
        clear HQ h1
        go_wp2_with fail
        go_ret
        exact tells_f hno.out KW
      subst h1
      have hq : (([] : List UInt8) == []) = true := rfl
      by_cases h2 : a_lives = []
      rotate_left
      · have hl : ¬ (a_lives.length : Int) = 0 := by have := List.length_pos_iff.2 h2; omega
        have hlb : ((a_lives.length : Int) == 0) = false := by rw [beq_eq_false_iff_ne]; exact hl
        have hno : Shut (¬ X) := shut (fun h => h2 (HQ.out.1 h).2.1)
        clear HQ h2
        go_wp2_with fail
        go_ret
        exact tells_f hno.out KW
      subst h2
      by_cases h3 : a_elem = []
      rotate_left
      · have hl : ¬ (a_elem.length : Int) = 0 := by have := List.length_pos_iff.2 h3; omega
        have hlb : ((a_elem.length : Int) == 0) = false := by rw [beq_eq_false_iff_ne]; exact hl
        have hno : Shut (¬ X) := shut (fun h => h3 (HQ.out.1 h).2.2)
        clear HQ h3
        go_wp2_with fail
        go_ret
        exact tells_f hno.out KW
      subst h3
      have hy : Shut X := shut (HQ.out.2 ⟨rfl, rfl, rfl⟩)
      clear HQ
      go_wp2_with fail
      go_ret
      exact tells_t hy.out KW
  have hno : Shut (¬ X) := shut (fun h => by
    obtain ⟨_, h2⟩ := HP.out.1 h
    rcases h2 with h2 | h2 | h2
    · exact k3 h2.1
    · exact k45 h2.1
    · exact k12 h2.1)
  clear HP
  have n1 : ¬ a_kind = 1 := fun h => k12 (.inl h)
  have n2 : ¬ a_kind = 2 := fun h => k12 (.inr h)
  have n4 : ¬ a_kind = 4 := fun h => k45 (.inl h)
  have n5 : ¬ a_kind = 5 := fun h => k45 (.inr h)
  clear k45 k12
  obtain ⟨ae0, -, -, -⟩ := TyB  GCA.out BA
  go_wp2_with fail
  go_ret
  exact tells_f hno.out KW

set_option maxRecDepth 100000 in
set_option maxHeartbeats 4000000 in
theorem rparts_any (w : World) {S : Nat → Prop} {ao : Option Addr} {l : List FldD} (c : Nat) (mt : Bool) (h : SlIs S w 6 (FldIs S w) ao l) : Calls Try.prog 20 #[.slice ao l.length c, .bool mt] w (Tells w (FldsP l mt)) := by
  have hl := h.1
  unfold bigN at hl
  have HX := shut h
  clear h
  obtain ⟨n, hn⟩ : ∃ n, l.length = n := ⟨_, rfl⟩
  rw [hn] at hl ⊢
  have HN := shut hn
  clear hn
  go_enter Try.func20, Try.ntmps20
  go_wp2_with fail
  go_loopw [5] (fun s5 wx => ∃ t : Nat, s5 = .int .i64 t ∧ t ≤ n ∧ t ≤ 65 ∧ Keeps Nothing w wx ∧ Shut (∀ f ∈ l.take t, FldP mt f)) (fun s5 _ => n - (intOf s5).toNat)
  case atStart => exact ⟨0, rfl, Nat.zero_le _, Nat.zero_le _, Keeps.refl _ _, shut (by simp)⟩
  case round =>
    obtain ⟨t, rfl, ht, ht2, KL, HT⟩ := hrel
    by_cases hlt : t < n
    · have m0 : (0 : Int) ≤ t := by omega
      have m1 : (t : Int) < n := by omega
      by_cases h65 : t < 65
      rotate_left
      · have m2 : ¬ (t : Int) < 65 := by omega
        have m3 : ¬ (n : Int) ≤ 64 := by omega
        have hno : Shut (¬ FldsP l mt) := shut (fun h => by have := h.2; rw [HN.out] at this; omega)
        go_wp2_with fail
        go_ret
        exact tells_f hno.out KL
      have m2 : (t : Int) < 65 := by omega
      obtain ⟨d, hd⟩ : ∃ d, l[t]? = some d := ⟨_, List.getElem?_eq_getElem (by rw [HN.out]; exact hlt)⟩
      obtain ⟨g1, o1, rfl, -, cs, l1, r1, ha⟩ := (HX.out.keeps KL (fun _ _ h => h) (fun _ h => h) (fun _ _ _ h => h.keeps KL (fun _ _ h => h) (fun _ h => h))).get hd
      have HD := shut hd
      clear hd
      obtain ⟨a_mu, a_name, a_ty⟩ := d
      obtain ⟨s2, hcs, ah_name, ah_ty⟩ := ha
      rw [hcs] at r1
      simp only at ah_name ah_ty r1
      have al_ty := ah_ty.len
      have HR1 := shut r1
      clear r1 hcs l1
      have HP : Shut (FldP mt ⟨a_mu, a_name, a_ty⟩ ↔ (a_mu = true → mt = true) ∧ isName a_name = true ∧ TyP a_ty 1) := shut Iff.rfl
      obtain ⟨X, hX⟩ : ∃ X, X = (⟨a_mu, a_name, a_ty⟩ : FldD) := ⟨_, rfl⟩
      rw [← hX] at HP HD
      clear hX
      have hout : Shut (¬ FldP mt X → ¬ FldsP l mt) := shut (fun h h2 => h (h2.1 X (List.mem_of_getElem? HD.out)))
      have hc1 := rname_any wr a_name (by unfold bigN at ah_name; omega)
      obtain ⟨z1, hz1⟩ : ∃ z, isName a_name = z := ⟨_, rfl⟩
      rw [hz1] at hc1 HP
      clear hz1
      obtain ⟨ae0, ae1, ae2, af2⟩ := FldR al_ty HR1.out
      unfold txV at *
      by_cases hmu : a_mu = true ∧ mt = false
      · obtain ⟨rfl, rfl⟩ := hmu
        have hno := shut (hout.out (fun h => by have h2 := (HP.out.1 h).1 rfl; cases h2))
        clear HP hout hc1
        go_wp2_with fail
        go_ret
        exact tells_f hno.out KL
      have hmu2 : Shut (a_mu = true → mt = true) := shut (fun h => by cases mt with | true => rfl | false => exact absurd ⟨h, rfl⟩ hmu)
      have hcs : (a_mu = false) ∨ (a_mu = true ∧ mt = true) := by cases a_mu with | false => exact .inl rfl | true => exact .inr ⟨rfl, hmu2.out rfl⟩
      clear hmu
      rcases hcs with rfl | ⟨rfl, rfl⟩
      all_goals
        go_wp2_with fail
        refine hc1.mono ?_
        rintro e w1 ⟨rfl, k1⟩
        have r1 := rangeAt_keeps HR1.out k1 (fun h => h)
        have ah_ty := ah_ty.keeps k1 (fun _ _ h => h) (fun _ h => h)
        have KW := KL.trans k1 (fun _ h _ => h)
        clear hc1 ae0 ae1 ae2 af2 k1
        cases z1 with
        | false =>
          have hno := shut (hout.out (fun h => by have h2 := (HP.out.1 h).2.1; cases h2))
          clear HP hout hmu2 r1
          go_wp2_with fail
          go_ret
          exact tells_f hno.out KW
        | true =>
          obtain ⟨ae0, ae1, ae2, af2⟩ := FldR al_ty r1
          have hc := rkind_any a_ty w1 s2 1 (by omega) (by omega) ah_ty
          clear r1
          go_wp2_with fail
          refine hc.mono ?_
          rintro e w2 ⟨⟨z, rfl, hz⟩, k2⟩
          have KW := KW.trans k2 (fun _ h _ => h)
          clear hc k2 ae0 ae1 ae2 af2
          cases z with
          | false =>
            have hno := shut (hout.out (fun h => by have h2 := hz.2 (HP.out.1 h).2.2; cases h2))
            clear HP hout hz hmu2
            go_wp2_with fail
            go_ret
            exact tells_f hno.out KW
          | true =>
            have HT2 := shut (all_take HD.out HT.out (HP.out.2 ⟨hmu2.out, (by first | rfl | trivial), hz.1 rfl⟩))
            clear HP hout hz hmu2
            go_wp2_with fail
            go_roundw
            case rel => exact ⟨t + 1, by go_num, by omega, by omega, KW, HT2⟩
            case measure => simp [intOf]; omega
    · obtain rfl : t = n := by omega
      have m1 : ¬ (t : Int) < t := by omega
      have HALL := shut (all_of_take HN.out HT.out)
      by_cases h64 : t ≤ 64
      · have m2 : (t : Int) ≤ 64 := by omega
        go_wp2_with fail
        go_ret
        exact tells_t ⟨HALL.out, by rw [HN.out]; exact h64⟩ KL
      · have m2 : ¬ (t : Int) ≤ 64 := by omega
        have hno : Shut (¬ FldsP l mt) := shut (fun h => h64 (by rw [← HN.out]; exact h.2))
        clear HALL
        go_wp2_with fail
        go_ret
        exact tells_f hno.out KL

set_option maxRecDepth 100000 in
set_option maxHeartbeats 4000000 in
theorem roper_any {S : Nat → Prop} (a : OprD) (w : World) (cs : List Value) (ha : OprIs S w a cs) : Calls Try.prog 71 #[.agg cs.toArray] w (Tells w (OprP a)) := by
  obtain ⟨a_kind, a_n, a_place⟩ := a
  have HP : Shut (OprP ⟨a_kind, a_n, a_place⟩ ↔ (a_kind = 1 ∧ a_place = zeroPl ∧ 0 ≤ a_n ∧ a_n ≤ 2147483647) ∨ (a_kind = 2 ∧ a_place = zeroPl ∧ (a_n = 0 ∨ a_n = 1)) ∨ (a_kind = 3 ∧ a_n = 0 ∧ PlP a_place)) := shut Iff.rfl
  obtain ⟨X, hX⟩ : ∃ X, X = OprP ⟨a_kind, a_n, a_place⟩ := ⟨_, rfl⟩
  rw [← hX] at HP ⊢
  clear hX
  have ag1 := agg_ok ha.len ha.one
  obtain ⟨s2, hcs, ah_place⟩ := ha
  have HCA := shut hcs
  clear hcs
  simp only at ah_place HCA
  obtain ⟨CA, hCA⟩ : ∃ C, C = cs.toArray := ⟨_, rfl⟩
  rw [← hCA] at ag1 ⊢
  rw [HCA.out] at hCA
  have GCA := shut hCA
  clear hCA HCA
  have al_place := ah_place.len
  have KW : Keeps Nothing w (w.alloc (.cells CA 41)) := (Keeps.refl Nothing w).alloc _
  have BA := blk_new w CA 41
  go_enter Try.func71, Try.ntmps71
  go_upto_region 1 with fail
  clear ag1
  generalize w.heap.size = ga at *
  generalize w.alloc (.cells CA 41) = wb at *
  obtain ⟨ae0, ae1, ⟨ae2, af2⟩⟩ := OprB al_place GCA.out BA
  have hc : Calls Try.prog 90 #[.agg s2.toArray] wb (Tells wb (a_place = zeroPl)) := rnowhere_any a_place wb s2 (ah_place.keeps KW (fun _ _ h => h) (fun _ h => h))
  have hcp := rPlace_any a_place wb s2 (ah_place.keeps KW (fun _ _ h => h) (fun _ h => h))
  by_cases k1 : a_kind = 1
  · subst k1
    have HQ : Shut (X ↔ a_place = zeroPl ∧ 0 ≤ a_n ∧ a_n ≤ 2147483647) := shut (by rw [HP.out]; simp)
    clear HP hcp
    by_cases h0 : 0 ≤ a_n
    rotate_left
    · have hno : Shut (¬ X) := shut (fun h => h0 (HQ.out.1 h).2.1)
      clear HQ hc
      go_wp2_with fail
      go_ret
      exact tells_f hno.out KW
    by_cases h1 : a_n ≤ 2147483647
    rotate_left
    · have hno : Shut (¬ X) := shut (fun h => h1 (HQ.out.1 h).2.2)
      clear HQ hc
      go_wp2_with fail
      go_ret
      exact tells_f hno.out KW
    go_wp2_with fail
    refine hc.mono ?_
    rintro e w1 ⟨⟨z, rfl, hz⟩, k1⟩
    have hz2 : Shut (z = true ↔ X) := shut (by rw [HQ.out, ← hz]; exact ⟨fun h => ⟨h, h0, h1⟩, fun h => h.1⟩)
    clear hc hz HQ ae0 ae1 ae2 af2
    go_wp2_with fail
    go_ret
    exact tells_z hz2.out (KW.trans k1 (fun _ h _ => h))
  by_cases k2 : a_kind = 2
  · subst k2
    have HQ : Shut (X ↔ a_place = zeroPl ∧ (a_n = 0 ∨ a_n = 1)) := shut (by rw [HP.out]; simp)
    clear HP hcp
    by_cases h01 : a_n = 0 ∨ a_n = 1
    rotate_left
    · have hno : Shut (¬ X) := shut (fun h => h01 (HQ.out.1 h).2)
      have hb0 : (a_n == 0) = false := by rw [beq_eq_false_iff_ne]; omega
      have hb1 : (a_n == 1) = false := by rw [beq_eq_false_iff_ne]; omega
      clear HQ hc h01
      go_wp2_with fail
      go_ret
      exact tells_f hno.out KW
    have HQ2 : Shut (X ↔ a_place = zeroPl) := shut (HQ.out.trans ⟨fun h => h.1, fun h => ⟨h, h01⟩⟩)
    clear HQ
    rcases h01 with rfl | rfl
    all_goals
      go_wp2_with fail
      refine hc.mono ?_
      rintro e w1 ⟨⟨z, rfl, hz⟩, k1⟩
      have hz2 : Shut (z = true ↔ X) := shut (by rw [HQ2.out, ← hz])
      clear hc hz HQ2 ae0 ae1 ae2 af2
      go_wp2_with fail
      go_ret
      exact tells_z hz2.out (KW.trans k1 (fun _ h _ => h))
  by_cases k3 : a_kind = 3
  · subst k3
    have HQ : Shut (X ↔ a_n = 0 ∧ PlP a_place) := shut (by rw [HP.out]; simp)
    clear HP hc
    by_cases h0 : a_n = 0
    · subst h0
      go_wp2_with fail
      refine hcp.mono ?_
      rintro e w1 ⟨⟨z, rfl, hz⟩, k1⟩
      have hz2 : Shut (z = true ↔ X) := shut (by rw [HQ.out, ← hz]; simp)
      clear hcp hz HQ ae0 ae1 ae2 af2
      go_wp2_with fail
      go_ret
      exact tells_z hz2.out (KW.trans k1 (fun _ h _ => h))
    · have hno : Shut (¬ X) := shut (fun h => h0 (HQ.out.1 h).1)
      have hb0 : (a_n == 0) = false := by rw [beq_eq_false_iff_ne]; exact h0
      clear HQ hcp
      go_wp2_with fail
      go_ret
      exact tells_f hno.out KW
  have hno : Shut (¬ X) := shut (fun h => by
    rcases HP.out.1 h with h2 | h2 | h2
    · exact k1 h2.1
    · exact k2 h2.1
    · exact k3 h2.1)
  clear HP hc hcp
  go_wp2_with fail
  go_ret
  exact tells_f hno.out KW

end Go.Proofs.Ytjbcagbnagefcaa
