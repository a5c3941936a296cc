/- Tree22 Tree23 Tree25 -/
import Derived.Test.YtjbcagbnagefcaaGreatZb2
import Derived.Test.YtjbcagbnagefcaaGreatZb6
namespace Go.Proofs.YtjbcagbnagefcaaGreat
open Go.RowKit
attribute [local go_sem ↓] exec_mid_ty exec_store_ty exec_mid_pl exec_store_pl exec_mid_opr exec_store_opr exec_mid_val exec_store_val exec_mid_st exec_store_st exec_mid_fld exec_store_fld exec_mid_str exec_store_str exec_mid_lif exec_store_lif exec_mid_fun exec_store_fun exec_mid_cr exec_store_cr
attribute [local go_sem] rowOk_new World.setRow_alloc_new
theorem str_to (s : List UInt8) {i : Nat} (h : i ≤ s.length) (W : World) : (Instr.slice 9 (.string ⟨s.toArray⟩) none (some (.int .i64 (i : Int))) none).run Tryz.prog W = .ok (.string ⟨(s.take i).toArray⟩) W := by
 rw [run_slice_string_h W 9 ⟨s.toArray⟩ Tryz.underlying9 .i64 i (by omega) (by show (i : Int) ≤ s.length; omega)]
 have e := extract_eq s 0 i
 rw [Nat.zero_add, List.drop_zero] at e
 rw [Int.toNat_natCast, e]
theorem occ_two (s : List UInt8) {i : Nat} (h : i + 2 ≤ s.length) : Lib.occAt s [58, 58] i = ((s.drop i).take 2 == [58, 58]) := Lib.occAt_iff_take s [58, 58] i h
theorem double_yes {s : List UInt8} {i : Nat} (hi : i + 2 ≤ s.length) (hn : Lib.NoOcc s [58, 58] i) (ho : Lib.occAt s [58, 58] i = true) : DoubleP s ↔ isName (s.take i) = true ∧ isName (s.drop (i + 2)) = true := by
 have h := Lib.index_first (by omega) ho hn
 unfold DoubleP Lib.cut
 rw [h, if_pos (by omega)]
 simp
theorem double_no {s : List UInt8} {i : Nat} (hi : s.length < i + 2) (hn : Lib.NoOcc s [58, 58] i) : DoubleP s ↔ isName s = true := by
 have h : Lib.index s [58, 58] = -1 := Lib.index_none fun j hj => by
  by_cases hlt : j < i
  ·exact hn j hlt
  ·cases ho : Lib.occAt s [58, 58] j with
   | false => rfl
   | true =>
    rcases Lib.occAt_room ho with h | h
    ·simp at h; omega
    ·cases h
 unfold DoubleP Lib.cut
 rw [h, if_neg (by omega)]
 simp
set_option maxHeartbeats 2000000 in
theorem rlong_any (w : World) (s : List UInt8) (hs : s.length ≤ bigN) : Calls Tryz.prog 98 #[.string ⟨s.toArray⟩] w (Tells w (DoubleP s)) := by
 unfold bigN at hs
 go_enter Tryz.func98, Tryz.ntmps98
 go_wp2_with fail
 go_loopw [3] (fun s3 wx => ∃ i : Nat, s3 = .int .i64 i ∧ i ≤ s.length ∧ Keeps Nothing w wx ∧ Shut (Lib.NoOcc s [58, 58] i)) (fun s3 _ => s.length - (intOf s3).toNat)
 case atStart => exact ⟨0, rfl, Nat.zero_le _, Keeps.refl _ _, shut (Lib.NoOcc.zero _ _)⟩
 case round =>
  obtain ⟨i, rfl, hi, KL, HN⟩ := hrel
  by_cases h2 : i + 2 ≤ s.length
  ·have hcut := fun W => str_cut s (i := i) (n := 2) (j := i + 2) rfl h2 W
   have hto := fun W => str_to s (i := i) hi W
   have hfrom := fun W => str_from s (i := i + 2) h2 W
   obtain ⟨k2, hk2⟩ : ∃ k2, i + 2 = k2 := ⟨_, rfl⟩
   rw [hk2] at hcut hfrom
   have m1 : (i : Int) + 1 < (s.length : Int) := by omega
   have m3 : (i : Int) + 2 = (k2 : Int) := by omega
   have HO := shut (occ_two s h2)
   obtain ⟨X, hX⟩ : ∃ X, (s.drop i).take 2 = X := ⟨_, rfl⟩
   rw [hX] at hcut HO
   by_cases hpre : X = [58, 58]
   ·subst hpre
    have HD := shut (double_yes h2 HN.out (by rw [HO.out]; rfl))
    rw [hk2] at HD
    clear HN HO hX
    have c1 := fun W => rname_any W (s.take i) (by rw [List.length_take]; omega)
    have c2 := fun W => rname_any W (s.drop k2) (by rw [List.length_drop]; omega)
    obtain ⟨z1, hz1⟩ : ∃ z, isName (s.take i) = z := ⟨_, rfl⟩
    obtain ⟨z2, hz2⟩ : ∃ z, isName (s.drop k2) = z := ⟨_, rfl⟩
    rw [hz1] at c1 HD
    rw [hz2] at c2 HD
    clear hz1 hz2 hk2 h2 hi
    generalize s.take i = A at *
    generalize s.drop k2 = B at *
    go_wp2_with fail
    refine (c1 _).mono ?_
    rintro e w1 ⟨rfl, k1⟩
    have KL := KL.trans k1 (fun _ h _ => h)
    clear c1 k1
    cases z1 with
    | false =>
     have hno : Shut (¬ DoubleP s) := shut (fun h => by have h2 := (HD.out.1 h).1; cases h2)
     clear HD
     go_wp2_with fail
     go_ret
     exact tells_f hno.out KL
    | true =>
     have hz : Shut (z2 = true ↔ DoubleP s) := shut (by rw [HD.out]; simp)
     clear HD
     go_wp2_with fail
     refine (c2 _).mono ?_
     rintro e w2 ⟨rfl, k2⟩
     clear c2
     go_wp2_with fail
     go_ret
     exact tells_z hz.out (KL.trans k2 (fun _ h _ => h))
   ·have hq : (X == [58, 58]) = false := by rw [beq_eq_false_iff_ne]; exact hpre
    have HN2 := shut (HN.out.succ (by rw [HO.out]; exact hq))
    clear HN HO hX hk2 hpre hto hfrom
    go_wp2_with fail
    go_roundw
    case rel => exact ⟨i + 1, by go_num, by omega, KL, HN2⟩
    case measure => simp [intOf]; omega
  ·have m1 : ¬ (i : Int) + 1 < (s.length : Int) := by omega
   have HD := shut (double_no (by omega) HN.out)
   clear HN h2
   have c1 := fun W => rname_any W s (by omega)
   obtain ⟨z1, hz1⟩ : ∃ z, isName s = z := ⟨_, rfl⟩
   rw [hz1] at c1 HD
   clear hz1
   go_wp2_with fail
   refine (c1 _).mono ?_
   rintro e w1 ⟨rfl, k1⟩
   clear c1
   have hz : Shut (z1 = true ↔ DoubleP s) := shut HD.out.symm
   clear HD
   go_wp2_with fail
   go_ret
   exact tells_z hz.out (KL.trans k1 (fun _ h _ => h))
set_option maxRecDepth 100000 in
set_option maxHeartbeats 2000000 in
theorem rlives_any (w : World) {S : Nat → Prop} {ao : Option Addr} {l : List (List UInt8)} (c : Nat) (h : SlIs S w 1 TxIs ao l) : Calls Tryz.prog 46 #[.slice ao l.length c] w (Tells w (LivesP l)) := by
 have hl := h.1
 unfold bigN at hl
 have HX := shut h
 clear h
 obtain ⟨n, hn⟩ : ∃ n, l.length = n := ⟨_, rfl⟩
 rw [hn] at hl ⊢
 have HN := shut hn
 clear hn
 go_enter Tryz.func46, Tryz.ntmps46
 go_wp2_with fail
 go_loopw [3] (fun s3 wx => ∃ t : Nat, s3 = .int .i64 t ∧ t ≤ n ∧ t ≤ 65 ∧ Keeps Nothing w wx ∧ Shut (∀ s ∈ l.take t, isLife s = true)) (fun s3 _ => n - (intOf s3).toNat)
 case atStart => exact ⟨0, rfl, Nat.zero_le _, Nat.zero_le _, Keeps.refl _ _, shut (by simp)⟩
 case round =>
  obtain ⟨t, rfl, ht, ht2, K, HT⟩ := hrel
  by_cases hlt : t < n
  ·have m0 : (0 : Int) ≤ t := by omega
   have m1 : (t : Int) < n := by omega
   by_cases h65 : t < 65
   ·have m2 : (t : Int) < 65 := by omega
    obtain ⟨a, ha⟩ : ∃ a, l[t]? = some a := ⟨_, List.getElem?_eq_getElem (by rw [HN.out]; exact hlt)⟩
    obtain ⟨g1, o1, rfl, e1, hal⟩ := tx_cell (HX.out.keeps K (fun _ _ h => h) (fun _ h => h) (fun _ _ _ h => h)) ha
    have hc := fun W => rlife_any W a (by unfold bigN at hal; omega)
    have HA := shut ha
    clear ha hal
    obtain ⟨z, hz⟩ : ∃ z, isLife a = z := ⟨_, rfl⟩
    rw [hz] at hc
    have HZ := shut hz
    clear hz
    go_wp2_with fail
    refine (hc _).mono ?_
    rintro e w1 ⟨rfl, rfl⟩
    clear hc e1
    cases z with
    | true =>
     have HT2 := shut (all_take HA.out HT.out HZ.out)
     clear HZ
     go_wp2_with fail
     go_roundw
     case rel => exact ⟨t + 1, by go_num, by omega, by omega, K, HT2⟩
     case measure => simp [intOf]; omega
    | false =>
     have hno : Shut (¬ LivesP l) := shut (fun h => by have h2 := h.1 a (List.mem_of_getElem? HA.out); rw [HZ.out] at h2; cases h2)
     clear HZ
     go_wp2_with fail
     go_ret
     exact tells_f hno.out K
   ·have m2 : ¬ (t : Int) < 65 := by omega
    have m3 : ¬ (n : Int) ≤ 64 := by omega
    have hno : Shut (¬ LivesP l) := shut (fun h => by have := h.2; rw [HN.out] at this; omega)
    go_wp2_with fail
    go_ret
    exact tells_f hno.out K
  ·obtain rfl : t = n := by omega
   have m1 : ¬ (t : Int) < t := by omega
   have HALL := shut (all_of_take HN.out HT.out)
   by_cases h64 : t ≤ 64
   ·have m2 : (t : Int) ≤ 64 := by omega
    go_wp2_with fail
    go_ret
    exact tells_t ⟨HALL.out, by rw [HN.out]; exact h64⟩ K
   ·have m2 : ¬ (t : Int) ≤ 64 := by omega
    have hno : Shut (¬ LivesP l) := shut (fun h => h64 (by rw [← HN.out]; exact h.2))
    clear HALL
    go_wp2_with fail
    go_ret
    exact tells_f hno.out K
set_option maxRecDepth 100000 in
set_option maxHeartbeats 2000000 in
theorem rPlace_any {S : Nat → Prop} (a : PlD) (w : World) (cs : List Value) (ha : PlIs S w a cs) : Calls Tryz.prog 99 #[.agg cs.toArray] w (Tells w (PlP a)) := by
 obtain ⟨a_name, a_path⟩ := a
 have HP : Shut (PlP ⟨a_name, a_path⟩ ↔ (∀ s ∈ a_path, s = [42] ∨ isName s = true) ∧ isName a_name = true ∧ a_path.length ≤ 64) := shut Iff.rfl
 obtain ⟨X, hX⟩ : ∃ X, X = (⟨a_name, a_path⟩ : PlD) := ⟨_, rfl⟩
 rw [← hX] at HP ⊢
 clear hX
 have ag1 := agg_ok ha.len ha.one
 obtain ⟨p1, q1, hcs, ah_name, ah_path⟩ := ha
 have HCA := shut hcs
 clear hcs
 simp only at ah_name ah_path HCA
 obtain ⟨CA, hCA⟩ : ∃ C, C = cs.toArray := ⟨_, rfl⟩
 rw [← hCA] at ag1 ⊢
 rw [HCA.out] at hCA
 have GCA := shut hCA
 clear hCA HCA
 have KW : Keeps Nothing w (w.alloc (.cells CA 114)) := (Keeps.refl Nothing w).alloc _
 have BA := blk_new w CA 114
 go_enter Tryz.func99, Tryz.ntmps99
 go_upto_region 1 with fail
 clear ag1
 generalize w.heap.size = ga at *
 generalize w.alloc (.cells CA 114) = wb at *
 obtain ⟨n, hn⟩ : ∃ n, a_path.length = n := ⟨_, rfl⟩
 have hnb : n ≤ bigN := by rw [← hn]; exact ah_path.1
 unfold bigN at hnb
 rw [hn] at GCA HP
 have HN := shut hn
 clear hn
 go_wp2_with fail
 go_loopw [3] (fun s3 wx => ∃ t : Nat, s3 = .int .i64 t ∧ t ≤ n ∧ t ≤ 65 ∧ Keeps Nothing wb wx ∧ Shut (∀ s ∈ a_path.take t, s = [42] ∨ isName s = true)) (fun s3 _ => n - (intOf s3).toNat)
 case atStart => exact ⟨0, rfl, Nat.zero_le _, Nat.zero_le _, Keeps.refl _ _, shut (by simp)⟩
 case round =>
  obtain ⟨t, rfl, ht, ht2, KL, HT⟩ := hrel
  have BA := KL.blk BA (fun h => h)
  have KW := KW.trans KL (fun _ h _ => h)
  obtain ⟨ae0, ae1⟩ := PlB  GCA.out BA
  unfold txV at *
  by_cases hlt : t < n
  ·have m0 : (0 : Int) ≤ t := by omega
   have m1 : (t : Int) < n := by omega
   by_cases h65 : t < 65
   rotate_left
   ·have m2 : ¬ (t : Int) < 65 := by omega
    have m3 : ¬ (n : Int) ≤ 64 := by omega
    have hno : Shut (¬ PlP X) := shut (fun h => by have h2 := (HP.out.1 h).2.2; omega)
    have hc := fun W => rname_any W a_name (by unfold bigN at ah_name; omega)
    obtain ⟨z, hz⟩ : ∃ z, isName a_name = z := ⟨_, rfl⟩
    rw [hz] at hc
    clear HP hz
    go_wp2_with fail
    refine (hc _).mono ?_
    rintro e w1 ⟨rfl, k1⟩
    have ae1 := k1.cell ae1 (fun h => h)
    clear hc ae0
    cases z with
    | false =>
     go_wp2_with fail
     go_ret
     exact tells_f hno.out (KW.trans k1 (fun _ h _ => h))
    | true =>
     go_wp2_with fail
     go_ret
     exact tells_z (z := decide ((n : Int) ≤ 64)) ⟨fun h => by have h2 := of_decide_eq_true h; omega, fun h => absurd h hno.out⟩ (KW.trans k1 (fun _ h _ => h))
   have m2 : (t : Int) < 65 := by omega
   obtain ⟨a, ha⟩ : ∃ a, a_path[t]? = some a := ⟨_, List.getElem?_eq_getElem (by rw [HN.out]; exact hlt)⟩
   obtain ⟨g1, o1, rfl, e1, hal⟩ := tx_cell (ah_path.keeps KW (fun _ _ h => h) (fun _ h => h) (fun _ _ _ h => h)) ha
   have hc := fun W => rname_any W a (by unfold bigN at hal; omega)
   have HA := shut ha
   clear ha hal
   obtain ⟨z, hz⟩ : ∃ z, isName a = z := ⟨_, rfl⟩
   rw [hz] at hc
   have HZ := shut hz
   clear hz
   by_cases hst : a = [42]
   ·subst hst
    have HT2 := shut (all_take HA.out HT.out (.inl rfl))
    have hq : (([42] : List UInt8) == [42]) = true := rfl
    clear HZ hc
    go_wp2_with fail
    go_roundw
    case rel => exact ⟨t + 1, by go_num, by omega, by omega, KL, HT2⟩
    case measure => simp [intOf]; omega
   ·have hq : (a == [42]) = false := by rw [beq_eq_false_iff_ne]; exact hst
    have HS := shut hst
    clear hst
    go_wp2_with fail
    refine (hc _).mono ?_
    rintro e w1 ⟨rfl, k1⟩
    have KW := KW.trans k1 (fun _ h _ => h)
    have KL := KL.trans k1 (fun _ h _ => h)
    clear hc e1 ae0 ae1 k1
    cases z with
    | true =>
     have HT2 := shut (all_take HA.out HT.out (.inr HZ.out))
     clear HZ
     go_wp2_with fail
     go_roundw
     case rel => exact ⟨t + 1, by go_num, by omega, by omega, KL, HT2⟩
     case measure => simp [intOf]; omega
    | false =>
     have hno : Shut (¬ PlP X) := shut (fun h => by
      rcases (HP.out.1 h).1 a (List.mem_of_getElem? HA.out) with h2 | h2
      ·exact HS.out h2
      ·rw [HZ.out] at h2; cases h2)
     clear HZ HP
     go_wp2_with fail
     go_ret
     exact tells_f hno.out KW
  ·obtain rfl : t = n := by omega
   have m1 : ¬ (t : Int) < t := by omega
   have HALL := shut (all_of_take HN.out HT.out)
   have hc := fun W => rname_any W a_name (by unfold bigN at ah_name; omega)
   obtain ⟨z, hz⟩ : ∃ z, isName a_name = z := ⟨_, rfl⟩
   rw [hz] at hc HP
   clear hz
   go_wp2_with fail
   refine (hc _).mono ?_
   rintro e w1 ⟨rfl, k1⟩
   have ae1 := k1.cell ae1 (fun h => h)
   have KW := KW.trans k1 (fun _ h _ => h)
   clear hc ae0 k1
   cases z with
   | false =>
    have hno : Shut (¬ PlP X) := shut (fun h => by have h2 := (HP.out.1 h).2.1; cases h2)
    clear HP HALL
    go_wp2_with fail
    go_ret
    exact tells_f hno.out KW
   | true =>
    have hz : Shut (decide ((t : Int) ≤ 64) = true ↔ PlP X) := shut (by
     rw [decide_eq_true_iff, HP.out]
     exact ⟨fun h => ⟨HALL.out, by first | rfl | trivial, by omega⟩, fun h => by have := h.2.2; omega⟩)
    clear HP HALL
    go_wp2_with fail
    go_ret
    exact tells_z hz.out KW
set_option maxRecDepth 100000 in
set_option maxHeartbeats 2000000 in
theorem rnowhere_any {S : Nat → Prop} (a : PlD) (w : World) (cs : List Value) (ha : PlIs S w a cs) : Calls Tryz.prog 119 #[.agg cs.toArray] w (Tells w (a = ⟨[], []⟩)) := by
 obtain ⟨a_name, a_path⟩ := a
 have HP : Shut ((⟨a_name, a_path⟩ : PlD) = ⟨[], []⟩ ↔ a_name = [] ∧ a_path = []) := shut (by simp)
 obtain ⟨X, hX⟩ : ∃ X, X = ((⟨a_name, a_path⟩ : PlD) = ⟨[], []⟩) := ⟨_, rfl⟩
 rw [← hX] at HP ⊢
 clear hX
 have ag1 := agg_ok ha.len ha.one
 obtain ⟨p1, q1, hcs, ah_name, ah_path⟩ := ha
 have HCA := shut hcs
 clear hcs
 simp only at ah_name ah_path HCA
 obtain ⟨CA, hCA⟩ : ∃ C, C = cs.toArray := ⟨_, rfl⟩
 rw [← hCA] at ag1 ⊢
 rw [HCA.out] at hCA
 have GCA := shut hCA
 clear hCA HCA
 have KW : Keeps Nothing w (w.alloc (.cells CA 114)) := (Keeps.refl Nothing w).alloc _
 have BA := blk_new w CA 114
 go_enter Tryz.func119, Tryz.ntmps119
 go_upto_region 1 with fail
 clear ag1
 generalize w.heap.size = ga at *
 generalize w.alloc (.cells CA 114) = wb at *
 obtain ⟨ae0, ae1⟩ := PlB  GCA.out BA
 unfold txV at *
 by_cases h1 : a_name = []
 rotate_left
 ·have hq : (a_name == []) = false := by rw [beq_eq_false_iff_ne]; exact h1
  have hno : Shut (¬ X) := shut (fun h => h1 (HP.out.1 h).1)
  clear HP h1
  go_wp2_with fail
  go_ret
  exact tells_f hno.out KW
 subst h1
 have hq : (([] : List UInt8) == []) = true := rfl
 by_cases h2 : a_path = []
 rotate_left
 ·have hl : ¬ (a_path.length : Int) = 0 := by have := List.length_pos_iff.2 h2; omega
  have hlb : ((a_path.length : Int) == 0) = false := by rw [beq_eq_false_iff_ne]; exact hl
  have hno : Shut (¬ X) := shut (fun h => h2 (HP.out.1 h).2)
  clear HP h2
  go_wp2_with fail
  go_ret
  exact tells_f hno.out KW
 subst h2
 have hy : Shut X := shut (HP.out.2 ⟨rfl, rfl⟩)
 clear HP
 go_wp2_with fail
 go_ret
 exact tells_t hy.out KW
end Go.Proofs.YtjbcagbnagefcaaGreat
namespace Go.Proofs.YtjbcagbnagefcaaGreat
open Go.RowKit
attribute [local go_sem ↓] exec_mid_ty exec_store_ty exec_mid_pl exec_store_pl exec_mid_opr exec_store_opr exec_mid_val exec_store_val exec_mid_st exec_store_st exec_mid_fld exec_store_fld exec_mid_str exec_store_str exec_mid_lif exec_store_lif exec_mid_fun exec_store_fun exec_mid_cr exec_store_cr
attribute [local go_sem] rowOk_new World.setRow_alloc_new
set_option maxRecDepth 100000 in
set_option maxHeartbeats 4000000 in
theorem rkind_any {S : Nat → Prop} : ∀ (a : TyD) (w : World) (cs : List Value) (d : Int), 0 ≤ d → d ≤ 1000 → TyIs S w a cs → Calls Tryz.prog 71 #[.agg cs.toArray, .int .i64 d] w (Tells w (TyP a d)) := by
 refine TyD.ind ?_
 intro a_kind a_name a_lives a_elem ih w cs d hd0 hd1 ha
 have IH := shut ih
 clear ih
 have HP : Shut (TyP (.mk a_kind a_name a_lives a_elem) d ↔ d ≤ 64 ∧ ((a_kind = 3 ∧ DoubleP a_name ∧ LivesP a_lives ∧ a_elem = []) ∨ ((a_kind = 4 ∨ a_kind = 5) ∧ a_name = [] ∧ a_lives.length ≤ 1 ∧ LivesP a_lives ∧ TysP a_elem (d + 1)) ∨ ((a_kind = 1 ∨ a_kind = 2) ∧ a_name = [] ∧ a_lives = [] ∧ a_elem = []))) := shut (by unfold TyP; exact Iff.rfl)
 obtain ⟨X, hX⟩ : ∃ X, X = TyP (.mk a_kind a_name a_lives a_elem) d := ⟨_, rfl⟩
 rw [← hX] at HP ⊢
 clear hX
 have ag1 := agg_ok ha.len ha.one
 rw [tyIs_iff] at ha
 obtain ⟨p2, q2, p3, q3, hcs, ah_name, ah_lives, ah_elem⟩ := ha
 have HCA := shut hcs
 clear hcs
 simp only [TyD.kind, TyD.name, TyD.lives, TyD.elem] at ah_name ah_lives ah_elem HCA
 obtain ⟨CA, hCA⟩ : ∃ C, C = cs.toArray := ⟨_, rfl⟩
 rw [← hCA] at ag1 ⊢
 rw [HCA.out] at hCA
 have GCA := shut hCA
 clear hCA HCA
 have KW : Keeps Nothing w (w.alloc (.cells CA 53)) := (Keeps.refl Nothing w).alloc _
 have BA := blk_new w CA 53
 go_enter Tryz.func71, Tryz.ntmps71
 go_upto_region 1 with fail
 clear ag1
 generalize w.heap.size = ga at *
 generalize w.alloc (.cells CA 53) = wb at *
 by_cases hdeep : d ≤ 64
 rotate_left
 ·have m1 : 64 < d := by omega
  have hno : Shut (¬ X) := shut (fun h => hdeep (HP.out.1 h).1)
  clear HP
  go_wp2_with fail
  go_ret
  exact tells_f hno.out KW
 have m1 : ¬ 64 < d := by omega
 by_cases k3 : a_kind = 3
 ·subst k3
  have HQ : Shut (X ↔ DoubleP a_name ∧ LivesP a_lives ∧ a_elem = []) := shut (HP.out.trans (by simp [hdeep]))
  clear HP
  obtain ⟨ae0, ae1, -, -⟩ := TyB  GCA.out BA
  unfold txV at *
  have hc := rlong_any wb a_name ah_name
  go_wp2_with fail
  refine hc.mono ?_
  rintro e w1 ⟨⟨z, rfl, hz⟩, k1⟩
  have KW := KW.trans k1 (fun _ h _ => h)
  have BA := k1.blk BA (fun h => h)
  clear hc k1 ae0 ae1
  cases z with
  | false =>
   have hno : Shut (¬ X) := shut (fun h => by have h2 := hz.2 (HQ.out.1 h).1; cases h2)
   clear HQ hz GCA BA
   go_wp2_with fail
   go_ret
   exact tells_f hno.out KW
  | true =>
   have H1 := shut (hz.1 rfl)
   clear hz
   obtain ⟨-, -, ae2, -⟩ := TyB  GCA.out BA
   have hc := rlives_any w1 q2 (ah_lives.keeps KW (fun _ _ h => h) (fun _ h => h) (fun _ _ _ h => h))
   go_wp2_with fail
   refine hc.mono ?_
   rintro e w2 ⟨⟨z, rfl, hz⟩, k2⟩
   have KW := KW.trans k2 (fun _ h _ => h)
   have BA := k2.blk BA (fun h => h)
   clear hc k2 ae2
   cases z with
   | false =>
    have hno : Shut (¬ X) := shut (fun h => by have h2 := hz.2 (HQ.out.1 h).2.1; cases h2)
    clear HQ hz GCA BA
    go_wp2_with fail
    go_ret
    exact tells_f hno.out KW
   | true =>
    have H2 := shut (hz.1 rfl)
    clear hz
    obtain ⟨-, -, -, ae3⟩ := TyB  GCA.out BA
    by_cases he : a_elem = []
    ·subst he
     have hy : Shut X := shut (HQ.out.2 ⟨H1.out, H2.out, rfl⟩)
     clear HQ H1 H2
     go_wp2_with fail
     go_ret
     exact tells_t hy.out KW
    ·have hl : ¬ (a_elem.length : Int) = 0 := by have := List.length_pos_iff.2 he; omega
     have hlb : ((a_elem.length : Int) == 0) = false := by rw [beq_eq_false_iff_ne]; exact hl
     have hno : Shut (¬ X) := shut (fun h => he (HQ.out.1 h).2.2)
     clear HQ H1 H2 he
     go_wp2_with fail
     go_ret
     exact tells_f hno.out KW
 by_cases k45 : a_kind = 4 ∨ a_kind = 5
 ·have HQ : Shut (X ↔ a_name = [] ∧ a_lives.length ≤ 1 ∧ LivesP a_lives ∧ TysP a_elem (d + 1)) := shut (HP.out.trans (by
   constructor
   ·rintro ⟨_, h | h | h⟩
    ·exact absurd h.1 k3
    ·exact h.2
    ·omega
   ·intro h
    exact ⟨hdeep, .inr (.inl ⟨k45, h⟩)⟩))
  clear HP
  have wd : IntKind.i64.wrap (d + 1) = d + 1 := by rw [IntKind.wrap_i64]; omega
  rcases k45 with rfl | rfl
  all_goals
   obtain ⟨ae0, ae1, ae2, -⟩ := TyB  GCA.out BA
   unfold txV at *
   by_cases h1 : a_name = []
   rotate_left
   ·have hq : (a_name == []) = false := by rw [beq_eq_false_iff_ne]; exact h1
    have hno : Shut (¬ X) := shut (fun h => h1 (HQ.out.1 h).1)
    clear HQ h1
    go_wp2_with fail
    go_ret
    exact tells_f hno.out KW
   subst h1
   have hq : (([] : List UInt8) == []) = true := rfl
   by_cases h2 : a_lives.length ≤ 1
   rotate_left
   ·have hl : ¬ (a_lives.length : Int) ≤ 1 := by omega
    have hno : Shut (¬ X) := shut (fun h => h2 (HQ.out.1 h).2.1)
    clear HQ h2
    go_wp2_with fail
    go_ret
    exact tells_f hno.out KW
   have hl : (a_lives.length : Int) ≤ 1 := by omega
   have hc := rlives_any wb q2 (ah_lives.keeps KW (fun _ _ h => h) (fun _ h => h) (fun _ _ _ h => h))
   go_wp2_with fail
   refine hc.mono ?_
   rintro e w1 ⟨⟨z, rfl, hz⟩, k1⟩
   have KW := KW.trans k1 (fun _ h _ => h)
   have BA := k1.blk BA (fun h => h)
   clear hc k1 ae0 ae1 ae2
   cases z with
   | false =>
    have hno : Shut (¬ X) := shut (fun h => by have h3 := hz.2 (HQ.out.1 h).2.2.1; cases h3)
    clear HQ hz GCA BA
    go_wp2_with fail
    go_ret
    exact tells_f hno.out KW
   | true =>
    have H1 := shut (hz.1 rfl)
    clear hz
    obtain ⟨-, -, -, ae3⟩ := TyB  GCA.out BA
    by_cases he : a_elem.length = 1
    rotate_left
    ·have hle : ¬ (a_elem.length : Int) = 1 := by omega
     have hno : Shut (¬ X) := shut (fun h => by
      have h4 := (HQ.out.1 h).2.2.2
      cases a_elem with
      | nil => unfold TysP at h4; exact h4
      | cons t r => unfold TysP at h4; obtain ⟨rfl, _⟩ := h4; exact he rfl)
     clear HQ H1 he
     go_wp2_with fail
     go_ret
     exact tells_f hno.out KW
    obtain ⟨t, rfl⟩ : ∃ t, a_elem = [t] := by
     cases a_elem with
     | nil => cases he
     | cons t r =>
      cases r with
      | nil => exact ⟨t, rfl⟩
      | cons _ _ => simp at he
    have HT : Shut (TysP [t] (d + 1) ↔ TyP t (d + 1)) := shut (by unfold TysP; simp)
    obtain ⟨g1, o1, rfl, -, cs1, l1, r1, i1⟩ := (ah_elem.keeps KW (fun _ _ h => h) (fun _ h => h) (fun _ _ _ h => h.keeps KW (fun _ _ h => h) (fun _ h => h))).get (j := 0) (d := t) rfl
    rw [Nat.zero_mul, Nat.add_zero] at r1
    obtain ⟨f1, f2⟩ := sub_of r1 l1
    have hc := IH.out t (by simp) w1 cs1 (d + 1) (by omega) (by omega) i1
    generalize cs1.toArray = C1 at *
    go_wp2_with fail
    refine hc.mono ?_
    rintro e w2 ⟨⟨z, rfl, hz⟩, k2⟩
    have hz2 : Shut (z = true ↔ X) := shut (by
     rw [HQ.out, HT.out]
     exact ⟨fun h => ⟨by first | rfl | trivial, h2, H1.out, hz.1 h⟩, fun h => hz.2 h.2.2.2⟩)
    clear hc hz HQ HT H1 f1 f2 r1 i1
    go_wp2_with fail
    go_ret
    exact tells_z hz2.out (KW.trans k2 (fun _ h _ => h))
 by_cases k12 : a_kind = 1 ∨ a_kind = 2
 ·have HQ : Shut (X ↔ a_name = [] ∧ a_lives = [] ∧ a_elem = []) := shut (HP.out.trans (by
   constructor
   ·rintro ⟨_, h | h | h⟩
    ·exact absurd h.1 k3
    ·exact absurd h.1 k45
    ·exact h.2
   ·intro h
    exact ⟨hdeep, .inr (.inr ⟨k12, h⟩)⟩))
  clear HP
  rcases k12 with rfl | rfl
  all_goals
   obtain ⟨ae0, ae1, ae2, ae3⟩ := TyB  GCA.out BA
   unfold txV at *
   by_cases h1 : a_name = []
   rotate_left
   ·have hq : (a_name == []) = false := by rw [beq_eq_false_iff_ne]; exact h1
    have hno : Shut (¬ X) := shut (fun h => h1 (HQ.out.1 h).1)
    clear HQ h1
    go_wp2_with fail
    go_ret
    exact tells_f hno.out KW
   subst h1
   have hq : (([] : List UInt8) == []) = true := rfl
   by_cases h2 : a_lives = []
   rotate_left
   ·have hl : ¬ (a_lives.length : Int) = 0 := by have := List.length_pos_iff.2 h2; omega
    have hlb : ((a_lives.length : Int) == 0) = false := by rw [beq_eq_false_iff_ne]; exact hl
    have hno : Shut (¬ X) := shut (fun h => h2 (HQ.out.1 h).2.1)
    clear HQ h2
    go_wp2_with fail
    go_ret
    exact tells_f hno.out KW
   subst h2
   by_cases h3 : a_elem = []
   rotate_left
   ·have hl : ¬ (a_elem.length : Int) = 0 := by have := List.length_pos_iff.2 h3; omega
    have hlb : ((a_elem.length : Int) == 0) = false := by rw [beq_eq_false_iff_ne]; exact hl
    have hno : Shut (¬ X) := shut (fun h => h3 (HQ.out.1 h).2.2)
    clear HQ h3
    go_wp2_with fail
    go_ret
    exact tells_f hno.out KW
   subst h3
   have hy : Shut X := shut (HQ.out.2 ⟨rfl, rfl, rfl⟩)
   clear HQ
   go_wp2_with fail
   go_ret
   exact tells_t hy.out KW
 have hno : Shut (¬ X) := shut (fun h => by
  obtain ⟨_, h2⟩ := HP.out.1 h
  rcases h2 with h2 | h2 | h2
  ·exact k3 h2.1
  ·exact k45 h2.1
  ·exact k12 h2.1)
 clear HP
 have n1 : ¬ a_kind = 1 := fun h => k12 (.inl h)
 have n2 : ¬ a_kind = 2 := fun h => k12 (.inr h)
 have n4 : ¬ a_kind = 4 := fun h => k45 (.inl h)
 have n5 : ¬ a_kind = 5 := fun h => k45 (.inr h)
 clear k45 k12
 obtain ⟨ae0, -, -, -⟩ := TyB  GCA.out BA
 go_wp2_with fail
 go_ret
 exact tells_f hno.out KW
set_option maxRecDepth 100000 in
set_option maxHeartbeats 4000000 in
theorem rparts_any (w : World) {S : Nat → Prop} {ao : Option Addr} {l : List FldD} (c : Nat) (mt : Bool) (h : SlIs S w 6 (FldIs S w) ao l) : Calls Tryz.prog 47 #[.slice ao l.length c, .bool mt] w (Tells w (FldsP l mt)) := by
 have hl := h.1
 unfold bigN at hl
 have HX := shut h
 clear h
 obtain ⟨n, hn⟩ : ∃ n, l.length = n := ⟨_, rfl⟩
 rw [hn] at hl ⊢
 have HN := shut hn
 clear hn
 go_enter Tryz.func47, Tryz.ntmps47
 go_wp2_with fail
 go_loopw [5] (fun s5 wx => ∃ t : Nat, s5 = .int .i64 t ∧ t ≤ n ∧ t ≤ 65 ∧ Keeps Nothing w wx ∧ Shut (∀ f ∈ l.take t, FldP mt f)) (fun s5 _ => n - (intOf s5).toNat)
 case atStart => exact ⟨0, rfl, Nat.zero_le _, Nat.zero_le _, Keeps.refl _ _, shut (by simp)⟩
 case round =>
  obtain ⟨t, rfl, ht, ht2, KL, HT⟩ := hrel
  by_cases hlt : t < n
  ·have m0 : (0 : Int) ≤ t := by omega
   have m1 : (t : Int) < n := by omega
   by_cases h65 : t < 65
   rotate_left
   ·have m2 : ¬ (t : Int) < 65 := by omega
    have m3 : ¬ (n : Int) ≤ 64 := by omega
    have hno : Shut (¬ FldsP l mt) := shut (fun h => by have := h.2; rw [HN.out] at this; omega)
    go_wp2_with fail
    go_ret
    exact tells_f hno.out KL
   have m2 : (t : Int) < 65 := by omega
   obtain ⟨d, hd⟩ : ∃ d, l[t]? = some d := ⟨_, List.getElem?_eq_getElem (by rw [HN.out]; exact hlt)⟩
   obtain ⟨g1, o1, rfl, -, cs, l1, r1, ha⟩ := (HX.out.keeps KL (fun _ _ h => h) (fun _ h => h) (fun _ _ _ h => h.keeps KL (fun _ _ h => h) (fun _ h => h))).get hd
   have HD := shut hd
   clear hd
   obtain ⟨a_mu, a_name, a_ty⟩ := d
   obtain ⟨s2, hcs, ah_name, ah_ty⟩ := ha
   rw [hcs] at r1
   simp only at ah_name ah_ty r1
   have al_ty := ah_ty.len
   have HR1 := shut r1
   clear r1 hcs l1
   have HP : Shut (FldP mt ⟨a_mu, a_name, a_ty⟩ ↔ (a_mu = true → mt = true) ∧ isName a_name = true ∧ TyP a_ty 1) := shut Iff.rfl
   obtain ⟨X, hX⟩ : ∃ X, X = (⟨a_mu, a_name, a_ty⟩ : FldD) := ⟨_, rfl⟩
   rw [← hX] at HP HD
   clear hX
   have hout : Shut (¬ FldP mt X → ¬ FldsP l mt) := shut (fun h h2 => h (h2.1 X (List.mem_of_getElem? HD.out)))
   have hc1 := rname_any wr a_name (by unfold bigN at ah_name; omega)
   obtain ⟨z1, hz1⟩ : ∃ z, isName a_name = z := ⟨_, rfl⟩
   rw [hz1] at hc1 HP
   clear hz1
   obtain ⟨ae0, ae1, ae2, af2⟩ := FldR al_ty HR1.out
   unfold txV at *
   by_cases hmu : a_mu = true ∧ mt = false
   ·obtain ⟨rfl, rfl⟩ := hmu
    have hno := shut (hout.out (fun h => by have h2 := (HP.out.1 h).1 rfl; cases h2))
    clear HP hout hc1
    go_wp2_with fail
    go_ret
    exact tells_f hno.out KL
   have hmu2 : Shut (a_mu = true → mt = true) := shut (fun h => by cases mt with | true => rfl | false => exact absurd ⟨h, rfl⟩ hmu)
   have hcs : (a_mu = false) ∨ (a_mu = true ∧ mt = true) := by cases a_mu with | false => exact .inl rfl | true => exact .inr ⟨rfl, hmu2.out rfl⟩
   clear hmu
   rcases hcs with rfl | ⟨rfl, rfl⟩
   all_goals
    go_wp2_with fail
    refine hc1.mono ?_
    rintro e w1 ⟨rfl, k1⟩
    have r1 := rangeAt_keeps HR1.out k1 (fun h => h)
    have ah_ty := ah_ty.keeps k1 (fun _ _ h => h) (fun _ h => h)
    have KW := KL.trans k1 (fun _ h _ => h)
    clear hc1 ae0 ae1 ae2 af2 k1
    cases z1 with
    | false =>
     have hno := shut (hout.out (fun h => by have h2 := (HP.out.1 h).2.1; cases h2))
     clear HP hout hmu2 r1
     go_wp2_with fail
     go_ret
     exact tells_f hno.out KW
    | true =>
     obtain ⟨ae0, ae1, ae2, af2⟩ := FldR al_ty r1
     have hc := rkind_any a_ty w1 s2 1 (by omega) (by omega) ah_ty
     clear r1
     go_wp2_with fail
     refine hc.mono ?_
     rintro e w2 ⟨⟨z, rfl, hz⟩, k2⟩
     have KW := KW.trans k2 (fun _ h _ => h)
     clear hc k2 ae0 ae1 ae2 af2
     cases z with
     | false =>
      have hno := shut (hout.out (fun h => by have h2 := hz.2 (HP.out.1 h).2.2; cases h2))
      clear HP hout hz hmu2
      go_wp2_with fail
      go_ret
      exact tells_f hno.out KW
     | true =>
      have HT2 := shut (all_take HD.out HT.out (HP.out.2 ⟨hmu2.out, (by first | rfl | trivial), hz.1 rfl⟩))
      clear HP hout hz hmu2
      go_wp2_with fail
      go_roundw
      case rel => exact ⟨t + 1, by go_num, by omega, by omega, KW, HT2⟩
      case measure => simp [intOf]; omega
  ·obtain rfl : t = n := by omega
   have m1 : ¬ (t : Int) < t := by omega
   have HALL := shut (all_of_take HN.out HT.out)
   by_cases h64 : t ≤ 64
   ·have m2 : (t : Int) ≤ 64 := by omega
    go_wp2_with fail
    go_ret
    exact tells_t ⟨HALL.out, by rw [HN.out]; exact h64⟩ KL
   ·have m2 : ¬ (t : Int) ≤ 64 := by omega
    have hno : Shut (¬ FldsP l mt) := shut (fun h => h64 (by rw [← HN.out]; exact h.2))
    clear HALL
    go_wp2_with fail
    go_ret
    exact tells_f hno.out KL
set_option maxRecDepth 100000 in
set_option maxHeartbeats 4000000 in
theorem roper_any {S : Nat → Prop} (a : OprD) (w : World) (cs : List Value) (ha : OprIs S w a cs) : Calls Tryz.prog 101 #[.agg cs.toArray] w (Tells w (OprP a)) := by
 obtain ⟨a_kind, a_n, a_place⟩ := a
 have HP : Shut (OprP ⟨a_kind, a_n, a_place⟩ ↔ (a_kind = 1 ∧ a_place = zeroPl ∧ 0 ≤ a_n ∧ a_n ≤ 2147483647) ∨ (a_kind = 2 ∧ a_place = zeroPl ∧ (a_n = 0 ∨ a_n = 1)) ∨ (a_kind = 3 ∧ a_n = 0 ∧ PlP a_place)) := shut Iff.rfl
 obtain ⟨X, hX⟩ : ∃ X, X = OprP ⟨a_kind, a_n, a_place⟩ := ⟨_, rfl⟩
 rw [← hX] at HP ⊢
 clear hX
 have ag1 := agg_ok ha.len ha.one
 obtain ⟨s2, hcs, ah_place⟩ := ha
 have HCA := shut hcs
 clear hcs
 simp only at ah_place HCA
 obtain ⟨CA, hCA⟩ : ∃ C, C = cs.toArray := ⟨_, rfl⟩
 rw [← hCA] at ag1 ⊢
 rw [HCA.out] at hCA
 have GCA := shut hCA
 clear hCA HCA
 have al_place := ah_place.len
 have KW : Keeps Nothing w (w.alloc (.cells CA 116)) := (Keeps.refl Nothing w).alloc _
 have BA := blk_new w CA 116
 go_enter Tryz.func101, Tryz.ntmps101
 go_upto_region 1 with fail
 clear ag1
 generalize w.heap.size = ga at *
 generalize w.alloc (.cells CA 116) = wb at *
 obtain ⟨ae0, ae1, ⟨ae2, af2⟩⟩ := OprB al_place GCA.out BA
 have hc : Calls Tryz.prog 119 #[.agg s2.toArray] wb (Tells wb (a_place = zeroPl)) := rnowhere_any a_place wb s2 (ah_place.keeps KW (fun _ _ h => h) (fun _ h => h))
 have hcp := rPlace_any a_place wb s2 (ah_place.keeps KW (fun _ _ h => h) (fun _ h => h))
 by_cases k1 : a_kind = 1
 ·subst k1
  have HQ : Shut (X ↔ a_place = zeroPl ∧ 0 ≤ a_n ∧ a_n ≤ 2147483647) := shut (by rw [HP.out]; simp)
  clear HP hcp
  by_cases h0 : 0 ≤ a_n
  rotate_left
  ·have hno : Shut (¬ X) := shut (fun h => h0 (HQ.out.1 h).2.1)
   clear HQ hc
   go_wp2_with fail
   go_ret
   exact tells_f hno.out KW
  by_cases h1 : a_n ≤ 2147483647
  rotate_left
  ·have hno : Shut (¬ X) := shut (fun h => h1 (HQ.out.1 h).2.2)
   clear HQ hc
   go_wp2_with fail
   go_ret
   exact tells_f hno.out KW
  go_wp2_with fail
  refine hc.mono ?_
  rintro e w1 ⟨⟨z, rfl, hz⟩, k1⟩
  have hz2 : Shut (z = true ↔ X) := shut (by rw [HQ.out, ← hz]; exact ⟨fun h => ⟨h, h0, h1⟩, fun h => h.1⟩)
  clear hc hz HQ ae0 ae1 ae2 af2
  go_wp2_with fail
  go_ret
  exact tells_z hz2.out (KW.trans k1 (fun _ h _ => h))
 by_cases k2 : a_kind = 2
 ·subst k2
  have HQ : Shut (X ↔ a_place = zeroPl ∧ (a_n = 0 ∨ a_n = 1)) := shut (by rw [HP.out]; simp)
  clear HP hcp
  by_cases h01 : a_n = 0 ∨ a_n = 1
  rotate_left
  ·have hno : Shut (¬ X) := shut (fun h => h01 (HQ.out.1 h).2)
   have hb0 : (a_n == 0) = false := by rw [beq_eq_false_iff_ne]; omega
   have hb1 : (a_n == 1) = false := by rw [beq_eq_false_iff_ne]; omega
   clear HQ hc h01
   go_wp2_with fail
   go_ret
   exact tells_f hno.out KW
  have HQ2 : Shut (X ↔ a_place = zeroPl) := shut (HQ.out.trans ⟨fun h => h.1, fun h => ⟨h, h01⟩⟩)
  clear HQ
  rcases h01 with rfl | rfl
  all_goals
   go_wp2_with fail
   refine hc.mono ?_
   rintro e w1 ⟨⟨z, rfl, hz⟩, k1⟩
   have hz2 : Shut (z = true ↔ X) := shut (by rw [HQ2.out, ← hz])
   clear hc hz HQ2 ae0 ae1 ae2 af2
   go_wp2_with fail
   go_ret
   exact tells_z hz2.out (KW.trans k1 (fun _ h _ => h))
 by_cases k3 : a_kind = 3
 ·subst k3
  have HQ : Shut (X ↔ a_n = 0 ∧ PlP a_place) := shut (by rw [HP.out]; simp)
  clear HP hc
  by_cases h0 : a_n = 0
  ·subst h0
   go_wp2_with fail
   refine hcp.mono ?_
   rintro e w1 ⟨⟨z, rfl, hz⟩, k1⟩
   have hz2 : Shut (z = true ↔ X) := shut (by rw [HQ.out, ← hz]; simp)
   clear hcp hz HQ ae0 ae1 ae2 af2
   go_wp2_with fail
   go_ret
   exact tells_z hz2.out (KW.trans k1 (fun _ h _ => h))
  ·have hno : Shut (¬ X) := shut (fun h => h0 (HQ.out.1 h).1)
   have hb0 : (a_n == 0) = false := by rw [beq_eq_false_iff_ne]; exact h0
   clear HQ hcp
   go_wp2_with fail
   go_ret
   exact tells_f hno.out KW
 have hno : Shut (¬ X) := shut (fun h => by
  rcases HP.out.1 h with h2 | h2 | h2
  ·exact k1 h2.1
  ·exact k2 h2.1
  ·exact k3 h2.1)
 clear HP hc hcp
 go_wp2_with fail
 go_ret
 exact tells_f hno.out KW
end Go.Proofs.YtjbcagbnagefcaaGreat
namespace Go.Proofs.YtjbcagbnagefcaaGreat
open Go.RowKit
def RC (a : StD) (d : Int) (ok tf oth : Bool) (v : StD) : Prop :=
 ok = true ∧ (((a.kind = 1 ∨ a.kind = 10) ∧ a.has = true) → ValP a.val) ∧ (if (a.kind = 1 ∨ a.kind = 10) ∧ a.has = true then StD.mk v.kind v.pos v.mu v.name v.ty false v.place zeroVal v.cond v.thn v.els else v) = zeroSt ∧ (tf = false → a.thn = []) ∧ (oth = false → a.els = []) ∧ (tf = true → BlP a.thn (d + 1)) ∧ (oth = true → BlP a.els (d + 1))
def RF (a : StD) (d : Int) (ok tf oth : Bool) (v : StD) : Prop :=
 ok = true ∧ v = zeroSt ∧ (tf = false → a.thn = []) ∧ (oth = false → a.els = []) ∧ (tf = true → BlP a.thn (d + 1)) ∧ (oth = true → BlP a.els (d + 1))
theorem rc_ok (a : StD) (d : Int) (z tf oth : Bool) (v : StD) : RC a d z tf oth v ↔ z = true ∧ RC a d true tf oth v := by
 unfold RC
 simp
theorem rc_no {a : StD} {d : Int} {ok tf oth : Bool} {v : StD} (h : ¬ ((a.kind = 1 ∨ a.kind = 10) ∧ a.has = true)) : RC a d ok tf oth v ↔ RF a d ok tf oth v := by
 unfold RC RF
 rw [if_neg h]
 exact ⟨fun ⟨h1, _, h3⟩ => ⟨h1, h3⟩, fun ⟨h1, h3⟩ => ⟨h1, fun h2 => absurd h2 h, h3⟩⟩
theorem rc_yes {a : StD} {d : Int} {ok tf oth z : Bool} {v : StD} (h : (a.kind = 1 ∨ a.kind = 10) ∧ a.has = true) (hz : z = true ↔ ok = true ∧ ValP a.val) : RC a d ok tf oth v ↔ RF a d z tf oth (.mk v.kind v.pos v.mu v.name v.ty false v.place zeroVal v.cond v.thn v.els) := by
 unfold RC RF
 rw [if_pos h, hz]
 exact ⟨fun ⟨h1, h2, h3⟩ => ⟨⟨h1, h2 h⟩, h3⟩, fun ⟨⟨h1, h2⟩, h3⟩ => ⟨h1, fun _ => h2, h3⟩⟩
set_option linter.unusedSimpArgs false in
theorem rc_1 (x_pos : Int) (x_mu : Bool) (x_name : List UInt8) (x_ty : TyD) (x_has : Bool) (x_place : PlD) (x_val : ValD) (x_cond : OprD) (x_thn : List (StD)) (x_els : List (StD)) (d : Int) : StP (.mk 1 x_pos x_mu x_name x_ty x_has x_place x_val x_cond x_thn x_els) d ↔ (isName x_name = true ∧ TyP x_ty 1) ∧ RC (.mk 1 x_pos x_mu x_name x_ty x_has x_place x_val x_cond x_thn x_els) d true false false (.mk 0 0 false [] zeroTy x_has x_place x_val x_cond [] []) := by
 unfold StP RC optD zeroSt BlP VldP
 simp only [StD.kind, StD.pos, StD.mu, StD.name, StD.ty, StD.has, StD.place, StD.val, StD.cond, StD.thn, StD.els, StD.mk.injEq]
 cases x_has <;> simp <;> grind
set_option linter.unusedSimpArgs false in
theorem rc_2 (x_pos : Int) (x_mu : Bool) (x_name : List UInt8) (x_ty : TyD) (x_has : Bool) (x_place : PlD) (x_val : ValD) (x_cond : OprD) (x_thn : List (StD)) (x_els : List (StD)) (d : Int) : StP (.mk 2 x_pos x_mu x_name x_ty x_has x_place x_val x_cond x_thn x_els) d ↔ (PlP x_place ∧ ValP x_val) ∧ RC (.mk 2 x_pos x_mu x_name x_ty x_has x_place x_val x_cond x_thn x_els) d true false false (.mk 0 0 x_mu x_name x_ty x_has zeroPl zeroVal x_cond [] []) := by
 unfold StP RC optD zeroSt BlP VldP
 simp only [StD.kind, StD.pos, StD.mu, StD.name, StD.ty, StD.has, StD.place, StD.val, StD.cond, StD.thn, StD.els, StD.mk.injEq]
 cases x_has <;> simp <;> grind
set_option linter.unusedSimpArgs false in
theorem rc_3 (x_pos : Int) (x_mu : Bool) (x_name : List UInt8) (x_ty : TyD) (x_has : Bool) (x_place : PlD) (x_val : ValD) (x_cond : OprD) (x_thn : List (StD)) (x_els : List (StD)) (d : Int) : StP (.mk 3 x_pos x_mu x_name x_ty x_has x_place x_val x_cond x_thn x_els) d ↔ (ValP x_val ∧ x_val.kind = 6) ∧ RC (.mk 3 x_pos x_mu x_name x_ty x_has x_place x_val x_cond x_thn x_els) d true false false (.mk 0 0 x_mu x_name x_ty x_has x_place zeroVal x_cond [] []) := by
 unfold StP RC optD zeroSt BlP VldP
 simp only [StD.kind, StD.pos, StD.mu, StD.name, StD.ty, StD.has, StD.place, StD.val, StD.cond, StD.thn, StD.els, StD.mk.injEq]
 cases x_has <;> simp <;> grind
set_option linter.unusedSimpArgs false in
theorem rc_4 (x_pos : Int) (x_mu : Bool) (x_name : List UInt8) (x_ty : TyD) (x_has : Bool) (x_place : PlD) (x_val : ValD) (x_cond : OprD) (x_thn : List (StD)) (x_els : List (StD)) (d : Int) : StP (.mk 4 x_pos x_mu x_name x_ty x_has x_place x_val x_cond x_thn x_els) d ↔ (OprP x_cond) ∧ RC (.mk 4 x_pos x_mu x_name x_ty x_has x_place x_val x_cond x_thn x_els) d true true x_has (.mk 0 0 x_mu x_name x_ty false x_place x_val zeroOpr [] []) := by
 unfold StP RC optD zeroSt BlP VldP
 simp only [StD.kind, StD.pos, StD.mu, StD.name, StD.ty, StD.has, StD.place, StD.val, StD.cond, StD.thn, StD.els, StD.mk.injEq]
 cases x_has <;> simp <;> grind
set_option linter.unusedSimpArgs false in
theorem rc_5 (x_pos : Int) (x_mu : Bool) (x_name : List UInt8) (x_ty : TyD) (x_has : Bool) (x_place : PlD) (x_val : ValD) (x_cond : OprD) (x_thn : List (StD)) (x_els : List (StD)) (d : Int) : StP (.mk 5 x_pos x_mu x_name x_ty x_has x_place x_val x_cond x_thn x_els) d ↔ (OprP x_cond) ∧ RC (.mk 5 x_pos x_mu x_name x_ty x_has x_place x_val x_cond x_thn x_els) d true true false (.mk 0 0 x_mu x_name x_ty x_has x_place x_val zeroOpr [] []) := by
 unfold StP RC optD zeroSt BlP VldP
 simp only [StD.kind, StD.pos, StD.mu, StD.name, StD.ty, StD.has, StD.place, StD.val, StD.cond, StD.thn, StD.els, StD.mk.injEq]
 cases x_has <;> simp <;> grind
set_option linter.unusedSimpArgs false in
theorem rc_6 (x_pos : Int) (x_mu : Bool) (x_name : List UInt8) (x_ty : TyD) (x_has : Bool) (x_place : PlD) (x_val : ValD) (x_cond : OprD) (x_thn : List (StD)) (x_els : List (StD)) (d : Int) : StP (.mk 6 x_pos x_mu x_name x_ty x_has x_place x_val x_cond x_thn x_els) d ↔ (True) ∧ RC (.mk 6 x_pos x_mu x_name x_ty x_has x_place x_val x_cond x_thn x_els) d true true false (.mk 0 0 x_mu x_name x_ty x_has x_place x_val x_cond [] []) := by
 unfold StP RC optD zeroSt BlP VldP
 simp only [StD.kind, StD.pos, StD.mu, StD.name, StD.ty, StD.has, StD.place, StD.val, StD.cond, StD.thn, StD.els, StD.mk.injEq]
 cases x_has <;> simp <;> grind
set_option linter.unusedSimpArgs false in
theorem rc_7 (x_pos : Int) (x_mu : Bool) (x_name : List UInt8) (x_ty : TyD) (x_has : Bool) (x_place : PlD) (x_val : ValD) (x_cond : OprD) (x_thn : List (StD)) (x_els : List (StD)) (d : Int) : StP (.mk 7 x_pos x_mu x_name x_ty x_has x_place x_val x_cond x_thn x_els) d ↔ (True) ∧ RC (.mk 7 x_pos x_mu x_name x_ty x_has x_place x_val x_cond x_thn x_els) d true true false (.mk 0 0 x_mu x_name x_ty x_has x_place x_val x_cond [] []) := by
 unfold StP RC optD zeroSt BlP VldP
 simp only [StD.kind, StD.pos, StD.mu, StD.name, StD.ty, StD.has, StD.place, StD.val, StD.cond, StD.thn, StD.els, StD.mk.injEq]
 cases x_has <;> simp <;> grind
set_option linter.unusedSimpArgs false in
theorem rc_8 (x_pos : Int) (x_mu : Bool) (x_name : List UInt8) (x_ty : TyD) (x_has : Bool) (x_place : PlD) (x_val : ValD) (x_cond : OprD) (x_thn : List (StD)) (x_els : List (StD)) (d : Int) : StP (.mk 8 x_pos x_mu x_name x_ty x_has x_place x_val x_cond x_thn x_els) d ↔ (True) ∧ RC (.mk 8 x_pos x_mu x_name x_ty x_has x_place x_val x_cond x_thn x_els) d true false false (.mk 0 0 x_mu x_name x_ty x_has x_place x_val x_cond [] []) := by
 unfold StP RC optD zeroSt BlP VldP
 simp only [StD.kind, StD.pos, StD.mu, StD.name, StD.ty, StD.has, StD.place, StD.val, StD.cond, StD.thn, StD.els, StD.mk.injEq]
 cases x_has <;> simp <;> grind
set_option linter.unusedSimpArgs false in
theorem rc_9 (x_pos : Int) (x_mu : Bool) (x_name : List UInt8) (x_ty : TyD) (x_has : Bool) (x_place : PlD) (x_val : ValD) (x_cond : OprD) (x_thn : List (StD)) (x_els : List (StD)) (d : Int) : StP (.mk 9 x_pos x_mu x_name x_ty x_has x_place x_val x_cond x_thn x_els) d ↔ (True) ∧ RC (.mk 9 x_pos x_mu x_name x_ty x_has x_place x_val x_cond x_thn x_els) d true false false (.mk 0 0 x_mu x_name x_ty x_has x_place x_val x_cond [] []) := by
 unfold StP RC optD zeroSt BlP VldP
 simp only [StD.kind, StD.pos, StD.mu, StD.name, StD.ty, StD.has, StD.place, StD.val, StD.cond, StD.thn, StD.els, StD.mk.injEq]
 cases x_has <;> simp <;> grind
set_option linter.unusedSimpArgs false in
theorem rc_10 (x_pos : Int) (x_mu : Bool) (x_name : List UInt8) (x_ty : TyD) (x_has : Bool) (x_place : PlD) (x_val : ValD) (x_cond : OprD) (x_thn : List (StD)) (x_els : List (StD)) (d : Int) : StP (.mk 10 x_pos x_mu x_name x_ty x_has x_place x_val x_cond x_thn x_els) d ↔ (True) ∧ RC (.mk 10 x_pos x_mu x_name x_ty x_has x_place x_val x_cond x_thn x_els) d true false false (.mk 0 0 x_mu x_name x_ty x_has x_place x_val x_cond [] []) := by
 unfold StP RC optD zeroSt BlP VldP
 simp only [StD.kind, StD.pos, StD.mu, StD.name, StD.ty, StD.has, StD.place, StD.val, StD.cond, StD.thn, StD.els, StD.mk.injEq]
 cases x_has <;> simp <;> grind
set_option linter.unusedSimpArgs false in
theorem rc_11 (x_pos : Int) (x_mu : Bool) (x_name : List UInt8) (x_ty : TyD) (x_has : Bool) (x_place : PlD) (x_val : ValD) (x_cond : OprD) (x_thn : List (StD)) (x_els : List (StD)) (d : Int) : StP (.mk 11 x_pos x_mu x_name x_ty x_has x_place x_val x_cond x_thn x_els) d ↔ (PlP x_place) ∧ RC (.mk 11 x_pos x_mu x_name x_ty x_has x_place x_val x_cond x_thn x_els) d true false false (.mk 0 0 x_mu x_name x_ty x_has zeroPl x_val x_cond [] []) := by
 unfold StP RC optD zeroSt BlP VldP
 simp only [StD.kind, StD.pos, StD.mu, StD.name, StD.ty, StD.has, StD.place, StD.val, StD.cond, StD.thn, StD.els, StD.mk.injEq]
 cases x_has <;> simp <;> grind
end Go.Proofs.YtjbcagbnagefcaaGreat
