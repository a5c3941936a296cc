/- The document's answer: which names, lifetimes, places may be. -/
import Derived.Test.YtjbcagbnagefcaaTree9
namespace Go.Proofs.Ytjbcagbnagefcaa
open Go.RowKit

attribute [local go_sem ↓] exec_mid_ty exec_store_ty exec_mid_pl exec_store_pl exec_mid_opr exec_store_opr exec_mid_val exec_store_val exec_mid_st exec_store_st exec_mid_fld exec_store_fld exec_mid_str exec_store_str exec_mid_lif exec_store_lif exec_mid_fun exec_store_fun exec_mid_cr exec_store_cr
attribute [local go_sem] rowOk_new World.setRow_alloc_new

theorem str_to (s : List UInt8) {i : Nat} (h : i ≤ s.length) (W : World) : (Instr.slice 9 (.string ⟨s.toArray⟩) none (some (.int .i64 (i : Int))) none).run Try.prog W = .ok (.string ⟨(s.take i).toArray⟩) W := by
  rw [run_slice_string_h W 9 ⟨s.toArray⟩ Try.underlying9 .i64 i (by omega) (by show (i : Int) ≤ s.length; omega)]
  have e := extract_eq s 0 i
  rw [Nat.zero_add, List.drop_zero] at e
  rw [Int.toNat_natCast, e]
theorem occ_two (s : List UInt8) {i : Nat} (h : i + 2 ≤ s.length) : Lib.occAt s [58, 58] i = ((s.drop i).take 2 == [58, 58]) := Lib.occAt_iff_take s [58, 58] i h
theorem double_yes {s : List UInt8} {i : Nat} (hi : i + 2 ≤ s.length) (hn : Lib.NoOcc s [58, 58] i) (ho : Lib.occAt s [58, 58] i = true) : DoubleP s ↔ isName (s.take i) = true ∧ isName (s.drop (i + 2)) = true := by
  have h := Lib.index_first (by omega) ho hn
  unfold DoubleP Lib.cut
  rw [h, if_pos (by omega)]
  simp
theorem double_no {s : List UInt8} {i : Nat} (hi : s.length < i + 2) (hn : Lib.NoOcc s [58, 58] i) : DoubleP s ↔ isName s = true := by
  have h : Lib.index s [58, 58] = -1 := Lib.index_none fun j hj => by
    by_cases hlt : j < i
    · exact hn j hlt
    · cases ho : Lib.occAt s [58, 58] j with
      | false => rfl
      | true =>
        rcases Lib.occAt_room ho with h | h
        · simp at h; omega
        · cases h
  unfold DoubleP Lib.cut
  rw [h, if_neg (by omega)]
  simp

set_option maxHeartbeats 2000000 in
theorem rlong_any (w : World) (s : List UInt8) (hs : s.length ≤ bigN) : Calls Try.prog 68 #[.string ⟨s.toArray⟩] w (Tells w (DoubleP s)) := by
  unfold bigN at hs
  go_enter Try.func68, Try.ntmps68
  go_wp2_with fail
  go_loopw [3] (fun s3 wx => ∃ i : Nat, s3 = .int .i64 i ∧ i ≤ s.length ∧ Keeps Nothing w wx ∧ Shut (Lib.NoOcc s [58, 58] i)) (fun s3 _ => s.length - (intOf s3).toNat)
  case atStart => exact ⟨0, rfl, Nat.zero_le _, Keeps.refl _ _, shut (Lib.NoOcc.zero _ _)⟩
  case round =>
    obtain ⟨i, rfl, hi, KL, HN⟩ := hrel
    by_cases h2 : i + 2 ≤ s.length
    · have hcut := fun W => str_cut s (i := i) (n := 2) (j := i + 2) rfl h2 W
      have hto := fun W => str_to s (i := i) hi W
      have hfrom := fun W => str_from s (i := i + 2) h2 W
      obtain ⟨k2, hk2⟩ : ∃ k2, i + 2 = k2 := ⟨_, rfl⟩
      rw [hk2] at hcut hfrom
      have m1 : (i : Int) + 1 < (s.length : Int) := by omega
      have m3 : (i : Int) + 2 = (k2 : Int) := by omega
      have HO := shut (occ_two s h2)
      obtain ⟨X, hX⟩ : ∃ X, (s.drop i).take 2 = X := ⟨_, rfl⟩
      rw [hX] at hcut HO
      by_cases hpre : X = [58, 58]
      · subst hpre
        have HD := shut (double_yes h2 HN.out (by rw [HO.out]; rfl))
        rw [hk2] at HD
        clear HN HO hX
        have c1 := fun W => rname_any W (s.take i) (by rw [List.length_take]; omega)
        have c2 := fun W => rname_any W (s.drop k2) (by rw [List.length_drop]; omega)
        obtain ⟨z1, hz1⟩ : ∃ z, isName (s.take i) = z := ⟨_, rfl⟩
        obtain ⟨z2, hz2⟩ : ∃ z, isName (s.drop k2) = z := ⟨_, rfl⟩
        rw [hz1] at c1 HD
        rw [hz2] at c2 HD
        clear hz1 hz2 hk2 h2 hi
        generalize s.take i = A at *
        generalize s.drop k2 = B at *
        go_wp2_with fail
        refine (c1 _).mono ?_
        rintro e w1 ⟨rfl, k1⟩
        have KL := KL.trans k1 (fun _ h _ => h)
        clear c1 k1
        cases z1 with
        | false =>
          have hno : Shut (¬ DoubleP s) := shut (fun h => by have h2 := (HD.out.1 h).1; cases h2)
          clear HD
          go_wp2_with fail
          go_ret
          exact tells_f hno.out KL
        | true =>
          have hz : Shut (z2 = true ↔ DoubleP s) := shut (by rw [HD.out]; simp)
          clear HD
          go_wp2_with fail
          refine (c2 _).mono ?_
          rintro e w2 ⟨rfl, k2⟩
          clear c2
          go_wp2_with fail
          go_ret
          exact tells_z hz.out (KL.trans k2 (fun _ h _ => h))
      · have hq : (X == [58, 58]) = false := by rw [beq_eq_false_iff_ne]; exact hpre
        have HN2 := shut (HN.out.succ (by rw [HO.out]; exact hq))
        clear HN HO hX hk2 hpre hto hfrom
        go_wp2_with fail
        go_roundw
        case rel => exact ⟨i + 1, by go_num, by omega, KL, HN2⟩
        case measure => simp [intOf]; omega
    · have m1 : ¬ (i : Int) + 1 < (s.length : Int) := by omega
      have HD := shut (double_no (by omega) HN.out)
      clear HN h2
      have c1 := fun W => rname_any W s (by omega)
      obtain ⟨z1, hz1⟩ : ∃ z, isName s = z := ⟨_, rfl⟩
      rw [hz1] at c1 HD
      clear hz1
      go_wp2_with fail
      refine (c1 _).mono ?_
      rintro e w1 ⟨rfl, k1⟩
      clear c1
      have hz : Shut (z1 = true ↔ DoubleP s) := shut HD.out.symm
      clear HD
      go_wp2_with fail
      go_ret
      exact tells_z hz.out (KL.trans k1 (fun _ h _ => h))

set_option maxRecDepth 100000 in
set_option maxHeartbeats 2000000 in
theorem rlives_any (w : World) {S : Nat → Prop} {ao : Option Addr} {l : List (List UInt8)} (c : Nat) (h : SlIs S w 1 TxIs ao l) : Calls Try.prog 19 #[.slice ao l.length c] w (Tells w (LivesP l)) := by
  have hl := h.1
  unfold bigN at hl
  have HX := shut h
  clear h
  obtain ⟨n, hn⟩ : ∃ n, l.length = n := ⟨_, rfl⟩
  rw [hn] at hl ⊢
  have HN := shut hn
  clear hn
  go_enter Try.func19, Try.ntmps19
  go_wp2_with fail
  go_loopw [3] (fun s3 wx => ∃ t : Nat, s3 = .int .i64 t ∧ t ≤ n ∧ t ≤ 65 ∧ Keeps Nothing w wx ∧ Shut (∀ s ∈ l.take t, isLife s = true)) (fun s3 _ => n - (intOf s3).toNat)
  case atStart => exact ⟨0, rfl, Nat.zero_le _, Nat.zero_le _, Keeps.refl _ _, shut (by simp)⟩
  case round =>
    obtain ⟨t, rfl, ht, ht2, K, HT⟩ := hrel
    by_cases hlt : t < n
    · have m0 : (0 : Int) ≤ t := by omega
      have m1 : (t : Int) < n := by omega
      by_cases h65 : t < 65
      · have m2 : (t : Int) < 65 := by omega
        obtain ⟨a, ha⟩ : ∃ a, l[t]? = some a := ⟨_, List.getElem?_eq_getElem (by rw [HN.out]; exact hlt)⟩
        obtain ⟨g1, o1, rfl, e1, hal⟩ := tx_cell (HX.out.keeps K (fun _ _ h => h) (fun _ h => h) (fun _ _ _ h => h)) ha
        have hc := fun W => rlife_any W a (by unfold bigN at hal; omega)
        have HA := shut ha
        clear ha hal
        obtain ⟨z, hz⟩ : ∃ z, isLife a = z := ⟨_, rfl⟩
        rw [hz] at hc
        have HZ := shut hz
        clear hz
        go_wp2_with fail
        refine (hc _).mono ?_
        rintro e w1 ⟨rfl, rfl⟩
        clear hc e1
        cases z with
        | true =>
          have HT2 := shut (all_take HA.out HT.out HZ.out)
          clear HZ
          go_wp2_with fail
          go_roundw
          case rel => exact ⟨t + 1, by go_num, by omega, by omega, K, HT2⟩
          case measure => simp [intOf]; omega
        | false =>
          have hno : Shut (¬ LivesP l) := shut (fun h => by have h2 := h.1 a (List.mem_of_getElem? HA.out); rw [HZ.out] at h2; cases h2)
          clear HZ
          go_wp2_with fail
          go_ret
          exact tells_f hno.out K
      · have m2 : ¬ (t : Int) < 65 := by omega
        have m3 : ¬ (n : Int) ≤ 64 := by omega
        have hno : Shut (¬ LivesP l) := shut (fun h => by have := h.2; rw [HN.out] at this; omega)
        go_wp2_with fail
        go_ret
        exact tells_f hno.out K
    · obtain rfl : t = n := by omega
      have m1 : ¬ (t : Int) < t := by omega
      have HALL := shut (all_of_take HN.out HT.out)
      by_cases h64 : t ≤ 64
      · have m2 : (t : Int) ≤ 64 := by omega
        go_wp2_with fail
        go_ret
        exact tells_t ⟨HALL.out, by rw [HN.out]; exact h64⟩ K
      · have m2 : ¬ (t : Int) ≤ 64 := by omega
        have hno : Shut (¬ LivesP l) := shut (fun h => h64 (by rw [← HN.out]; exact h.2))
        clear HALL
        go_wp2_with fail
        go_ret
        exact tells_f hno.out K

set_option maxRecDepth 100000 in
set_option maxHeartbeats 2000000 in
theorem rPlace_any {S : Nat → Prop} (a : PlD) (w : World) (cs : List Value) (ha : PlIs S w a cs) : Calls Try.prog 69 #[.agg cs.toArray] w (Tells w (PlP a)) := by
  obtain ⟨a_name, a_path⟩ := a
  have HP : Shut (PlP ⟨a_name, a_path⟩ ↔ (∀ s ∈ a_path, s = [42] ∨ isName s = true) ∧ isName a_name = true ∧ a_path.length ≤ 64) := shut Iff.rfl
  obtain ⟨X, hX⟩ : ∃ X, X = (⟨a_name, a_path⟩ : PlD) := ⟨_, rfl⟩
  rw [← hX] at HP ⊢
  clear hX
  have ag1 := agg_ok ha.len ha.one
  obtain ⟨p1, q1, hcs, ah_name, ah_path⟩ := ha
  have HCA := shut hcs
  clear hcs
  simp only at ah_name ah_path HCA
  obtain ⟨CA, hCA⟩ : ∃ C, C = cs.toArray := ⟨_, rfl⟩
  rw [← hCA] at ag1 ⊢
  rw [HCA.out] at hCA
  have GCA := shut hCA
  clear hCA HCA
  have KW : Keeps Nothing w (w.alloc (.cells CA 39)) := (Keeps.refl Nothing w).alloc _
  have BA := blk_new w CA 39
  go_enter Try.func69, Try.ntmps69
  go_upto_region 1 with fail
  clear ag1
  generalize w.heap.size = ga at *
  generalize w.alloc (.cells CA 39) = wb at *
  obtain ⟨n, hn⟩ : ∃ n, a_path.length = n := ⟨_, rfl⟩
  have hnb : n ≤ bigN := by rw [← hn]; exact ah_path.1
  unfold bigN at hnb
  rw [hn] at GCA HP
  have HN := shut hn
  clear hn
  go_wp2_with fail
  go_loopw [3] (fun s3 wx => ∃ t : Nat, s3 = .int .i64 t ∧ t ≤ n ∧ t ≤ 65 ∧ Keeps Nothing wb wx ∧ Shut (∀ s ∈ a_path.take t, s = [42] ∨ isName s = true)) (fun s3 _ => n - (intOf s3).toNat)
  case atStart => exact ⟨0, rfl, Nat.zero_le _, Nat.zero_le _, Keeps.refl _ _, shut (by simp)⟩
  case round =>
    obtain ⟨t, rfl, ht, ht2, KL, HT⟩ := hrel
    have BA := KL.blk BA (fun h => h)
    have KW := KW.trans KL (fun _ h _ => h)
    obtain ⟨ae0, ae1⟩ := PlB  GCA.out BA
    unfold txV at *
    by_cases hlt : t < n
    · have m0 : (0 : Int) ≤ t := by omega
      have m1 : (t : Int) < n := by omega
      by_cases h65 : t < 65
      rotate_left
      · have m2 : ¬ (t : Int) < 65 := by omega
        have m3 : ¬ (n : Int) ≤ 64 := by omega
        have hno : Shut (¬ PlP X) := shut (fun h => by have h2 := (HP.out.1 h).2.2; omega)
        have hc := fun W => rname_any W a_name (by unfold bigN at ah_name; omega)
        obtain ⟨z, hz⟩ : ∃ z, isName a_name = z := ⟨_, rfl⟩
        rw [hz] at hc
        clear HP hz
        go_wp2_with fail
        refine (hc _).mono ?_
        rintro e w1 ⟨rfl, k1⟩
        have ae1 := k1.cell ae1 (fun h => h)
        clear hc ae0
        cases z with
        | false =>
          go_wp2_with fail
          go_ret
          exact tells_f hno.out (KW.trans k1 (fun _ h _ => h))
        | true =>
          go_wp2_with fail
          go_ret
          exact tells_z (z := decide ((n : Int) ≤ 64)) ⟨fun h => by have h2 := of_decide_eq_true h; omega, fun h => absurd h hno.out⟩ (KW.trans k1 (fun _ h _ => h))
      have m2 : (t : Int) < 65 := by omega
      obtain ⟨a, ha⟩ : ∃ a, a_path[t]? = some a := ⟨_, List.getElem?_eq_getElem (by rw [HN.out]; exact hlt)⟩
      obtain ⟨g1, o1, rfl, e1, hal⟩ := tx_cell (ah_path.keeps KW (fun _ _ h => h) (fun _ h => h) (fun _ _ _ h => h)) ha
      have hc := fun W => rname_any W a (by unfold bigN at hal; omega)
      have HA := shut ha
      clear ha hal
      obtain ⟨z, hz⟩ : ∃ z, isName a = z := ⟨_, rfl⟩
      rw [hz] at hc
      have HZ := shut hz
      clear hz
      by_cases hst : a = [42]
      · subst hst
        have HT2 := shut (all_take HA.out HT.out (.inl rfl))
        have hq : (([42] : List UInt8) == [42]) = true := rfl
        clear HZ hc
        go_wp2_with fail
        go_roundw
        case rel => exact ⟨t + 1, by go_num, by omega, by omega, KL, HT2⟩
        case measure => simp [intOf]; omega
      · have hq : (a == [42]) = false := by rw [beq_eq_false_iff_ne]; exact hst
        have HS := shut hst
        clear hst
        go_wp2_with fail
        refine (hc _).mono ?_
        rintro e w1 ⟨rfl, k1⟩
        have KW := KW.trans k1 (fun _ h _ => h)
        have KL := KL.trans k1 (fun _ h _ => h)
        clear hc e1 ae0 ae1 k1
        cases z with
        | true =>
          have HT2 := shut (all_take HA.out HT.out (.inr HZ.out))
          clear HZ
          go_wp2_with fail
          go_roundw
          case rel => exact ⟨t + 1, by go_num, by omega, by omega, KL, HT2⟩
          case measure => simp [intOf]; omega
        | false =>
          have hno : Shut (¬ PlP X) := shut (fun h => by
            rcases (HP.out.1 h).1 a (List.mem_of_getElem? HA.out) with h2 | h2
            · exact HS.out h2
            · rw [HZ.out] at h2; cases h2)
          clear HZ HP
          go_wp2_with fail
          go_ret
          exact tells_f hno.out KW
    · obtain rfl : t = n := by omega
      have m1 : ¬ (t : Int) < t := by omega
      have HALL := shut (all_of_take HN.out HT.out)
      have hc := fun W => rname_any W a_name (by unfold bigN at ah_name; omega)
      obtain ⟨z, hz⟩ : ∃ z, isName a_name = z := ⟨_, rfl⟩
      rw [hz] at hc HP
      clear hz
      go_wp2_with fail
      refine (hc _).mono ?_
      rintro e w1 ⟨rfl, k1⟩
      have ae1 := k1.cell ae1 (fun h => h)
      have KW := KW.trans k1 (fun _ h _ => h)
      clear hc ae0 k1
      cases z with
      | false =>
        have hno : Shut (¬ PlP X) := shut (fun h => by have h2 := (HP.out.1 h).2.1; cases h2)
        clear HP HALL
        go_wp2_with fail
        go_ret
        exact tells_f hno.out KW
      | true =>
        have hz : Shut (decide ((t : Int) ≤ 64) = true ↔ PlP X) := shut (by
          rw [decide_eq_true_iff, HP.out]
          exact ⟨fun h => ⟨HALL.out, by first | rfl | trivial, by omega⟩, fun h => by have := h.2.2; omega⟩)
        clear HP HALL
        go_wp2_with fail
        go_ret
        exact tells_z hz.out KW

set_option maxRecDepth 100000 in
set_option maxHeartbeats 2000000 in
theorem rnowhere_any {S : Nat → Prop} (a : PlD) (w : World) (cs : List Value) (ha : PlIs S w a cs) : Calls Try.prog 90 #[.agg cs.toArray] w (Tells w (a = ⟨[], []⟩)) := by
  obtain ⟨a_name, a_path⟩ := a
  have HP : Shut ((⟨a_name, a_path⟩ : PlD) = ⟨[], []⟩ ↔ a_name = [] ∧ a_path = []) := shut (by simp)
  obtain ⟨X, hX⟩ : ∃ X, X = ((⟨a_name, a_path⟩ : PlD) = ⟨[], []⟩) := ⟨_, rfl⟩
  rw [← hX] at HP ⊢
  clear hX
  have ag1 := agg_ok ha.len ha.one
  obtain ⟨p1, q1, hcs, ah_name, ah_path⟩ := ha
  have HCA := shut hcs
  clear hcs
  simp only at ah_name ah_path HCA
  obtain ⟨CA, hCA⟩ : ∃ C, C = cs.toArray := ⟨_, rfl⟩
  rw [← hCA] at ag1 ⊢
  rw [HCA.out] at hCA
  have GCA := shut hCA
  clear hCA HCA
  have KW : Keeps Nothing w (w.alloc (.cells CA 39)) := (Keeps.refl Nothing w).alloc _
  have BA := blk_new w CA 39
  go_enter Try.func90, Try.ntmps90
  go_upto_region 1 with fail
  clear ag1
  generalize w.heap.size = ga at *
  generalize w.alloc (.cells CA 39) = wb at *
  obtain ⟨ae0, ae1⟩ := PlB  GCA.out BA
  unfold txV at *
  by_cases h1 : a_name = []
  rotate_left
  · have hq : (a_name == []) = false := by rw [beq_eq_false_iff_ne]; exact h1
    have hno : Shut (¬ X) := shut (fun h => h1 (HP.out.1 h).1)
    clear HP h1
    go_wp2_with fail
    go_ret
    exact tells_f hno.out KW
  subst h1
  have hq : (([] : List UInt8) == []) = true := rfl
  by_cases h2 : a_path = []
  rotate_left
  · have hl : ¬ (a_path.length : Int) = 0 := by have := List.length_pos_iff.2 h2; omega
    have hlb : ((a_path.length : Int) == 0) = false := by rw [beq_eq_false_iff_ne]; exact hl
    have hno : Shut (¬ X) := shut (fun h => h2 (HP.out.1 h).2)
    clear HP h2
    go_wp2_with fail
    go_ret
    exact tells_f hno.out KW
  subst h2
  have hy : Shut X := shut (HP.out.2 ⟨rfl, rfl⟩)
  clear HP
  go_wp2_with fail
  go_ret
  exact tells_t hy.out KW

end Go.Proofs.Ytjbcagbnagefcaa
