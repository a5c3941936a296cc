/- usufructlaw1.FaultForeign: for any number, any place, any way the law returns true; no condition. -/
import Derived.Test.YtnpndnnoelnodaaDoorRows
import Derived.Test.YtnpndnnoelnodaaDoorCards
import Derived.Test.YtnpndnnoelnodaaDoorTie
import Derived.Test.YtnpndnnoelnodaaDoorLaid
import Derived.SevenTiedAt
import Derived.Test.YtnpndnnoelnodaaDoorOdd2
import Derived.ProofKit
import Derived.OpenShut
import Derived.ShutString
import Derived.ChangeOld
import Derived.Below
namespace Go.Proofs.YtnpndnnoelnodaaDoor.faultForeign
open Go.ChangeShapes Go.WideShapes Go.ChangeAt Go.RowKit
open Go.ChangeMaps (open_string shut_string)

theorem laidOut : laidOutB Tryd.prog = true := by kernel_rfl


theorem place_ex (i : Int) {n : Nat} (hn : n ≠ 0) : ∃ (x : Int) (k : Nat), Int.tmod i n = x ∧ x < n ∧ -(n : Int) < x ∧ Int.tmod (x + n) n = (k : Int) ∧ k < n := by
  have p1 := Int.tmod_lt_of_pos i (show (0 : Int) < n by omega)
  have p2 : -(n : Int) < Int.tmod i n := by
    rcases Int.le_total 0 i with q | q
    · rw [Int.tmod_eq_emod_of_nonneg q]
      have := Int.emod_nonneg i (show (n : Int) ≠ 0 by omega)
      omega
    · obtain ⟨j, rfl⟩ : ∃ j, i = -j := ⟨-i, by omega⟩
      rw [Int.neg_tmod, Int.tmod_eq_emod_of_nonneg (by omega)]
      have := Int.emod_lt_of_pos j (show (0 : Int) < n by omega)
      omega
  generalize Int.tmod i n = x at *
  refine ⟨x, ((x + n) % n).toNat, rfl, p1, p2, ?_, ?_⟩
  · rw [Int.tmod_eq_emod_of_nonneg (by omega), Int.toNat_of_nonneg (Int.emod_nonneg _ (by omega))]
  · have := Int.emod_lt_of_pos (x + n) (show (0 : Int) < n by omega)
    have := Int.emod_nonneg (x + n) (show (n : Int) ≠ 0 by omega)
    omega

set_option maxRecDepth 100000 in
set_option maxHeartbeats 4000000 in
theorem walk {w : World} (hg : ErrVar w) (code at' how : Int) :
    Calls Tryd.prog 4 #[.int .i64 code, .int .i64 at', .int .i64 how] w fun e w' => e = .returned (.bool true) ∧ Keeps Nothing w w' := by
  obtain ⟨y, j, hy', hy1, hy2, hj', hj4⟩ := place_ex how (n := 4) (by decide)
  have hy : Int.tmod how 4 = y := hy'
  have hj : Int.tmod (y + 4) 4 = (j : Int) := hj'
  clear hy' hj'
  have K0 := (Keeps.refl Nothing w).alloc (.cells #[.int .i64 at'] 3)
  by_cases hcode : code = 0
  · subst hcode
    have c0 : ((1 : Int) == 0) = false := rfl
    go_enter Tryd.func4, Tryd.ntmps4
    have hcase : j = 0 ∨ j = 1 ∨ j = 2 ∨ j = 3 := by omega
    rcases hcase with rfl | rfl | rfl | rfl
    · have hg0 := hg.keeps K0
      go_wp2_with fail
      refine (told1_any hg0).mono ?_
      rintro e q1 ⟨rfl, j1⟩
      have J1 := K0.trans j1 (fun _ h _ => h)
      have G1 := hg.keeps J1
      go_wp2_with fail
      refine (code_chain (w := q1) (c := 1) (ps := []) (v := numV 1) rfl G1).mono ?_
      rintro e q2 ⟨rfl, j2'⟩
      have j2 := j1.trans j2' (fun _ h _ => h)
      have J2 := K0.trans j2 (fun _ h _ => h)
      have G2 := hg.keeps J2
      have hat := at_chain (w := q2) (c := 1) (ps := []) (v := numV 1) rfl G2
      rw [show ([] : List Int).getLastD 0 = 0 from rfl] at hat
      go_wp2_with fail
      refine hat.mono ?_
      rintro e q3 ⟨rfl, j3'⟩
      have j3 := j2.trans j3' (fun _ h _ => h)
      have J3 := K0.trans j3 (fun _ h _ => h)
      have G3 := hg.keeps J3
      have hpt := path_chain (w := q3) (c := 1) (ps := []) (v := numV 1) rfl G3 (by simp)
      rw [show ([] : List Int).length = 0 from rfl] at hpt
      go_wp2_with fail
      refine hpt.mono ?_
      rintro e q4 ⟨ao4, cap4, rfl, o4, -, j4'⟩
      have j4 := j3.trans j4' (fun _ h _ => h)
      have J4 := K0.trans j4 (fun _ h _ => h)
      have hint := ints_any cap4 0 (na := 0) (nb := 0) (xs := []) (ys := []) rfl rfl (by omega) (ownI_at o4) (ints_none _)
      rw [show ((([] : List Int) == [])) = true from by simp] at hint
      clear hat hpt
      go_wp2_with fail
      refine hint.mono ?_
      rintro e q5 ⟨rfl, j5'⟩
      have j5 := j4.trans j5' (fun _ h _ => h)
      have J5 := K0.trans j5 (fun _ h _ => h)
      have his := fis_u 1 ((show UCh (w.alloc (.cells #[.int .i64 at'] 3)) (some 1) 0 (numV 1) from ⟨_, rfl, rfl⟩).keeps j5)
      rw [show (some 1 == some (1 : Int)) = true from by simp] at his
      clear hint
      go_wp2_with fail
      refine his.mono ?_
      rintro e q6 ⟨rfl, j6'⟩
      have j6 := j5.trans j6' (fun _ h _ => h)
      have J6 := K0.trans j6 (fun _ h _ => h)
      have G6 := hg.keeps J6
      clear his j2 j3 j4 j5 J2 J3 J4 J5 G1 G2 G3 o4 j2' j3' j4' j5' J1 j6'
      go_wp2_with fail
      refine (in_of rfl 9 (code_chain (w := q6) (c := 1) (ps := []) (v := numV 1) rfl G6)).mono ?_
      rintro e q7 ⟨b7, rfl, d0, d1, d2, j7'⟩
      have j7 := j6.trans j7' (fun _ h _ => h)
      have J7 := K0.trans j7 (fun _ h _ => h)
      have G7 := hg.keeps J7
      go_wp2_with fail
      refine (path_single G7 b7 d1 d2 (fun xT w => asFault_no _ xT w)).mono ?_
      rintro e q8 ⟨ao8, cap8, rfl, o8, j8⟩
      obtain ⟨g8, rfl⟩ : ∃ g, ao8 = some ⟨g, 0, none⟩ := by
        rcases o8.2 with ⟨_, hn9⟩ | ⟨g, cap', cur, hv, _⟩
        · simp at hn9
        · simp only [Value.slice.injEq] at hv
          exact ⟨g, hv.1⟩
      have G8 := G7.keeps j8
      go_wp2_with fail
      refine (code_hit rfl (j8.cell d0 (fun h => h)) (first_fault b7 _ G8)).mono ?_
      rintro e q9 ⟨rfl, j9⟩
      have z0 : q9.cell? ⟨g8, 0, none⟩ = some (.int .i64 9) := by simpa [Addr.add] using ((ownI_at o8).keeps j9).cel _ rfl 0 9 rfl
      have j79 := j8.trans j9 (fun _ h _ => h)
      have hu9 : UCh q9 _ (_ + 1) (fltV b7) := .inl ⟨b7, _, rfl, j79.cell d2 (fun h => h), .inr (((show UCh (w.alloc (.cells #[.int .i64 at'] 3)) (some 1) 0 (numV 1) from ⟨_, rfl, rfl⟩).keeps j7).keeps j79)⟩
      have his := fis_u 1 hu9
      rw [show (some 1 == some (1 : Int)) = true from by simp] at his
      clear hu9
      go_wp2_with fail
      refine his.mono ?_
      rintro e q10 ⟨rfl, j10⟩
      go_wp2_with fail
      go_ret
      exact ⟨rfl, (J7.trans j79 (fun _ h _ => h)).trans j10 (fun _ h _ => h)⟩
    · have hg0 := hg.keeps K0
      go_wp2_with fail
      refine (told1_any hg0).mono ?_
      rintro e q1 ⟨rfl, j1⟩
      have J1 := K0.trans j1 (fun _ h _ => h)
      have G1 := hg.keeps J1
      go_wp2_with fail
      refine (code_oddE 1 q1 G1).mono ?_
      rintro e q2 ⟨rfl, j2'⟩
      have j2 := j1.trans j2' (fun _ h _ => h)
      have J2 := K0.trans j2 (fun _ h _ => h)
      have G2 := hg.keeps J2
      have hat := at_of (w := q2) (c := 1) (ps := []) (v := oddV (numV 1)) ((first_miss rfl q2 G2 (As_oddE 1)).mono fun _ _ ⟨he, k⟩ => ⟨_, he, rfl, k⟩)
      rw [show ([] : List Int).getLastD 0 = 0 from rfl] at hat
      go_wp2_with fail
      refine hat.mono ?_
      rintro e q3 ⟨rfl, j3'⟩
      have j3 := j2.trans j3' (fun _ h _ => h)
      have J3 := K0.trans j3 (fun _ h _ => h)
      have G3 := hg.keeps J3
      have hpt := path_of (w := q3) (c := 1) (ps := []) (v := oddV (numV 1)) ((first_miss rfl q3 G3 (As_oddE 1)).mono fun _ _ ⟨he, k⟩ => ⟨_, he, rfl, k⟩) (by simp)
      rw [show ([] : List Int).length = 0 from rfl] at hpt
      go_wp2_with fail
      refine hpt.mono ?_
      rintro e q4 ⟨ao4, cap4, rfl, o4, -, j4'⟩
      have j4 := j3.trans j4' (fun _ h _ => h)
      have J4 := K0.trans j4 (fun _ h _ => h)
      have hint := ints_any cap4 0 (na := 0) (nb := 0) (xs := []) (ys := []) rfl rfl (by omega) (ownI_at o4) (ints_none _)
      rw [show ((([] : List Int) == [])) = true from by simp] at hint
      clear hat hpt
      go_wp2_with fail
      refine hint.mono ?_
      rintro e q5 ⟨rfl, j5'⟩
      have j5 := j4.trans j5' (fun _ h _ => h)
      have J5 := K0.trans j5 (fun _ h _ => h)
      have his := fis_u 1 ((show UCh (w.alloc (.cells #[.int .i64 at'] 3)) (some 1) 1 (oddV (numV 1)) from .inr ⟨_, rfl, .inr ⟨_, rfl, rfl⟩⟩).keeps j5)
      rw [show (some 1 == some (1 : Int)) = true from by simp] at his
      clear hint
      go_wp2_with fail
      refine his.mono ?_
      rintro e q6 ⟨rfl, j6'⟩
      have j6 := j5.trans j6' (fun _ h _ => h)
      have J6 := K0.trans j6 (fun _ h _ => h)
      have G6 := hg.keeps J6
      clear his j2 j3 j4 j5 J2 J3 J4 J5 G1 G2 G3 o4 j2' j3' j4' j5' J1 j6'
      go_wp2_with fail
      refine (in_of rfl 9 (code_oddE 1 q6 G6)).mono ?_
      rintro e q7 ⟨b7, rfl, d0, d1, d2, j7'⟩
      have j7 := j6.trans j7' (fun _ h _ => h)
      have J7 := K0.trans j7 (fun _ h _ => h)
      have G7 := hg.keeps J7
      go_wp2_with fail
      refine (path_single G7 b7 d1 d2 (fun xT w => asFault_odd _ xT w)).mono ?_
      rintro e q8 ⟨ao8, cap8, rfl, o8, j8⟩
      obtain ⟨g8, rfl⟩ : ∃ g, ao8 = some ⟨g, 0, none⟩ := by
        rcases o8.2 with ⟨_, hn9⟩ | ⟨g, cap', cur, hv, _⟩
        · simp at hn9
        · simp only [Value.slice.injEq] at hv
          exact ⟨g, hv.1⟩
      have G8 := G7.keeps j8
      go_wp2_with fail
      refine (code_hit rfl (j8.cell d0 (fun h => h)) (first_fault b7 _ G8)).mono ?_
      rintro e q9 ⟨rfl, j9⟩
      have z0 : q9.cell? ⟨g8, 0, none⟩ = some (.int .i64 9) := by simpa [Addr.add] using ((ownI_at o8).keeps j9).cel _ rfl 0 9 rfl
      have j79 := j8.trans j9 (fun _ h _ => h)
      have hu9 : UCh q9 _ (_ + 1) (fltV b7) := .inl ⟨b7, _, rfl, j79.cell d2 (fun h => h), .inr (((show UCh (w.alloc (.cells #[.int .i64 at'] 3)) (some 1) 1 (oddV (numV 1)) from .inr ⟨_, rfl, .inr ⟨_, rfl, rfl⟩⟩).keeps j7).keeps j79)⟩
      have his := fis_u 1 hu9
      rw [show (some 1 == some (1 : Int)) = true from by simp] at his
      clear hu9
      go_wp2_with fail
      refine his.mono ?_
      rintro e q10 ⟨rfl, j10⟩
      go_wp2_with fail
      go_ret
      exact ⟨rfl, (J7.trans j79 (fun _ h _ => h)).trans j10 (fun _ h _ => h)⟩
    · go_wp2_with fail
      refine (new_chain 1 at' c0 _).mono ?_
      rintro e wf ⟨bf, rfl, -, hf, kf⟩
      have Kf := K0.trans kf (fun _ h _ => h)
      have f0 : wf.cell? ⟨bf, 0, none⟩ = some (.int .i64 1) := by
        obtain ⟨b', hb, h0, -⟩ := hf
        simp only [Value.iface.injEq, Value.pointer.injEq, Option.some.injEq, Addr.mk.injEq, and_true, true_and] at hb
        subst hb
        exact h0

      have hg0 := hg.keeps Kf
      go_wp2_with fail
      refine (told1_any hg0).mono ?_
      rintro e q1 ⟨rfl, j1⟩
      have J1 := Kf.trans j1 (fun _ h _ => h)
      have G1 := hg.keeps J1
      go_wp2_with fail
      refine (code_hit rfl (j1.cell f0 (fun h => h)) (first_oddF bf q1 G1)).mono ?_
      rintro e q2 ⟨rfl, j2'⟩
      have j2 := j1.trans j2' (fun _ h _ => h)
      have J2 := Kf.trans j2 (fun _ h _ => h)
      have G2 := hg.keeps J2
      have hat := at_of (w := q2) (c := 1) (ps := [at']) (v := oddV (fltV bf)) ((first_oddF bf q2 G2).mono fun _ _ ⟨he, q⟩ => ⟨_, he, ⟨bf, rfl, hf.keeps j2⟩, q⟩)
      rw [show ([at'] : List Int).getLastD 0 = at' from rfl] at hat
      go_wp2_with fail
      refine hat.mono ?_
      rintro e q3 ⟨rfl, j3'⟩
      have j3 := j2.trans j3' (fun _ h _ => h)
      have J3 := Kf.trans j3 (fun _ h _ => h)
      have G3 := hg.keeps J3
      have hpt := path_of (w := q3) (c := 1) (ps := [at']) (v := oddV (fltV bf)) ((first_oddF bf q3 G3).mono fun _ _ ⟨he, q⟩ => ⟨_, he, ⟨bf, rfl, hf.keeps j3⟩, q⟩) (by simp)
      rw [show ([at'] : List Int).length = 1 from rfl] at hpt
      go_wp2_with fail
      refine hpt.mono ?_
      rintro e q4 ⟨ao4, cap4, rfl, o4, -, j4'⟩
      have j4 := j3.trans j4' (fun _ h _ => h)
      have J4 := Kf.trans j4 (fun _ h _ => h)
      have hint := ints_any cap4 1 (na := 1) (nb := 1) (xs := [at']) (ys := [at']) rfl rfl (by omega) (ownI_at o4) ((ints_one w at').keeps (kf.trans j4 (fun _ h _ => h)))
      rw [show ((([at'] : List Int) == [at'])) = true from by simp] at hint
      clear hat hpt
      go_wp2_with fail
      refine hint.mono ?_
      rintro e q5 ⟨rfl, j5'⟩
      have j5 := j4.trans j5' (fun _ h _ => h)
      have J5 := Kf.trans j5 (fun _ h _ => h)
      have his := fis_u 1 ((show UCh wf (some 1) 2 (oddV (fltV bf)) from .inr ⟨_, rfl, .inr (uch_of hf)⟩).keeps j5)
      rw [show (some 1 == some (1 : Int)) = true from by simp] at his
      clear hint
      go_wp2_with fail
      refine his.mono ?_
      rintro e q6 ⟨rfl, j6'⟩
      have j6 := j5.trans j6' (fun _ h _ => h)
      have J6 := Kf.trans j6 (fun _ h _ => h)
      have G6 := hg.keeps J6
      clear his j2 j3 j4 j5 J2 J3 J4 J5 G1 G2 G3 o4 j2' j3' j4' j5' J1 j6'
      go_wp2_with fail
      refine (in_of rfl 9 (code_hit rfl (j6.cell f0 (fun h => h)) (first_oddF bf q6 G6))).mono ?_
      rintro e q7 ⟨b7, rfl, d0, d1, d2, j7'⟩
      have j7 := j6.trans j7' (fun _ h _ => h)
      have J7 := Kf.trans j7 (fun _ h _ => h)
      have G7 := hg.keeps J7
      go_wp2_with fail
      refine (path_single G7 b7 d1 d2 (fun xT w => asFault_odd _ xT w)).mono ?_
      rintro e q8 ⟨ao8, cap8, rfl, o8, j8⟩
      obtain ⟨g8, rfl⟩ : ∃ g, ao8 = some ⟨g, 0, none⟩ := by
        rcases o8.2 with ⟨_, hn9⟩ | ⟨g, cap', cur, hv, _⟩
        · simp at hn9
        · simp only [Value.slice.injEq] at hv
          exact ⟨g, hv.1⟩
      have G8 := G7.keeps j8
      go_wp2_with fail
      refine (code_hit rfl (j8.cell d0 (fun h => h)) (first_fault b7 _ G8)).mono ?_
      rintro e q9 ⟨rfl, j9⟩
      have z0 : q9.cell? ⟨g8, 0, none⟩ = some (.int .i64 9) := by simpa [Addr.add] using ((ownI_at o8).keeps j9).cel _ rfl 0 9 rfl
      have j79 := j8.trans j9 (fun _ h _ => h)
      have hu9 : UCh q9 _ (_ + 1) (fltV b7) := .inl ⟨b7, _, rfl, j79.cell d2 (fun h => h), .inr (((show UCh wf (some 1) 2 (oddV (fltV bf)) from .inr ⟨_, rfl, .inr (uch_of hf)⟩).keeps j7).keeps j79)⟩
      have his := fis_u 1 hu9
      rw [show (some 1 == some (1 : Int)) = true from by simp] at his
      clear hu9
      go_wp2_with fail
      refine his.mono ?_
      rintro e q10 ⟨rfl, j10⟩
      go_wp2_with fail
      go_ret
      exact ⟨rfl, (J7.trans j79 (fun _ h _ => h)).trans j10 (fun _ h _ => h)⟩
    · have hg0 := hg.keeps K0
      go_wp2_with fail
      refine (told1_any hg0).mono ?_
      rintro e q1 ⟨rfl, j1⟩
      have J1 := K0.trans j1 (fun _ h _ => h)
      have G1 := hg.keeps J1
      go_wp2_with fail
      refine (code_odd0 q1 G1).mono ?_
      rintro e q2 ⟨rfl, j2'⟩
      have j2 := j1.trans j2' (fun _ h _ => h)
      have J2 := K0.trans j2 (fun _ h _ => h)
      have G2 := hg.keeps J2
      have hat := at_of (w := q2) (c := 1) (ps := []) (v := oddV .nilIface) ((first_miss rfl q2 G2 As_odd0).mono fun _ _ ⟨he, k⟩ => ⟨_, he, rfl, k⟩)
      rw [show ([] : List Int).getLastD 0 = 0 from rfl] at hat
      go_wp2_with fail
      refine hat.mono ?_
      rintro e q3 ⟨rfl, j3'⟩
      have j3 := j2.trans j3' (fun _ h _ => h)
      have J3 := K0.trans j3 (fun _ h _ => h)
      have G3 := hg.keeps J3
      have hpt := path_of (w := q3) (c := 1) (ps := []) (v := oddV .nilIface) ((first_miss rfl q3 G3 As_odd0).mono fun _ _ ⟨he, k⟩ => ⟨_, he, rfl, k⟩) (by simp)
      rw [show ([] : List Int).length = 0 from rfl] at hpt
      go_wp2_with fail
      refine hpt.mono ?_
      rintro e q4 ⟨ao4, cap4, rfl, o4, -, j4'⟩
      have j4 := j3.trans j4' (fun _ h _ => h)
      have J4 := K0.trans j4 (fun _ h _ => h)
      have hint := ints_any cap4 0 (na := 0) (nb := 0) (xs := []) (ys := []) rfl rfl (by omega) (ownI_at o4) (ints_none _)
      rw [show ((([] : List Int) == [])) = true from by simp] at hint
      clear hat hpt
      go_wp2_with fail
      refine hint.mono ?_
      rintro e q5 ⟨rfl, j5'⟩
      have j5 := j4.trans j5' (fun _ h _ => h)
      have J5 := K0.trans j5 (fun _ h _ => h)
      have his := fis_u 1 ((show UCh (w.alloc (.cells #[.int .i64 at'] 3)) none 1 (oddV .nilIface) from .inr ⟨_, rfl, .inl ⟨rfl, rfl⟩⟩).keeps j5)
      rw [show ((none : Option Int) == some (1 : Int)) = false from by simp] at his
      clear hint
      go_wp2_with fail
      refine his.mono ?_
      rintro e q6 ⟨rfl, j6'⟩
      have j6 := j5.trans j6' (fun _ h _ => h)
      have J6 := K0.trans j6 (fun _ h _ => h)
      have G6 := hg.keeps J6
      clear his j2 j3 j4 j5 J2 J3 J4 J5 G1 G2 G3 o4 j2' j3' j4' j5' J1 j6'
      go_wp2_with fail
      refine (in_of rfl 9 (code_odd0 q6 G6)).mono ?_
      rintro e q7 ⟨b7, rfl, d0, d1, d2, j7'⟩
      have j7 := j6.trans j7' (fun _ h _ => h)
      have J7 := K0.trans j7 (fun _ h _ => h)
      have G7 := hg.keeps J7
      go_wp2_with fail
      refine (path_single G7 b7 d1 d2 (fun xT w => asFault_odd _ xT w)).mono ?_
      rintro e q8 ⟨ao8, cap8, rfl, o8, j8⟩
      obtain ⟨g8, rfl⟩ : ∃ g, ao8 = some ⟨g, 0, none⟩ := by
        rcases o8.2 with ⟨_, hn9⟩ | ⟨g, cap', cur, hv, _⟩
        · simp at hn9
        · simp only [Value.slice.injEq] at hv
          exact ⟨g, hv.1⟩
      have G8 := G7.keeps j8
      go_wp2_with fail
      refine (code_hit rfl (j8.cell d0 (fun h => h)) (first_fault b7 _ G8)).mono ?_
      rintro e q9 ⟨rfl, j9⟩
      have z0 : q9.cell? ⟨g8, 0, none⟩ = some (.int .i64 9) := by simpa [Addr.add] using ((ownI_at o8).keeps j9).cel _ rfl 0 9 rfl
      have j79 := j8.trans j9 (fun _ h _ => h)
      have hu9 : UCh q9 _ (_ + 1) (fltV b7) := .inl ⟨b7, _, rfl, j79.cell d2 (fun h => h), .inr (((show UCh (w.alloc (.cells #[.int .i64 at'] 3)) none 1 (oddV .nilIface) from .inr ⟨_, rfl, .inl ⟨rfl, rfl⟩⟩).keeps j7).keeps j79)⟩
      have his := fis_u 1 hu9
      rw [show ((none : Option Int) == some (1 : Int)) = false from by simp] at his
      clear hu9
      go_wp2_with fail
      refine his.mono ?_
      rintro e q10 ⟨rfl, j10⟩
      go_wp2_with fail
      go_ret
      exact ⟨rfl, (J7.trans j79 (fun _ h _ => h)).trans j10 (fun _ h _ => h)⟩
  · have c0 : (code == 0) = false := by rw [beq_eq_false_iff_ne]; exact hcode
    go_enter Tryd.func4, Tryd.ntmps4
    have hcase : j = 0 ∨ j = 1 ∨ j = 2 ∨ j = 3 := by omega
    rcases hcase with rfl | rfl | rfl | rfl
    · have hg0 := hg.keeps K0
      go_wp2_with fail
      refine (told1_any hg0).mono ?_
      rintro e q1 ⟨rfl, j1⟩
      have J1 := K0.trans j1 (fun _ h _ => h)
      have G1 := hg.keeps J1
      go_wp2_with fail
      refine (code_chain (w := q1) (c := code) (ps := []) (v := numV code) rfl G1).mono ?_
      rintro e q2 ⟨rfl, j2'⟩
      have j2 := j1.trans j2' (fun _ h _ => h)
      have J2 := K0.trans j2 (fun _ h _ => h)
      have G2 := hg.keeps J2
      have hat := at_chain (w := q2) (c := code) (ps := []) (v := numV code) rfl G2
      rw [show ([] : List Int).getLastD 0 = 0 from rfl] at hat
      go_wp2_with fail
      refine hat.mono ?_
      rintro e q3 ⟨rfl, j3'⟩
      have j3 := j2.trans j3' (fun _ h _ => h)
      have J3 := K0.trans j3 (fun _ h _ => h)
      have G3 := hg.keeps J3
      have hpt := path_chain (w := q3) (c := code) (ps := []) (v := numV code) rfl G3 (by simp)
      rw [show ([] : List Int).length = 0 from rfl] at hpt
      go_wp2_with fail
      refine hpt.mono ?_
      rintro e q4 ⟨ao4, cap4, rfl, o4, -, j4'⟩
      have j4 := j3.trans j4' (fun _ h _ => h)
      have J4 := K0.trans j4 (fun _ h _ => h)
      have hint := ints_any cap4 0 (na := 0) (nb := 0) (xs := []) (ys := []) rfl rfl (by omega) (ownI_at o4) (ints_none _)
      rw [show ((([] : List Int) == [])) = true from by simp] at hint
      clear hat hpt
      go_wp2_with fail
      refine hint.mono ?_
      rintro e q5 ⟨rfl, j5'⟩
      have j5 := j4.trans j5' (fun _ h _ => h)
      have J5 := K0.trans j5 (fun _ h _ => h)
      have his := fis_u code ((show UCh (w.alloc (.cells #[.int .i64 at'] 3)) (some code) 0 (numV code) from ⟨_, rfl, rfl⟩).keeps j5)
      rw [show (some code == some (code : Int)) = true from by simp] at his
      clear hint
      go_wp2_with fail
      refine his.mono ?_
      rintro e q6 ⟨rfl, j6'⟩
      have j6 := j5.trans j6' (fun _ h _ => h)
      have J6 := K0.trans j6 (fun _ h _ => h)
      have G6 := hg.keeps J6
      clear his j2 j3 j4 j5 J2 J3 J4 J5 G1 G2 G3 o4 j2' j3' j4' j5' J1 j6'
      go_wp2_with fail
      refine (in_of rfl 9 (code_chain (w := q6) (c := code) (ps := []) (v := numV code) rfl G6)).mono ?_
      rintro e q7 ⟨b7, rfl, d0, d1, d2, j7'⟩
      have j7 := j6.trans j7' (fun _ h _ => h)
      have J7 := K0.trans j7 (fun _ h _ => h)
      have G7 := hg.keeps J7
      go_wp2_with fail
      refine (path_single G7 b7 d1 d2 (fun xT w => asFault_no _ xT w)).mono ?_
      rintro e q8 ⟨ao8, cap8, rfl, o8, j8⟩
      obtain ⟨g8, rfl⟩ : ∃ g, ao8 = some ⟨g, 0, none⟩ := by
        rcases o8.2 with ⟨_, hn9⟩ | ⟨g, cap', cur, hv, _⟩
        · simp at hn9
        · simp only [Value.slice.injEq] at hv
          exact ⟨g, hv.1⟩
      have G8 := G7.keeps j8
      go_wp2_with fail
      refine (code_hit rfl (j8.cell d0 (fun h => h)) (first_fault b7 _ G8)).mono ?_
      rintro e q9 ⟨rfl, j9⟩
      have z0 : q9.cell? ⟨g8, 0, none⟩ = some (.int .i64 9) := by simpa [Addr.add] using ((ownI_at o8).keeps j9).cel _ rfl 0 9 rfl
      have j79 := j8.trans j9 (fun _ h _ => h)
      have hu9 : UCh q9 _ (_ + 1) (fltV b7) := .inl ⟨b7, _, rfl, j79.cell d2 (fun h => h), .inr (((show UCh (w.alloc (.cells #[.int .i64 at'] 3)) (some code) 0 (numV code) from ⟨_, rfl, rfl⟩).keeps j7).keeps j79)⟩
      have his := fis_u code hu9
      rw [show (some code == some (code : Int)) = true from by simp] at his
      clear hu9
      go_wp2_with fail
      refine his.mono ?_
      rintro e q10 ⟨rfl, j10⟩
      go_wp2_with fail
      go_ret
      exact ⟨rfl, (J7.trans j79 (fun _ h _ => h)).trans j10 (fun _ h _ => h)⟩
    · have hg0 := hg.keeps K0
      go_wp2_with fail
      refine (told1_any hg0).mono ?_
      rintro e q1 ⟨rfl, j1⟩
      have J1 := K0.trans j1 (fun _ h _ => h)
      have G1 := hg.keeps J1
      go_wp2_with fail
      refine (code_oddE code q1 G1).mono ?_
      rintro e q2 ⟨rfl, j2'⟩
      have j2 := j1.trans j2' (fun _ h _ => h)
      have J2 := K0.trans j2 (fun _ h _ => h)
      have G2 := hg.keeps J2
      have hat := at_of (w := q2) (c := code) (ps := []) (v := oddV (numV code)) ((first_miss rfl q2 G2 (As_oddE code)).mono fun _ _ ⟨he, k⟩ => ⟨_, he, rfl, k⟩)
      rw [show ([] : List Int).getLastD 0 = 0 from rfl] at hat
      go_wp2_with fail
      refine hat.mono ?_
      rintro e q3 ⟨rfl, j3'⟩
      have j3 := j2.trans j3' (fun _ h _ => h)
      have J3 := K0.trans j3 (fun _ h _ => h)
      have G3 := hg.keeps J3
      have hpt := path_of (w := q3) (c := code) (ps := []) (v := oddV (numV code)) ((first_miss rfl q3 G3 (As_oddE code)).mono fun _ _ ⟨he, k⟩ => ⟨_, he, rfl, k⟩) (by simp)
      rw [show ([] : List Int).length = 0 from rfl] at hpt
      go_wp2_with fail
      refine hpt.mono ?_
      rintro e q4 ⟨ao4, cap4, rfl, o4, -, j4'⟩
      have j4 := j3.trans j4' (fun _ h _ => h)
      have J4 := K0.trans j4 (fun _ h _ => h)
      have hint := ints_any cap4 0 (na := 0) (nb := 0) (xs := []) (ys := []) rfl rfl (by omega) (ownI_at o4) (ints_none _)
      rw [show ((([] : List Int) == [])) = true from by simp] at hint
      clear hat hpt
      go_wp2_with fail
      refine hint.mono ?_
      rintro e q5 ⟨rfl, j5'⟩
      have j5 := j4.trans j5' (fun _ h _ => h)
      have J5 := K0.trans j5 (fun _ h _ => h)
      have his := fis_u code ((show UCh (w.alloc (.cells #[.int .i64 at'] 3)) (some code) 1 (oddV (numV code)) from .inr ⟨_, rfl, .inr ⟨_, rfl, rfl⟩⟩).keeps j5)
      rw [show (some code == some (code : Int)) = true from by simp] at his
      clear hint
      go_wp2_with fail
      refine his.mono ?_
      rintro e q6 ⟨rfl, j6'⟩
      have j6 := j5.trans j6' (fun _ h _ => h)
      have J6 := K0.trans j6 (fun _ h _ => h)
      have G6 := hg.keeps J6
      clear his j2 j3 j4 j5 J2 J3 J4 J5 G1 G2 G3 o4 j2' j3' j4' j5' J1 j6'
      go_wp2_with fail
      refine (in_of rfl 9 (code_oddE code q6 G6)).mono ?_
      rintro e q7 ⟨b7, rfl, d0, d1, d2, j7'⟩
      have j7 := j6.trans j7' (fun _ h _ => h)
      have J7 := K0.trans j7 (fun _ h _ => h)
      have G7 := hg.keeps J7
      go_wp2_with fail
      refine (path_single G7 b7 d1 d2 (fun xT w => asFault_odd _ xT w)).mono ?_
      rintro e q8 ⟨ao8, cap8, rfl, o8, j8⟩
      obtain ⟨g8, rfl⟩ : ∃ g, ao8 = some ⟨g, 0, none⟩ := by
        rcases o8.2 with ⟨_, hn9⟩ | ⟨g, cap', cur, hv, _⟩
        · simp at hn9
        · simp only [Value.slice.injEq] at hv
          exact ⟨g, hv.1⟩
      have G8 := G7.keeps j8
      go_wp2_with fail
      refine (code_hit rfl (j8.cell d0 (fun h => h)) (first_fault b7 _ G8)).mono ?_
      rintro e q9 ⟨rfl, j9⟩
      have z0 : q9.cell? ⟨g8, 0, none⟩ = some (.int .i64 9) := by simpa [Addr.add] using ((ownI_at o8).keeps j9).cel _ rfl 0 9 rfl
      have j79 := j8.trans j9 (fun _ h _ => h)
      have hu9 : UCh q9 _ (_ + 1) (fltV b7) := .inl ⟨b7, _, rfl, j79.cell d2 (fun h => h), .inr (((show UCh (w.alloc (.cells #[.int .i64 at'] 3)) (some code) 1 (oddV (numV code)) from .inr ⟨_, rfl, .inr ⟨_, rfl, rfl⟩⟩).keeps j7).keeps j79)⟩
      have his := fis_u code hu9
      rw [show (some code == some (code : Int)) = true from by simp] at his
      clear hu9
      go_wp2_with fail
      refine his.mono ?_
      rintro e q10 ⟨rfl, j10⟩
      go_wp2_with fail
      go_ret
      exact ⟨rfl, (J7.trans j79 (fun _ h _ => h)).trans j10 (fun _ h _ => h)⟩
    · go_wp2_with fail
      refine (new_chain code at' c0 _).mono ?_
      rintro e wf ⟨bf, rfl, -, hf, kf⟩
      have Kf := K0.trans kf (fun _ h _ => h)
      have f0 : wf.cell? ⟨bf, 0, none⟩ = some (.int .i64 code) := by
        obtain ⟨b', hb, h0, -⟩ := hf
        simp only [Value.iface.injEq, Value.pointer.injEq, Option.some.injEq, Addr.mk.injEq, and_true, true_and] at hb
        subst hb
        exact h0

      have hg0 := hg.keeps Kf
      go_wp2_with fail
      refine (told1_any hg0).mono ?_
      rintro e q1 ⟨rfl, j1⟩
      have J1 := Kf.trans j1 (fun _ h _ => h)
      have G1 := hg.keeps J1
      go_wp2_with fail
      refine (code_hit rfl (j1.cell f0 (fun h => h)) (first_oddF bf q1 G1)).mono ?_
      rintro e q2 ⟨rfl, j2'⟩
      have j2 := j1.trans j2' (fun _ h _ => h)
      have J2 := Kf.trans j2 (fun _ h _ => h)
      have G2 := hg.keeps J2
      have hat := at_of (w := q2) (c := code) (ps := [at']) (v := oddV (fltV bf)) ((first_oddF bf q2 G2).mono fun _ _ ⟨he, q⟩ => ⟨_, he, ⟨bf, rfl, hf.keeps j2⟩, q⟩)
      rw [show ([at'] : List Int).getLastD 0 = at' from rfl] at hat
      go_wp2_with fail
      refine hat.mono ?_
      rintro e q3 ⟨rfl, j3'⟩
      have j3 := j2.trans j3' (fun _ h _ => h)
      have J3 := Kf.trans j3 (fun _ h _ => h)
      have G3 := hg.keeps J3
      have hpt := path_of (w := q3) (c := code) (ps := [at']) (v := oddV (fltV bf)) ((first_oddF bf q3 G3).mono fun _ _ ⟨he, q⟩ => ⟨_, he, ⟨bf, rfl, hf.keeps j3⟩, q⟩) (by simp)
      rw [show ([at'] : List Int).length = 1 from rfl] at hpt
      go_wp2_with fail
      refine hpt.mono ?_
      rintro e q4 ⟨ao4, cap4, rfl, o4, -, j4'⟩
      have j4 := j3.trans j4' (fun _ h _ => h)
      have J4 := Kf.trans j4 (fun _ h _ => h)
      have hint := ints_any cap4 1 (na := 1) (nb := 1) (xs := [at']) (ys := [at']) rfl rfl (by omega) (ownI_at o4) ((ints_one w at').keeps (kf.trans j4 (fun _ h _ => h)))
      rw [show ((([at'] : List Int) == [at'])) = true from by simp] at hint
      clear hat hpt
      go_wp2_with fail
      refine hint.mono ?_
      rintro e q5 ⟨rfl, j5'⟩
      have j5 := j4.trans j5' (fun _ h _ => h)
      have J5 := Kf.trans j5 (fun _ h _ => h)
      have his := fis_u code ((show UCh wf (some code) 2 (oddV (fltV bf)) from .inr ⟨_, rfl, .inr (uch_of hf)⟩).keeps j5)
      rw [show (some code == some (code : Int)) = true from by simp] at his
      clear hint
      go_wp2_with fail
      refine his.mono ?_
      rintro e q6 ⟨rfl, j6'⟩
      have j6 := j5.trans j6' (fun _ h _ => h)
      have J6 := Kf.trans j6 (fun _ h _ => h)
      have G6 := hg.keeps J6
      clear his j2 j3 j4 j5 J2 J3 J4 J5 G1 G2 G3 o4 j2' j3' j4' j5' J1 j6'
      go_wp2_with fail
      refine (in_of rfl 9 (code_hit rfl (j6.cell f0 (fun h => h)) (first_oddF bf q6 G6))).mono ?_
      rintro e q7 ⟨b7, rfl, d0, d1, d2, j7'⟩
      have j7 := j6.trans j7' (fun _ h _ => h)
      have J7 := Kf.trans j7 (fun _ h _ => h)
      have G7 := hg.keeps J7
      go_wp2_with fail
      refine (path_single G7 b7 d1 d2 (fun xT w => asFault_odd _ xT w)).mono ?_
      rintro e q8 ⟨ao8, cap8, rfl, o8, j8⟩
      obtain ⟨g8, rfl⟩ : ∃ g, ao8 = some ⟨g, 0, none⟩ := by
        rcases o8.2 with ⟨_, hn9⟩ | ⟨g, cap', cur, hv, _⟩
        · simp at hn9
        · simp only [Value.slice.injEq] at hv
          exact ⟨g, hv.1⟩
      have G8 := G7.keeps j8
      go_wp2_with fail
      refine (code_hit rfl (j8.cell d0 (fun h => h)) (first_fault b7 _ G8)).mono ?_
      rintro e q9 ⟨rfl, j9⟩
      have z0 : q9.cell? ⟨g8, 0, none⟩ = some (.int .i64 9) := by simpa [Addr.add] using ((ownI_at o8).keeps j9).cel _ rfl 0 9 rfl
      have j79 := j8.trans j9 (fun _ h _ => h)
      have hu9 : UCh q9 _ (_ + 1) (fltV b7) := .inl ⟨b7, _, rfl, j79.cell d2 (fun h => h), .inr (((show UCh wf (some code) 2 (oddV (fltV bf)) from .inr ⟨_, rfl, .inr (uch_of hf)⟩).keeps j7).keeps j79)⟩
      have his := fis_u code hu9
      rw [show (some code == some (code : Int)) = true from by simp] at his
      clear hu9
      go_wp2_with fail
      refine his.mono ?_
      rintro e q10 ⟨rfl, j10⟩
      go_wp2_with fail
      go_ret
      exact ⟨rfl, (J7.trans j79 (fun _ h _ => h)).trans j10 (fun _ h _ => h)⟩
    · have hg0 := hg.keeps K0
      go_wp2_with fail
      refine (told1_any hg0).mono ?_
      rintro e q1 ⟨rfl, j1⟩
      have J1 := K0.trans j1 (fun _ h _ => h)
      have G1 := hg.keeps J1
      go_wp2_with fail
      refine (code_odd0 q1 G1).mono ?_
      rintro e q2 ⟨rfl, j2'⟩
      have j2 := j1.trans j2' (fun _ h _ => h)
      have J2 := K0.trans j2 (fun _ h _ => h)
      have G2 := hg.keeps J2
      have hat := at_of (w := q2) (c := 1) (ps := []) (v := oddV .nilIface) ((first_miss rfl q2 G2 As_odd0).mono fun _ _ ⟨he, k⟩ => ⟨_, he, rfl, k⟩)
      rw [show ([] : List Int).getLastD 0 = 0 from rfl] at hat
      go_wp2_with fail
      refine hat.mono ?_
      rintro e q3 ⟨rfl, j3'⟩
      have j3 := j2.trans j3' (fun _ h _ => h)
      have J3 := K0.trans j3 (fun _ h _ => h)
      have G3 := hg.keeps J3
      have hpt := path_of (w := q3) (c := 1) (ps := []) (v := oddV .nilIface) ((first_miss rfl q3 G3 As_odd0).mono fun _ _ ⟨he, k⟩ => ⟨_, he, rfl, k⟩) (by simp)
      rw [show ([] : List Int).length = 0 from rfl] at hpt
      go_wp2_with fail
      refine hpt.mono ?_
      rintro e q4 ⟨ao4, cap4, rfl, o4, -, j4'⟩
      have j4 := j3.trans j4' (fun _ h _ => h)
      have J4 := K0.trans j4 (fun _ h _ => h)
      have hint := ints_any cap4 0 (na := 0) (nb := 0) (xs := []) (ys := []) rfl rfl (by omega) (ownI_at o4) (ints_none _)
      rw [show ((([] : List Int) == [])) = true from by simp] at hint
      clear hat hpt
      go_wp2_with fail
      refine hint.mono ?_
      rintro e q5 ⟨rfl, j5'⟩
      have j5 := j4.trans j5' (fun _ h _ => h)
      have J5 := K0.trans j5 (fun _ h _ => h)
      have his := fis_u code ((show UCh (w.alloc (.cells #[.int .i64 at'] 3)) none 1 (oddV .nilIface) from .inr ⟨_, rfl, .inl ⟨rfl, rfl⟩⟩).keeps j5)
      rw [show ((none : Option Int) == some (code : Int)) = false from by simp] at his
      clear hint
      go_wp2_with fail
      refine his.mono ?_
      rintro e q6 ⟨rfl, j6'⟩
      have j6 := j5.trans j6' (fun _ h _ => h)
      have J6 := K0.trans j6 (fun _ h _ => h)
      have G6 := hg.keeps J6
      clear his j2 j3 j4 j5 J2 J3 J4 J5 G1 G2 G3 o4 j2' j3' j4' j5' J1 j6'
      go_wp2_with fail
      refine (in_of rfl 9 (code_odd0 q6 G6)).mono ?_
      rintro e q7 ⟨b7, rfl, d0, d1, d2, j7'⟩
      have j7 := j6.trans j7' (fun _ h _ => h)
      have J7 := K0.trans j7 (fun _ h _ => h)
      have G7 := hg.keeps J7
      go_wp2_with fail
      refine (path_single G7 b7 d1 d2 (fun xT w => asFault_odd _ xT w)).mono ?_
      rintro e q8 ⟨ao8, cap8, rfl, o8, j8⟩
      obtain ⟨g8, rfl⟩ : ∃ g, ao8 = some ⟨g, 0, none⟩ := by
        rcases o8.2 with ⟨_, hn9⟩ | ⟨g, cap', cur, hv, _⟩
        · simp at hn9
        · simp only [Value.slice.injEq] at hv
          exact ⟨g, hv.1⟩
      have G8 := G7.keeps j8
      go_wp2_with fail
      refine (code_hit rfl (j8.cell d0 (fun h => h)) (first_fault b7 _ G8)).mono ?_
      rintro e q9 ⟨rfl, j9⟩
      have z0 : q9.cell? ⟨g8, 0, none⟩ = some (.int .i64 9) := by simpa [Addr.add] using ((ownI_at o8).keeps j9).cel _ rfl 0 9 rfl
      have j79 := j8.trans j9 (fun _ h _ => h)
      have hu9 : UCh q9 _ (_ + 1) (fltV b7) := .inl ⟨b7, _, rfl, j79.cell d2 (fun h => h), .inr (((show UCh (w.alloc (.cells #[.int .i64 at'] 3)) none 1 (oddV .nilIface) from .inr ⟨_, rfl, .inl ⟨rfl, rfl⟩⟩).keeps j7).keeps j79)⟩
      have his := fis_u code hu9
      rw [show ((none : Option Int) == some (code : Int)) = false from by simp] at his
      clear hu9
      go_wp2_with fail
      refine his.mono ?_
      rintro e q10 ⟨rfl, j10⟩
      go_wp2_with fail
      go_ret
      exact ⟨rfl, (J7.trans j79 (fun _ h _ => h)).trans j10 (fun _ h _ => h)⟩
set_option maxRecDepth 100000 in
theorem lifted (os : Os) (started : os.Started) (H : Type) (enc : TypeId × Value → H) :
    ReturnsInHanded {} Tryd.checked os 4 .any (fun w args => (Rows.faultForeignSpec.pre enc Tryd.prog Tryd.f4 [] false w args ∧ laidMetH Tryd.prog laidL w) ∧ sizedMet enc Tryd.prog Tryd.f4 (OpenSpec.ofChange Rows.faultForeignSpec) false w args) (Rows.faultForeignSpec.post enc Tryd.prog Tryd.f4 false true false false) := by
  refine returnsInHanded_of_change_and (C := Tryd.checked) (X := fun w _ => laidMetH Tryd.prog laidL w) (fun _ _ _ hh h => h.of_heap hh) ownK started (by kernel_rfl) Tryd.func4
    (ChangeSpec.witness_at (enc := enc) (C := Tryd.checked) (os := os) (X := fun w _ => laidMetH Tryd.prog laidL w) false (laidWorld os) #[.int .i64 0, .int .i64 0, .int .i64 0] 8 rfl (by kernel_rfl) (by kernel_rfl) (by kernel_rfl) (by kernel_rfl) (by kernel_rfl) (laidWorld_met os _)) ?_
  intro W base args ds gs before hval0 hW hcnd _ hL _
  have hg := errVar_of_laid hL
  have hval : ∀ (j : Nat) t v, Tryd.f4.params[j]? = some t → args[j]? = some v → Value.okWide Tryd.prog W .any base t v := hval0
  have hW' := hW
  obtain ⟨p, q, hA0, hV, rfl, hfz, hnd⟩ := hW
  have hA : DataW.TrodAll enc Tryd.prog W 0 (fun _ => true) true Tryd.f4.params.toList args.toList ds p := hA0
  rw [Tryd.params4] at hA hval
  obtain ⟨v0, vs0, d0, ds0, p0, q0, hargs, rfl, rfl, h0, r0⟩ := trodAll_cons hA
  obtain ⟨v1, vs1, d1, ds1, p1, q1, rfl, rfl, rfl, h1, r1⟩ := trodAll_cons r0
  obtain ⟨v2, vs2, d2, ds2, p2, q2, rfl, rfl, rfl, h2, r2⟩ := trodAll_cons r1
  obtain ⟨rfl, rfl, rfl⟩ := trodAll_nil r2
  obtain rfl : args = #[v0, v1, v2] := by cases args; simp_all
  obtain ⟨rfl, rfl⟩ := trodVars_none hV
  have k0 := h0
  have lt0 : ∀ x ∈ p0, x.block < W.heap.size := by obtain ⟨m, hm⟩ := k0; exact DataW.trod_lt m _ _ _ hm
  have k1 := h1
  have lt1 : ∀ x ∈ p1, x.block < W.heap.size := by obtain ⟨m, hm⟩ := k1; exact DataW.trod_lt m _ _ _ hm
  have k2 := h2
  have lt2 : ∀ x ∈ p2, x.block < W.heap.size := by obtain ⟨m, hm⟩ := k2; exact DataW.trod_lt m _ _ _ hm
  obtain ⟨a0, rfl, rfl, rfl, w0⟩ := open_int Tryd.underlying3 (hval 0 3 v0 rfl rfl) h0
  obtain ⟨a1, rfl, rfl, rfl, w1⟩ := open_int Tryd.underlying3 (hval 1 3 v1 rfl rfl) h1
  obtain ⟨a2, rfl, rfl, rfl, w2⟩ := open_int Tryd.underlying3 (hval 2 3 v2 rfl rfl) h2
  clear hA0 hval0
  refine (walk hg a0 a1 a2).mono fun e W' ⟨he, hk⟩ => ?_
  subst he
  have bel : Below W.heap.size W W' := hk.below (Nat.le_refl _) (fun _ h => h.elim)
  exact ⟨_, rfl, _, _, _, [], _, [], hW', trodAll_mk1 (shut_bool Tryd.underlying4 _), (trodAll_cons_mk (Below.trod laidOut (by kernel_rfl) (of_decide_eq_true (by kernel_rfl)) k0 bel lt0) (trodAll_cons_mk (Below.trod laidOut (by kernel_rfl) (of_decide_eq_true (by kernel_rfl)) k1 bel lt1) (trodAll_cons_mk (Below.trod laidOut (by kernel_rfl) (of_decide_eq_true (by kernel_rfl)) k2 bel lt2) trodAll_mk0))), rfl, bel.frame _, fun h => by cases h⟩

theorem bare : Rows.FaultForeignSaid :=
  OpenClaim.holds_of_wide 4 Tryd.f4 rfl rfl rfl rfl rfl rfl rfl ⟨rfl, rfl, rfl, rfl, rfl⟩ rfl rfl rfl rfl rfl (by kernel_rfl) Tryd.func4 (by kernel_rfl)
    (of_decide_eq_true (by kernel_rfl)) (by unfold Func.isWrapper; first | (rw [if_pos (by decide +kernel)]; kernel_rfl) | (rw [if_neg (by decide +kernel)]; exact ⟨rfl, rfl⟩))
    (fun os started H enc _ => lifted os started H enc)

/-- For every input the law returns true, and its arguments read as before; the one package-level variable that it reads is tied to the program's text. -/
theorem proved : Rows.FaultForeignCardSaid :=
  Claim7.holds_tied_plain_at .later [] [.handle] true _ true
    bare (fun _ h => by cases h) (by kernel_rfl) (fun _ h => by cases h) faultForeign_row_tie rfl ⟨rfl, rfl⟩ (by kernel_rfl) rfl
    (fun f fn hf hfn => by
      obtain rfl : f = 4 := Option.some.inj ((show Tryd.prog.funcNamed "usufruct/usufructlaw1.FaultForeign" = some 4 by kernel_rfl).symm.trans hf) |>.symm
      obtain rfl : fn = Tryd.f4 := (Option.some.inj (Tryd.func4.symm.trans hfn)).symm
      exact ⟨by kernel_rfl, fun j t ht => by
        rw [Tryd.params4] at ht
        have hm := Array.mem_of_getElem? ht
        simp only [List.mem_toArray, List.mem_cons, List.not_mem_nil, or_false] at hm
        rcases hm with rfl | rfl | rfl
        all_goals exact (show Tryd.prog.wantsStandIn _ = false by kernel_rfl)⟩)
    (by kernel_rfl)
#print axioms proved

end Go.Proofs.YtnpndnnoelnodaaDoor.faultForeign
