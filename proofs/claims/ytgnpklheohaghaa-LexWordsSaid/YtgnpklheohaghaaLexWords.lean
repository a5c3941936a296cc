/- usufructlaw6.LexWords: for any two numbers the law returns true; no condition. -/
import Derived.Test.YtgnpklheohaghaaRows
import Derived.Test.YtgnpklheohaghaaLex11
import Derived.BigQuiet
import Derived.Deep.QuietTactic
import Derived.ProofKit
import Derived.OpenShut
import Derived.ShutString
import Derived.ChangeOld
import Derived.Below
namespace Go.Proofs.Ytgnpklheohaghaa.lexWords
open Go.ChangeShapes Go.WideShapes Go.ChangeAt Go.RowKit
open Go.ChangeMaps (open_string shut_string)

theorem own : ownKnob Try.prog.godebug = none := by kernel_rfl
theorem laidOut : laidOutB Try.prog = true := by kernel_rfl


def signs19 : List (List UInt8) := [[40], [41], [123], [125], [60], [62], [44], [59], [58], [58, 58], [46], [42], [38], [43], [45], [45, 62], [61], [61, 61], [33]]
theorem signs_lit : (signs19.map wordV).toArray = #[.string ⟨#[40]⟩, .string ⟨#[41]⟩, .string ⟨#[123]⟩, .string ⟨#[125]⟩, .string ⟨#[60]⟩, .string ⟨#[62]⟩, .string ⟨#[44]⟩, .string ⟨#[59]⟩, .string ⟨#[58]⟩, .string ⟨#[58, 58]⟩, .string ⟨#[46]⟩, .string ⟨#[42]⟩, .string ⟨#[38]⟩, .string ⟨#[43]⟩, .string ⟨#[45]⟩, .string ⟨#[45, 62]⟩, .string ⟨#[61]⟩, .string ⟨#[61, 61]⟩, .string ⟨#[33]⟩] := rfl
/-- What comes of a word, a sign, the word and a letter, a lifetime. -/
def wordsText (W S : List UInt8) : List UInt8 := W ++ S ++ W ++ [95, 32, 39] ++ W
def wordsToks (W S : List UInt8) : List Tok := [⟨2, W, 0⟩, ⟨5, S, W.length⟩, ⟨1, W ++ [95], W.length + S.length⟩, ⟨3, W, 2 * W.length + S.length + 2⟩, ⟨0, [], 3 * W.length + S.length + 3⟩]
theorem all_words : ∀ i : Nat, i < 17 → ∀ j : Nat, j < 19 → lexRes (wordsText (wordsL.getD i []) (signs19.getD j [])) = (wordsToks (wordsL.getD i []) (signs19.getD j []), 0, 0) := by decide +kernel
theorem all_small : ∀ i : Nat, i < 17 → ((wordsL.getD i []).length ≤ 8 ∧ isWord (wordsL.getD i []) = true ∧ isName (wordsL.getD i []) = false ∧ isName (wordsL.getD i [] ++ [95]) = true ∧ isWord (wordsL.getD i [] ++ [95]) = false) := by decide +kernel
theorem all_small2 : ∀ j : Nat, j < 19 → (signs19.getD j []).length ≤ 2 := by decide +kernel
theorem pick_bd (x : Int) (m : Int) (hm : 0 < m) : 0 ≤ (x.tmod m + m).tmod m ∧ (x.tmod m + m).tmod m < m := by
  have h1 := Int.tmod_lt_of_pos x hm
  have h2 := Int.lt_tmod_of_pos x hm
  have h3 := Int.tmod_lt_of_pos (x.tmod m + m) hm
  have h4 := Int.tmod_nonneg (b := m) (show 0 ≤ x.tmod m + m by omega)
  omega
theorem pick_walk (x : Int) (m : Int) (hm : 0 < m) (hm2 : m < 1000) : (wrap64 (x.tmod m + m)).tmod m = (x.tmod m + m).tmod m := by
  have h1 := Int.tmod_lt_of_pos x hm
  have h2 := Int.lt_tmod_of_pos x hm
  rw [show wrap64 (x.tmod m + m) = x.tmod m + m by unfold wrap64; omega]
theorem cat_to {a b c : List UInt8} (h : a ++ b = c) : (⟨a.toArray⟩ : ByteArray) ++ ⟨b.toArray⟩ = ⟨c.toArray⟩ := by
  rw [ByteArray.mk_append_mk, ← h]

set_option maxRecDepth 100000 in
set_option maxHeartbeats 2000000 in
theorem walk (w : World) (x y : Int) : Calls Try.prog 3 #[.int .i64 x, .int .i64 y] w (SaysTrue w) := by
  have hx := pick_bd x 17 (by decide)
  have hy := pick_bd y 19 (by decide)
  have hxw := pick_walk x 17 (by decide) (by decide)
  have hyw := pick_walk y 19 (by decide) (by decide)
  obtain ⟨i, hi⟩ : ∃ i : Nat, (x.tmod 17 + 17).tmod 17 = (i : Int) := ⟨((x.tmod 17 + 17).tmod 17).toNat, by omega⟩
  obtain ⟨j, hj⟩ : ∃ j : Nat, (y.tmod 19 + 19).tmod 19 = (j : Int) := ⟨((y.tmod 19 + 19).tmod 19).toNat, by omega⟩
  rw [hi] at hx hxw
  rw [hj] at hy hyw
  have hi17 : i < 17 := by omega
  have hj19 : j < 19 := by omega
  obtain ⟨s1, s2, s3, s4, s5⟩ := all_small i hi17
  have s6 := all_small2 j hj19
  have hall := all_words i hi17 j hj19
  have hwi : wordsL[i]? = some (wordsL.getD i []) := by rw [List.getD_eq_getElem?_getD, List.getElem?_eq_getElem (show i < wordsL.length from hi17)]; rfl
  have hsj : signs19[j]? = some (signs19.getD j []) := by rw [List.getD_eq_getElem?_getD, List.getElem?_eq_getElem (show j < signs19.length from hj19)]; rfl
  have B1 := blk_alloc (blk_new w (wordsL.map wordV).toArray 9) (.cells (signs19.map wordV).toArray 9)
  have B2 := blk_new (w.alloc (.cells (wordsL.map wordV).toArray 9)) (signs19.map wordV).toArray 9
  rw [World.size_alloc] at B2
  have K0 := ((Keeps.refl Nothing w).alloc (.cells (wordsL.map wordV).toArray 9)).alloc (.cells (signs19.map wordV).toArray 9)
  have cw := blk_cell B1 i (v := .string ⟨(wordsL.getD i []).toArray⟩) (by rw [List.getElem?_toArray, List.getElem?_map, hwi]; rfl)
  have cs := blk_cell B2 j (v := .string ⟨(signs19.getD j []).toArray⟩) (by rw [List.getElem?_toArray, List.getElem?_map, hsj]; rfl)
  generalize wordsL.getD i [] = W at *
  generalize signs19.getD j [] = S at *
  have HALL := shut hall
  obtain ⟨nW, hnW⟩ : ∃ nW, W.length = nW := ⟨_, rfl⟩
  obtain ⟨nS, hnS⟩ : ∃ nS, S.length = nS := ⟨_, rfl⟩
  rw [hnW] at s1
  rw [hnS] at s6
  have zW : (⟨W.toArray⟩ : ByteArray).size = nW := hnW
  have zS : (⟨S.toArray⟩ : ByteArray).size = nS := hnS
  obtain ⟨A1, hA1⟩ : ∃ A1, W ++ S = A1 := ⟨_, rfl⟩
  obtain ⟨A2, hA2⟩ : ∃ A2, A1 ++ W = A2 := ⟨_, rfl⟩
  obtain ⟨A3, hA3⟩ : ∃ A3, A2 ++ [95, 32, 39] = A3 := ⟨_, rfl⟩
  obtain ⟨A4, hA4⟩ : ∃ A4, A3 ++ W = A4 := ⟨_, rfl⟩
  obtain ⟨U, hU⟩ : ∃ U, W ++ [95] = U := ⟨_, rfl⟩
  have z1 : (⟨A1.toArray⟩ : ByteArray).size = nW + nS := by show A1.length = _; rw [← hA1, List.length_append, hnW, hnS]
  have z2 : (⟨A2.toArray⟩ : ByteArray).size = nW + nS + nW := by show A2.length = _; rw [← hA2, ← hA1, List.length_append, List.length_append, hnW, hnS]
  have z3 : (⟨A3.toArray⟩ : ByteArray).size = nW + nS + nW + 3 := by show A3.length = _; rw [← hA3, ← hA2, ← hA1, List.length_append, List.length_append, List.length_append, hnW, hnS]; rfl
  have l4 : A4.length = nW + nS + nW + 3 + nW := by rw [← hA4, ← hA3, ← hA2, ← hA1, List.length_append, List.length_append, List.length_append, List.length_append, hnW, hnS]; rfl
  have lU : U.length = nW + 1 := by rw [← hU, List.length_append, hnW]; rfl
  have bW : W.length < 100 := by omega
  have bU : U.length < 100 := by omega
  have c1 := cat_to hA1
  have c2 := cat_to hA2
  have c3 : (⟨A2.toArray⟩ : ByteArray) ++ ⟨#[95, 32, 39]⟩ = ⟨A3.toArray⟩ := cat_to hA3
  have c4 := cat_to hA4
  have c5 : (⟨W.toArray⟩ : ByteArray) ++ ⟨#[95]⟩ = ⟨U.toArray⟩ := cat_to hU
  have g1 : ¬ 9223372036854775807 < nW + nS := by omega
  have g2 : ¬ 9223372036854775807 < nW + nS + nW := by omega
  have g3 : ¬ 9223372036854775807 < nW + nS + nW + 3 := by omega
  have g4 : ¬ 9223372036854775807 < nW + nS + nW + 3 + nW := by omega
  have g5 : ¬ 9223372036854775807 < nW + 1 := by omega
  have r3 : (⟨#[95, 32, 39]⟩ : ByteArray).size = 3 := rfl
  have r1 : (⟨#[95]⟩ : ByteArray).size = 1 := rfl
  have hA : A4 = wordsText W S := by rw [← hA4, ← hA3, ← hA2, ← hA1]; rfl
  have hT : wordsToks W S = [⟨2, W, 0⟩, ⟨5, S, nW⟩, ⟨1, U, nW + nS⟩, ⟨3, W, 2 * nW + nS + 2⟩, ⟨0, [], 3 * nW + nS + 3⟩] := by unfold wordsToks; rw [hnW, hnS, hU]
  have hres : lexRes A4 = ([⟨2, W, 0⟩, ⟨5, S, nW⟩, ⟨1, U, nW + nS⟩, ⟨3, W, 2 * nW + nS + 2⟩, ⟨0, [], 3 * nW + nS + 3⟩], 0, 0) := by rw [hA, HALL.out, hT]
  rw [hU] at s4 s5
  have HRES := shut hres
  have S2 := shut s2
  have S3 := shut s3
  have S4 := shut s4
  have S5 := shut s5
  have m0 : (0 : Int) ≤ i := by omega
  have m1 : (i : Int) < 17 := by omega
  have m2 : (0 : Int) ≤ j := by omega
  have m3 : (j : Int) < 19 := by omega
  clear hres hA hT hA1 hA2 hA3 hA4 hU s2 s3 s4 s5 hall HALL hwi hsj B1 B2 hx hy hnW hnS
  rw [words_lit] at cw cs K0
  rw [signs_lit] at cw cs K0
  go_enter Try.func3, Try.ntmps3
  go_wp2_with fail
  generalize ((w.alloc _).alloc _) = W0 at *
  refine (lex_any W0 A4 (by omega)).mono ?_
  rintro e w1 ⟨h1, _⟩
  rw [HRES.out] at h1
  obtain ⟨ao, cap, rfl, o1, k1, _⟩ := h1 rfl
  obtain ⟨g, rfl⟩ := ownT_head o1 (by simp)
  clear h1
  dsimp only at o1 ⊢
  go_wp2_with fail
  have BB := blk_new w1 #[.int .i64 2, .string ⟨W.toArray⟩, .int .i64 (0 : Int), .int .i64 5, .string ⟨S.toArray⟩, .int .i64 (nW : Int), .int .i64 1, .string ⟨U.toArray⟩, .int .i64 ((nW : Int) + (nS : Int)), .int .i64 3, .string ⟨W.toArray⟩, .int .i64 (2 * (nW : Int) + (nS : Int) + 2)] 29
  have KB := (Keeps.refl Nothing w1).alloc (.cells #[.int .i64 2, .string ⟨W.toArray⟩, .int .i64 (0 : Int), .int .i64 5, .string ⟨S.toArray⟩, .int .i64 (nW : Int), .int .i64 1, .string ⟨U.toArray⟩, .int .i64 ((nW : Int) + (nS : Int)), .int .i64 3, .string ⟨W.toArray⟩, .int .i64 (2 * (nW : Int) + (nS : Int) + 2)] 29)
  have o2 := KB.own o1 (fun _ _ h => h)
  have K2 := (K0.trans k1 (fun _ h _ => h)).trans KB (fun _ h _ => h)
  generalize w1.alloc (.cells #[.int .i64 2, .string ⟨W.toArray⟩, .int .i64 (0 : Int), .int .i64 5, .string ⟨S.toArray⟩, .int .i64 (nW : Int), .int .i64 1, .string ⟨U.toArray⟩, .int .i64 ((nW : Int) + (nS : Int)), .int .i64 3, .string ⟨W.toArray⟩, .int .i64 (2 * (nW : Int) + (nS : Int) + 2)] 29) = W1 at *
  generalize w1.heap.size = gw at *
  have d0 := ownT_cells o2 (i := 0) (t := ⟨2, W, 0⟩) rfl
  have a00 : W1.cell? ⟨g, 0, none⟩ = some (.int .i64 2) := d0.1
  have a01 : W1.cell? ⟨g, 1, none⟩ = some (.string ⟨W.toArray⟩) := d0.2.1
  have a02 : W1.cell? ⟨g, 2, none⟩ = some (.int .i64 (0 : Int)) := d0.2.2
  have b00 : W1.cell? ⟨gw, 0, none⟩ = some (.int .i64 2) := blk_cell BB 0 rfl
  have b01 : W1.cell? ⟨gw, 1, none⟩ = some (.string ⟨W.toArray⟩) := blk_cell BB 1 rfl
  have b02 : W1.cell? ⟨gw, 2, none⟩ = some (.int .i64 (0 : Int)) := blk_cell BB 2 rfl
  clear d0
  have d1 := ownT_cells o2 (i := 1) (t := ⟨5, S, nW⟩) rfl
  have a10 : W1.cell? ⟨g, 3, none⟩ = some (.int .i64 5) := d1.1
  have a11 : W1.cell? ⟨g, 4, none⟩ = some (.string ⟨S.toArray⟩) := d1.2.1
  have a12 : W1.cell? ⟨g, 5, none⟩ = some (.int .i64 (nW : Int)) := d1.2.2
  have b10 : W1.cell? ⟨gw, 3, none⟩ = some (.int .i64 5) := blk_cell BB 3 rfl
  have b11 : W1.cell? ⟨gw, 4, none⟩ = some (.string ⟨S.toArray⟩) := blk_cell BB 4 rfl
  have b12 : W1.cell? ⟨gw, 5, none⟩ = some (.int .i64 (nW : Int)) := blk_cell BB 5 rfl
  clear d1
  have d2 := ownT_cells o2 (i := 2) (t := ⟨1, U, nW + nS⟩) rfl
  have a20 : W1.cell? ⟨g, 6, none⟩ = some (.int .i64 1) := d2.1
  have a21 : W1.cell? ⟨g, 7, none⟩ = some (.string ⟨U.toArray⟩) := d2.2.1
  have a22 : W1.cell? ⟨g, 8, none⟩ = some (.int .i64 ((nW : Int) + (nS : Int))) := d2.2.2
  have b20 : W1.cell? ⟨gw, 6, none⟩ = some (.int .i64 1) := blk_cell BB 6 rfl
  have b21 : W1.cell? ⟨gw, 7, none⟩ = some (.string ⟨U.toArray⟩) := blk_cell BB 7 rfl
  have b22 : W1.cell? ⟨gw, 8, none⟩ = some (.int .i64 ((nW : Int) + (nS : Int))) := blk_cell BB 8 rfl
  clear d2
  have d3 := ownT_cells o2 (i := 3) (t := ⟨3, W, 2 * nW + nS + 2⟩) rfl
  have a30 : W1.cell? ⟨g, 9, none⟩ = some (.int .i64 3) := d3.1
  have a31 : W1.cell? ⟨g, 10, none⟩ = some (.string ⟨W.toArray⟩) := d3.2.1
  have a32 : W1.cell? ⟨g, 11, none⟩ = some (.int .i64 (2 * (nW : Int) + (nS : Int) + 2)) := d3.2.2
  have b30 : W1.cell? ⟨gw, 9, none⟩ = some (.int .i64 3) := blk_cell BB 9 rfl
  have b31 : W1.cell? ⟨gw, 10, none⟩ = some (.string ⟨W.toArray⟩) := blk_cell BB 10 rfl
  have b32 : W1.cell? ⟨gw, 11, none⟩ = some (.int .i64 (2 * (nW : Int) + (nS : Int) + 2)) := blk_cell BB 11 rfl
  clear d3
  clear o1 o2 BB KB k1 K0 cw cs
  have F0 := shut (And.intro a00 (And.intro a01 (And.intro a02 (And.intro b00 (And.intro b01 b02)))))
  have F1 := shut (And.intro a10 (And.intro a11 (And.intro a12 (And.intro b10 (And.intro b11 b12)))))
  have F2 := shut (And.intro a20 (And.intro a21 (And.intro a22 (And.intro b20 (And.intro b21 b22)))))
  have F3 := shut (And.intro a30 (And.intro a31 (And.intro a32 (And.intro b30 (And.intro b31 b32)))))
  clear a00 a01 a02 b00 b01 b02 a10 a11 a12 b10 b11 b12 a20 a21 a22 b20 b21 b22 a30 a31 a32 b30 b31 b32
  have HHI := shut hi
  have HHJ := shut hj
  clear hi hj hxw hyw l4 lU
  go_loopw [12] (fun s12 wx => ∃ t m : Nat, s12 = .int .i64 t ∧ t ≤ 4 ∧ wx = W1.drewN m) (fun s12 _ => 4 - (intOf s12).toNat)
  case atStart => exact ⟨0, 0, rfl, by omega, rfl⟩
  case round =>
    obtain ⟨t, m, rfl, ht, rfl⟩ := hrel
    have hcase : t = 0 ∨ t = 1 ∨ t = 2 ∨ t = 3 ∨ t = 4 := by omega
    rcases hcase with rfl | rfl | rfl | rfl | rfl
    · obtain ⟨a0, a1, a2, b0, b1, b2⟩ := F0.out
      have heq := fun V => eql_tok 2 2 W W (0 : Int) (0 : Int) V
      rw [show decide ((2 : Int) = 2 ∧ W = W ∧ (0 : Int) = (0 : Int)) = true by simp] at heq
      go_wp2_with fail
      go_quiet (fail)
      go_wp2_with fail
      go_roundw
      case rel => exact ⟨1, m + nq, rfl, by omega, by first | rfl | trivial | simp⟩
      case measure => simp [intOf]
    · obtain ⟨a0, a1, a2, b0, b1, b2⟩ := F1.out
      have heq := fun V => eql_tok 5 5 S S (nW : Int) (nW : Int) V
      rw [show decide ((5 : Int) = 5 ∧ S = S ∧ (nW : Int) = (nW : Int)) = true by simp] at heq
      go_wp2_with fail
      go_quiet (fail)
      go_wp2_with fail
      go_roundw
      case rel => exact ⟨2, m + nq, rfl, by omega, by first | rfl | trivial | simp⟩
      case measure => simp [intOf]
    · obtain ⟨a0, a1, a2, b0, b1, b2⟩ := F2.out
      have heq := fun V => eql_tok 1 1 U U ((nW : Int) + (nS : Int)) ((nW : Int) + (nS : Int)) V
      rw [show decide ((1 : Int) = 1 ∧ U = U ∧ ((nW : Int) + (nS : Int)) = ((nW : Int) + (nS : Int))) = true by simp] at heq
      go_wp2_with fail
      go_quiet (fail)
      go_wp2_with fail
      go_roundw
      case rel => exact ⟨3, m + nq, rfl, by omega, by first | rfl | trivial | simp⟩
      case measure => simp [intOf]
    · obtain ⟨a0, a1, a2, b0, b1, b2⟩ := F3.out
      have heq := fun V => eql_tok 3 3 W W (2 * (nW : Int) + (nS : Int) + 2) (2 * (nW : Int) + (nS : Int) + 2) V
      rw [show decide ((3 : Int) = 3 ∧ W = W ∧ (2 * (nW : Int) + (nS : Int) + 2) = (2 * (nW : Int) + (nS : Int) + 2)) = true by simp] at heq
      go_wp2_with fail
      go_quiet (fail)
      go_wp2_with fail
      go_roundw
      case rel => exact ⟨4, m + nq, rfl, by omega, by first | rfl | trivial | simp⟩
      case measure => simp [intOf]
    · go_wp2_with fail
      refine (told6_any _).mono ?_
      rintro e w2 ⟨rfl, k2⟩
      go_wp2_with fail
      refine (word_any _ W).mono ?_
      rintro e w3 ⟨rfl, hw⟩
      subst w3
      rw [S2.out]
      go_wp2_with fail
      refine (lname_any _ W (by omega)).mono ?_
      rintro e w3 ⟨rfl, hw⟩
      subst w3
      rw [S3.out]
      go_wp2_with fail
      refine (lname_any _ U (by omega)).mono ?_
      rintro e w3 ⟨rfl, hw⟩
      subst w3
      rw [S4.out]
      go_wp2_with fail
      refine (word_any _ U).mono ?_
      rintro e w3 ⟨rfl, hw⟩
      subst w3
      rw [S5.out]
      go_wp2_with fail
      go_ret
      exact ⟨rfl, (K2.drewN _).trans k2 (fun _ h _ => h)⟩
set_option maxRecDepth 100000 in
theorem lifted (os : Os) (started : os.Started) (H : Type) (enc : TypeId × Value → H) :
    ReturnsInHanded {} Try.checked os 3 .any (Rows.lexWordsSpec.pre6 enc Try.prog Try.f3 Rows.lexWordsRow.domain false) (Rows.lexWordsSpec.post enc Try.prog Try.f3 false true false false) := by
  refine returnsInHanded_of_change (C := Try.checked) own started (by kernel_rfl) Try.func3
    (ChangeSpec.witness6 (enc := enc) (C := Try.checked) false ⟨#[], #[.int .i64 0, .int .i64 0], []⟩ 8 (by kernel_rfl) (by kernel_rfl) (by kernel_rfl) (by kernel_rfl)) ?_
  intro W base args ds gs before hval0 hW hcnd _
  have hval : ∀ (j : Nat) t v, Try.f3.params[j]? = some t → args[j]? = some v → Value.okWide Try.prog W .any base t v := hval0
  have hW' := hW
  obtain ⟨p, q, hA0, hV, rfl, hfz, hnd⟩ := hW
  have hA : DataW.TrodAll enc Try.prog W 0 (fun _ => true) true Try.f3.params.toList args.toList ds p := hA0
  rw [Try.params3] at hA hval
  obtain ⟨v0, vs0, d0, ds0, p0, q0, hargs, rfl, rfl, h0, r0⟩ := trodAll_cons hA
  obtain ⟨v1, vs1, d1, ds1, p1, q1, rfl, rfl, rfl, h1, r1⟩ := trodAll_cons r0
  obtain ⟨rfl, rfl, rfl⟩ := trodAll_nil r1
  obtain rfl : args = #[v0, v1] := by cases args; simp_all
  obtain ⟨rfl, rfl⟩ := trodVars_none hV
  have k0 := h0
  have lt0 : ∀ x ∈ p0, x.block < W.heap.size := by obtain ⟨m, hm⟩ := k0; exact DataW.trod_lt m _ _ _ hm
  have k1 := h1
  have lt1 : ∀ x ∈ p1, x.block < W.heap.size := by obtain ⟨m, hm⟩ := k1; exact DataW.trod_lt m _ _ _ hm
  obtain ⟨a0, rfl, rfl, rfl, w0⟩ := open_int Try.underlying3 (hval 0 3 v0 rfl rfl) h0
  have b0 := bounds_i64 w0
  obtain ⟨a1, rfl, rfl, rfl, w1⟩ := open_int Try.underlying3 (hval 1 3 v1 rfl rfl) h1
  have b1 := bounds_i64 w1
  clear hA0 hval0
  refine (walk W a0 a1).mono fun e W' ⟨he, hk⟩ => ?_
  subst he
  have bel : Below W.heap.size W W' := hk.below (Nat.le_refl _) (fun _ h => h.elim)
  exact ⟨_, rfl, _, _, _, [], _, [], hW', trodAll_mk1 (shut_bool Try.underlying4 _), (trodAll_cons_mk (Below.trod laidOut (by kernel_rfl) (of_decide_eq_true (by kernel_rfl)) k0 bel lt0) (trodAll_cons_mk (Below.trod laidOut (by kernel_rfl) (of_decide_eq_true (by kernel_rfl)) k1 bel lt1) trodAll_mk0)), rfl, bel.frame _, fun h => by cases h⟩

/-- For every input the law returns true, and its arguments read as before. -/
theorem proved : Rows.LexWordsSaid :=
  OpenClaim.holds_of_wide 3 Try.f3 rfl rfl rfl rfl rfl rfl rfl ⟨rfl, rfl, rfl, rfl, rfl⟩ rfl rfl rfl rfl rfl (by kernel_rfl) Try.func3 (by kernel_rfl)
    (of_decide_eq_true (by kernel_rfl)) (by unfold Func.isWrapper; first | (rw [if_pos (by decide +kernel)]; kernel_rfl) | (rw [if_neg (by decide +kernel)]; exact ⟨rfl, rfl⟩))
    (fun os started H enc _ => lifted os started H enc)
#print axioms proved

end Go.Proofs.Ytgnpklheohaghaa.lexWords
