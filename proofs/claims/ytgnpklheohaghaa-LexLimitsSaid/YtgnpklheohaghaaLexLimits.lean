/- usufructlaw6.LexLimits: for either the law returns true; no condition. -/
import Derived.Test.YtgnpklheohaghaaRows
import Derived.Test.YtgnpklheohaghaaLex10
import Derived.Laws.OwnMore
import Derived.ProofKit
import Derived.OpenShut
import Derived.ShutString
import Derived.ChangeOld
import Derived.Below
namespace Go.Proofs.Ytgnpklheohaghaa.lexLimits
open Go.ChangeShapes Go.WideShapes Go.ChangeAt Go.RowKit
open Go.ChangeMaps (open_string shut_string)

theorem own : ownKnob Try.prog.godebug = none := by kernel_rfl
theorem laidOut : laidOutB Try.prog = true := by kernel_rfl


theorem made8 (n : Nat) : (madeCells (Value.cells (.int .u8 0)) (n * 1)).toList = (List.replicate n (0 : UInt8)).map byteV := by
  apply List.ext_getElem?
  intro i
  unfold madeCells
  rw [Nat.mul_one]
  simp only [Array.toList_map, Array.toList_range, List.getElem?_map, List.map_replicate, List.getElem?_replicate]
  by_cases hi : i < n
  · rw [List.getElem?_range hi, if_pos hi]
    simp [Value.cells, Nat.mod_one, byteV]
  · rw [List.getElem?_eq_none (by simp; omega), if_neg hi]
    rfl
theorem skip_blanks : ∀ n : Nat, skipL (List.replicate n 32) = []
  | 0 => rfl
  | n + 1 => by rw [List.replicate_succ, skipL_blank rfl]; exact skip_blanks n
theorem lex_blanks (n : Nat) : lexL (List.replicate n 32) = ([⟨0, [], n⟩], none) := by
  unfold lexL
  rw [skip_blanks, List.length_replicate]
  rfl
/-- The first t bytes are blanks. -/
def blankTo (n t : Nat) : List UInt8 := List.replicate t 32 ++ List.replicate (n - t) 0
theorem blankTo_len {n t : Nat} (h : t ≤ n) : (blankTo n t).length = n := by unfold blankTo; simp; omega
theorem blankTo_set {n t : Nat} (h : t < n) : (blankTo n t).set t 32 = blankTo n (t + 1) := by
  unfold blankTo
  rw [List.set_append_right _ _ (by simp), List.length_replicate, Nat.sub_self]
  obtain ⟨m, hm⟩ : ∃ m, n - t = m + 1 := ⟨n - t - 1, by omega⟩
  rw [hm, show n - (t + 1) = m by omega, List.replicate_succ, List.set_cons_zero, List.replicate_succ', List.append_assoc]
  rfl

def nameB : List UInt8 := [97, 98, 99, 100, 101, 102, 103, 104, 105, 106, 107, 108, 109, 110, 111, 112, 113, 114, 115, 116, 117, 118, 119, 120, 121, 122, 95, 65, 66, 67, 68, 69]
theorem name_res : lexRes nameB = ([⟨1, nameB, 0⟩, ⟨0, [], 32⟩], 0, 0) := by decide +kernel
theorem life_res : lexRes (39 :: nameB) = ([⟨3, nameB, 0⟩, ⟨0, [], 33⟩], 0, 0) := by decide +kernel
theorem num_res : lexRes [50, 49, 52, 55, 52, 56, 51, 54, 52, 55] = ([⟨4, [50, 49, 52, 55, 52, 56, 51, 54, 52, 55], 0⟩, ⟨0, [], 10⟩], 0, 0) := by decide +kernel
theorem name_res2 : lexRes (nameB ++ [70]) = ([], 20, 0) := by decide +kernel
theorem life_res2 : lexRes (39 :: (nameB ++ [70])) = ([], 20, 0) := by decide +kernel
theorem num_res2 : lexRes [50, 49, 52, 55, 52, 56, 51, 54, 52, 56] = ([], 20, 0) := by decide +kernel

set_option maxRecDepth 100000 in
set_option maxHeartbeats 2000000 in
theorem walk (w : World) (more : Bool) : Calls Try.prog 8 #[.bool more] w (SaysTrue w) := by
  obtain ⟨n, hn, hn2⟩ : ∃ n : Nat, n = (if more then 1048577 else 1048576) ∧ n ≤ 1048577 := ⟨if more then 1048577 else 1048576, rfl, by split <;> omega⟩
  obtain ⟨i0, hi, hz0, hz1, hz2⟩ := info_parts info8
  obtain ⟨w0, hmk, ho, hg⟩ := run_makeSlice_full (P := Try.prog) w 0 39 5 i0 (.int .u8 0) 1 Try.underlying39 hi hz0 hz1 .i64 .i64 n (by omega) (by rw [hz2]; omega) (by unfold maxLen; omega) (Nat.zero_le _)
  have K0 : Keeps Nothing w w0 := (Keeps.refl _ _).grown hg (fun k hk _ => by cases hk)
  rw [made8] at ho
  have O0 : Own8 w0 5 (some ⟨w.heap.size, 0, none⟩) n (blankTo n 0) := by
    have := ho
    unfold Own8
    rw [blankTo_len (Nat.zero_le _)]
    unfold blankTo
    rw [List.replicate_zero, List.nil_append, Nat.sub_zero]
    exact this
  clear ho hg hi hz0 hz1 hz2
  cases more with
  | false =>
    have hn3 : n = 1048576 := hn
    have hmk2 : (Instr.makeSlice 39 (.int .i64 1048576) (.int .i64 1048576)).run Try.prog w = .ok (.slice (some ⟨w.heap.size, 0, none⟩) n n) w0 := by rw [hn3] at hmk ⊢; exact hmk
    have HN := shut hn3
    have hnn : (n : Int) = 1048576 := by omega
    clear hmk hn hn3
    go_enter Try.func8, Try.ntmps8
    go_wp2_with fail
    clear hmk2
    generalize hg : w.heap.size = g at *
    have HG := shut hg
    clear hg
    have HNN := shut hnn
    clear hnn
    go_loopw [7] (fun s wx => ∃ i : Nat, s = .int .i64 i ∧ i ≤ n ∧ Own8 wx 5 (some ⟨g, 0, none⟩) n (blankTo n i) ∧ Keeps Nothing w wx) (fun s _ => n - (intOf s).toNat)
    case atStart => exact ⟨0, rfl, Nat.zero_le _, O0, K0⟩
    case round =>
      clear O0 K0
      obtain ⟨i, rfl, hi, O1, K1⟩ := hrel
      by_cases hlt : i < n
      · obtain ⟨⟨v, hc⟩, hf, o4, k4⟩ := own8_store O1 (j := i) (by rw [blankTo_len hi]; exact hlt) 32
        rw [blankTo_set hlt] at o4
        have m0 : (0 : Int) ≤ i := by omega
        have m1 : (i : Int) < n := by omega
        have m2 : (i : Int) < 1048576 := by have := HNN.out; omega
        go_wp2_with fail
        go_roundw
        case rel => exact ⟨i + 1, by go_num, by omega, o4, K1.trans k4 (fun j hj hlt => by have := HG.out; omega)⟩
        case measure => simp [intOf]; omega
      · have hin : i = n := by omega
        have hbl : blankTo n i = List.replicate n 32 := by rw [hin]; unfold blankTo; rw [Nat.sub_self]; simp
        rw [hbl] at O1
        have hst := run_str wr n (List.replicate n 32) (l := n) (by simp) (own8_at O1)
        have m2 : ¬ (i : Int) < 1048576 := by have := HNN.out; omega
        have HI := shut hin
        have HN2 := shut hn2
        clear hbl hin hlt hi hn2
        go_wp2_with fail
        refine (lex_any wr (List.replicate n 32) (by have := HN2.out; rw [List.length_replicate]; omega)).mono ?_
        rintro e w1 ⟨h1, _⟩
        have hr1 : lexRes (List.replicate n 32) = ([⟨0, [], n⟩], 0, 0) := by unfold lexRes; rw [if_neg (by have := HN.out; rw [List.length_replicate]; omega), lex_blanks]
        rw [hr1] at h1
        obtain ⟨a1, c1, rfl, _, k1, _⟩ := h1 rfl
        clear h1 hr1
        go_wp2_with fail
        refine (lex_any w1 nameB (by decide)).mono ?_
        rintro e w2 ⟨h2, _⟩
        rw [name_res] at h2
        obtain ⟨a2, c2, rfl, _, k2, _⟩ := h2 rfl
        clear h2
        go_wp2_with fail
        refine (lex_any w2 (39 :: nameB) (by decide)).mono ?_
        rintro e w3 ⟨h3, _⟩
        rw [life_res] at h3
        obtain ⟨a3, c3, rfl, _, k3, _⟩ := h3 rfl
        clear h3
        go_wp2_with fail
        refine (lex_any w3 [50, 49, 52, 55, 52, 56, 51, 54, 52, 55] (by decide)).mono ?_
        rintro e w4 ⟨h4, _⟩
        rw [num_res] at h4
        obtain ⟨a4, c4, rfl, _, k4, _⟩ := h4 rfl
        clear h4
        go_wp2_with fail
        refine (told6_any w4).mono ?_
        rintro e w5 ⟨rfl, k5⟩
        go_wp2_with fail
        refine (lname_any w5 nameB (by decide)).mono ?_
        rintro e w6 ⟨rfl, hw⟩
        subst w6
        rw [show isName nameB = true by decide +kernel]
        go_wp2_with fail
        go_ret
        exact ⟨rfl, ((((K1.trans k1 (fun _ h _ => h)).trans k2 (fun _ h _ => h)).trans k3 (fun _ h _ => h)).trans k4 (fun _ h _ => h)).trans k5 (fun _ h _ => h)⟩
  | true =>
    have hn3 : n = 1048577 := hn
    have hmk2 : (Instr.makeSlice 39 (.int .i64 1048577) (.int .i64 1048577)).run Try.prog w = .ok (.slice (some ⟨w.heap.size, 0, none⟩) n n) w0 := by rw [hn3] at hmk ⊢; exact hmk
    have HN := shut hn3
    have hnn : (n : Int) = 1048577 := by omega
    clear hmk hn hn3
    go_enter Try.func8, Try.ntmps8
    go_wp2_with fail
    clear hmk2
    generalize hg : w.heap.size = g at *
    have HG := shut hg
    clear hg
    have HNN := shut hnn
    clear hnn
    go_loopw [7] (fun s wx => ∃ i : Nat, s = .int .i64 i ∧ i ≤ n ∧ Own8 wx 5 (some ⟨g, 0, none⟩) n (blankTo n i) ∧ Keeps Nothing w wx) (fun s _ => n - (intOf s).toNat)
    case atStart => exact ⟨0, rfl, Nat.zero_le _, O0, K0⟩
    case round =>
      clear O0 K0
      obtain ⟨i, rfl, hi, O1, K1⟩ := hrel
      by_cases hlt : i < n
      · obtain ⟨⟨v, hc⟩, hf, o4, k4⟩ := own8_store O1 (j := i) (by rw [blankTo_len hi]; exact hlt) 32
        rw [blankTo_set hlt] at o4
        have m0 : (0 : Int) ≤ i := by omega
        have m1 : (i : Int) < n := by omega
        have m2 : (i : Int) < 1048577 := by have := HNN.out; omega
        go_wp2_with fail
        go_roundw
        case rel => exact ⟨i + 1, by go_num, by omega, o4, K1.trans k4 (fun j hj hlt => by have := HG.out; omega)⟩
        case measure => simp [intOf]; omega
      · have hin : i = n := by omega
        have hbl : blankTo n i = List.replicate n 32 := by rw [hin]; unfold blankTo; rw [Nat.sub_self]; simp
        rw [hbl] at O1
        have hst := run_str wr n (List.replicate n 32) (l := n) (by simp) (own8_at O1)
        have m2 : ¬ (i : Int) < 1048577 := by have := HNN.out; omega
        have HI := shut hin
        have HN2 := shut hn2
        clear hbl hin hlt hi hn2
        go_wp2_with fail
        refine (lex_any wr (List.replicate n 32) (by have := HN2.out; rw [List.length_replicate]; omega)).mono ?_
        rintro e w1 ⟨_, h1⟩
        have hr1 : lexRes (List.replicate n 32) = ([], 5, 0) := by unfold lexRes; rw [if_pos (by have := HN.out; rw [List.length_replicate]; omega)]
        rw [hr1] at h1
        obtain ⟨ev1, rfl, hev1, k1⟩ := h1 (show ¬ (5 : Nat) = 0 by decide)
        clear h1 hr1
        go_wp2_with fail
        refine (lex_any w1 (nameB ++ [70]) (by decide)).mono ?_
        rintro e w2 ⟨_, h2⟩
        rw [name_res2] at h2
        obtain ⟨ev2, rfl, hev2, k2⟩ := h2 (show ¬ (20 : Nat) = 0 by decide)
        clear h2
        go_wp2_with fail
        refine (lex_any w2 (39 :: (nameB ++ [70])) (by decide)).mono ?_
        rintro e w3 ⟨_, h3⟩
        rw [life_res2] at h3
        obtain ⟨ev3, rfl, hev3, k3⟩ := h3 (show ¬ (20 : Nat) = 0 by decide)
        clear h3
        go_wp2_with fail
        refine (lex_any w3 [50, 49, 52, 55, 52, 56, 51, 54, 52, 56] (by decide)).mono ?_
        rintro e w4 ⟨_, h4⟩
        rw [num_res2] at h4
        obtain ⟨ev4, rfl, hev4, k4⟩ := h4 (show ¬ (20 : Nat) = 0 by decide)
        clear h4
        go_wp2_with fail
        refine (told6_any w4).mono ?_
        rintro e w5 ⟨rfl, k5⟩
        have i1 := (((hev1.keeps k2 (fun _ h => h.elim)).keeps k3 (fun _ h => h.elim)).keeps k4 (fun _ h => h.elim)).keeps k5 (fun _ h => h.elim)
        have i2 := ((hev2.keeps k3 (fun _ h => h.elim)).keeps k4 (fun _ h => h.elim)).keeps k5 (fun _ h => h.elim)
        have i3 := (hev3.keeps k4 (fun _ h => h.elim)).keeps k5 (fun _ h => h.elim)
        have i4 := hev4.keeps k5 (fun _ h => h.elim)
        go_wp2_with fail
        refine (is_any i1 5 0).mono ?_
        rintro e w6 ⟨rfl, n6, rfl⟩
        go_wp2_with fail
        refine (is_any (i2.drewN n6) 20 0).mono ?_
        rintro e w7 ⟨rfl, n7, rfl⟩
        go_wp2_with fail
        refine (is_any (i3.drewN (n6 + n7)) 20 0).mono ?_
        rintro e w8 ⟨rfl, n8, rfl⟩
        go_wp2_with fail
        refine (is_any (i4.drewN (n6 + n7 + n8)) 20 0).mono ?_
        rintro e w9 ⟨rfl, n9, rfl⟩
        go_wp2_with fail
        refine (lname_any _ (nameB ++ [70]) (by decide)).mono ?_
        rintro e w10 ⟨rfl, hw⟩
        subst w10
        rw [show isName (nameB ++ [70]) = false by decide +kernel]
        go_wp2_with fail
        go_ret
        exact ⟨rfl, (((((K1.trans k1 (fun _ h _ => h)).trans k2 (fun _ h _ => h)).trans k3 (fun _ h _ => h)).trans k4 (fun _ h _ => h)).trans k5 (fun _ h _ => h)).drewN _⟩
set_option maxRecDepth 100000 in
theorem lifted (os : Os) (started : os.Started) (H : Type) (enc : TypeId × Value → H) :
    ReturnsInHanded {} Try.checked os 8 .any (Rows.lexLimitsSpec.pre6 enc Try.prog Try.f8 Rows.lexLimitsRow.domain false) (Rows.lexLimitsSpec.post enc Try.prog Try.f8 false true false false) := by
  refine returnsInHanded_of_change (C := Try.checked) own started (by kernel_rfl) Try.func8
    (ChangeSpec.witness6 (enc := enc) (C := Try.checked) false ⟨#[], #[.bool false], []⟩ 8 (by kernel_rfl) (by kernel_rfl) (by kernel_rfl) (by kernel_rfl)) ?_
  intro W base args ds gs before hval0 hW hcnd _
  have hval : ∀ (j : Nat) t v, Try.f8.params[j]? = some t → args[j]? = some v → Value.okWide Try.prog W .any base t v := hval0
  have hW' := hW
  obtain ⟨p, q, hA0, hV, rfl, hfz, hnd⟩ := hW
  have hA : DataW.TrodAll enc Try.prog W 0 (fun _ => true) true Try.f8.params.toList args.toList ds p := hA0
  rw [Try.params8] at hA hval
  obtain ⟨v0, vs0, d0, ds0, p0, q0, hargs, rfl, rfl, h0, r0⟩ := trodAll_cons hA
  obtain ⟨rfl, rfl, rfl⟩ := trodAll_nil r0
  obtain rfl : args = #[v0] := by cases args; simp_all
  obtain ⟨rfl, rfl⟩ := trodVars_none hV
  have k0 := h0
  have lt0 : ∀ x ∈ p0, x.block < W.heap.size := by obtain ⟨m, hm⟩ := k0; exact DataW.trod_lt m _ _ _ hm
  obtain ⟨fuel0, hf0⟩ := h0
  obtain ⟨b0, e0, _⟩ := DataW.trod_bool Try.underlying4 hf0
  obtain ⟨x0, rfl⟩ := okWide_bool Try.underlying4 (hval 0 4 v0 rfl rfl)
  clear hA0 hval0
  refine (walk W x0).mono fun e W' ⟨he, hk⟩ => ?_
  subst he
  have bel : Below W.heap.size W W' := hk.below (Nat.le_refl _) (fun _ h => h.elim)
  exact ⟨_, rfl, _, _, _, [], _, [], hW', trodAll_mk1 (shut_bool Try.underlying4 _), (trodAll_cons_mk (Below.trod laidOut (by kernel_rfl) (of_decide_eq_true (by kernel_rfl)) k0 bel lt0) trodAll_mk0), rfl, bel.frame _, fun h => by cases h⟩

/-- For every input the law returns true, and its arguments read as before. -/
theorem proved : Rows.LexLimitsSaid :=
  OpenClaim.holds_of_wide 8 Try.f8 rfl rfl rfl rfl rfl rfl rfl ⟨rfl, rfl, rfl, rfl, rfl⟩ rfl rfl rfl rfl rfl (by kernel_rfl) Try.func8 (by kernel_rfl)
    (of_decide_eq_true (by kernel_rfl)) (by unfold Func.isWrapper; first | (rw [if_pos (by decide +kernel)]; kernel_rfl) | (rw [if_neg (by decide +kernel)]; exact ⟨rfl, rfl⟩))
    (fun os started H enc _ => lifted os started H enc)
#print axioms proved

end Go.Proofs.Ytgnpklheohaghaa.lexLimits
