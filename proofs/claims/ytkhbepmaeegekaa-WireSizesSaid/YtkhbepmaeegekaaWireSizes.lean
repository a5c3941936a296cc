/- usufructlaw2.WireSizes: for any two numbers the law returns true; no condition. -/
import Derived.Test.YtkhbepmaeegekaaRows
import Derived.Test.YtkhbepmaeegekaaTold2
import Derived.ProofKit
import Derived.OpenShut
import Derived.ShutString
import Derived.ChangeOld
import Derived.Below
namespace Go.Proofs.Ytkhbepmaeegekaa.wireSizes
open Go.ChangeShapes Go.WideShapes Go.ChangeAt Go.RowKit
open Go.ChangeMaps (open_string shut_string)

theorem own : ownKnob Try.prog.godebug = none := by kernel_rfl
theorem laidOut : laidOutB Try.prog = true := by kernel_rfl

theorem encU_mono (n : Nat) : ∀ x y, x ≤ y → y < 128 ^ (n + 1) → (encU x).length ≤ (encU y).length := by
  induction n with
  | zero => intro x y h hy; rw [encU_lt (by omega), encU_lt (by omega)]; simp
  | succ n ih =>
    intro x y h hy
    by_cases h1 : x < 128
    · rw [encU_lt h1]
      by_cases h2 : y < 128
      · rw [encU_lt h2]; simp
      · rw [encU_ge h2]; simp
    · have h2 : ¬ y < 128 := by omega
      rw [encU_ge h1, encU_ge h2, List.length_cons, List.length_cons]
      have := ih (x / 128) (y / 128) (Nat.div_le_div_right h) (by rw [Nat.pow_succ] at hy; omega)
      omega

theorem zig_half (b : Int) : zig (b.tdiv 2) ≤ zig b := by
  unfold zig
  by_cases h : b < 0
  · have e : b.tdiv 2 = -((-b) / 2) := by
      have h1 : (-b).tdiv 2 = -(b.tdiv 2) := Int.neg_tdiv ..
      rw [Int.tdiv_eq_ediv_of_nonneg (by omega)] at h1
      omega
    rw [e, if_pos h]
    by_cases h2 : -((-b) / 2) < 0
    · rw [if_pos h2]; omega
    · rw [if_neg h2]; omega
  · have e : b.tdiv 2 = b / 2 := by rw [Int.tdiv_eq_ediv_of_nonneg (by omega)]
    rw [e, if_neg h, if_neg (by omega)]; omega

theorem half_bd (b : Int) (h0 : -9223372036854775808 ≤ b) (h1 : b < 9223372036854775808) : -9223372036854775808 ≤ b.tdiv 2 ∧ b.tdiv 2 < 9223372036854775808 := by
  by_cases h : b < 0
  · have h2 : (-b).tdiv 2 = -(b.tdiv 2) := Int.neg_tdiv ..
    rw [Int.tdiv_eq_ediv_of_nonneg (by omega)] at h2
    omega
  · rw [Int.tdiv_eq_ediv_of_nonneg (by omega)]; omega

theorem encI_half (b : Int) (h0 : -9223372036854775808 ≤ b) (h1 : b < 9223372036854775808) : (encI (b.tdiv 2)).length ≤ (encI b).length :=
  encU_mono 9 _ _ (zig_half b) (Nat.lt_of_lt_of_le (zig_lt b h0 h1) (by decide))

/-- How many groups are still to come. -/
def more (x : Nat) : Nat := if x = 0 then 0 else (encU x).length
theorem more_step {x : Nat} (h : 0 < x) : more x = more (x / 128) + 1 := by
  unfold more
  rw [if_neg (by omega)]
  by_cases h1 : x < 128
  · rw [encU_lt h1, if_pos (by omega)]; rfl
  · rw [encU_ge h1, if_neg (by omega)]; simp
theorem len_more (a : Nat) : (encU a).length = more (a / 128) + 1 := by
  unfold more
  by_cases h1 : a < 128
  · rw [encU_lt h1, if_pos (by omega)]; rfl
  · rw [encU_ge h1, if_neg (by omega)]; simp

set_option maxRecDepth 100000 in
set_option maxHeartbeats 1000000 in
theorem walk (a : Nat) (b : Int) (ha : a < 18446744073709551616) (hb0 : -9223372036854775808 ≤ b) (hb1 : b < 9223372036854775808) (w : World) :
    Calls Try.prog 4 #[.int .u64 a, .int .i64 b] w (SaysTrue w) := by
  go_enter Try.func4, Try.ntmps4
  go_wp2_with fail
  refine (newWriter_any w).mono ?_
  rintro e w0 ⟨rfl, hw0⟩
  have W0 : WrNew w w0 w.heap.size none 0 [] := hw0 ▸ wrNew_new w
  clear hw0
  generalize hp : w.heap.size = p at *
  have HP := Lib.hid hp
  clear hp
  go_wp2_with fail
  refine (uint_any W0.wr a ha (by simp)).mono ?_
  rintro e w1 ⟨rfl, ao1, cap1, h1, k1, m1⟩
  have W1 := W0.step h1 k1 m1
  clear h1 k1 m1 W0
  go_wp2_with fail
  have hlen := len_more a
  have hla := encU_len10 ha
  generalize hL : (encU a).length = L at *
  have HL := Lib.hid hL
  clear hL
  have HLEN := Lib.hid hlen
  clear hlen
  go_loop [6, 7] (fun s t => ∃ (n x : Nat), s = .int .i64 n ∧ t = .int .u64 x ∧ n + more x = L ∧ x < 18446744073709551616) (fun _ t => (intOf t).toNat)
  case atStart => exact ⟨1, a / 128, rfl, by simp, by rw [HLEN.out]; omega, by omega⟩
  case round =>
    obtain ⟨n, x, rfl, rfl, hn, hx⟩ := hrel
    have HN := Lib.hid hn
    have hnl : n ≤ 10 := by omega
    clear hn
    by_cases hx0 : 0 < x
    · go_wp2_with fail
      go_round
      case rel => exact ⟨n + 1, x / 128, by go_num, by simp, by have := HN.out; rw [more_step hx0] at this; omega, by omega⟩
      case measure => simp [intOf]; omega
    · go_wp2_with fail
      have h0 : x = 0 := by omega
      have hnL : n = L := by
        have := HN.out
        rw [h0] at this
        simpa [more] using this
      clear h0
      subst hnL
      refine (newWriter_any w1).mono ?_
      rintro e w2 ⟨rfl, hw2⟩
      have V0 : WrNew w1 w2 w1.heap.size none 0 [] := hw2 ▸ wrNew_new w1
      clear hw2
      generalize hq : w1.heap.size = q at *
      have HQ := Lib.hid hq
      clear hq
      go_wp2_with fail
      refine (int_any V0.wr b hb0 hb1 (by simp)).mono ?_
      rintro e w3 ⟨rfl, ao3, cap3, h1, k1, m1⟩
      have V1 := V0.step h1 k1 m1
      clear h1 k1 m1 V0
      go_wp2_with fail
      refine (newWriter_any w3).mono ?_
      rintro e w4 ⟨rfl, hw4⟩
      have U0 : WrNew w3 w4 w3.heap.size none 0 [] := hw4 ▸ wrNew_new w3
      clear hw4
      generalize hr : w3.heap.size = r at *
      have HR := Lib.hid hr
      clear hr
      go_wp2_with fail
      refine (int_any U0.wr (b.tdiv 2) (half_bd b hb0 hb1).1 (half_bd b hb0 hb1).2 (by simp)).mono ?_
      rintro e w5 ⟨rfl, ao5, cap5, h1, k1, m1⟩
      have U1 := U0.step h1 k1 m1
      clear h1 k1 m1 U0
      have W5 := (W1.keeps V1.keep (fun h => h) (fun _ _ h => h) (fun _ h => h.elim)).keeps U1.keep (fun h => h) (fun _ _ h => h) (fun _ h => h.elim)
      have V5 := V1.keeps U1.keep (fun h => h) (fun _ _ h => h) (fun _ h => h.elim)
      clear W1 V1
      go_wp2_with fail
      refine (told_true w5).mono ?_
      rintro e w6 ⟨rfl, K6⟩
      have W6 := W5.keeps K6 (fun h => h) (fun _ _ h => h) (fun _ h => h.elim)
      have V6 := V5.keeps K6 (fun h => h) (fun _ _ h => h) (fun _ h => h.elim)
      have U6 := U1.keeps K6 (fun h => h) (fun _ _ h => h) (fun _ h => h.elim)
      clear W5 V5 U1 K6
      have lv : (encI b).length ≤ 10 := encU_len10 (zig_lt b hb0 hb1)
      have lu := encI_half b hb0 hb1
      simp only [List.nil_append] at W6 V6 U6
      have hlA : (encU a).length = n := HL.out
      go_wp2_with fail
      refine (bytes_any W6.wr (by omega)).mono ?_
      rintro e w7 ⟨ao7, cap7, rfl, o7, K7, _⟩
      have V7 := V6.keeps K7 (fun h => h) (fun _ _ h => h) (fun _ h => h.elim)
      have U7 := U6.keeps K7 (fun h => h) (fun _ _ h => h) (fun _ h => h.elim)
      go_wp2_with fail
      refine (bytes_any U7.wr (by omega)).mono ?_
      rintro e w8 ⟨ao8, cap8, rfl, o8, K8, _⟩
      have V8 := V7.keeps K8 (fun h => h) (fun _ _ h => h) (fun _ h => h.elim)
      go_wp2_with fail
      refine (bytes_any V8.wr (by omega)).mono ?_
      rintro e w9 ⟨ao9, cap9, rfl, o9, K9, _⟩
      have V9 := V8.keeps K9 (fun h => h) (fun _ _ h => h) (fun _ h => h.elim)
      go_wp2_with fail
      refine (bytes_any V9.wr (by omega)).mono ?_
      rintro e w10 ⟨ao10, cap10, rfl, o10, K10, _⟩
      have W7 := ((W6.keeps K7 (fun h => h) (fun _ _ h => h) (fun _ h => h.elim)).keep.trans K8 (fun _ h _ => h)).trans (K9.trans K10 (fun _ h _ => h)) (fun _ h _ => h)
      go_wp2_with fail
      go_ret
      exact ⟨ret_bool (decide_eq_true (by omega)), W7⟩

set_option maxRecDepth 100000 in
theorem lifted (os : Os) (started : os.Started) (H : Type) (enc : TypeId × Value → H) :
    ReturnsInHanded {} Try.checked os 4 .any (Rows.wireSizesSpec.pre6 enc Try.prog Try.f4 Rows.wireSizesRow.domain false) (Rows.wireSizesSpec.post enc Try.prog Try.f4 false true false false) := by
  refine returnsInHanded_of_change (C := Try.checked) own started (by kernel_rfl) Try.func4
    (ChangeSpec.witness6 (enc := enc) (C := Try.checked) false ⟨#[], #[.int .u64 0, .int .i64 0], []⟩ 8 (by kernel_rfl) (by kernel_rfl) (by kernel_rfl) (by kernel_rfl)) ?_
  intro W base args ds gs before hval0 hW hcnd _
  have hval : ∀ (j : Nat) t v, Try.f4.params[j]? = some t → args[j]? = some v → Value.okWide Try.prog W .any base t v := hval0
  have hW' := hW
  obtain ⟨p, q, hA0, hV, rfl, hfz, hnd⟩ := hW
  have hA : DataW.TrodAll enc Try.prog W 0 (fun _ => true) true Try.f4.params.toList args.toList ds p := hA0
  rw [Try.params4] at hA hval
  obtain ⟨v0, vs0, d0, ds0, p0, q0, hargs, rfl, rfl, h0, r0⟩ := trodAll_cons hA
  obtain ⟨v1, vs1, d1, ds1, p1, q1, rfl, rfl, rfl, h1, r1⟩ := trodAll_cons r0
  obtain ⟨rfl, rfl, rfl⟩ := trodAll_nil r1
  obtain rfl : args = #[v0, v1] := by cases args; simp_all
  obtain ⟨rfl, rfl⟩ := trodVars_none hV
  obtain ⟨a0, rfl, rfl, rfl, w0⟩ := open_int Try.underlying39 (hval 0 39 v0 rfl rfl) h0
  obtain ⟨a1, rfl, rfl, rfl, w1⟩ := open_int Try.underlying3 (hval 1 3 v1 rfl rfl) h1
  clear hA0 hval0
  have b0 := bounds_u64 w0
  have b1 := bounds_i64 w1
  obtain ⟨n0, rfl⟩ := Int.eq_ofNat_of_zero_le b0.1
  refine (walk n0 a1 (by omega) (by omega) (by omega) W).mono fun e W' ⟨he, hk⟩ => ?_
  subst he
  have bel : Below W.heap.size W W' := hk.below (Nat.le_refl _) (fun _ h => h.elim)
  exact ⟨_, rfl, _, _, _, [], _, [], hW', trodAll_mk1 (shut_bool Try.underlying4 _), (trodAll_cons_mk (shut_int Try.underlying39 w0) (trodAll_cons_mk (shut_int Try.underlying3 w1) trodAll_mk0)), rfl, bel.frame _, fun h => by cases h⟩

/-- For every input WireSizes returns true, and its arguments read as before. -/
theorem proved : Rows.WireSizesSaid :=
  OpenClaim.holds_of_wide 4 Try.f4 rfl rfl rfl rfl rfl rfl rfl ⟨rfl, rfl, rfl, rfl, rfl⟩ rfl rfl rfl rfl rfl (by kernel_rfl) Try.func4 (by kernel_rfl)
    (of_decide_eq_true (by kernel_rfl)) (by unfold Func.isWrapper; first | (rw [if_pos (by decide +kernel)]; kernel_rfl) | (rw [if_neg (by decide +kernel)]; exact ⟨rfl, rfl⟩))
    (fun os started H enc _ => lifted os started H enc)
#print axioms proved

end Go.Proofs.Ytkhbepmaeegekaa.wireSizes
