/- usufructlaw2.WireSmall: for any number and any most the law returns true; no condition. -/
import Derived.Test.YtkhbepmaeegekaaRows
import Derived.Test.YtkhbepmaeegekaaBack2
import Derived.ProofKit
import Derived.OpenShut
import Derived.ShutString
import Derived.ChangeOld
import Derived.Below
namespace Go.Proofs.Ytkhbepmaeegekaa.wireSmall
open Go.ChangeShapes Go.WideShapes Go.ChangeAt Go.RowKit
open Go.ChangeMaps (open_string shut_string)

theorem own : ownKnob Try.prog.godebug = none := by kernel_rfl
theorem laidOut : laidOutB Try.prog = true := by kernel_rfl

set_option maxRecDepth 100000 in
set_option maxHeartbeats 1000000 in
theorem walk (v : Nat) (most : Int) (hv : v < 18446744073709551616) (hm0 : -9223372036854775808 ≤ most) (hm : most < 9223372036854775808) (w : World) :
    Calls Try.prog 8 #[.int .u64 v, .int .i64 most] w (SaysTrue w) := by
  have hlen := encU_len10 hv
  have hcase : (most < 0 ∨ (¬ most < 0 ∧ most < (v : Int))) ∨ (¬ most < 0 ∧ ¬ most < (v : Int)) := by omega
  have hbytes : bytesOf ⟨(encU v).toArray⟩ = encU v := rfl
  rcases hcase with hbad | ⟨hneg, hle⟩
  · have hd : decSmall most ((encU v).drop 0) = (2, 0, 0) := by
      unfold decSmall
      rw [List.drop_zero, show decU (encU v) = (0, v, (encU v).length) by have := decU_enc v hv []; rwa [List.append_nil] at this]
      rw [if_neg (by simp), if_pos (show most < 0 ∨ most < (v : Int) by omega)]
    have HD := Lib.hid hd
    clear hd
    rcases hbad with hneg | ⟨hneg, hgt⟩
    all_goals
      go_enter Try.func8, Try.ntmps8
      go_wp2_with fail
      refine (refUint v hv w).mono ?_
      rintro e w1 ⟨rfl, K1⟩
      obtain ⟨cap, w2, hrun, hat, K2, hs2⟩ := run_bytes w1 ⟨(encU v).toArray⟩
      rw [hbytes] at hat
      have hsz : (ByteArray.mk (encU v).toArray).size = (encU v).length := rfl
      rw [hsz] at hrun
      go_wp2_with fail
      refine (newReader_any _ hat (by omega)).mono ?_
      rintro e w3 ⟨q, ao, cap3, rfl, R3, K3, hq, hqa⟩
      clear hrun
      have hS := rSmall_any R3 (by omega) most hm
      rw [HD.out] at hS
      go_wp2_with fail
      refine hS.mono ?_
      rintro e w4 ⟨ev, rfl, hev, R4, K4⟩
      go_wp2_with fail
      refine (told_true w4).mono ?_
      rintro e w5 ⟨rfl, K5⟩
      have hev5 := hev.keeps K5 (fun _ h => h.elim)
      have R5 := R4.keepsN K5
      go_wp2_with fail
      refine (is_any hev5 2 0).mono ?_
      rintro e w6 ⟨rfl, n6, rfl⟩
      have R6 := R5.drewN n6
      go_wp2_with fail
      refine (rAt_any R6).mono ?_
      rintro e w7 ⟨rfl, rfl⟩
      go_wp2_with fail
      go_ret
      refine ⟨rfl, ?_⟩
      have hlt2 := K2.size
      have hlt1 := K1.size
      exact (((((K1.trans K2 (fun _ h _ => h)).trans K3 (fun _ h _ => h)).trans K4 (fun i h hlt => by subst h; omega)).trans K5 (fun _ h _ => h)).drewN n6)
  · have hd : decSmall most ((encU v).drop 0) = (0, v, (encU v).length) := by
      unfold decSmall
      rw [List.drop_zero, show decU (encU v) = (0, v, (encU v).length) by have := decU_enc v hv []; rwa [List.append_nil] at this]
      rw [if_neg (by simp), if_neg (show ¬ (most < 0 ∨ most < (v : Int)) by omega)]
    have HD := Lib.hid hd
    clear hd
    go_enter Try.func8, Try.ntmps8
    go_wp2_with fail
    refine (refUint v hv w).mono ?_
    rintro e w1 ⟨rfl, K1⟩
    obtain ⟨cap, w2, hrun, hat, K2, hs2⟩ := run_bytes w1 ⟨(encU v).toArray⟩
    rw [hbytes] at hat
    have hsz : (ByteArray.mk (encU v).toArray).size = (encU v).length := rfl
    rw [hsz] at hrun
    go_wp2_with fail
    refine (newReader_any _ hat (by omega)).mono ?_
    rintro e w3 ⟨q, ao, cap3, rfl, R3, K3, hq, hqa⟩
    clear hrun
    have hS := rSmall_any R3 (by omega) most hm
    rw [HD.out] at hS
    go_wp2_with fail
    refine hS.mono ?_
    rintro e w4 ⟨ev, rfl, hev, R4, K4⟩
    obtain rfl := isErr_no hev
    clear hev
    go_wp2_with fail
    refine (told_true w4).mono ?_
    rintro e w5 ⟨rfl, K5⟩
    have R5 := R4.keepsN K5
    have hE := rEnd_any R5
    have he0 : endOf (encU v) (0 + (encU v).length) = 0 := by unfold endOf; rw [if_neg (by omega)]
    rw [he0] at hE
    clear he0
    go_wp2_with fail
    refine hE.mono ?_
    rintro e w6 ⟨ev6, rfl, hev6, K6⟩
    obtain rfl := isErr_no hev6
    go_wp2_with fail
    go_ret
    refine ⟨rfl, ?_⟩
    have hlt2 := K2.size
    have hlt1 := K1.size
    exact (((((K1.trans K2 (fun _ h _ => h)).trans K3 (fun _ h _ => h)).trans K4 (fun i h hlt => by subst h; omega)).trans K5 (fun _ h _ => h)).trans K6 (fun _ h _ => h))

set_option maxRecDepth 100000 in
theorem lifted (os : Os) (started : os.Started) (H : Type) (enc : TypeId × Value → H) :
    ReturnsInHanded {} Try.checked os 8 .any (Rows.wireSmallSpec.pre6 enc Try.prog Try.f8 Rows.wireSmallRow.domain false) (Rows.wireSmallSpec.post enc Try.prog Try.f8 false true false false) := by
  refine returnsInHanded_of_change (C := Try.checked) own started (by kernel_rfl) Try.func8
    (ChangeSpec.witness6 (enc := enc) (C := Try.checked) false ⟨#[], #[.int .u64 0, .int .i64 0], []⟩ 8 (by kernel_rfl) (by kernel_rfl) (by kernel_rfl) (by kernel_rfl)) ?_
  intro W base args ds gs before hval0 hW hcnd _
  have hval : ∀ (j : Nat) t v, Try.f8.params[j]? = some t → args[j]? = some v → Value.okWide Try.prog W .any base t v := hval0
  have hW' := hW
  obtain ⟨p, q, hA0, hV, rfl, hfz, hnd⟩ := hW
  have hA : DataW.TrodAll enc Try.prog W 0 (fun _ => true) true Try.f8.params.toList args.toList ds p := hA0
  rw [Try.params8] at hA hval
  obtain ⟨v0, vs0, d0, ds0, p0, q0, hargs, rfl, rfl, h0, r0⟩ := trodAll_cons hA
  obtain ⟨v1, vs1, d1, ds1, p1, q1, rfl, rfl, rfl, h1, r1⟩ := trodAll_cons r0
  obtain ⟨rfl, rfl, rfl⟩ := trodAll_nil r1
  obtain rfl : args = #[v0, v1] := by cases args; simp_all
  obtain ⟨rfl, rfl⟩ := trodVars_none hV
  have k0 := h0
  have lt0 : ∀ x ∈ p0, x.block < W.heap.size := by obtain ⟨m, hm⟩ := k0; exact DataW.trod_lt m _ _ _ hm
  have k1 := h1
  have lt1 : ∀ x ∈ p1, x.block < W.heap.size := by obtain ⟨m, hm⟩ := k1; exact DataW.trod_lt m _ _ _ hm
  obtain ⟨a0, rfl, rfl, rfl, w0⟩ := open_int Try.underlying39 (hval 0 39 v0 rfl rfl) h0
  obtain ⟨a1, rfl, rfl, rfl, w1⟩ := open_int Try.underlying3 (hval 1 3 v1 rfl rfl) h1
  have b0 := bounds_u64 w0
  have b1 := bounds_i64 w1
  obtain ⟨n0, rfl⟩ := Int.eq_ofNat_of_zero_le b0.1
  clear hA0 hval0
  refine (walk n0 a1 (by omega) (by omega) (by omega) W).mono fun e W' ⟨he, hk⟩ => ?_
  subst he
  have bel : Below W.heap.size W W' := hk.below (Nat.le_refl _) (fun _ h => h.elim)
  exact ⟨_, rfl, _, _, _, [], _, [], hW', trodAll_mk1 (shut_bool Try.underlying4 _), (trodAll_cons_mk (Below.trod laidOut (by kernel_rfl) (of_decide_eq_true (by kernel_rfl)) k0 bel lt0) (trodAll_cons_mk (Below.trod laidOut (by kernel_rfl) (of_decide_eq_true (by kernel_rfl)) k1 bel lt1) trodAll_mk0)), rfl, bel.frame _, fun h => by cases h⟩

/-- For every input the law returns true, and its arguments read as before. -/
theorem proved : Rows.WireSmallSaid :=
  OpenClaim.holds_of_wide 8 Try.f8 rfl rfl rfl rfl rfl rfl rfl ⟨rfl, rfl, rfl, rfl, rfl⟩ rfl rfl rfl rfl rfl (by kernel_rfl) Try.func8 (by kernel_rfl)
    (of_decide_eq_true (by kernel_rfl)) (by unfold Func.isWrapper; first | (rw [if_pos (by decide +kernel)]; kernel_rfl) | (rw [if_neg (by decide +kernel)]; exact ⟨rfl, rfl⟩))
    (fun os started H enc _ => lifted os started H enc)
#print axioms proved

end Go.Proofs.Ytkhbepmaeegekaa.wireSmall
