/- usufructlaw25.DiskFull: for any text and any room the law returns true; no condition. -/
import Derived.Test.YtkhbepmaeegekaaRows
import Derived.Test.YtkhbepmaeegekaaDisk3
import Derived.Test.YtkhbepmaeegekaaArgs2
import Derived.IntWalk
import Derived.Laws.BitsAllLaws
import Derived.ProofKit
import Derived.OpenShut
import Derived.ShutString
import Derived.ChangeOld
import Derived.Below
namespace Go.Proofs.Ytkhbepmaeegekaa.diskFull
open Go.ChangeShapes Go.WideShapes Go.ChangeAt Go.RowKit
open Go.ChangeMaps (open_string shut_string)

theorem own : ownKnob Try.prog.godebug = none := by kernel_rfl
theorem laidOut : laidOutB Try.prog = true := by kernel_rfl


theorem i64_mask (x : Int) (m : Nat) (hm : m < 4294967296) : 0 ≤ bits .and .i64 x (m : Int) ∧ bits .and .i64 x (m : Int) ≤ m := by
  have e : bits .and .i64 x (m : Int) = IntKind.i64.wrap ((BitVec.ofInt 64 x &&& BitVec.ofInt 64 (m : Int)).toNat : Int) := rfl
  rw [e, BitVec.toNat_and]
  have h := Nat.and_le_right (n := (BitVec.ofInt 64 x).toNat) (m := (BitVec.ofInt 64 (m : Int)).toNat)
  have h2 : (BitVec.ofInt 64 (m : Int)).toNat = m := ofInt_u64 m (by omega)
  rw [h2] at h ⊢
  rw [IntWalk.i64_in _ (by omega)]
  omega

set_option maxRecDepth 100000 in
set_option maxHeartbeats 1000000 in
theorem walk (w : World) (ao : Option Addr) (n c : Nat) (bs : List UInt8) (hn : bs.length = n) (hB : BytesAt w ao bs) (hmax : n ≤ maxLen) (room : Int) :
    Calls Try.prog 5 #[.slice ao n c, .int .i64 room] w (SaysTrue w) := by
  have hr := i64_mask room 255 (by decide)
  rw [show ((255 : Nat) : Int) = 255 from rfl] at hr
  have hn9 : n < 9223372036854775808 := by unfold maxLen at hmax; omega
  clear hmax
  have HN := Lib.hid hn
  clear hn
  go_enter Try.func5, Try.ntmps5
  go_wp2_with fail
  generalize bits .and .i64 room 255 = r at *
  obtain ⟨hr0, hr1⟩ := hr
  refine (disk_new r (by omega) (by omega) w).mono ?_
  rintro e w0 ⟨rfl, hw0⟩
  have D0 := dkNew_new w r (by omega) (by omega)
  rw [← hw0] at D0
  clear hw0
  generalize hp : w.heap.size = p at *
  have HP := Lib.hid hp
  clear hp
  by_cases hbig : 200 < n
  · go_wp2_with fail
    refine (disk_told w0).mono ?_
    rintro e w1 ⟨rfl, k1⟩
    go_wp2_with fail
    go_ret
    exact ⟨rfl, D0.keep.trans k1 (fun _ h _ => h)⟩
  · by_cases hfit : (n : Int) ≤ r
    · have hw := disk_append_to (c := 0) (d' := ⟨r, bs, 0, false⟩) D0.dk c (by
        unfold DkS.append
        have := HN.out
        rw [if_neg (by simp), if_neg (by show ¬ (r - 0 < (bs.length : Int)); omega)]; rfl) (hB.keepsN D0.keep) (by have := HN.out; omega) HN.out.symm
      go_wp2_with fail
      refine hw.mono ?_
      clear hw
      rintro e w1 ⟨ev, rfl, hev, ao1, cap1, d1, k1, m1⟩
      obtain rfl := isErr_no hev
      have D1 := D0.step d1 k1 m1
      clear d1 k1 m1 hev D0
      have hs1 := disk_size D1.dk
      rw [show (⟨r, bs, 0, false⟩ : DkS).bs.length = n from HN.out] at hs1
      go_wp2_with fail
      refine hs1.mono ?_
      rintro e w2 ⟨rfl, rfl⟩
      clear hs1
      go_wp2_with fail
      refine (disk_room D1.dk 0).mono ?_
      rintro e w3 ⟨rfl, ao3, cap3, d1, k1, m1⟩
      have D3 := D1.step d1 k1 m1
      clear d1 k1 m1 D1
      go_wp2_with fail
      refine (disk_read D3.dk).mono ?_
      rintro e w4 ⟨_, hr⟩
      obtain ⟨ao4, cap4, rfl, o4, k4, _⟩ := hr rfl
      have D4 := D3.keepsN k4
      have o5 : Own8 w4 5 ao4 cap4 bs := o4
      rw [show (DkS.setRoom ⟨r, bs, 0, false⟩ 0).bs.length = n from HN.out]
      clear hr D3 k4 o4
      go_wp2_with fail
      refine (disk_told w4).mono ?_
      rintro e w5 ⟨rfl, k5⟩
      have D5 := D4.keepsN k5
      have hconv1 := run_str w5 cap4 bs HN.out (own8_at (k5.own o5 (fun _ _ h => h)))
      have hconv2 := run_str w5 c bs HN.out (hB.keepsN D5.keep)
      go_wp2_with fail
      have D6 := D5.keepsN ((Keeps.refl _ _).alloc (.cells (([1] : List UInt8).map byteV).toArray 5))
      refine (disk_append_to (cs := [1]) (c := 12) (d' := DkS.setRoom ⟨r, bs, 0, false⟩ 0) D6.dk 1 (by
        unfold DkS.append
        rw [if_neg (by show ¬ (false = true); simp), if_pos (by show ((min (max 0 0) 16777216 : Int) - bs.length < 1); omega)]) (bytesAt_lit w5 [1] _) (by decide) rfl).mono ?_
      rintro e w6 ⟨ev, rfl, hev, ao6, cap6, d1, k1, m1⟩
      have D7 := D6.step d1 k1 m1
      clear d1 k1 m1 D6
      go_wp2_with fail
      refine (is_any hev 12 0).mono ?_
      rintro e w7 ⟨rfl, n7, rfl⟩
      have D8 := D7.keepsN ((Keeps.refl _ _).drewN n7)
      have hs1 := disk_size D8.dk
      rw [show (DkS.setRoom ⟨r, bs, 0, false⟩ 0).bs.length = n from HN.out] at hs1
      go_wp2_with fail
      refine hs1.mono ?_
      rintro e w8 ⟨rfl, rfl⟩
      go_wp2_with fail
      go_ret
      exact ⟨rfl, D8.keep⟩
    · have hw := disk_append_to (c := 12) (d' := ⟨r, [], 0, false⟩) D0.dk c (by
        unfold DkS.append
        have := HN.out
        rw [if_neg (by simp), if_pos (by show (r - 0 < (bs.length : Int)); omega)]) (hB.keepsN D0.keep) (by have := HN.out; omega) HN.out.symm
      go_wp2_with fail
      refine hw.mono ?_
      clear hw
      rintro e w1 ⟨ev, rfl, hev, ao1, cap1, d1, k1, m1⟩
      have D1 := D0.step d1 k1 m1
      clear d1 k1 m1 D0
      go_wp2_with fail
      refine (is_any hev 12 0).mono ?_
      rintro e w2 ⟨rfl, n2, rfl⟩
      have D2 := D1.keepsN ((Keeps.refl _ _).drewN n2)
      clear hev D1
      go_wp2_with fail
      refine (disk_size D2.dk).mono ?_
      rintro e w3 ⟨rfl, rfl⟩
      go_wp2_with fail
      refine (disk_room D2.dk n).mono ?_
      rintro e w4 ⟨rfl, ao4, cap4, d1, k1, m1⟩
      have D4 := D2.step d1 k1 m1
      clear d1 k1 m1 D2
      go_wp2_with fail
      refine (disk_told w4).mono ?_
      rintro e w5 ⟨rfl, k5⟩
      have D5 := D4.keepsN k5
      have hw := disk_append_to (c := 0) (d' := ⟨min (max (n : Int) 0) 16777216, bs, 0, false⟩) D5.dk c (by
        unfold DkS.append
        have := HN.out
        rw [if_neg (by show ¬ (false = true); simp), if_neg (by show ¬ (min (max (n : Int) 0) 16777216 - 0 < (bs.length : Int)); omega)]; rfl) (hB.keepsN D5.keep) (by have := HN.out; omega) HN.out.symm
      go_wp2_with fail
      refine hw.mono ?_
      clear hw
      rintro e w6 ⟨ev, rfl, hev, ao6, cap6, d1, k1, m1⟩
      obtain rfl := isErr_no hev
      have D6 := D5.step d1 k1 m1
      clear d1 k1 m1 D5 hev
      have hs1 := disk_size D6.dk
      rw [show (⟨min (max (n : Int) 0) 16777216, bs, 0, false⟩ : DkS).bs.length = n from HN.out] at hs1
      go_wp2_with fail
      refine hs1.mono ?_
      rintro e w7 ⟨rfl, rfl⟩
      go_wp2_with fail
      go_ret
      exact ⟨rfl, D6.keep⟩
set_option maxRecDepth 100000 in
theorem lifted (os : Os) (started : os.Started) (H : Type) (enc : TypeId × Value → H) :
    ReturnsInHanded {} Try.checked os 5 .any (Rows.diskFullSpec.pre6 enc Try.prog Try.f5 Rows.diskFullRow.domain false) (Rows.diskFullSpec.post enc Try.prog Try.f5 false true false false) := by
  refine returnsInHanded_of_change (C := Try.checked) own started (by kernel_rfl) Try.func5
    (ChangeSpec.witness6 (enc := enc) (C := Try.checked) false ⟨#[], #[.slice none 0 0, .int .i64 0], []⟩ 8 (by kernel_rfl) (by kernel_rfl) (by kernel_rfl) (by kernel_rfl)) ?_
  intro W base args ds gs before hval0 hW hcnd _
  have hval : ∀ (j : Nat) t v, Try.f5.params[j]? = some t → args[j]? = some v → Value.okWide Try.prog W .any base t v := hval0
  have hW' := hW
  obtain ⟨p, q, hA0, hV, rfl, hfz, hnd⟩ := hW
  have hA : DataW.TrodAll enc Try.prog W 0 (fun _ => true) true Try.f5.params.toList args.toList ds p := hA0
  rw [Try.params5] at hA hval
  obtain ⟨v0, vs0, d0, ds0, p0, q0, hargs, rfl, rfl, h0, r0⟩ := trodAll_cons hA
  obtain ⟨v1, vs1, d1, ds1, p1, q1, rfl, rfl, rfl, h1, r1⟩ := trodAll_cons r0
  obtain ⟨rfl, rfl, rfl⟩ := trodAll_nil r1
  obtain rfl : args = #[v0, v1] := by cases args; simp_all
  obtain ⟨rfl, rfl⟩ := trodVars_none hV
  have k0 := h0
  have lt0 : ∀ x ∈ p0, x.block < W.heap.size := by obtain ⟨m, hm⟩ := k0; exact DataW.trod_lt m _ _ _ hm
  have k1 := h1
  have lt1 : ∀ x ∈ p1, x.block < W.heap.size := by obtain ⟨m, hm⟩ := k1; exact DataW.trod_lt m _ _ _ hm
  obtain ⟨ao0, len0, cap0, rfl⟩ := okWide_slice Try.underlying29 (hval 0 29 v0 rfl rfl)
  obtain ⟨fuel0, hf0⟩ := h0
  obtain ⟨bs0, hn0, hB0, hlc0, hcm0⟩ := open_bytes rfl hf0
  obtain ⟨a1, rfl, rfl, rfl, w1⟩ := open_int Try.underlying3 (hval 1 3 v1 rfl rfl) h1
  have b1 := bounds_i64 w1
  clear hA0 hval0
  refine (walk W ao0 len0 cap0 bs0 hn0 hB0 (Nat.le_trans hlc0 hcm0) a1).mono fun e W' ⟨he, hk⟩ => ?_
  subst he
  have bel : Below W.heap.size W W' := hk.below (Nat.le_refl _) (fun _ h => h.elim)
  exact ⟨_, rfl, _, _, _, [], _, [], hW', trodAll_mk1 (shut_bool Try.underlying4 _), (trodAll_cons_mk (Below.trod laidOut (by kernel_rfl) (of_decide_eq_true (by kernel_rfl)) k0 bel lt0) (trodAll_cons_mk (Below.trod laidOut (by kernel_rfl) (of_decide_eq_true (by kernel_rfl)) k1 bel lt1) trodAll_mk0)), rfl, bel.frame _, fun h => by cases h⟩

/-- For every input the law returns true, and its arguments read as before. -/
theorem proved : Rows.DiskFullSaid :=
  OpenClaim.holds_of_wide 5 Try.f5 rfl rfl rfl rfl rfl rfl rfl ⟨rfl, rfl, rfl, rfl, rfl⟩ rfl rfl rfl rfl rfl (by kernel_rfl) Try.func5 (by kernel_rfl)
    (of_decide_eq_true (by kernel_rfl)) (by unfold Func.isWrapper; first | (rw [if_pos (by decide +kernel)]; kernel_rfl) | (rw [if_neg (by decide +kernel)]; exact ⟨rfl, rfl⟩))
    (fun os started H enc _ => lifted os started H enc)
#print axioms proved

end Go.Proofs.Ytkhbepmaeegekaa.diskFull
