/- usufructlaw3.ShaLengths: for any number and any byte the law returns true; no condition. -/
import Derived.Test.YtdmfomjgmmkaeaaRows
import Derived.Test.YtdmfomjgmmkaeaaSha16
import Derived.Test.YtdmfomjgmmkaeaaHashCmp
import Derived.Laws.OwnMore
import Derived.ProofKit
import Derived.OpenShut
import Derived.ShutString
import Derived.ChangeOld
import Derived.Below
namespace Go.Proofs.Ytdmfomjgmmkaeaa.shaLengths
open Go.ChangeShapes Go.WideShapes Go.ChangeAt Go.RowKit
open Go.ChangeMaps (open_string shut_string)

theorem own : ownKnob Try.prog.godebug = none := by kernel_rfl
theorem laidOut : laidOutB Try.prog = true := by kernel_rfl


theorem made8 (n : Nat) : (madeCells (Value.cells (.int .u8 0)) (n * 1)).toList = (List.replicate n (0 : UInt8)).map byteV := by
  apply List.ext_getElem?
  intro i
  unfold madeCells
  rw [Nat.mul_one]
  simp only [Array.toList_map, Array.toList_range, List.getElem?_map, List.map_replicate, List.getElem?_replicate]
  by_cases hi : i < n
  · rw [List.getElem?_range hi, if_pos hi]
    simp [Value.cells, Nat.mod_one, byteV]
  · rw [List.getElem?_eq_none (by simp; omega), if_neg hi]
    rfl

set_option maxRecDepth 100000 in
set_option maxHeartbeats 2000000 in
theorem walk (w : World) (n : Int) (c : UInt8) : Calls Try.prog 4 #[.int .i64 n, .int .u8 (c.toNat : Int)] w (SaysTrue w) := by
  obtain ⟨u, hu⟩ : ∃ u : Nat, IntKind.u64.wrap n = (u : Int) := by
    have h := IntKind.wrap_u64 n
    exact ⟨(IntKind.u64.wrap n).toNat, by omega⟩
  obtain ⟨k, hk⟩ : ∃ k : Nat, (u : Int) % 301 = (k : Int) := ⟨u % 301, by omega⟩
  have hk9 : k ≤ 300 := by omega
  have hkw : IntKind.i64.wrap (k : Int) = (k : Int) := by rw [IntKind.wrap_i64]; omega
  have hku : IntKind.u64.wrap (k : Int) = (k : Int) := by rw [IntKind.wrap_u64]; omega
  obtain ⟨i0, hi, hz0, hz1, hz2⟩ := info_parts info8
  obtain ⟨w0, hmk, ho, hg⟩ := run_makeSlice_full (P := Try.prog) w 0 22 5 i0 (.int .u8 0) 1 Try.underlying22 hi hz0 hz1 .i64 .i64 k (by omega) (by rw [hz2]; omega) (by unfold maxLen; omega) (Nat.zero_le _)
  have K0 : Keeps Nothing w w0 := (Keeps.refl _ _).grown hg (fun k hk _ => by cases hk)
  rw [made8] at ho
  have O0 : Own8 w0 5 (some ⟨w.heap.size, 0, none⟩) k (List.replicate k 0) := by
    have := ho
    unfold Own8
    rw [List.length_replicate]
    exact this
  clear ho hg hi hz0 hz1 hz2
  have HK := shut hk
  clear hk
  have hk2 : (u : Int) % 301 = (k : Int) := HK.out
  go_enter Try.func4, Try.ntmps4
  go_wp2_with fail
  clear hmk hu hk2
  generalize hg : w.heap.size = g at *
  have HG := shut hg
  clear hg
  go_loopw [7] (fun s wx => ∃ (i : Nat) (bs : List UInt8), s = .int .i64 i ∧ i ≤ k ∧ Shut (bs.length = k) ∧ Own8 wx 5 (some ⟨g, 0, none⟩) k bs ∧ Keeps Nothing w wx) (fun s _ => k - (intOf s).toNat)
  case atStart => exact ⟨0, _, rfl, Nat.zero_le _, shut List.length_replicate, O0, K0⟩
  case round =>
    clear O0 K0
    obtain ⟨i, bs, rfl, hi, HB, O1, K1⟩ := hrel
    by_cases hlt : i < k
    · obtain ⟨⟨v, hc⟩, hf, o4, k4⟩ := own8_store O1 (j := i) (by rw [HB.out]; exact hlt) c
      have HL : Shut ((bs.set i c).length = k) := shut (by rw [List.length_set]; exact HB.out)
      have m0 : (0 : Int) ≤ i := by omega
      have m1 : (i : Int) < k := by omega
      go_wp2_with fail
      go_roundw
      case rel => exact ⟨i + 1, bs.set i c, by go_num, by omega, HL, o4, K1.trans k4 (fun j hj hlt => by have := HG.out; omega)⟩
      case measure => simp [intOf]; omega
    · go_wp2_with fail
      refine (told3_any _).mono ?_
      rintro e w2 ⟨rfl, k2⟩
      have hB2 := own8_at (k2.own O1 (fun _ _ h => h))
      go_wp2_with fail
      refine (sum_any (w := w2) k HB.out hB2 (fun a e => by obtain rfl := Option.some.inj e; rfl) (Nat.le_refl _) (by unfold maxLen; omega) (by omega)).mono ?_
      rintro e w3 ⟨rfl, k3⟩
      have hB3 := hB2.keeps k3 (fun _ _ h => h)
      go_wp2_with fail
      refine (rsum_any (w := w3) k HB.out hB3 (by omega)).mono ?_
      rintro e w4 ⟨rfl, k4⟩
      have e3 := fun W => eql_hash_run (shaOf bs) (shaOf bs) (shaOf_len bs) (shaOf_len bs) W
      rw [show (shaOf bs == shaOf bs) = true by simp] at e3
      unfold hashV
      generalize shaOf bs = h at *
      go_wp2_with fail
      go_ret
      exact ⟨rfl, ((K1.trans k2 (fun _ h _ => h)).trans k3 (fun _ h _ => h)).trans k4 (fun _ h _ => h)⟩
set_option maxRecDepth 100000 in
theorem lifted (os : Os) (started : os.Started) (H : Type) (enc : TypeId × Value → H) :
    ReturnsInHanded {} Try.checked os 4 .any (Rows.shaLengthsSpec.pre6 enc Try.prog Try.f4 Rows.shaLengthsRow.domain false) (Rows.shaLengthsSpec.post enc Try.prog Try.f4 false true false false) := by
  refine returnsInHanded_of_change (C := Try.checked) own started (by kernel_rfl) Try.func4
    (ChangeSpec.witness6 (enc := enc) (C := Try.checked) false ⟨#[], #[.int .i64 0, .int .u8 0], []⟩ 8 (by kernel_rfl) (by kernel_rfl) (by kernel_rfl) (by kernel_rfl)) ?_
  intro W base args ds gs before hval0 hW hcnd _
  have hval : ∀ (j : Nat) t v, Try.f4.params[j]? = some t → args[j]? = some v → Value.okWide Try.prog W .any base t v := hval0
  have hW' := hW
  obtain ⟨p, q, hA0, hV, rfl, hfz, hnd⟩ := hW
  have hA : DataW.TrodAll enc Try.prog W 0 (fun _ => true) true Try.f4.params.toList args.toList ds p := hA0
  rw [Try.params4] at hA hval
  obtain ⟨v0, vs0, d0, ds0, p0, q0, hargs, rfl, rfl, h0, r0⟩ := trodAll_cons hA
  obtain ⟨v1, vs1, d1, ds1, p1, q1, rfl, rfl, rfl, h1, r1⟩ := trodAll_cons r0
  obtain ⟨rfl, rfl, rfl⟩ := trodAll_nil r1
  obtain rfl : args = #[v0, v1] := by cases args; simp_all
  obtain ⟨rfl, rfl⟩ := trodVars_none hV
  have k0 := h0
  have lt0 : ∀ x ∈ p0, x.block < W.heap.size := by obtain ⟨m, hm⟩ := k0; exact DataW.trod_lt m _ _ _ hm
  have k1 := h1
  have lt1 : ∀ x ∈ p1, x.block < W.heap.size := by obtain ⟨m, hm⟩ := k1; exact DataW.trod_lt m _ _ _ hm
  obtain ⟨a0, rfl, rfl, rfl, w0⟩ := open_int Try.underlying3 (hval 0 3 v0 rfl rfl) h0
  have b0 := bounds_i64 w0
  obtain ⟨a1, rfl, rfl, rfl, w1⟩ := open_int Try.underlying5 (hval 1 5 v1 rfl rfl) h1
  have b1 := bounds_u8 w1
  obtain ⟨c1, rfl⟩ : ∃ c1 : UInt8, a1 = (c1.toNat : Int) := ⟨UInt8.ofNat a1.toNat, by rw [UInt8.toNat_ofNat_of_lt' (show a1.toNat < UInt8.size by unfold UInt8.size; omega)]; omega⟩
  clear hA0 hval0
  refine (walk W a0 c1).mono fun e W' ⟨he, hk⟩ => ?_
  subst he
  have bel : Below W.heap.size W W' := hk.below (Nat.le_refl _) (fun _ h => h.elim)
  exact ⟨_, rfl, _, _, _, [], _, [], hW', trodAll_mk1 (shut_bool Try.underlying4 _), (trodAll_cons_mk (Below.trod laidOut (by kernel_rfl) (of_decide_eq_true (by kernel_rfl)) k0 bel lt0) (trodAll_cons_mk (Below.trod laidOut (by kernel_rfl) (of_decide_eq_true (by kernel_rfl)) k1 bel lt1) trodAll_mk0)), rfl, bel.frame _, fun h => by cases h⟩

/-- For every input the law returns true, and its arguments read as before. -/
theorem proved : Rows.ShaLengthsSaid :=
  OpenClaim.holds_of_wide 4 Try.f4 rfl rfl rfl rfl rfl rfl rfl ⟨rfl, rfl, rfl, rfl, rfl⟩ rfl rfl rfl rfl rfl (by kernel_rfl) Try.func4 (by kernel_rfl)
    (of_decide_eq_true (by kernel_rfl)) (by unfold Func.isWrapper; first | (rw [if_pos (by decide +kernel)]; kernel_rfl) | (rw [if_neg (by decide +kernel)]; exact ⟨rfl, rfl⟩))
    (fun os started H enc _ => lifted os started H enc)
#print axioms proved

end Go.Proofs.Ytdmfomjgmmkaeaa.shaLengths
