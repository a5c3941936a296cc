/- usufructlaw3.ShaSums: for any bytes and any number the law returns true; no condition. -/
import Derived.Test.YtdmfomjgmmkaeaaRows
import Derived.Test.YtdmfomjgmmkaeaaSha16
import Derived.Test.YtdmfomjgmmkaeaaHashCmp
import Derived.IntWalk
import Derived.Laws.BitsAllLaws
import Derived.Deep.LoopGhost
import Derived.ProofKit
import Derived.OpenShut
import Derived.ShutString
import Derived.ChangeOld
import Derived.Below
namespace Go.Proofs.Ytdmfomjgmmkaeaa.shaSums
open Go.ChangeShapes Go.WideShapes Go.ChangeAt Go.RowKit
open Go.ChangeMaps (open_string shut_string)

theorem own : ownKnob Try.prog.godebug = none := by kernel_rfl
theorem laidOut : laidOutB Try.prog = true := by kernel_rfl


theorem i64_mask (x : Int) (m : Nat) (hm : m < 4294967296) : 0 ≤ bits .and .i64 x (m : Int) ∧ bits .and .i64 x (m : Int) ≤ m := by
  have e : bits .and .i64 x (m : Int) = IntKind.i64.wrap ((BitVec.ofInt 64 x &&& BitVec.ofInt 64 (m : Int)).toNat : Int) := rfl
  rw [e, BitVec.toNat_and]
  have h := Nat.and_le_right (n := (BitVec.ofInt 64 x).toNat) (m := (BitVec.ofInt 64 (m : Int)).toNat)
  have h2 : (BitVec.ofInt 64 (m : Int)).toNat = m := ofInt_u64 m (by omega)
  rw [h2] at h ⊢
  rw [IntWalk.i64_in _ (by omega)]
  omega

theorem slice_to {g n c m : Nat} (hm : m ≤ c) (W : World) : (Instr.slice 22 (.slice (some ⟨g, 0, none⟩) n c) none (some (.int .i64 (m : Int))) none).run Try.prog W = .ok (.slice (some ⟨g, 0, none⟩) m c) W := by
  rw [run_slice_h W 22 _ n c (by exact Try.underlying22) .i64 m (by omega) (by omega), size8]
  simp [Result.andThen, sliced]
  exact fun _ => by rw [Addr.add_mid']

set_option maxRecDepth 100000 in
set_option maxHeartbeats 2000000 in
theorem walk (w : World) (ao : Option Addr) (n c : Nat) (bs : List UInt8) (hn : bs.length = n) (hB : BytesAt w ao bs) (hmax : n ≤ maxLen) (x : Int) :
    Calls Try.prog 3 #[.slice ao n c, .int .i64 x] w (SaysTrue w) := by
  have hn9 : n < 9223372036854775808 := by unfold maxLen at hmax; omega
  clear hmax
  have HN := shut hn
  clear hn
  go_enter Try.func3, Try.ntmps3
  by_cases hbig : 1000 < n
  · go_wp2_with fail
    refine (told3_any _).mono ?_
    rintro e w2 ⟨rfl, k2⟩
    go_wp2_with fail
    go_ret
    exact ⟨rfl, k2⟩
  have hr := i64_mask x 7 (by decide)
  rw [show ((7 : Nat) : Int) = 7 from rfl] at hr
  obtain ⟨r, hbit⟩ : ∃ r : Nat, bits .and .i64 x 7 = (r : Int) := ⟨(bits .and .i64 x 7).toNat, by omega⟩
  have hr7 : r ≤ 7 := by omega
  clear hr
  go_wp2_with fail
  have e1 : IntKind.i64.wrap (1 + (r : Int)) = 1 + (r : Int) := by rw [IntKind.wrap_i64]; omega
  have e2 : wrap64 (1 + (r : Int)) = 1 + (r : Int) := by unfold wrap64; omega
  have K0 := Keeps.refl Nothing w
  go_loopg [5, 6] (1 + r) (fun gg s5 s6 wx => ∃ (i : Nat) (al : Option Addr) (cap : Nat) (L : List UInt8), s5 = .slice al L.length cap ∧ s6 = .int .i64 i ∧ i ≤ 1 + r ∧ gg = 1 + r - i ∧ Shut (L.length ≤ 1000 * i) ∧ Own8 wx 5 al cap L ∧ Keeps Nothing w wx ∧ Shut (∀ g, blockOf al = some g → w.heap.size ≤ g))
  case atStart => exact ⟨0, none, 0, [], rfl, rfl, Nat.zero_le _, rfl, shut (Nat.zero_le _), own8_nil _, K0, shut (fun g hg => by simp [blockOf] at hg)⟩
  case round =>
    clear K0
    obtain ⟨i, al, cap, L, rfl, rfl, hi, hgg, HL, O1, K1, HF⟩ := hrel
    have hL9 : L.length ≤ 8000 := by have := HL.out; omega
    by_cases hlt : i < 1 + r
    · have hsR := src_at c (hB.keeps K1 (fun _ _ h => h))
      rw [HN.out] at hsR
      have m1 : (i : Int) < 1 + (r : Int) := by omega
      go_wp2_with (at_builtin; refine wpList_app8 _ rfl (.tmp 19) (.tmp 20) 22 rfl al cap L rfl O1 _ rfl bs (HN.out.symm ▸ hsR) (by omega) (by have := HN.out; omega) ?_)
      intro al2 cap2 w2 o2 k2 m2
      have HL2 : Shut ((L ++ bs).length ≤ 1000 * (i + 1)) := shut (by rw [List.length_append, HN.out]; have := HL.out; omega)
      have K2 := K1.trans k2 (fun j hj hlt => by have := HF.out j hj; omega)
      have HF2 := shut (m2.new K1.size HF.out)
      clear hsR k2 m2 O1
      go_wp2_with fail
      go_roundg (1 + r - (i + 1))
      case measure => omega
      case rel => exact ⟨i + 1, al2, cap2, L ++ bs, by simp, by go_num, by omega, rfl, HL2, o2, K2, HF2⟩
    · have m1 : ¬ (i : Int) < 1 + (r : Int) := by omega
      have ho := own8_empty wr
      have OA : Own8 (wr.alloc (.cells #[] 5)) 5 al cap L := World.ownsRow.alloc O1 _
      have hsR := src_own OA
      clear HL
      go_wp2_with (at_builtin; refine wpList_app8 _ rfl (.tmp 22) (.tmp 23) 22 rfl (some ⟨wr.heap.size, 0, none⟩) 0 [] rfl ho _ rfl L hsR (by simp) (by omega) ?_)
      intro a1 c1 w1 o1 k1 m1'
      have hne : ∀ g, blockOf al = some g → ¬ blockOf (some ⟨wr.heap.size, 0, none⟩) = some g := fun g hg h => by
        obtain rfl := Option.some.inj h
        have := own_lt O1 (by rw [ownBlock_eq]; exact hg)
        exact Nat.lt_irrefl _ this
      have O2 : Own8 w1 5 al cap L := k1.own OA (fun g hg h => hne g (by rw [← ownBlock_eq]; exact hg) h)
      have KN1 : Keeps Nothing wr w1 := ((Keeps.refl _ _).alloc _).trans k1 (fun j hj hlt => by have := Option.some.inj hj; change wr.heap.size = j at this; omega)
      have hsep : ∀ g, blockOf a1 = some g → wr.heap.size ≤ g := m1'.new (by simp) (fun g hg => by have := Option.some.inj hg; change wr.heap.size = g at this; omega)
      have hlal : ∀ g, blockOf al = some g → g < wr.heap.size := fun g hg => own_lt O1 (by rw [ownBlock_eq]; exact hg)
      try rw [List.nil_append] at o1
      clear ho hsR OA k1 m1' hne
      go_wp2_with (at_builtin; refine wpList_app8 _ rfl (.tmp 25) (.tmp 26) 22 rfl a1 c1 L rfl (World.ownsRow.alloc o1 _) _ rfl [165] (src_new w1 165 rfl) (by omega) (by decide) ?_)
      intro a2 c2 w2 o2 k2 m2'
      have KN2 : Keeps Nothing wr w2 := (KN1.alloc _).trans k2 (fun j hj hlt => by have := hsep j hj; omega)
      have O3 : Own8 w2 5 al cap L := k2.own (World.ownsRow.alloc O2 _) (fun g hg h => by rw [ownBlock_eq] at hg; have h1 := hsep g h; have h2 := hlal g hg; omega)
      obtain ⟨g, rfl⟩ := own8_head o2 (by simp)
      have hcap := own8_cap o2
      rw [List.length_append, List.length_singleton] at hcap
      clear k2 m2' o1 O2 O1
      have hs1 := fun W => slice_to (g := g) (n := L.length + 1) (c := c2) (m := L.length) (by omega) W
      have hs2 := fun W => slice_to (g := g) (n := L.length) (c := c2) (m := L.length + 1) (by omega) W
      rw [show ((L.length + 1 : Nat) : Int) = (L.length : Int) + 1 by omega] at hs2
      try rw [List.length_append, List.length_singleton]
      have O7 : Own8 w2 5 (some ⟨g, 0, none⟩) c2 L := by
        have := own8_take o2 L.length
        rwa [List.take_left] at this
      have hlast : (L ++ [165])[L.length]? = some 165 := by simp
      go_wp2_with fail
      refine (told3_any _).mono ?_
      rintro e w3 ⟨rfl, k3⟩
      have O7a := k3.own O7 (fun _ _ h => h)
      have O3a := k3.own O3 (fun _ _ h => h)
      have o2a := k3.own o2 (fun _ _ h => h)
      go_wp2_with fail
      refine (sum_any (w := w3) c2 (n := L.length) rfl (own8_at O7a) (fun a e => by obtain rfl := Option.some.inj e; rfl) (by omega) (by unfold maxLen; omega) (by omega)).mono ?_
      rintro e w4 ⟨rfl, k4⟩
      have O7b := k4.own O7a (fun _ _ h => h)
      have O3b := k4.own O3a (fun _ _ h => h)
      have o2b := k4.own o2a (fun _ _ h => h)
      go_wp2_with fail
      refine (rsum_any (w := w4) cap (n := L.length) rfl (own8_at O3b) (by omega)).mono ?_
      rintro e w5 ⟨rfl, k5⟩
      have O7c := k5.own O7b (fun _ _ h => h)
      have O3c := k5.own O3b (fun _ _ h => h)
      have o2c := k5.own o2b (fun _ _ h => h)
      have e3 := fun W => eql_hash_run (shaOf L) (shaOf L) (shaOf_len L) (shaOf_len L) W
      rw [show (shaOf L == shaOf L) = true by simp] at e3
      have hc1 := run_str w5 c2 L (l := L.length) rfl (own8_at O7c)
      have hc2 := run_str w5 cap L (l := L.length) rfl (own8_at O3c)
      have hcl := own8_cell o2c hlast
      rw [show ((165 : UInt8).toNat : Int) = 165 from rfl] at hcl
      unfold hashV
      have KF : Keeps Nothing w w5 := (((K1.trans KN2 (fun _ h _ => h)).trans k3 (fun _ h _ => h)).trans k4 (fun _ h _ => h)).trans k5 (fun _ h _ => h)
      generalize shaOf L = h at *
      clear o2 o2a o2b O7 O7a O7b O3 O3a O3b hlast
      have i0 : (0 : Int) ≤ L.length := by omega
      have i1 : (L.length : Int) < (L.length : Int) + 1 := by omega
      have i2 : L.length < L.length + 1 := by omega
      go_wp2_with fail
      go_ret
      exact ⟨rfl, KF⟩
set_option maxRecDepth 100000 in
theorem lifted (os : Os) (started : os.Started) (H : Type) (enc : TypeId × Value → H) :
    ReturnsInHanded {} Try.checked os 3 .any (Rows.shaSumsSpec.pre6 enc Try.prog Try.f3 Rows.shaSumsRow.domain false) (Rows.shaSumsSpec.post enc Try.prog Try.f3 false true false false) := by
  refine returnsInHanded_of_change (C := Try.checked) own started (by kernel_rfl) Try.func3
    (ChangeSpec.witness6 (enc := enc) (C := Try.checked) false ⟨#[], #[.slice none 0 0, .int .i64 0], []⟩ 8 (by kernel_rfl) (by kernel_rfl) (by kernel_rfl) (by kernel_rfl)) ?_
  intro W base args ds gs before hval0 hW hcnd _
  have hval : ∀ (j : Nat) t v, Try.f3.params[j]? = some t → args[j]? = some v → Value.okWide Try.prog W .any base t v := hval0
  have hW' := hW
  obtain ⟨p, q, hA0, hV, rfl, hfz, hnd⟩ := hW
  have hA : DataW.TrodAll enc Try.prog W 0 (fun _ => true) true Try.f3.params.toList args.toList ds p := hA0
  rw [Try.params3] at hA hval
  obtain ⟨v0, vs0, d0, ds0, p0, q0, hargs, rfl, rfl, h0, r0⟩ := trodAll_cons hA
  obtain ⟨v1, vs1, d1, ds1, p1, q1, rfl, rfl, rfl, h1, r1⟩ := trodAll_cons r0
  obtain ⟨rfl, rfl, rfl⟩ := trodAll_nil r1
  obtain rfl : args = #[v0, v1] := by cases args; simp_all
  obtain ⟨rfl, rfl⟩ := trodVars_none hV
  have k0 := h0
  have lt0 : ∀ x ∈ p0, x.block < W.heap.size := by obtain ⟨m, hm⟩ := k0; exact DataW.trod_lt m _ _ _ hm
  have k1 := h1
  have lt1 : ∀ x ∈ p1, x.block < W.heap.size := by obtain ⟨m, hm⟩ := k1; exact DataW.trod_lt m _ _ _ hm
  obtain ⟨ao0, len0, cap0, rfl⟩ := okWide_slice Try.underlying22 (hval 0 22 v0 rfl rfl)
  obtain ⟨fuel0, hf0⟩ := h0
  obtain ⟨bs0, hn0, hB0, hlc0, hcm0⟩ := open_bytes rfl hf0
  obtain ⟨a1, rfl, rfl, rfl, w1⟩ := open_int Try.underlying3 (hval 1 3 v1 rfl rfl) h1
  have b1 := bounds_i64 w1
  clear hA0 hval0
  refine (walk W ao0 len0 cap0 bs0 hn0 hB0 (Nat.le_trans hlc0 hcm0) a1).mono fun e W' ⟨he, hk⟩ => ?_
  subst he
  have bel : Below W.heap.size W W' := hk.below (Nat.le_refl _) (fun _ h => h.elim)
  exact ⟨_, rfl, _, _, _, [], _, [], hW', trodAll_mk1 (shut_bool Try.underlying4 _), (trodAll_cons_mk (Below.trod laidOut (by kernel_rfl) (of_decide_eq_true (by kernel_rfl)) k0 bel lt0) (trodAll_cons_mk (Below.trod laidOut (by kernel_rfl) (of_decide_eq_true (by kernel_rfl)) k1 bel lt1) trodAll_mk0)), rfl, bel.frame _, fun h => by cases h⟩

/-- For every input the law returns true, and its arguments read as before. -/
theorem proved : Rows.ShaSumsSaid :=
  OpenClaim.holds_of_wide 3 Try.f3 rfl rfl rfl rfl rfl rfl rfl ⟨rfl, rfl, rfl, rfl, rfl⟩ rfl rfl rfl rfl rfl (by kernel_rfl) Try.func3 (by kernel_rfl)
    (of_decide_eq_true (by kernel_rfl)) (by unfold Func.isWrapper; first | (rw [if_pos (by decide +kernel)]; kernel_rfl) | (rw [if_neg (by decide +kernel)]; exact ⟨rfl, rfl⟩))
    (fun os started H enc _ => lifted os started H enc)
#print axioms proved

end Go.Proofs.Ytdmfomjgmmkaeaa.shaSums
