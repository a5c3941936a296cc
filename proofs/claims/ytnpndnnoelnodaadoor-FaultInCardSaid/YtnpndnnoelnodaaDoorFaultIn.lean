/- usufructlaw1.FaultIn: for any number, any places, one more the law returns true; no condition. -/
import Derived.Test.YtnpndnnoelnodaaDoorRows
import Derived.Test.YtnpndnnoelnodaaDoorCards
import Derived.Test.YtnpndnnoelnodaaDoorTie
import Derived.Test.YtnpndnnoelnodaaDoorLaid
import Derived.SevenTiedAt
import Derived.Test.YtnpndnnoelnodaaDoorAs5
import Derived.ProofKit
import Derived.OpenShut
import Derived.ShutString
import Derived.ChangeOld
import Derived.Below
namespace Go.Proofs.YtnpndnnoelnodaaDoor.faultIn
open Go.ChangeShapes Go.WideShapes Go.ChangeAt Go.RowKit
open Go.ChangeMaps (open_string shut_string)

theorem laidOut : laidOutB Tryd.prog = true := by kernel_rfl


theorem ints_tail {w : World} {g : Nat} {x : Int} {xs : List Int} (h : IntsAt w (some ⟨g, 0, none⟩) (x :: xs)) : IntsAt w (some ⟨g, 1, none⟩) xs :=
  ⟨fun e => (by cases e), fun a e j z hj => by
    obtain rfl := Option.some.inj e
    have := h.cel _ rfl (j + 1) z hj
    have e2 : (⟨g, 0, none⟩ : Addr).add (j + 1) = (⟨g, 1, none⟩ : Addr).add j := by rw [Addr.add_lit, Addr.add_lit, show 0 + (j + 1) = 1 + j by omega]
    rwa [e2] at this⟩
set_option maxRecDepth 100000 in
set_option maxHeartbeats 2000000 in
theorem walk {w : World} (hg : ErrVar w) (code at' : Int) {ao : Option Addr} {n c : Nat} {xs : List Int} (hn : xs.length = n) (hX : IntsAt w ao xs) :
    Calls Tryd.prog 5 #[.int .i64 code, .slice ao n c, .int .i64 at'] w fun e w' => e = .returned (.bool true) ∧ Keeps Nothing w w' := by
  have htold := fun W (K : Keeps Nothing w W) => told1_any (hg.keeps K)
  by_cases hcode : code = 0
  · subst hcode
    go_enter Tryd.func5, Tryd.ntmps5
    go_wp2_with fail
    refine (htold _ (Keeps.refl _ _)).mono ?_
    rintro e w1 ⟨rfl, k1⟩
    go_wp2_with fail
    go_ret
    exact ⟨rfl, k1⟩
  have c0 : (code == 0) = false := by rw [beq_eq_false_iff_ne]; exact hcode
  by_cases hn0 : n = 0
  · subst hn0
    go_enter Tryd.func5, Tryd.ntmps5
    go_wp2_with fail
    refine (htold _ (Keeps.refl _ _)).mono ?_
    rintro e w1 ⟨rfl, k1⟩
    go_wp2_with fail
    go_ret
    exact ⟨rfl, k1⟩
  have c1 : ((n : Int) == 0) = false := by rw [beq_eq_false_iff_ne]; omega
  by_cases hn40 : 40 < n
  · have c2 : (40 : Int) < n := by omega
    go_enter Tryd.func5, Tryd.ntmps5
    go_wp2_with fail
    refine (htold _ (Keeps.refl _ _)).mono ?_
    rintro e w1 ⟨rfl, k1⟩
    go_wp2_with fail
    go_ret
    exact ⟨rfl, k1⟩
  have c2 : ¬ (40 : Int) < n := by omega
  have c3 : 0 < n := by omega
  have c4 : (0 : Int) < n := by omega
  obtain ⟨a, rfl⟩ := hX.head (by omega)
  obtain ⟨x0, hx0⟩ : ∃ x0, xs[0]? = some x0 := ⟨xs[0]'(by omega), by rw [List.getElem?_eq_getElem (by omega)]⟩
  have e0 : w.cell? a = some (.int .i64 x0) := by simpa [Addr.add] using hX.cel a rfl 0 x0 hx0
  have hnew := new_chain code x0 c0 w
  go_enter Tryd.func5, Tryd.ntmps5
  go_wp2_with fail
  refine hnew.mono ?_
  rintro e w1 ⟨b1, rfl, -, h1, k1⟩
  clear hnew
  go_wp2_with fail
  go_loopw [7, 8] (fun s7 s8 wx => ∃ (i b : Nat), s8 = .int .i64 i ∧ 1 ≤ i ∧ i ≤ n ∧ s7 = .iface 34 (.pointer (some ⟨b, 0, none⟩)) ∧ FChain wx code ((xs.take i).reverse) s7 ∧ Keeps Nothing w wx) (fun _ s8 _ => n - (intOf s8).toNat)
  case atStart => exact ⟨1, b1, rfl, by omega, by omega, rfl, by rw [List.take_one, List.head?_eq_getElem?, hx0]; exact h1, k1⟩
  case round =>
    obtain ⟨i, b, rfl, hi1, hi, rfl, hc, K⟩ := hrel
    clear h1 k1 e0
    by_cases hlt : i < n
    · have m1 : (i : Int) < n := by omega
      obtain ⟨x, hx⟩ : ∃ x, xs[i]? = some x := ⟨xs[i]'(by omega), by rw [List.getElem?_eq_getElem (by omega)]⟩
      have e1 := (hX.keeps K).cel a rfl i x hx
      have hin := in_chain hc (hg.keeps K) x
      have hs : Shut (x :: (xs.take i).reverse = (xs.take (i + 1)).reverse) := shut (by rw [List.take_add_one, hx]; simp)
      clear hx
      go_wp2_with fail
      refine hin.mono ?_
      rintro e w2 ⟨b2, rfl, -, h2, k2⟩
      clear hin
      rw [hs.out] at h2
      go_wp2_with fail
      go_roundw
      case rel => exact ⟨i + 1, b2, by go_num, by omega, by omega, rfl, h2, K.trans k2 (fun _ h _ => h)⟩
      case measure => simp [intOf]; omega
    · obtain rfl : i = n := by omega
      have m1 : ¬ (i : Int) < i := by omega
      rw [List.take_of_length_le (by omega)] at hc
      have hrl : xs.reverse.length = i := by rw [List.length_reverse]; exact hn
      generalize xs.reverse = rs at *
      have hg1 := hg.keeps K
      have hp := path_chain hc hg1 (by omega)
      rw [hrl] at hp
      go_wp2_with fail
      refine hp.mono ?_
      rintro e w2 ⟨ao2, cap2, rfl, o2, -, k2⟩
      clear hp
      have c2' := hc.keeps k2
      have hg2 := hg1.keeps k2
      have K2 := K.trans k2 (fun _ h _ => h)
      go_wp2_with fail
      refine (in_chain c2' hg2 at').mono ?_
      rintro e w3 ⟨b3, rfl, -, d3, k3⟩
      have c3' := c2'.keeps k3
      have hg3 := hg2.keeps k3
      have K3 := K2.trans k3 (fun _ h _ => h)
      have o3 := o2.keeps k3
      clear o2 c2' hg2 hc k2 hg1
      have hp := path_chain d3 hg3 (by rw [List.length_cons]; omega)
      rw [show (at' :: rs).length = i + 1 from by rw [List.length_cons, hrl]] at hp
      go_wp2_with fail
      refine hp.mono ?_
      rintro e w4 ⟨ao4, cap4, rfl, o4, -, k4⟩
      clear hp
      obtain ⟨g4, rfl⟩ : ∃ g, ao4 = some ⟨g, 0, none⟩ := by
        rcases o4.2 with ⟨_, hn9⟩ | ⟨g, cap', cur, hv, _⟩
        · simp at hn9
        · simp only [Value.slice.injEq] at hv
          exact ⟨g, hv.1⟩
      have q4 := ownI_cap o4
      have c4' := c3'.keeps k4
      have d4 := d3.keeps k4
      have hg4 := hg3.keeps k4
      have K4 := K3.trans k4 (fun _ h _ => h)
      have o4b := o3.keeps k4
      clear o3 c3' d3 hg3 k3 k4
      go_wp2_with fail
      refine (htold _ K4).mono ?_
      rintro e w5 ⟨rfl, k5⟩
      have c5' := c4'.keeps k5
      have d5 := d4.keeps k5
      have hg5 := hg4.keeps k5
      have K5 := K4.trans k5 (fun _ h _ => h)
      have I5 := ownI_at (o4.keeps k5)
      have J5 := ownI_at (o4b.keeps k5)
      clear o4b c4' d4 hg4 k5
      have z0 : w5.cell? ⟨g4, 0, none⟩ = some (.int .i64 at') := by simpa [Addr.add] using I5.cel _ rfl 0 at' rfl
      have hfit : (i : Int) + 1 ≤ 41 := by omega
      have hw1 : IntKind.i64.wrap ((i : Int) + 1) = (i : Int) + 1 := by rw [IntKind.wrap_i64]; omega
      have q5 : ¬ cap4 = 1 := by have := q4.1; rw [List.length_cons] at this; omega
      have q6 : ¬ cap4 - 1 = 0 := by have := q4.1; rw [List.length_cons] at this; omega
      have hr1 := ints_any (cap4 - 1) cap2 (na := i) (nb := i) (xs := rs) (ys := rs) hrl hrl (by omega) (ints_tail I5) J5
      rw [show (rs == rs) = true from by simp] at hr1
      clear z0
      have z0 : w5.cell? ⟨g4, 0, none⟩ = some (.int .i64 at') := by simpa [Addr.add] using I5.cel _ rfl 0 at' rfl
      go_wp2_with fail
      refine hr1.mono ?_
      rintro e w6 ⟨rfl, k6⟩
      clear hr1 z0
      have c6 := c5'.keeps k6
      have d6 := d5.keeps k6
      have hg6 := hg5.keeps k6
      have K6 := K5.trans k6 (fun _ h _ => h)
      have J6 := J5.keeps k6
      have ha1 := at_chain d6 hg6
      have hlast : Shut ((at' :: rs).getLastD 0 = rs.getLastD 0) := shut (by
        cases rs with
        | nil => simp at hrl; omega
        | cons y r => rfl)
      rw [hlast.out] at ha1
      obtain ⟨L, hL⟩ : ∃ L, rs.getLastD 0 = L := ⟨_, rfl⟩
      rw [hL] at ha1
      clear hlast I5 J5 c5' d5 hg5
      go_wp2_with fail
      refine ha1.mono ?_
      rintro e w7 ⟨rfl, k7⟩
      have ha2 := at_chain (c6.keeps k7) (hg6.keeps k7)
      rw [hL] at ha2
      clear hL
      go_wp2_with fail
      refine ha2.mono ?_
      rintro e w8 ⟨rfl, k8⟩
      have K8 := (K6.trans k7 (fun _ h _ => h)).trans k8 (fun _ h _ => h)
      have c8 := (c6.keeps k7).keeps k8
      have d8 := (d6.keeps k7).keeps k8
      have hg8 := (hg6.keeps k7).keeps k8
      have J8 := (J6.keeps k7).keeps k8
      clear ha1 ha2 k7 k8 K6 c6 d6 J6 hg6
      go_wp2_with fail
      refine (code_chain d8 hg8).mono ?_
      rintro e w9 ⟨rfl, k9⟩
      go_wp2_with fail
      refine (code_chain (c8.keeps k9) (hg8.keeps k9)).mono ?_
      rintro e w10 ⟨rfl, k10⟩
      have K10 := (K8.trans k9 (fun _ h _ => h)).trans k10 (fun _ h _ => h)
      have hp2 := path_chain ((c8.keeps k9).keeps k10) ((hg8.keeps k9).keeps k10) (by omega)
      rw [hrl] at hp2
      have J10 := (J8.keeps k9).keeps k10
      clear k9 k10 c8 d8 hg8 J8 K8
      go_wp2_with fail
      refine hp2.mono ?_
      rintro e w11 ⟨ao11, cap11, rfl, o11, -, k11⟩
      have hr2 := ints_any cap11 cap2 (na := i) (nb := i) (xs := rs) (ys := rs) hrl hrl (by omega) (ownI_at o11) (J10.keeps k11)
      rw [show (rs == rs) = true from by simp] at hr2
      go_wp2_with fail
      refine hr2.mono ?_
      rintro e w12 ⟨rfl, k12⟩
      go_wp2_with fail
      go_ret
      exact ⟨rfl, (K10.trans k11 (fun _ h _ => h)).trans k12 (fun _ h _ => h)⟩
set_option maxRecDepth 100000 in
theorem lifted (os : Os) (started : os.Started) (H : Type) (enc : TypeId × Value → H) :
    ReturnsInHanded {} Tryd.checked os 5 .any (fun w args => (Rows.faultInSpec.pre enc Tryd.prog Tryd.f5 [] false w args ∧ laidMetH Tryd.prog laidL w) ∧ sizedMet enc Tryd.prog Tryd.f5 (OpenSpec.ofChange Rows.faultInSpec) false w args) (Rows.faultInSpec.post enc Tryd.prog Tryd.f5 false true false false) := by
  refine returnsInHanded_of_change_and (C := Tryd.checked) (X := fun w _ => laidMetH Tryd.prog laidL w) (fun _ _ _ hh h => h.of_heap hh) ownK started (by kernel_rfl) Tryd.func5
    (ChangeSpec.witness_at (enc := enc) (C := Tryd.checked) (os := os) (X := fun w _ => laidMetH Tryd.prog laidL w) false (laidWorld os) #[.int .i64 0, .slice none 0 0, .int .i64 0] 8 rfl (by kernel_rfl) (by kernel_rfl) (by kernel_rfl) (by kernel_rfl) (by kernel_rfl) (laidWorld_met os _)) ?_
  intro W base args ds gs before hval0 hW hcnd _ hL _
  have hg := errVar_of_laid hL
  have hval : ∀ (j : Nat) t v, Tryd.f5.params[j]? = some t → args[j]? = some v → Value.okWide Tryd.prog W .any base t v := hval0
  have hW' := hW
  obtain ⟨p, q, hA0, hV, rfl, hfz, hnd⟩ := hW
  have hA : DataW.TrodAll enc Tryd.prog W 0 (fun _ => true) true Tryd.f5.params.toList args.toList ds p := hA0
  rw [Tryd.params5] at hA hval
  obtain ⟨v0, vs0, d0, ds0, p0, q0, hargs, rfl, rfl, h0, r0⟩ := trodAll_cons hA
  obtain ⟨v1, vs1, d1, ds1, p1, q1, rfl, rfl, rfl, h1, r1⟩ := trodAll_cons r0
  obtain ⟨v2, vs2, d2, ds2, p2, q2, rfl, rfl, rfl, h2, r2⟩ := trodAll_cons r1
  obtain ⟨rfl, rfl, rfl⟩ := trodAll_nil r2
  obtain rfl : args = #[v0, v1, v2] := by cases args; simp_all
  obtain ⟨rfl, rfl⟩ := trodVars_none hV
  have k0 := h0
  have lt0 : ∀ x ∈ p0, x.block < W.heap.size := by obtain ⟨m, hm⟩ := k0; exact DataW.trod_lt m _ _ _ hm
  have k1 := h1
  have lt1 : ∀ x ∈ p1, x.block < W.heap.size := by obtain ⟨m, hm⟩ := k1; exact DataW.trod_lt m _ _ _ hm
  have k2 := h2
  have lt2 : ∀ x ∈ p2, x.block < W.heap.size := by obtain ⟨m, hm⟩ := k2; exact DataW.trod_lt m _ _ _ hm
  obtain ⟨a0, rfl, rfl, rfl, w0⟩ := open_int Tryd.underlying3 (hval 0 3 v0 rfl rfl) h0
  obtain ⟨ao1, len1, cap1, rfl⟩ := okWide_slice Tryd.underlying22 (hval 1 22 v1 rfl rfl)
  obtain ⟨fuel1, hf1⟩ := h1
  obtain ⟨xs1, hn1, hX1, hlc1, hcm1, hxb1⟩ := open_intsA rfl hf1
  obtain ⟨a2, rfl, rfl, rfl, w2⟩ := open_int Tryd.underlying3 (hval 2 3 v2 rfl rfl) h2
  clear hA0 hval0
  refine (walk hg a0 a2 hn1 hX1).mono fun e W' ⟨he, hk⟩ => ?_
  subst he
  have bel : Below W.heap.size W W' := hk.below (Nat.le_refl _) (fun _ h => h.elim)
  exact ⟨_, rfl, _, _, _, [], _, [], hW', trodAll_mk1 (shut_bool Tryd.underlying4 _), (trodAll_cons_mk (Below.trod laidOut (by kernel_rfl) (of_decide_eq_true (by kernel_rfl)) k0 bel lt0) (trodAll_cons_mk (Below.trod laidOut (by kernel_rfl) (of_decide_eq_true (by kernel_rfl)) k1 bel lt1) (trodAll_cons_mk (Below.trod laidOut (by kernel_rfl) (of_decide_eq_true (by kernel_rfl)) k2 bel lt2) trodAll_mk0))), rfl, bel.frame _, fun h => by cases h⟩

theorem bare : Rows.FaultInSaid :=
  OpenClaim.holds_of_wide 5 Tryd.f5 rfl rfl rfl rfl rfl rfl rfl ⟨rfl, rfl, rfl, rfl, rfl⟩ rfl rfl rfl rfl rfl (by kernel_rfl) Tryd.func5 (by kernel_rfl)
    (of_decide_eq_true (by kernel_rfl)) (by unfold Func.isWrapper; first | (rw [if_pos (by decide +kernel)]; kernel_rfl) | (rw [if_neg (by decide +kernel)]; exact ⟨rfl, rfl⟩))
    (fun os started H enc _ => lifted os started H enc)

/-- For every input the law returns true, and its arguments read as before; the one package-level variable that it reads is tied to the program's text. -/
theorem proved : Rows.FaultInCardSaid :=
  Claim7.holds_tied_plain_at .later [] [.handle] true _ true
    bare (fun _ h => by cases h) (by kernel_rfl) (fun _ h => by cases h) faultIn_row_tie rfl ⟨rfl, rfl⟩ (by kernel_rfl) rfl
    (fun f fn hf hfn => by
      obtain rfl : f = 5 := Option.some.inj ((show Tryd.prog.funcNamed "usufruct/usufructlaw1.FaultIn" = some 5 by kernel_rfl).symm.trans hf) |>.symm
      obtain rfl : fn = Tryd.f5 := (Option.some.inj (Tryd.func5.symm.trans hfn)).symm
      exact ⟨by kernel_rfl, fun j t ht => by
        rw [Tryd.params5] at ht
        have hm := Array.mem_of_getElem? ht
        simp only [List.mem_toArray, List.mem_cons, List.not_mem_nil, or_false] at hm
        rcases hm with rfl | rfl | rfl
        all_goals exact (show Tryd.prog.wantsStandIn _ = false by kernel_rfl)⟩)
    (by kernel_rfl)
#print axioms proved

end Go.Proofs.YtnpndnnoelnodaaDoor.faultIn
