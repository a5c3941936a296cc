/- usufructlaw10.ManifestReads: workspaces are read as the document says, and their dependencies found; no condition. -/
import Derived.Test.YtiliajnijjkcdaaDoorRows
import Derived.Test.YtiliajnijjkcdaaDoorCards
import Derived.Test.YtiliajnijjkcdaaDoorTie
import Derived.SevenTiedAt
import Derived.LaidMore
import Derived.Lay
import Derived.Stop.Joined
import Derived.HandedShaped
import Derived.Shelf.Vars
import Derived.Test.YtiliajnijjkcdaaDoorMan26
import Derived.Test.YtiliajnijjkcdaaDoorManC
import Derived.Test.YtiliajnijjkcdaaDoorManP
import Derived.Test.YtiliajnijjkcdaaDoorMan19
import Derived.ProofKit
import Derived.OpenShut
import Derived.ShutString
import Derived.ChangeOld
import Derived.Below
namespace Go.Proofs.YtiliajnijjkcdaaDoor.manifestReads
open Go.ChangeShapes Go.WideShapes Go.ChangeAt Go.RowKit
open Go.ChangeMaps (open_string shut_string)

theorem own : ownKnob Tryd.prog.godebug = none := by kernel_rfl
theorem laidOut : laidOutB Tryd.prog = true := by kernel_rfl

abbrev laidP : List (String × DataW Unit) := [("unicode/utf8.acceptRanges", Rows.laid_unicode_utf8_acceptRanges), ("unicode/utf8.first", Rows.laid_unicode_utf8_first)]
/-- The world's shape, handed to the walk; what is listed is not read. -/
theorem change_shaped {H : Type} {enc : TypeId × Value → H} {a : Assume} {C : Checked} {os : Os} {f : FuncId} {fn : Func} {s : ChangeSpec} {conds : List PathCond} {apart fresh handsOn again : Bool} {X : World → Array Value → Prop}
    (own : ownKnob C.prog.godebug = none) (started : os.Started) (noInit : C.prog.inits.idxOf? f = none) (hfn : C.prog.funcs[f]? = some fn)
    (witness : ∃ (w : World) (tape : Tape) (i : Input), w.os = os ∧ (w.forCall tape i).Shaped C.prog ∧ i.vars = [] ∧ Input.okWide C.prog (w.forCall tape i) .any w.heap.size f i ∧
      ((s.pre enc C.prog fn conds apart (w.forCall tape i).memory i.args ∧ X (w.forCall tape i).memory i.args) ∧ sizedMet enc C.prog fn (OpenSpec.ofChange s) apart (w.forCall tape i).memory i.args) ∧ a.holds C.prog (lone (Frame.enter C.prog f i.args .normal) [] (w.forCall tape i)))
    (contract : ∀ (W : World) (base : Nat) (args : Array Value) (ds gs : List (DataW H)) (before : List MemPlace),
      (∀ (j : Nat) t v, fn.params[j]? = some t → args[j]? = some v → Value.okWide C.prog W .any base t v) →
      DataW.Whole enc C.prog fn.params.toList s.vars apart W args.toList ds gs before → W.ShapedOpen C.prog →
      Calls C.prog f args W fun e W' => ∃ v, e = .returned v ∧ s.post enc C.prog fn apart fresh handsOn again W args v W') :
    ReturnsInHanded a C os f .any (fun w args => (s.pre enc C.prog fn conds apart w args ∧ X w args) ∧ sizedMet enc C.prog fn (OpenSpec.ofChange s) apart w args) (s.post enc C.prog fn apart fresh handsOn again) := by
  refine returnsInHanded_of_calls own started noInit witness ?_
  intro w tape i _ hsh _ hok hpre _
  obtain ⟨_, _, _, fn', hfn', _, _, _, _, hval⟩ := hok
  have e : fn' = fn := Option.some.inj (hfn'.symm.trans hfn)
  subst e
  obtain ⟨⟨⟨ds, gs, before, hw, _⟩, _⟩, _⟩ := hpre
  have hw' := DataW.Whole.of_heap (w' := w.forCall tape i) (by rfl) hw
  refine (contract (w.forCall tape i) w.heap.size i.args ds gs before hval hw' hsh).mono fun e W' ⟨v, he, hp⟩ => ?_
  subst he
  exact ChangeSpec.post_blind hp
theorem max_of_shaped {w : World} (h : w.ShapedOpen Tryd.prog) : MaxV w :=
  cell_of_shapedOpen_int (zero := #[.int .i64 0]) h (of_decide_eq_true (by kernel_rfl)) (by kernel_rfl) rfl (by kernel_rfl) (by kernel_rfl) Tryd.underlying3

attribute [local irreducible] wpMix wpList
attribute [local go_sem ↓] exec_mid_src exec_store_src
attribute [local go_sem] rowOk_new World.setRow_alloc_new aggOk_src

set_option maxRecDepth 100000 in
set_option linter.unusedSimpArgs false in
set_option maxHeartbeats 8000000 in
theorem walk (w : World) (s : List UInt8) (hM : MaxV w) (ls : s.length < 9223372036854775808) : Calls Tryd.prog 4 #[.string ⟨s.toArray⟩] w fun e w' => e = .returned (.bool true) ∧ Keeps Nothing w w' := by
  have HM := shut hM
  have hsa : (ByteArray.mk s.toArray).size = s.length := rfl
  have K0 : Keeps Nothing w w := Keeps.refl _ _
  by_cases ha : s.length ≤ 3000
  rotate_left
  · have m1 : (3000 : Int) < s.length := by omega
    clear ls
    go_enter Tryd.func4, Tryd.ntmps4
    have hct := told10_any w (HM.out.keeps K0)
    have KT := K0
    go_wp2_with fail
    refine hct.mono ?_
    rintro e wt ⟨rfl, kt⟩
    have KF := KT.trans kt (fun _ h _ => h)
    clear hct
    go_wp2_with fail
    go_ret
    exact ⟨rfl, KF⟩

  have m1 : ¬ (3000 : Int) < s.length := by omega
  have hp1 := parse_any w s hM ls
  have HLS := shut ls
  obtain ⟨r, hr⟩ : ∃ r, parseL s = r := ⟨_, rfl⟩
  rw [hr] at hp1
  have HR := shut hr
  clear hr hM ls ha
  go_enter Tryd.func4, Tryd.ntmps4
  go_wp2_with fail
  refine hp1.mono ?_
  rintro e w1 ⟨K1, hor1⟩
  have hp2 := rparse_any w1 s HLS.out
  rw [HR.out] at hp2
  clear hp1
  obtain ⟨rc1, rp1, l⟩ := r
  simp only at hor1
  rcases hor1 with ⟨hc1, aA, cA, rfl, hcx, hX⟩ | ⟨hc1, ev1, rfl, ⟨b1, rfl⟩, hE1⟩
  · subst hc1
    have HX := shut hX
    have HBL := shut (parseL_bnd HR.out)
    clear hX
    go_wp2_with fail
    refine hp2.mono ?_
    rintro e w2 ⟨K2, hor2⟩
    clear hp2
    rcases hor2 with ⟨-, hq2, aB, cB, rfl, hY⟩ | ⟨hc2, -⟩
    rotate_left
    · exact absurd rfl hc2
    have HY := shut hY
    clear hY hq2
    have KK := K1.trans K2 (fun _ h _ => h)
    have HX2 := shut (HX.out.keeps K2 (S' := fun _ => True) (Q := SrcIs (fun _ => True) w2) (fun _ _ h => h) (fun _ h => h) (fun _ _ _ h => h.keeps K2 (fun _ _ h => h) (fun _ h => h)))
    clear HX
    have hsm := rsame_any l l w2 cA cB HX2.out HY.out
    simp only
    obtain ⟨k, hk⟩ : ∃ k, l.length = k := ⟨_, rfl⟩
    rw [hk] at hsm hcx ⊢
    have HLK := shut hk
    clear hk
    go_wp2_with fail
    refine hsm.mono ?_
    rintro e w3 ⟨⟨z, rfl, hz⟩, k3⟩
    clear hsm
    obtain rfl : z = true := hz.2 (by first | rfl | trivial)
    clear hz
    have hi := is_any (B := 0) (w := w3) (v := .nilIface) (c := 0) (p := 0) (.inl ⟨rfl, rfl, rfl⟩) 0 0
    rw [decide_eq_true (by decide)] at hi
    have K3 := KK.trans k3 (fun _ h _ => h)
    go_wp2_with fail
    refine hi.mono ?_
    rintro e w4 ⟨rfl, n4, hw4⟩
    clear hi
    have k4 : Keeps Nothing w3 w4 := by rw [hw4]; exact (Keeps.refl Nothing w3).drewN n4
    have KX := K3.trans k4 (fun _ h _ => h)
    have k24 := k3.trans k4 (fun _ h _ => h)
    clear hw4
    obtain ⟨wX, rfl⟩ : ∃ wX, wX = w4 := ⟨_, rfl⟩
    have HA := shut (HX2.out.keeps k24 (S' := fun _ => True) (Q := SrcIs (fun _ => True) wX) (fun _ _ h => h) (fun _ h => h) (fun _ _ _ h => h.keeps k24 (fun _ _ h => h) (fun _ h => h)))
    have HB := shut (HY.out.keeps k24 (S' := fun _ => True) (Q := SrcIs (fun _ => True) wX) (fun _ _ h => h) (fun _ h => h) (fun _ _ _ h => h.keeps k24 (fun _ _ h => h) (fun _ h => h)))
    clear HX2 HY
    have hix := index_any l wX cA HA.out (by have := HBL.out.1; omega) (fun d hd => by have := HBL.out.2 d hd; omega)
    rw [HLK.out] at hix
    go_wp2_with fail
    refine hix.mono ?_
    rintro e w5 ⟨k5, hor5⟩
    clear hix
    have HB5 := shut (HB.out.keeps k5 (S' := fun _ => True) (Q := SrcIs (fun _ => True) w5) (fun _ _ h => h) (fun _ h => h) (fun _ _ _ h => h.keeps k5 (fun _ _ h => h) (fun _ h => h)))
    have hrx := rindex_any l w5 cB HB5.out (by have := HBL.out.1; omega) (fun d hd => by have := HBL.out.2 d hd; omega)
    rw [HLK.out] at hrx
    obtain ⟨R, hR⟩ : ∃ R, idxL l = R := ⟨_, rfl⟩
    rw [hR] at hrx hor5
    have HRX := shut hR
    clear hR
    have K5 := KX.trans k5 (fun _ h _ => h)
    obtain ⟨rc, rp, rows⟩ := R
    simp only at hor5
    rcases hor5 with ⟨hc5, ax, cx, vx, rfl, hrow, hvl, hvi⟩ | ⟨hc5, ev5, rfl, ⟨b5, rfl⟩, hE5⟩
    · subst hc5
      have HRX5 : Shut (IntRows w5 ax cx rows) := shut ⟨⟨vx, hrow, hvl, hvi⟩⟩
      clear hrow hvl hvi
      have HBI := shut (idxL_bnd HBL.out HRX.out)
      go_wp2_with fail
      refine hrx.mono ?_
      rintro e w6 ⟨k6, hor6⟩
      clear hrx
      have K6 := K5.trans k6 (fun _ h _ => h)
      rcases hor6 with ⟨-, hp6, ay, cy, vy, rfl, hrow, hvl, hvi⟩ | ⟨hc6, -⟩
      rotate_left
      · exact absurd rfl hc6
      have HRY6 : Shut (IntRows w6 ay cy rows) := shut ⟨⟨vy, hrow, hvl, hvi⟩⟩
      clear hrow hvl hvi hp6
      have hct := told10_any w6 (HM.out.keeps K6)
      simp only
      obtain ⟨kr, hkr⟩ : ∃ kr, rows.length = kr := ⟨_, rfl⟩
      rw [hkr]
      have HKR := shut hkr
      clear hkr
      go_wp2_with fail
      refine hct.mono ?_
      rintro e w7 ⟨rfl, k7⟩
      clear hct
      have hrr := rows_any w7 cx cy cx cy ((HRX5.out.keepsN k6).keepsN k7) (HRY6.out.keepsN k7) HBI.out.1 HBI.out.2
      rw [HKR.out] at hrr
      have K7 := K6.trans k7 (fun _ h _ => h)
      go_wp2_with fail
      refine hrr.mono ?_
      rintro e w8 ⟨⟨z, rfl, hz⟩, k8⟩
      clear hrr
      obtain rfl : z = true := hz.2 (by first | rfl | trivial)
      clear hz
      have K8 := K7.trans k8 (fun _ h _ => h)
      have hi := is_any (B := 0) (w := w8) (v := .nilIface) (c := 0) (p := 0) (.inl ⟨rfl, rfl, rfl⟩) 0 0
      rw [decide_eq_true (by decide)] at hi
      go_wp2_with fail
      refine hi.mono ?_
      rintro e w9 ⟨rfl, n9, rfl⟩
      clear hi
      have KF := K8.trans ((Keeps.refl Nothing w8).drewN n9) (fun _ h _ => h)
      go_wp2_with fail
      go_ret
      exact ⟨rfl, KF⟩
    · have HE5 := shut hE5
      have HC5 := shut hc5
      clear hE5 hc5
      go_wp2_with fail
      refine hrx.mono ?_
      rintro e w6 ⟨k6, hor6⟩
      clear hrx
      have K6 := K5.trans k6 (fun _ h _ => h)
      rcases hor6 with ⟨hc6, -⟩ | ⟨-, rfl⟩
      · exact absurd hc6 HC5.out
      have hct := told10_any w6 (HM.out.keeps K6)
      go_wp2_with fail
      refine hct.mono ?_
      rintro e w7 ⟨rfl, k7⟩
      clear hct
      have hrr := rows_any (R := []) (Q := []) w7 (ax := none) (ay := none) 0 0 0 0 ⟨⟨[], rowR_nil _ _, rfl, fun j x hx => by simp at hx⟩⟩ ⟨⟨[], rowR_nil _ _, rfl, fun j x hx => by simp at hx⟩⟩ (by simp) (by simp)
      have K7 := K6.trans k7 (fun _ h _ => h)
      go_wp2_with fail
      refine hrr.mono ?_
      rintro e w8 ⟨⟨z, rfl, hz⟩, k8⟩
      clear hrr
      obtain rfl : z = true := hz.2 (by first | rfl | trivial)
      clear hz
      have K8 := K7.trans k8 (fun _ h _ => h)
      have k58 := (k6.trans k7 (fun _ h _ => h)).trans k8 (fun _ h _ => h)
      have hi := is_any (HE5.out.keeps k58 (fun _ h => h.elim)) rc (rp : Int)
      rw [decide_eq_true ⟨rfl, rfl⟩] at hi
      go_wp2_with fail
      refine hi.mono ?_
      rintro e w9 ⟨rfl, n9, rfl⟩
      clear hi
      have KF := K8.trans ((Keeps.refl Nothing w8).drewN n9) (fun _ h _ => h)
      go_wp2_with fail
      go_ret
      exact ⟨rfl, KF⟩

  · have HE1 := shut hE1
    have HC1 := shut hc1
    clear hE1 hc1
    go_wp2_with fail
    refine hp2.mono ?_
    rintro e w2 ⟨K2, hor2⟩
    clear hp2
    rcases hor2 with ⟨hc2, -⟩ | ⟨-, rfl⟩
    · exact absurd hc2 HC1.out
    have KK := K1.trans K2 (fun _ h _ => h)
    have hsm := rsame_any (S := fun _ => True) (S' := fun _ => True) [] [] w2 (ax := none) (ay := none) 0 0 (slIs_nil _ _ _ _ _) (slIs_nil _ _ _ _ _)
    go_wp2_with fail
    refine hsm.mono ?_
    rintro e w3 ⟨⟨z, rfl, hz⟩, k3⟩
    clear hsm
    obtain rfl : z = true := hz.2 (by first | rfl | trivial)
    clear hz
    have k13 := K2.trans k3 (fun _ h _ => h)
    have hi := is_any (HE1.out.keeps k13 (fun _ h => h.elim)) rc1 (rp1 : Int)
    rw [decide_eq_true ⟨rfl, rfl⟩] at hi
    have K3 := KK.trans k3 (fun _ h _ => h)
    go_wp2_with fail
    refine hi.mono ?_
    rintro e w4 ⟨rfl, n4, hw4⟩
    clear hi
    have k4 : Keeps Nothing w3 w4 := by rw [hw4]; exact (Keeps.refl Nothing w3).drewN n4
    have KX := K3.trans k4 (fun _ h _ => h)
    clear hw4
    obtain ⟨wX, rfl⟩ : ∃ wX, wX = w4 := ⟨_, rfl⟩
    obtain ⟨cA, hcA⟩ : ∃ cA : Nat, cA = 0 := ⟨_, rfl⟩
    have hix := index_any (S := fun _ => True) [] wX (al := none) 0 (slIs_nil _ _ _ _ _) (by simp) (fun d hd => by cases hd)
    have hz0 : idxL [] = (0, 0, []) := rfl
    rw [hz0] at hix
    go_wp2_with fail
    refine hix.mono ?_
    rintro e w5 ⟨k5, hor5⟩
    clear hix
    have hrx := rindex_any (S := fun _ => True) [] w5 (al := none) 0 (slIs_nil _ _ _ _ _) (by simp) (fun d hd => by cases hd)
    rw [hz0] at hrx
    have K5 := KX.trans k5 (fun _ h _ => h)
    rcases hor5 with ⟨-, ax, cx, vx, rfl, hrow, hvl, -⟩ | ⟨hc5, -⟩
    rotate_left
    · exact absurd rfl hc5
    go_wp2_with fail
    refine hrx.mono ?_
    rintro e w6 ⟨k6, hor6⟩
    clear hrx
    have K6 := K5.trans k6 (fun _ h _ => h)
    rcases hor6 with ⟨-, -, ay, cy, vy, rfl, hrow6, hvl6, -⟩ | ⟨hc6, -⟩
    rotate_left
    · exact absurd rfl hc6
    have hct := told10_any w6 (HM.out.keeps K6)
    have hvx : vx = [] := List.eq_nil_of_length_eq_zero hvl
    have hvy : vy = [] := List.eq_nil_of_length_eq_zero hvl6
    subst hvx hvy
    have HRX5 := shut hrow
    have HRY6 := shut hrow6
    clear hrow hrow6 hvl hvl6 hcA
    go_wp2_with fail
    refine hct.mono ?_
    rintro e w7 ⟨rfl, k7⟩
    clear hct
    have hrr := rows_any (R := []) (Q := []) w7 cx cy cx cy ⟨⟨[], (HRX5.out.keepsN k6).keepsN k7, rfl, fun j x hx => by simp at hx⟩⟩ ⟨⟨[], HRY6.out.keepsN k7, rfl, fun j x hx => by simp at hx⟩⟩ (by simp) (by simp)
    have K7 := K6.trans k7 (fun _ h _ => h)
    go_wp2_with fail
    refine hrr.mono ?_
    rintro e w8 ⟨⟨z, rfl, hz⟩, k8⟩
    clear hrr
    obtain rfl : z = true := hz.2 (by first | rfl | trivial)
    clear hz
    have K8 := K7.trans k8 (fun _ h _ => h)
    have hi := is_any (B := 0) (w := w8) (v := .nilIface) (c := 0) (p := 0) (.inl ⟨rfl, rfl, rfl⟩) 0 0
    rw [decide_eq_true (by decide)] at hi
    go_wp2_with fail
    refine hi.mono ?_
    rintro e w9 ⟨rfl, n9, rfl⟩
    clear hi
    have KF := K8.trans ((Keeps.refl Nothing w8).drewN n9) (fun _ h _ => h)
    go_wp2_with fail
    go_ret
    exact ⟨rfl, KF⟩

set_option maxRecDepth 100000 in
theorem lifted (os : Os) (started : os.Started) (H : Type) (enc : TypeId × Value → H) :
    ReturnsInHanded {} Tryd.checked os 4 .any (fun w args => (Rows.manifestReadsSpec.pre enc Tryd.prog Tryd.f4 [] false w args ∧ laidMetH Tryd.prog laidP w) ∧ sizedMet enc Tryd.prog Tryd.f4 (OpenSpec.ofChange Rows.manifestReadsSpec) false w args) (Rows.manifestReadsSpec.post enc Tryd.prog Tryd.f4 false true false false) := by
  refine change_shaped (C := Tryd.checked) (X := fun w _ => laidMetH Tryd.prog laidP w) own started (by kernel_rfl) Tryd.func4
    (ChangeSpec.witness_shaped (enc := enc) (C := Tryd.checked) (os := os) (X := fun w _ => laidMetH Tryd.prog laidP w) false (World.laidAll Tryd.prog os laidP) #[.string ⟨#[]⟩] 8 (World.laidAll_os _ _ _)
      (World.shaped_of_ZipB (by kernel_rfl) (by kernel_rfl)) (by kernel_rfl) (by kernel_rfl) (by kernel_rfl)
      (by rw [MakeChecks.laidMetH_plain _ _ _ (by kernel_rfl)]; exact laidMet_laidAll _ (by kernel_rfl) (by kernel_rfl))) ?_
  intro W base args ds gs before hval0 hW hsh
  have hmax := max_of_shaped hsh
  have hval : ∀ (j : Nat) t v, Tryd.f4.params[j]? = some t → args[j]? = some v → Value.okWide Tryd.prog W .any base t v := hval0
  have hW' := hW
  obtain ⟨p, q, hA0, hV, rfl, hfz, hnd⟩ := hW
  have hA : DataW.TrodAll enc Tryd.prog W 0 (fun _ => true) true Tryd.f4.params.toList args.toList ds p := hA0
  rw [Tryd.params4] at hA hval
  obtain ⟨v0, vs0, d0, ds0, p0, q0, hargs, rfl, rfl, h0, r0⟩ := trodAll_cons hA
  obtain ⟨rfl, rfl, rfl⟩ := trodAll_nil r0
  obtain rfl : args = #[v0] := by cases args; simp_all
  obtain ⟨rfl, rfl⟩ := trodVars_none hV
  have k0 := h0
  have lt0 : ∀ x ∈ p0, x.block < W.heap.size := by obtain ⟨m, hm⟩ := k0; exact DataW.trod_lt m _ _ _ hm
  obtain ⟨s0, rfl, rfl, rfl, ws0⟩ := open_string Tryd.underlying9 (hval 0 9 v0 rfl rfl) h0
  clear hA0 hval0
  unfold maxLen at ws0
  have hw := walk W (bytesOf s0) hmax (by rw [bytesOf_length]; omega)
  rw [text_eta] at hw
  refine hw.mono fun e W' ⟨he, hk⟩ => ?_
  subst he
  have bel : Below W.heap.size W W' := hk.below (Nat.le_refl _) (fun _ h => h.elim)
  exact ⟨_, rfl, _, _, _, [], _, [], hW', trodAll_mk1 (shut_bool Tryd.underlying4 _), (trodAll_cons_mk (Below.trod laidOut (by kernel_rfl) (of_decide_eq_true (by kernel_rfl)) k0 bel lt0) trodAll_mk0), rfl, bel.frame _, fun h => by cases h⟩

theorem bare : Rows.ManifestReadsSaid :=
  OpenClaim.holds_of_wide 4 Tryd.f4 rfl rfl rfl rfl rfl rfl rfl ⟨rfl, rfl, rfl, rfl, rfl⟩ rfl rfl rfl rfl rfl (by kernel_rfl) Tryd.func4 (by kernel_rfl)
    (of_decide_eq_true (by kernel_rfl)) (by unfold Func.isWrapper; first | (rw [if_pos (by decide +kernel)]; kernel_rfl) | (rw [if_neg (by decide +kernel)]; exact ⟨rfl, rfl⟩))
    (fun os started H enc _ => lifted os started H enc)

/-- For every input the law returns true, and its arguments read as before; the one package-level variable that it reads is tied to the program's text. -/
theorem proved : Rows.ManifestReadsCardSaid :=
  Claim7.holds_tied_plain_at .later [] [.data, .pinned] true _ true
    bare (fun _ h => by cases h) (by kernel_rfl) (fun _ h => by cases h) manifestReads_row_tie rfl ⟨rfl, rfl⟩ (by kernel_rfl) rfl
    (fun f fn hf hfn => by
      obtain rfl : f = 4 := Option.some.inj ((show Tryd.prog.funcNamed "usufruct/usufructlaw10.ManifestReads" = some 4 by kernel_rfl).symm.trans hf) |>.symm
      obtain rfl : fn = Tryd.f4 := (Option.some.inj (Tryd.func4.symm.trans hfn)).symm
      exact ⟨by kernel_rfl, fun j t ht => by
        rw [Tryd.params4] at ht
        have hm := Array.mem_of_getElem? ht
        simp only [List.mem_toArray, List.mem_cons, List.not_mem_nil, or_false] at hm
        subst hm
        all_goals exact (show Tryd.prog.wantsStandIn _ = false by kernel_rfl)⟩)
    (by kernel_rfl)
#print axioms proved

end Go.Proofs.YtiliajnijjkcdaaDoor.manifestReads
