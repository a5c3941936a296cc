/- usufructlaw10.ManifestJoined: a workspace with another one behind it is both workspaces' crates; no condition. -/
import Derived.Test.YtiliajnijjkcdaaDoorRows
import Derived.Test.YtiliajnijjkcdaaDoorCards
import Derived.Test.YtiliajnijjkcdaaDoorTie
import Derived.SevenTiedAt
import Derived.LaidMore
import Derived.Lay
import Derived.Stop.Joined
import Derived.HandedShaped
import Derived.Shelf.Vars
import Derived.Test.YtiliajnijjkcdaaDoorMan20
import Derived.Test.YtiliajnijjkcdaaDoorMan19
import Derived.ProofKit
import Derived.OpenShut
import Derived.ShutString
import Derived.ChangeOld
import Derived.Below
namespace Go.Proofs.YtiliajnijjkcdaaDoor.manifestJoined
open Go.ChangeShapes Go.WideShapes Go.ChangeAt Go.RowKit
open Go.ChangeMaps (open_string shut_string)

theorem own : ownKnob Tryd.prog.godebug = none := by kernel_rfl
theorem laidOut : laidOutB Tryd.prog = true := by kernel_rfl

abbrev laidP : List (String × DataW Unit) := [("unicode/utf8.acceptRanges", Rows.laid_unicode_utf8_acceptRanges), ("unicode/utf8.first", Rows.laid_unicode_utf8_first)]
/-- The world's shape, handed to the walk; what is listed is not read. -/
theorem change_shaped {H : Type} {enc : TypeId × Value → H} {a : Assume} {C : Checked} {os : Os} {f : FuncId} {fn : Func} {s : ChangeSpec} {conds : List PathCond} {apart fresh handsOn again : Bool} {X : World → Array Value → Prop}
    (own : ownKnob C.prog.godebug = none) (started : os.Started) (noInit : C.prog.inits.idxOf? f = none) (hfn : C.prog.funcs[f]? = some fn)
    (witness : ∃ (w : World) (tape : Tape) (i : Input), w.os = os ∧ (w.forCall tape i).Shaped C.prog ∧ i.vars = [] ∧ Input.okWide C.prog (w.forCall tape i) .any w.heap.size f i ∧
      ((s.pre enc C.prog fn conds apart (w.forCall tape i).memory i.args ∧ X (w.forCall tape i).memory i.args) ∧ sizedMet enc C.prog fn (OpenSpec.ofChange s) apart (w.forCall tape i).memory i.args) ∧ a.holds C.prog (lone (Frame.enter C.prog f i.args .normal) [] (w.forCall tape i)))
    (contract : ∀ (W : World) (base : Nat) (args : Array Value) (ds gs : List (DataW H)) (before : List MemPlace),
      (∀ (j : Nat) t v, fn.params[j]? = some t → args[j]? = some v → Value.okWide C.prog W .any base t v) →
      DataW.Whole enc C.prog fn.params.toList s.vars apart W args.toList ds gs before → W.ShapedOpen C.prog →
      Calls C.prog f args W fun e W' => ∃ v, e = .returned v ∧ s.post enc C.prog fn apart fresh handsOn again W args v W') :
    ReturnsInHanded a C os f .any (fun w args => (s.pre enc C.prog fn conds apart w args ∧ X w args) ∧ sizedMet enc C.prog fn (OpenSpec.ofChange s) apart w args) (s.post enc C.prog fn apart fresh handsOn again) := by
  refine returnsInHanded_of_calls own started noInit witness ?_
  intro w tape i _ hsh _ hok hpre _
  obtain ⟨_, _, _, fn', hfn', _, _, _, _, hval⟩ := hok
  have e : fn' = fn := Option.some.inj (hfn'.symm.trans hfn)
  subst e
  obtain ⟨⟨⟨ds, gs, before, hw, _⟩, _⟩, _⟩ := hpre
  have hw' := DataW.Whole.of_heap (w' := w.forCall tape i) (by rfl) hw
  refine (contract (w.forCall tape i) w.heap.size i.args ds gs before hval hw' hsh).mono fun e W' ⟨v, he, hp⟩ => ?_
  subst he
  exact ChangeSpec.post_blind hp
theorem max_of_shaped {w : World} (h : w.ShapedOpen Tryd.prog) : MaxV w :=
  cell_of_shapedOpen_int (zero := #[.int .i64 0]) h (of_decide_eq_true (by kernel_rfl)) (by kernel_rfl) rfl (by kernel_rfl) (by kernel_rfl) Tryd.underlying3

attribute [local irreducible] wpMix wpList
attribute [local go_sem ↓] exec_mid_src exec_store_src
attribute [local go_sem] rowOk_new World.setRow_alloc_new aggOk_src

theorem parseL_ne {s : List UInt8} {q : Nat} {x : List SrcD} (h : parseL s = (0, q, x)) : x ≠ [] := by
  unfold parseL at h
  split at h
  · injection h with h _; cases h
  · exact (parseE_ok h).2
theorem isHead_two {b : List UInt8} (h : 2 ≤ b.length) : isHead b = true ↔ b.take 2 = [61, 61] := by
  match b, h with
  | x :: y :: r, _ =>
    unfold isHead Lib.hasPrefix
    simp [List.isPrefixOf]
    exact ⟨fun ⟨a, b⟩ => ⟨a.symm, b.symm⟩, fun ⟨a, b⟩ => ⟨a.symm, b.symm⟩⟩
theorem str_two (s : List UInt8) (h : 2 ≤ s.length) (W : World) : (Instr.slice 9 (.string ⟨s.toArray⟩) none (some (.int .i64 2)) none).run Tryd.prog W = .ok (.string ⟨(s.take 2).toArray⟩) W := by
  rw [run_slice_string_h W 9 ⟨s.toArray⟩ Tryd.underlying9 .i64 2 (by decide) (by show (2 : Int) ≤ s.length; omega)]
  have := extract_eq s 0 2
  simpa using this

set_option maxRecDepth 100000 in
set_option linter.unusedSimpArgs false in
set_option maxHeartbeats 8000000 in
theorem walk (w : World) (a b : List UInt8) (hM : MaxV w) (la : a.length < 9223372036854775808) (lb : b.length < 9223372036854775808) : Calls Tryd.prog 5 #[.string ⟨a.toArray⟩, .string ⟨b.toArray⟩] w fun e w' => e = .returned (.bool true) ∧ Keeps Nothing w w' := by
  have HM := shut hM
  have hsa : (ByteArray.mk a.toArray).size = a.length := rfl
  have hsb : (ByteArray.mk b.toArray).size = b.length := rfl
  have K0 : Keeps Nothing w w := Keeps.refl _ _
  by_cases ha : a.length ≤ 1500
  rotate_left
  · have m1 : (1500 : Int) < a.length := by omega
    clear la lb
    go_enter Tryd.func5, Tryd.ntmps5
    have hct := told10_any w (HM.out.keeps K0)
    have KT := K0
    go_wp2_with fail
    refine hct.mono ?_
    rintro e wt ⟨rfl, kt⟩
    have KF := KT.trans kt (fun _ h _ => h)
    clear hct
    go_wp2_with fail
    go_ret
    exact ⟨rfl, KF⟩

  have m1 : ¬ (1500 : Int) < a.length := by omega
  by_cases hb : b.length ≤ 1500
  rotate_left
  · have m2 : (1500 : Int) < b.length := by omega
    clear la lb
    go_enter Tryd.func5, Tryd.ntmps5
    have hct := told10_any w (HM.out.keeps K0)
    have KT := K0
    go_wp2_with fail
    refine hct.mono ?_
    rintro e wt ⟨rfl, kt⟩
    have KF := KT.trans kt (fun _ h _ => h)
    clear hct
    go_wp2_with fail
    go_ret
    exact ⟨rfl, KF⟩

  have m2 : ¬ (1500 : Int) < b.length := by omega
  have hp1 := parse_any w (a ++ [10]) hM (by rw [List.length_append, List.length_singleton]; omega)
  have hA1 : (⟨(a ++ [10]).toArray⟩ : ByteArray) = ⟨a.toArray⟩ ++ ⟨#[10]⟩ := by apply ByteArray.ext; simp
  rw [hA1] at hp1
  have hmx : ¬ (9223372036854775807 : Int) < (a.length : Int) + 1 := by omega
  obtain ⟨r1, hr1⟩ : ∃ r, parseL (a ++ [10]) = r := ⟨_, rfl⟩
  obtain ⟨r2, hr2⟩ : ∃ r, parseL b = r := ⟨_, rfl⟩
  rw [hr1] at hp1
  have HR1 := shut hr1
  have HR2 := shut hr2
  have HLA := shut ha
  have HLB := shut hb
  clear hr1 hM la lb ha hb
  go_enter Tryd.func5, Tryd.ntmps5
  go_wp2_with fail
  refine hp1.mono ?_
  rintro e w1 ⟨K1, hor1⟩
  have hp2 := parse_any w1 b (HM.out.keeps K1) (by have := HLB.out; omega)
  rw [HR2.out] at hp2
  clear hp1
  rcases hor1 with ⟨hc1, ax, cx, rfl, hcx, hX⟩ | ⟨hc1, ev1, rfl, ⟨b1, rfl⟩, -⟩
  rotate_left
  · go_wp2_with fail
    refine hp2.mono ?_
    rintro e w2 ⟨K2, hor2⟩
    have KK := K1.trans K2 (fun _ h _ => h)
    clear hp2
    rcases hor2 with ⟨-, ay, cy, rfl, -, -⟩ | ⟨-, ev2, rfl, -, -⟩
    · clear hA1
      have hct := told10_any w2 (HM.out.keeps KK)
      have KT := KK
      go_wp2_with fail
      refine hct.mono ?_
      rintro e wt ⟨rfl, kt⟩
      have KF := KT.trans kt (fun _ h _ => h)
      clear hct
      go_wp2_with fail
      go_ret
      exact ⟨rfl, KF⟩

    · clear hA1
      have hct := told10_any w2 (HM.out.keeps KK)
      have KT := KK
      go_wp2_with fail
      refine hct.mono ?_
      rintro e wt ⟨rfl, kt⟩
      have KF := KT.trans kt (fun _ h _ => h)
      clear hct
      go_wp2_with fail
      go_ret
      exact ⟨rfl, KF⟩

  have HX := shut hX
  clear hX
  go_wp2_with fail
  refine hp2.mono ?_
  rintro e w2 ⟨K2, hor2⟩
  have KK := K1.trans K2 (fun _ h _ => h)
  clear hp2
  rcases hor2 with ⟨hc2, ay, cy, rfl, hcy, hY⟩ | ⟨hc2, ev2, rfl, ⟨b2, rfl⟩, -⟩
  rotate_left
  · clear hA1
    have hct := told10_any w2 (HM.out.keeps KK)
    have KT := KK
    go_wp2_with fail
    refine hct.mono ?_
    rintro e wt ⟨rfl, kt⟩
    have KF := KT.trans kt (fun _ h _ => h)
    clear hct
    go_wp2_with fail
    go_ret
    exact ⟨rfl, KF⟩

  have HY := shut hY
  clear hY
  obtain ⟨rc1, rp1, x⟩ := r1
  obtain ⟨rc2, rp2, y⟩ := r2
  simp only at hc1 hc2 hcx hcy HX HY
  subst hc1 hc2
  dsimp only
  have HX2 := shut (HX.out.keeps K2 (S' := fun _ => True) (Q := SrcIs (fun _ => True) w2) (fun _ _ h => h) (fun _ h => h) (fun _ _ _ h => h.keeps K2 (fun _ _ h => h) (fun _ h => h)))
  clear HX
  have hlx := HX2.out.1
  have hly := HY.out.1
  unfold bigN at hlx hly
  have hws : IntKind.i64.wrap ((x.length : Int) + y.length) = (x.length : Int) + y.length := by rw [IntKind.wrap_i64]; omega
  by_cases h64 : x.length + y.length ≤ 64
  rotate_left
  · have m3 : (64 : Int) < (x.length : Int) + y.length := by omega
    clear hA1
    have hct := told10_any w2 (HM.out.keeps KK)
    have KT := KK
    go_wp2_with fail
    refine hct.mono ?_
    rintro e wt ⟨rfl, kt⟩
    have KF := KT.trans kt (fun _ h _ => h)
    clear hct
    go_wp2_with fail
    go_ret
    exact ⟨rfl, KF⟩

  have m3 : ¬ (64 : Int) < (x.length : Int) + y.length := by omega
  by_cases h2b : 2 ≤ b.length
  rotate_left
  · have m4 : (b.length : Int) < 2 := by omega
    clear hA1
    have hct := told10_any w2 (HM.out.keeps KK)
    have KT := KK
    go_wp2_with fail
    refine hct.mono ?_
    rintro e wt ⟨rfl, kt⟩
    have KF := KT.trans kt (fun _ h _ => h)
    clear hct
    go_wp2_with fail
    go_ret
    exact ⟨rfl, KF⟩

  have m4 : ¬ (b.length : Int) < 2 := by omega
  have hs2 := fun W => str_two b h2b W
  have hh := isHead_two h2b
  by_cases ht2 : b.take 2 = [61, 61]
  rotate_left
  · have hq : (b.take 2 == [61, 61]) = false := by rw [beq_eq_false_iff_ne]; exact ht2
    clear hA1 hh
    generalize b.take 2 = b2 at *
    have hct := told10_any w2 (HM.out.keeps KK)
    have KT := KK
    go_wp2_with fail
    refine hct.mono ?_
    rintro e wt ⟨rfl, kt⟩
    have KF := KT.trans kt (fun _ h _ => h)
    clear hct
    go_wp2_with fail
    go_ret
    exact ⟨rfl, KF⟩

  have hbh := shut (hh.2 ht2)
  have hq2 : (b.take 2 == [61, 61]) = true := by rw [beq_iff_eq]; exact ht2
  clear hh ht2 hA1
  generalize b.take 2 = b2 at *
  obtain ⟨n, hn⟩ : ∃ n, x.length = n := ⟨_, rfl⟩
  obtain ⟨m, hm⟩ : ∃ m, y.length = m := ⟨_, rfl⟩
  have HN := shut hn
  have HMY := shut hm
  have H64 := shut h64
  rw [hn] at hlx hws m3
  rw [hm] at hly hws m3
  try rw [hn]
  try rw [hm]
  clear hn hm h64 hcx hcy
  go_upto_region 7 with fail
  go_wp2_with fail
  go_loopw [9, 10] (fun s9 _ wx => ∃ i : Nat, s9 = .int .i64 i ∧ i ≤ n ∧ Keeps Nothing w2 wx ∧ Shut (∀ d ∈ x.take i, ∀ e ∈ y, d.name ≠ e.name)) (fun s9 _ _ => n - (intOf s9).toNat)
  case atStart => exact ⟨0, rfl, Nat.zero_le _, Keeps.refl _ _, shut (by simp)⟩
  case round =>
    obtain ⟨i, rfl, hi, KL, HD⟩ := hrel
    by_cases hlt : i < n
    rotate_left
    · obtain rfl : i = n := by omega
      have q1 : ¬ (i : Int) < i := by omega
      have HDA := shut (all_of_take (P := fun d => ∀ e ∈ y, d.name ≠ e.name) HN.out HD.out)
      have KQ := KK.trans KL (fun _ h _ => h)
      clear HD KK
      have hpj := parse_joined HR1.out HR2.out H64.out hbh.out HDA.out (by simp only [List.length_append, List.length_singleton]; have := HLA.out; have := HLB.out; omega)
      have hp3 := parse_any wr ((a ++ [10]) ++ b) (HM.out.keeps KQ) (by simp only [List.length_append, List.length_singleton]; have := HLA.out; have := HLB.out; omega)
      rw [hpj] at hp3
      have hA3 : (⟨((a ++ [10]) ++ b).toArray⟩ : ByteArray) = ⟨a.toArray⟩ ++ ⟨#[10]⟩ ++ ⟨b.toArray⟩ := by apply ByteArray.ext; simp
      rw [hA3] at hp3
      have hs3 : ((⟨a.toArray⟩ : ByteArray) ++ ⟨#[10]⟩).size = a.length + 1 := by rw [ByteArray.size_append, hsa]; rfl
      have hmx3 : ¬ (9223372036854775807 : Int) < (a.length : Int) + 1 + b.length := by have := HLA.out; have := HLB.out; omega
      have HX3 := shut (HX2.out.keeps KL (S' := fun _ => True) (Q := SrcIs (fun _ => True) wr) (fun _ _ h => h) (fun _ h => h) (fun _ _ _ h => h.keeps KL (fun _ _ h => h) (fun _ h => h)))
      have HY3 := shut (HY.out.keeps KL (S' := fun _ => True) (Q := SrcIs (fun _ => True) wr) (fun _ _ h => h) (fun _ h => h) (fun _ _ _ h => h.keeps KL (fun _ _ h => h) (fun _ h => h)))
      have HNE : Shut (x ≠ [] ∧ y ≠ []) := shut ⟨parseL_ne HR1.out, parseL_ne HR2.out⟩
      clear hA3 hpj HDA HX2 HY HR1 HR2 hbh hq2 hs2
      go_wp2_with fail
      refine hp3.mono ?_
      rintro e w3 ⟨K3, hor3⟩
      clear hp3
      rcases hor3 with ⟨-, az, cz, rfl, -, hZ⟩ | ⟨hc3, -⟩
      rotate_left
      · exact absurd rfl hc3
      dsimp only
      rw [show (x ++ y).length = i + m by rw [List.length_append, HN.out, HMY.out]]
      have HZ := shut hZ
      clear hZ
      have KZ := KQ.trans K3 (fun _ h _ => h)
      have hct := told10_any w3 (HM.out.keeps KZ)
      go_wp2_with fail
      refine hct.mono ?_
      rintro e w4 ⟨rfl, K4⟩
      clear hct
      have K34 := K3.trans K4 (fun _ h _ => h)
      have HX4 := shut (HX3.out.keeps K34 (S' := fun _ => True) (Q := SrcIs (fun _ => True) w4) (fun _ _ h => h) (fun _ h => h) (fun _ _ _ h => h.keeps K34 (fun _ _ h => h) (fun _ h => h)))
      have HY4 := shut (HY3.out.keeps K34 (S' := fun _ => True) (Q := SrcIs (fun _ => True) w4) (fun _ _ h => h) (fun _ h => h) (fun _ _ _ h => h.keeps K34 (fun _ _ h => h) (fun _ h => h)))
      have HZ4 := shut (HZ.out.keeps K4 (S' := fun _ => True) (Q := SrcIs (fun _ => True) w4) (fun _ _ h => h) (fun _ h => h) (fun _ _ _ h => h.keeps K4 (fun _ _ h => h) (fun _ h => h)))
      have KW4 := KZ.trans K4 (fun _ h _ => h)
      clear HX3 HY3 HZ K3 K4 K34 KQ KZ KL
      have hxne : x ≠ [] := HNE.out.1
      have hyne : y ≠ [] := HNE.out.2
      have hme := (Keeps.refl Nothing w4).alloc (.cells #[] 43)
      have OE := ownC_empty w4 43 3
      obtain ⟨LX, lx1, lx2, lx3, lx4⟩ := sl_rows HX4.out
      obtain ⟨LY, ly1, ly2, ly3, ly4⟩ := sl_rows HY4.out
      have one : ∀ (l : List SrcD) (M : List (List Value)), M.length = l.length → (∀ (j : Nat) (d : SrcD), l[j]? = some d → ∃ cs, M[j]? = some cs ∧ SrcIs (fun _ => True) w4 d cs) → ∀ z ∈ M, ∀ u ∈ z, u.oneCell' = true := by
        intro l M hl hp z hz u hu
        obtain ⟨j, hj⟩ := List.mem_iff_getElem?.1 hz
        have hlt := (List.getElem?_eq_some_iff.1 hj).1
        obtain ⟨cs, e1, e2⟩ := hp j _ (List.getElem?_eq_getElem (by omega))
        rw [hj] at e1
        obtain rfl := Option.some.inj e1
        exact e2.one u hu
      have SX := sl_src (P := Tryd.prog) (n := i) (tx := 24) (w := w4.alloc (.cells #[] 43)) Tryd.underlying24 (ao := ax) (by rw [lx1, HN.out]) lx2 (one x LX lx1 lx3) (fun _ => by
        obtain ⟨b, o, e, hc⟩ := lx4 hxne
        exact ⟨b, o, e, fun t v ht => hme.cell (hc t v ht) (fun h => h)⟩) cx (fun q => absurd (by rw [← lx1, q]; rfl : x.length = 0) (by have := List.length_pos_iff.2 hxne; omega))
      have OEh := shut OE
      have SXh := shut SX
      have LXL := shut lx1
      have LYL := shut ly1
      have LX4 := shut lx4
      have LY4 := shut ly4
      have LX3 := shut lx3
      have LY3 := shut ly3
      have LX2 := shut lx2
      have LY2 := shut ly2
      have ONE := shut one
      have hib : i ≤ 1000000000 := by omega
      have hmb : m ≤ 1000000000 := by omega
      clear SX OE lx1 lx2 lx3 lx4 ly1 ly2 ly3 ly4 one HX4 HY4
      go_wp2_with (at_builtin; refine wpList_appSrcs _ (by go_simp) (.tmp 97) (.tmp 98) rfl (some ⟨w4.heap.size, 0, none⟩) 0 [] 0 rfl rfl OEh.out _ i LX (by rw [LXL.out, HN.out]) rfl SXh.out (by omega) hib ?_)
      intro a5 c5 w5 O5 k5 m5
      have K45 : Keeps (fun b => w4.heap.size ≤ b) w4 w5 := (hme.mono (S' := fun b => w4.heap.size ≤ b) (fun _ h _ => h.elim)).trans k5 (fun g hg _ => by
        obtain rfl : w4.heap.size = g := by simpa [blockOf] using hg
        exact Nat.le_refl _)
      have n5 : ∀ g, blockOf a5 = some g → w4.heap.size ≤ g := fun g hg => moved_ge m5 (fun g hg => by
        obtain rfl : w4.heap.size = g := by simpa [blockOf] using hg
        exact Nat.le_refl _) (by first | omega | (rw [World.size_alloc]; omega)) hg
      have K45n := keepsHi K45
      have SY := sl_src (P := Tryd.prog) (n := m) (tx := 24) (w := w5) Tryd.underlying24 (ao := ay) (by rw [LYL.out, HMY.out]) LY2.out (ONE.out y LY LYL.out LY3.out) (fun _ => by
        obtain ⟨b, o, e, hc⟩ := LY4.out hyne
        exact ⟨b, o, e, fun t v ht => K45n.cell (hc t v ht) (fun h => h)⟩) cy (fun q => absurd (by rw [← LYL.out, q]; rfl : y.length = 0) (by have := List.length_pos_iff.2 hyne; omega))
      have SYh := shut SY
      have O5h := shut O5
      clear SY O5 OEh SXh k5 m5 hme
      go_wp2_with (at_builtin; refine wpList_appSrcs _ (by go_simp) (.tmp 99) (.tmp 100) rfl a5 c5 ([] ++ LX) i (by rw [List.nil_append, LXL.out, HN.out]) rfl O5h.out _ m LY (by rw [LYL.out, HMY.out]) rfl SYh.out hib hmb ?_)
      intro a6 c6 w6 O6 k6 m6
      have K46 := keepsHi (K45.trans k6 (fun g hg _ => n5 g hg))
      have hbx : (x ++ y).length ≤ bigN := by rw [List.length_append, HN.out, HMY.out]; unfold bigN; omega
      have hSA : SlIs (fun _ => True) w6 3 (SrcIs (fun _ => True) w6) a6 (x ++ y) := by
        try rw [List.nil_append] at O6
        refine ownC_sl O6 (fun z hz => by rcases List.mem_append.1 hz with hz | hz; exact LX2.out z hz; exact LY2.out z hz) (by rw [List.length_append, List.length_append, LXL.out, LYL.out]) hbx (fun j d hd => ?_)
        by_cases hj : j < x.length
        · rw [List.getElem?_append_left hj] at hd
          obtain ⟨cs, e1, e2⟩ := LX3.out j d hd
          exact ⟨cs, by rw [List.getElem?_append_left (by rw [LXL.out]; exact hj)]; exact e1, e2.keeps K46 (fun _ _ h => h) (fun _ h => h)⟩
        · rw [List.getElem?_append_right (by omega)] at hd
          obtain ⟨cs, e1, e2⟩ := LY3.out _ d hd
          exact ⟨cs, by rw [List.getElem?_append_right (by rw [LXL.out]; omega), LXL.out]; exact e1, e2.keeps K46 (fun _ _ h => h) (fun _ h => h)⟩
      have hsm := rsame_any (x ++ y) (x ++ y) w6 cz c6 (HZ4.out.keeps K46 (S' := fun _ => True) (Q := SrcIs (fun _ => True) w6) (fun _ _ h => h) (fun _ h => h) (fun _ _ _ h => h.keeps K46 (fun _ _ h => h) (fun _ h => h))) hSA
      have hlx2 : (x ++ y).length = i + m := by rw [List.length_append, HN.out, HMY.out]
      rw [hlx2] at hsm
      have KW6 := KW4.trans K46 (fun _ h _ => h)
      clear hSA hbx O6 k6 m6 K45 K45n K46 n5 HZ4 KW4
      go_wp2_with fail
      refine hsm.mono ?_
      rintro e w7 ⟨⟨z, rfl, hz⟩, K7⟩
      obtain rfl : z = true := hz.2 (by first | rfl | trivial)
      have KF := KW6.trans K7 (fun _ h _ => h)
      clear hsm hz
      go_wp2_with fail
      go_ret
      exact ⟨rfl, KF⟩
    have q1 : (i : Int) < n := by omega
    have q0 : (0 : Int) ≤ i := by omega
    obtain ⟨d, hd⟩ : ∃ d, x[i]? = some d := ⟨_, List.getElem?_eq_getElem (by rw [HN.out]; exact hlt)⟩
    have HDD := shut hd
    clear hd
    go_wp2_with fail
    go_loopw [10] (fun s10 wx => ∃ k : Nat, s10 = .int .i64 k ∧ k ≤ m ∧ Keeps Nothing w2 wx ∧ Shut (∀ e ∈ y.take k, d.name ≠ e.name)) (fun s10 _ => m - (intOf s10).toNat)
    case atStart => exact ⟨0, rfl, Nat.zero_le _, KL, shut (by simp)⟩
    case round =>
      obtain ⟨k, rfl, hk, KL2, HE⟩ := hrel
      by_cases hlt2 : k < m
      rotate_left
      · obtain rfl : k = m := by omega
        have q2 : ¬ (k : Int) < k := by omega
        have HDA := shut (all_take (P := fun d => ∀ e ∈ y, d.name ≠ e.name) HDD.out HD.out (all_of_take (P := fun e => d.name ≠ e.name) HMY.out HE.out))
        clear HD HE
        go_wp2_with fail
        go_roundw
        case rel => exact ⟨i + 1, by go_num, by omega, KL2, HDA⟩
        case measure => simp [intOf]; omega
      have q2 : (k : Int) < m := by omega
      have q3 : (0 : Int) ≤ k := by omega
      obtain ⟨e, he⟩ : ∃ e, y[k]? = some e := ⟨_, List.getElem?_eq_getElem (by rw [HMY.out]; exact hlt2)⟩
      obtain ⟨gx, ox, qa, da, hax, c1, -, -, -⟩ := srcd_at (HX2.out.keeps KL2 (Q := SrcIs (fun _ => True) wr) (fun _ _ h => h) (fun _ h => h) (fun _ _ _ h => h.keeps KL2 (fun _ _ h => h) (fun _ h => h))) HDD.out
      obtain ⟨gy, oy, qb, db, hay, c2, -, -, -⟩ := srcd_at (HY.out.keeps KL2 (Q := SrcIs (fun _ => True) wr) (fun _ _ h => h) (fun _ h => h) (fun _ _ _ h => h.keeps KL2 (fun _ _ h => h) (fun _ h => h))) he
      subst hax hay
      have HEE := shut he
      clear he
      obtain ⟨d_name, d_deps, d_text⟩ := d
      obtain ⟨e_name, e_deps, e_text⟩ := e
      simp only at c1 c2 HE
      by_cases hne : d_name = e_name
      · subst hne
        have hq : (d_name == d_name) = true := beq_self_eq_true _
        have KT0 := KK.trans KL2 (fun _ h _ => h)
        clear HD HE HDD HEE
        go_upto_region 13 with fail
        refine wp_region_mix (fun V => Keeps Nothing wr V) [(true, 0), (true, 1), (true, 2), (true, 3), (true, 4), (true, 5), (true, 6), (true, 7), (true, 8), (true, 9), (true, 10)] (by kernel_rfl) (by kernel_rfl) (Keeps.refl _ _).drew ?_
        simp only [mixItems, List.map_cons, List.map_nil, List.getD_cons_zero, List.getD_cons_succ]
        have kdr : Keeps Nothing wr wr.drew := (Keeps.refl Nothing wr).drew
        repeat (refine wpMix_free (fun K hK => ?_); go_simp; refine hK _ ?_; clear hK K)
        refine wpMix_yield (v := .string ⟨d_name.toArray⟩) (fun V hV => ?_) (fun K hK => ?_)
        · have zz := hV.cell c1 (fun h => h)
          go_simp
        go_simp
        refine hK _ ?_
        clear hK K
        repeat (refine wpMix_free (fun K hK => ?_); go_simp; refine hK _ ?_; clear hK K)
        refine wpMix_yield (v := .string ⟨d_name.toArray⟩) (fun V hV => ?_) (fun K hK => ?_)
        · have zz := hV.cell c2 (fun h => h)
          go_simp
        go_simp
        refine hK _ ?_
        clear hK K
        repeat (refine wpMix_free (fun K hK => ?_); go_simp; refine hK _ ?_; clear hK K)
        refine wpMix_nil ?_
        have KT1 := KT0.trans kdr (fun _ h _ => h)
        generalize wr.drew = wq at *
        have hct := told10_any wq (HM.out.keeps KT1)
        have KT := KT1
        go_wp2_with fail
        refine hct.mono ?_
        rintro e wt ⟨rfl, kt⟩
        have KF := KT.trans kt (fun _ h _ => h)
        clear hct
        go_wp2_with fail
        go_ret
        exact ⟨rfl, KF⟩

      · have hq : (d_name == e_name) = false := by rw [beq_eq_false_iff_ne]; exact hne
        have HE2 := shut (all_take (P := fun e => d_name ≠ e.name) HEE.out HE.out hne)
        clear HE
        go_upto_region 13 with fail
        refine wp_region_mix (fun V => Keeps Nothing wr V) [(true, 0), (true, 1), (true, 2), (true, 3), (true, 4), (true, 5), (true, 6), (true, 7), (true, 8), (true, 9), (true, 10)] (by kernel_rfl) (by kernel_rfl) (Keeps.refl _ _).drew ?_
        simp only [mixItems, List.map_cons, List.map_nil, List.getD_cons_zero, List.getD_cons_succ]
        have kdr : Keeps Nothing wr wr.drew := (Keeps.refl Nothing wr).drew
        repeat (refine wpMix_free (fun K hK => ?_); go_simp; refine hK _ ?_; clear hK K)
        refine wpMix_yield (v := .string ⟨d_name.toArray⟩) (fun V hV => ?_) (fun K hK => ?_)
        · have zz := hV.cell c1 (fun h => h)
          go_simp
        go_simp
        refine hK _ ?_
        clear hK K
        repeat (refine wpMix_free (fun K hK => ?_); go_simp; refine hK _ ?_; clear hK K)
        refine wpMix_yield (v := .string ⟨e_name.toArray⟩) (fun V hV => ?_) (fun K hK => ?_)
        · have zz := hV.cell c2 (fun h => h)
          go_simp
        go_simp
        refine hK _ ?_
        clear hK K
        repeat (refine wpMix_free (fun K hK => ?_); go_simp; refine hK _ ?_; clear hK K)
        refine wpMix_nil ?_
        have KL3 := KL2.trans kdr (fun _ h _ => h)
        go_wp2_with fail
        go_roundw
        case rel => exact ⟨k + 1, by go_num, by omega, KL3, HE2⟩
        case measure => simp [intOf]; omega

set_option maxRecDepth 100000 in
theorem lifted (os : Os) (started : os.Started) (H : Type) (enc : TypeId × Value → H) :
    ReturnsInHanded {} Tryd.checked os 5 .any (fun w args => (Rows.manifestJoinedSpec.pre enc Tryd.prog Tryd.f5 [] false w args ∧ laidMetH Tryd.prog laidP w) ∧ sizedMet enc Tryd.prog Tryd.f5 (OpenSpec.ofChange Rows.manifestJoinedSpec) false w args) (Rows.manifestJoinedSpec.post enc Tryd.prog Tryd.f5 false true false false) := by
  refine change_shaped (C := Tryd.checked) (X := fun w _ => laidMetH Tryd.prog laidP w) own started (by kernel_rfl) Tryd.func5
    (ChangeSpec.witness_shaped (enc := enc) (C := Tryd.checked) (os := os) (X := fun w _ => laidMetH Tryd.prog laidP w) false (World.laidAll Tryd.prog os laidP) #[.string ⟨#[]⟩, .string ⟨#[]⟩] 8 (World.laidAll_os _ _ _)
      (World.shaped_of_ZipB (by kernel_rfl) (by kernel_rfl)) (by kernel_rfl) (by kernel_rfl) (by kernel_rfl)
      (by rw [MakeChecks.laidMetH_plain _ _ _ (by kernel_rfl)]; exact laidMet_laidAll _ (by kernel_rfl) (by kernel_rfl))) ?_
  intro W base args ds gs before hval0 hW hsh
  have hmax := max_of_shaped hsh
  have hval : ∀ (j : Nat) t v, Tryd.f5.params[j]? = some t → args[j]? = some v → Value.okWide Tryd.prog W .any base t v := hval0
  have hW' := hW
  obtain ⟨p, q, hA0, hV, rfl, hfz, hnd⟩ := hW
  have hA : DataW.TrodAll enc Tryd.prog W 0 (fun _ => true) true Tryd.f5.params.toList args.toList ds p := hA0
  rw [Tryd.params5] at hA hval
  obtain ⟨v0, vs0, d0, ds0, p0, q0, hargs, rfl, rfl, h0, r0⟩ := trodAll_cons hA
  obtain ⟨v1, vs1, d1, ds1, p1, q1, rfl, rfl, rfl, h1, r1⟩ := trodAll_cons r0
  obtain ⟨rfl, rfl, rfl⟩ := trodAll_nil r1
  obtain rfl : args = #[v0, v1] := by cases args; simp_all
  obtain ⟨rfl, rfl⟩ := trodVars_none hV
  have k0 := h0
  have lt0 : ∀ x ∈ p0, x.block < W.heap.size := by obtain ⟨m, hm⟩ := k0; exact DataW.trod_lt m _ _ _ hm
  have k1 := h1
  have lt1 : ∀ x ∈ p1, x.block < W.heap.size := by obtain ⟨m, hm⟩ := k1; exact DataW.trod_lt m _ _ _ hm
  obtain ⟨s0, rfl, rfl, rfl, ws0⟩ := open_string Tryd.underlying9 (hval 0 9 v0 rfl rfl) h0
  obtain ⟨s1, rfl, rfl, rfl, ws1⟩ := open_string Tryd.underlying9 (hval 1 9 v1 rfl rfl) h1
  clear hA0 hval0
  unfold maxLen at ws0 ws1
  have hw := walk W (bytesOf s0) (bytesOf s1) hmax (by rw [bytesOf_length]; omega) (by rw [bytesOf_length]; omega)
  rw [text_eta, text_eta] at hw
  refine hw.mono fun e W' ⟨he, hk⟩ => ?_
  subst he
  have bel : Below W.heap.size W W' := hk.below (Nat.le_refl _) (fun _ h => h.elim)
  exact ⟨_, rfl, _, _, _, [], _, [], hW', trodAll_mk1 (shut_bool Tryd.underlying4 _), (trodAll_cons_mk (Below.trod laidOut (by kernel_rfl) (of_decide_eq_true (by kernel_rfl)) k0 bel lt0) (trodAll_cons_mk (Below.trod laidOut (by kernel_rfl) (of_decide_eq_true (by kernel_rfl)) k1 bel lt1) trodAll_mk0)), rfl, bel.frame _, fun h => by cases h⟩

theorem bare : Rows.ManifestJoinedSaid :=
  OpenClaim.holds_of_wide 5 Tryd.f5 rfl rfl rfl rfl rfl rfl rfl ⟨rfl, rfl, rfl, rfl, rfl⟩ rfl rfl rfl rfl rfl (by kernel_rfl) Tryd.func5 (by kernel_rfl)
    (of_decide_eq_true (by kernel_rfl)) (by unfold Func.isWrapper; first | (rw [if_pos (by decide +kernel)]; kernel_rfl) | (rw [if_neg (by decide +kernel)]; exact ⟨rfl, rfl⟩))
    (fun os started H enc _ => lifted os started H enc)

/-- For every input the law returns true, and its arguments read as before; the one package-level variable that it reads is tied to the program's text. -/
theorem proved : Rows.ManifestJoinedCardSaid :=
  Claim7.holds_tied_plain_at .later [] [.data, .pinned] true _ true
    bare (fun _ h => by cases h) (by kernel_rfl) (fun _ h => by cases h) manifestJoined_row_tie rfl ⟨rfl, rfl⟩ (by kernel_rfl) rfl
    (fun f fn hf hfn => by
      obtain rfl : f = 5 := Option.some.inj ((show Tryd.prog.funcNamed "usufruct/usufructlaw10.ManifestJoined" = some 5 by kernel_rfl).symm.trans hf) |>.symm
      obtain rfl : fn = Tryd.f5 := (Option.some.inj (Tryd.func5.symm.trans hfn)).symm
      exact ⟨by kernel_rfl, fun j t ht => by
        rw [Tryd.params5] at ht
        have hm := Array.mem_of_getElem? ht
        simp only [List.mem_toArray, List.mem_cons, List.not_mem_nil, or_false] at hm
        rcases hm with rfl | rfl
        all_goals exact (show Tryd.prog.wantsStandIn _ = false by kernel_rfl)⟩)
    (by kernel_rfl)
#print axioms proved

end Go.Proofs.YtiliajnijjkcdaaDoor.manifestJoined
