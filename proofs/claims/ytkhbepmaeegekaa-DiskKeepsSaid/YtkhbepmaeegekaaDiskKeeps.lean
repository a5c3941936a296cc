/- usufructlaw25.DiskKeeps: for any texts, synced or not, the law returns true; no condition. -/
import Derived.Test.YtkhbepmaeegekaaRows
import Derived.Test.YtkhbepmaeegekaaDisk3
import Derived.Test.YtkhbepmaeegekaaArgs2
import Derived.Test.YtkhbepmaeegekaaMix
import Derived.Deep.DrawnRows
import Derived.ProofKit
import Derived.OpenShut
import Derived.ShutString
import Derived.ChangeOld
import Derived.Below
namespace Go.Proofs.Ytkhbepmaeegekaa.diskKeeps
open Go.ChangeShapes Go.WideShapes Go.ChangeAt Go.RowKit
open Go.ChangeMaps (open_string shut_string)

theorem own : ownKnob Try.prog.godebug = none := by kernel_rfl
theorem laidOut : laidOutB Try.prog = true := by kernel_rfl


def keepAt (rows : List (List UInt8)) (k : Nat) : List UInt8 := (rows.take k).flatten
theorem keepAt_succ {rows : List (List UInt8)} {k : Nat} {l : List UInt8} (h : rows[k]? = some l) : keepAt rows (k + 1) = keepAt rows k ++ l := by
  unfold keepAt; rw [List.take_add_one, h]; simp


/-- Behind the loop. -/
structure Kept (w0 w : World) (p : Nat) (bs : List UInt8) (sy : Nat) : Prop where
  ex : ∃ ao cap, DkNew w0 w p ao cap ⟨2000, bs, sy, false⟩
  le : bs.length ≤ 1000
  sl : sy ≤ bs.length

attribute [local go_sem ↓] Go.wp_at_zero Go.wp_at_succ

set_option maxRecDepth 100000 in
set_option maxHeartbeats 4000000 in
theorem walk (w : World) (ao : Option Addr) (n c : Nat) (rows : List (List UInt8)) (hn : rows.length = n) (hR : RowsAt w ao rows) (hmax : n ≤ maxLen)
    (aob : Option Addr) (nb cb : Nat) (bools : List Bool) (hnb : bools.length = nb) (hB : BoolsAt w aob bools) (hmaxb : nb ≤ maxLen) (keep : Int) :
    Calls Try.prog 3 #[.slice ao n c, .slice aob nb cb, .int .i64 keep] w (SaysTrue w) := by
  have HN := Lib.hid hn
  have HNB := Lib.hid hnb
  have hn9 : n < 9223372036854775808 := by unfold maxLen at hmax; omega
  have hnb9 : nb < 9223372036854775808 := by unfold maxLen at hmaxb; omega
  clear hn hmax hnb hmaxb
  go_enter Try.func3, Try.ntmps3
  go_wp2_with fail
  refine (disk_new 2000 (by omega) (by omega) w).mono ?_
  rintro e w0 ⟨rfl, hw0⟩
  have D0 := dkNew_new w 2000 (by omega) (by omega)
  rw [← hw0] at D0
  clear hw0
  generalize hp : w.heap.size = p at *
  have HP := Lib.hid hp
  clear hp
  go_wp2_with fail
  go_loopw [9, 10, 11] (fun t u s wr => ∃ (i sy : Nat) (ao1 : Option Addr) (cap1 : Nat) (E : List UInt8), t = .string ⟨E.toArray⟩ ∧ u = .int .i64 sy ∧ s = .int .i64 i ∧ i ≤ n ∧ i ≤ 20 ∧ E.length ≤ 50 * i ∧ sy ≤ E.length ∧ DkNew w wr p ao1 cap1 ⟨2000, E, sy, false⟩) (fun _ _ s _ => (20 - intOf s).toNat)
  case atStart => exact ⟨0, 0, none, 0, [], rfl, rfl, rfl, Nat.zero_le _, Nat.zero_le _, Nat.zero_le _, Nat.zero_le _, D0⟩
  case round =>
    obtain ⟨i, sy, ao1, cap1, E, rfl, rfl, rfl, hi, h20, hE, hsy, D1⟩ := hrel
    by_cases hb : i < n ∧ i < 20
    · obtain ⟨hlt, hlt20⟩ := hb
      obtain ⟨l, hl⟩ : ∃ l, rows[i]? = some l := ⟨_, List.getElem?_eq_getElem (by have := HN.out; omega)⟩
      obtain ⟨a, rfl⟩ : ∃ a, ao = some a := by
        cases ao with
        | none => have := hR.1 rfl; subst this; simp at hl
        | some a => exact ⟨a, rfl⟩
      obtain ⟨hs, aol, capl, hcl0, hbl0, hll, hlm⟩ := hR.2 a rfl i l hl
      obtain ⟨ab, aoff, rfl⟩ : ∃ b o, a = ⟨b, o, none⟩ := ⟨a.block, a.off, by cases a; simp_all⟩
      have HS := Lib.hid (keepAt_succ hl)
      clear hs hl
      have hll9 : l.length < 9223372036854775808 := by unfold maxLen at hlm; omega
      rw [ad_add _ rfl] at hcl0
      have hcl := D1.keep.cell hcl0 (fun h => h)
      by_cases hS : 50 < l.length
      · clear hcl0
        go_wp2_with fail
        refine (disk_told wr).mono ?_
        rintro e w1 ⟨rfl, k1⟩
        go_wp2_with fail
        go_ret
        exact ⟨rfl, D1.keep.trans k1 (fun _ h _ => h)⟩
      · have HC0 := Lib.hid hcl0
        clear hcl0
        have hw := disk_append_to (c := 0) (d' := ⟨2000, E ++ l, sy, false⟩) D1.dk capl (by
          unfold DkS.append
          rw [if_neg (by simp), if_neg (by show ¬ ((2000 : Int) - E.length < (l.length : Int)); omega)]) (hbl0.keepsN D1.keep) (by omega) rfl
        go_wp2_with fail
        refine hw.mono ?_
        clear hw
        rintro e w1 ⟨ev, rfl, hev, ao2, cap2, d1, k1, m1⟩
        obtain rfl := isErr_no hev
        have D2 := D1.step d1 k1 m1
        clear hcl D1 d1 k1 m1 hev
        have hcl := D2.keep.cell HC0.out (fun h => h)
        have hconv := run_str w1 capl l (l := l.length) rfl (hbl0.keepsN D2.keep)
        have hEl : (E ++ l).length ≤ 50 * (i + 1) := by rw [List.length_append]; omega
        have hEs : sy ≤ (E ++ l).length := by rw [List.length_append]; omega
        have hcase : (∃ ab2 ob2, aob = some ⟨ab2, ob2, none⟩ ∧ i < nb ∧ w1.cell? ⟨ab2, ob2 + i, none⟩ = some (.bool true)) ∨ (∃ ab2 ob2, aob = some ⟨ab2, ob2, none⟩ ∧ i < nb ∧ w1.cell? ⟨ab2, ob2 + i, none⟩ = some (.bool false)) ∨ ¬ i < nb := by
          by_cases hib : i < nb
          · obtain ⟨b, hb⟩ : ∃ b, bools[i]? = some b := ⟨_, List.getElem?_eq_getElem (by have := HNB.out; omega)⟩
            cases aob with
            | none => have := hB.1 rfl; subst this; simp at hb
            | some a2 =>
              obtain ⟨hs, hc⟩ := hB.2 a2 rfl i b hb
              obtain ⟨b2, o2, s2⟩ := a2
              simp only at hs
              subst hs
              rw [ad_add _ rfl] at hc
              have hc2 := D2.keep.cell hc (fun h => h)
              cases b
              · exact .inr (.inl ⟨b2, o2, rfl, hib, hc2⟩)
              · exact .inl ⟨b2, o2, rfl, hib, hc2⟩
          · exact .inr (.inr hib)
        clear HS
        rcases hcase with ⟨ab2, ob2, rfl, hib, hcb⟩ | ⟨ab2, ob2, rfl, hib, hcb⟩ | hib
        · go_wp2_with fail
          refine (disk_sync_to (c := 0) (d' := ⟨2000, E ++ l, (E ++ l).length, false⟩) D2.dk rfl).mono ?_
          rintro e w2 ⟨ev, rfl, hev, ao3, cap3, d1, k1, m1⟩
          obtain rfl := isErr_no hev
          have D3 := D2.step d1 k1 m1
          clear hconv hcl hcb
          go_wp2_with fail
          go_roundw
          case rel => exact ⟨i + 1, (E ++ l).length, ao3, cap3, E ++ l, cat_eq E l, by rw [List.length_append]; go_num, by go_num, by omega, by omega, hEl, Nat.le_refl _, D3⟩
          case measure => simp [intOf]; omega
        all_goals
          go_wp2_with fail
          go_roundw
          case rel => exact ⟨i + 1, sy, ao2, cap2, E ++ l, cat_eq E l, rfl, by go_num, by omega, by omega, hEl, hEs, D2⟩
          case measure => simp [intOf]; omega
    · have hE2 : E.length ≤ 1000 := by omega
      have hcase : ¬ i < n ∨ (i < n ∧ ¬ i < 20) := by omega
      obtain ⟨d2, hd2⟩ : ∃ d2, DkS.crash ⟨2000, E, sy, false⟩ keep = d2 := ⟨_, rfl⟩
      have hdn : d2.dn = true := by rw [← hd2]; unfold DkS.crash; rw [if_neg (by simp)]
      have hkept : ∃ m, sy ≤ m ∧ m ≤ E.length ∧ d2.bs = E.take m ∧ d2.sy = m := by
        refine ⟨sy + (min (max keep 0) (E.length - sy : Int)).toNat, by omega, by omega, ?_, ?_⟩
        · rw [← hd2]; unfold DkS.crash; rw [if_neg (by simp)]
        · rw [← hd2]; unfold DkS.crash; rw [if_neg (by simp)]
      obtain ⟨m, hm1, hm2, hm3, hm4⟩ := hkept
      have hX1 : d2.append [] = (15, d2) := by unfold DkS.append; rw [if_pos hdn]
      have hX2 : d2.sync = (15, d2) := by unfold DkS.sync; rw [if_pos hdn]
      have hX3 : d2.cut 0 = (15, d2) := by unfold DkS.cut; rw [if_pos hdn]
      have hX4 : d2.start = (0, { d2 with dn := false }) := by unfold DkS.start; rw [if_pos hdn]
      have Y0 := Lib.hid hd2
      have Y1 := Lib.hid hX1
      have Y2 := Lib.hid hX2
      have Y3 := Lib.hid hX3
      have Y4 := Lib.hid hX4
      have Z3 := Lib.hid hm3
      have Z4 := Lib.hid hm4
      clear hb hE hd2 hX1 hX2 hX3 hX4 hm3 hm4 hdn
      rcases hcase with hx | ⟨hx, hy⟩
      all_goals
        go_wp2_with fail
        refine (disk_crash_to D1.dk Y0.out).mono ?_
        rintro e w1 ⟨rfl, ao2, cap2, d1, k1, m1⟩
        have D2 := D1.step d1 k1 m1
        clear D1 d1 k1 m1
        go_wp2_with fail
        refine (disk_append_to D2.dk 0 Y1.out (bytesAt_nil none) (by decide) rfl).mono ?_
        rintro e w2 ⟨ev, rfl, hev, ao3, cap3, d1, k1, m1⟩
        obtain ⟨b, rfl⟩ := isErr_yes hev (by decide)
        have D3 := D2.step d1 k1 m1
        clear D2 d1 k1 m1 hev
        go_wp2_with fail
        refine (disk_sync_to D3.dk Y2.out).mono ?_
        rintro e w3 ⟨ev, rfl, hev, ao4, cap4, d1, k1, m1⟩
        obtain ⟨b2, rfl⟩ := isErr_yes hev (by decide)
        have D4 := D3.step d1 k1 m1
        clear D3 d1 k1 m1 hev
        go_wp2_with fail
        refine (disk_cut_to D4.dk Y3.out).mono ?_
        rintro e w4 ⟨ev, rfl, hev, ao5, cap5, d1, k1, m1⟩
        obtain ⟨b3, rfl⟩ := isErr_yes hev (by decide)
        have D5 := D4.step d1 k1 m1
        clear D4 d1 k1 m1 hev
        go_wp2_with fail
        refine (disk_start_to D5.dk Y4.out).mono ?_
        rintro e w5 ⟨ev, rfl, hev, ao6, cap6, d1, k1, m1⟩
        obtain rfl := isErr_no hev
        have D6 := D5.step d1 k1 m1
        clear D5 d1 k1 m1 hev
        go_wp2_with fail
        refine (disk_read D6.dk).mono ?_
        rintro e w6 ⟨_, hr⟩
        obtain ⟨ao7, cap7, rfl, o7, k7, _⟩ := hr rfl
        have D7 := D6.keepsN k7
        clear hr D6 k7
        obtain ⟨T, hT⟩ : ∃ T, T = E.take m := ⟨_, rfl⟩
        have o8 : Own8 w6 5 ao7 cap7 T := by rw [hT, ← Z3.out]; exact o7
        have hbl : d2.bs.length = m := by rw [Z3.out, List.length_take]; omega
        have hTl : T.length = m := by rw [hT, List.length_take]; omega
        have hsl : ∀ w0 : World, (Instr.slice 9 (.string ⟨E.toArray⟩) none (some (.int .i64 m)) none).run Try.prog w0 = .ok (.string ⟨T.toArray⟩) w0 := fun w0 => by
          rw [run_slice_string_h w0 9 ⟨E.toArray⟩ Try.underlying9 .i64 m (by omega) (by show (m : Int) ≤ (E.toArray.size : Int); simp; omega), hT]
          have := extract_eq E 0 m
          rw [Nat.zero_add, List.drop_zero] at this
          rw [Int.toNat_natCast, this]
        have hsize : (⟨E.toArray⟩ : ByteArray).size = E.length := by show E.toArray.size = _; simp
        rw [hbl]
        have hmi : (m : Int) ≤ E.length := by omega
        have hmi2 : (sy : Int) ≤ m := by omega
        have HT := Lib.hid hT
        have HTl := Lib.hid hTl
        clear hT hTl hbl
        go_wp2_with fail
        have D7d : DkNew w w6.drew p ao6 cap6 _ := D7.keepsN (Keeps.refl _ _).drew
        refine wp_region_mix (fun _ => True) [(false, 0), (true, 1), (true, 2), (true, 3), (true, 4), (true, 5), (true, 6), (true, 7), (true, 8), (true, 9), (true, 10), (true, 11), (true, 12), (true, 13), (true, 14), (true, 15), (true, 16), (true, 17), (true, 18), (true, 19), (true, 20), (true, 21), (true, 22), (true, 23), (false, 24), (true, 25), (true, 26), (true, 27), (true, 28), (true, 30), (true, 31), (false, 29), (true, 32), (true, 33), (true, 34)] (by kernel_rfl) (by kernel_rfl) trivial ?_
        simp only [mixItems, List.map_cons, List.map_nil, List.getD_cons_zero, List.getD_cons_succ]
        refine wpMix_one (fun K hK => ?_)
        go_wp2_with fail
        refine (disk_told _).mono ?_
        rintro e w7 ⟨rfl, k8⟩
        have D8 := D7d.keepsN k8
        have hconv := run_str w7 cap7 T HTl.out (own8_at (k8.own (a := w6.drew) o8 (fun _ _ h => h)))
        go_wp2_with fail
        refine hK _ _ trivial ?_
        clear hK K
        repeat (refine wpMix_take (fun K hK => ?_); go_simp; refine hK _ ?_; clear hK K)
        refine wpMix_one (fun K hK => ?_)
        go_wp2_with fail
        refine hK _ _ trivial ?_
        clear hK K
        repeat (refine wpMix_take (fun K hK => ?_); go_simp; refine hK _ ?_; clear hK K)
        refine wpMix_one (fun K hK => ?_)
        go_wp2_with fail
        refine (disk_synced D8.dk).mono ?_
        rw [Z4.out]
        rintro e w8 ⟨rfl, rfl⟩
        go_wp2_with fail
        refine hK _ _ trivial ?_
        clear hK K
        repeat (refine wpMix_take (fun K hK => ?_); go_simp; refine hK _ ?_; clear hK K)
        refine wpMix_nil ?_
        go_wp2_with fail
        go_ret
        exact ⟨ret_bool (by decide), D8.keep⟩
set_option maxRecDepth 100000 in
theorem lifted (os : Os) (started : os.Started) (H : Type) (enc : TypeId × Value → H) :
    ReturnsInHanded {} Try.checked os 3 .any (Rows.diskKeepsSpec.pre6 enc Try.prog Try.f3 Rows.diskKeepsRow.domain false) (Rows.diskKeepsSpec.post enc Try.prog Try.f3 false true false false) := by
  refine returnsInHanded_of_change (C := Try.checked) own started (by kernel_rfl) Try.func3
    (ChangeSpec.witness6 (enc := enc) (C := Try.checked) false ⟨#[], #[.slice none 0 0, .slice none 0 0, .int .i64 0], []⟩ 8 (by kernel_rfl) (by kernel_rfl) (by kernel_rfl) (by kernel_rfl)) ?_
  intro W base args ds gs before hval0 hW hcnd _
  have hval : ∀ (j : Nat) t v, Try.f3.params[j]? = some t → args[j]? = some v → Value.okWide Try.prog W .any base t v := hval0
  have hW' := hW
  obtain ⟨p, q, hA0, hV, rfl, hfz, hnd⟩ := hW
  have hA : DataW.TrodAll enc Try.prog W 0 (fun _ => true) true Try.f3.params.toList args.toList ds p := hA0
  rw [Try.params3] at hA hval
  obtain ⟨v0, vs0, d0, ds0, p0, q0, hargs, rfl, rfl, h0, r0⟩ := trodAll_cons hA
  obtain ⟨v1, vs1, d1, ds1, p1, q1, rfl, rfl, rfl, h1, r1⟩ := trodAll_cons r0
  obtain ⟨v2, vs2, d2, ds2, p2, q2, rfl, rfl, rfl, h2, r2⟩ := trodAll_cons r1
  obtain ⟨rfl, rfl, rfl⟩ := trodAll_nil r2
  obtain rfl : args = #[v0, v1, v2] := by cases args; simp_all
  obtain ⟨rfl, rfl⟩ := trodVars_none hV
  have k0 := h0
  have lt0 : ∀ x ∈ p0, x.block < W.heap.size := by obtain ⟨m, hm⟩ := k0; exact DataW.trod_lt m _ _ _ hm
  have k1 := h1
  have lt1 : ∀ x ∈ p1, x.block < W.heap.size := by obtain ⟨m, hm⟩ := k1; exact DataW.trod_lt m _ _ _ hm
  have k2 := h2
  have lt2 : ∀ x ∈ p2, x.block < W.heap.size := by obtain ⟨m, hm⟩ := k2; exact DataW.trod_lt m _ _ _ hm
  obtain ⟨ao, len, cap, rfl⟩ := okWide_slice Try.underlying22 (hval 0 22 v0 rfl rfl)
  obtain ⟨fuel, hf⟩ := h0
  obtain ⟨rows, hn, hR, hlc, hcm⟩ := open_rows rfl hf
  obtain ⟨aob, lenb, capb, rfl⟩ := okWide_slice Try.underlying23 (hval 1 23 v1 rfl rfl)
  obtain ⟨fuel1, hf1⟩ := h1
  obtain ⟨bools, hnb, hB, hlcb, hcmb⟩ := open_bools rfl hf1
  obtain ⟨a2, rfl, rfl, rfl, w2⟩ := open_int Try.underlying3 (hval 2 3 v2 rfl rfl) h2
  have b2 := bounds_i64 w2
  clear hA0 hval0
  refine (walk W ao len cap rows hn hR (Nat.le_trans hlc hcm) aob lenb capb bools hnb hB (Nat.le_trans hlcb hcmb) a2).mono fun e W' ⟨he, hk⟩ => ?_
  subst he
  have bel : Below W.heap.size W W' := hk.below (Nat.le_refl _) (fun _ h => h.elim)
  exact ⟨_, rfl, _, _, _, [], _, [], hW', trodAll_mk1 (shut_bool Try.underlying4 _), (trodAll_cons_mk (Below.trod laidOut (by kernel_rfl) (of_decide_eq_true (by kernel_rfl)) k0 bel lt0) (trodAll_cons_mk (Below.trod laidOut (by kernel_rfl) (of_decide_eq_true (by kernel_rfl)) k1 bel lt1) (trodAll_cons_mk (Below.trod laidOut (by kernel_rfl) (of_decide_eq_true (by kernel_rfl)) k2 bel lt2) trodAll_mk0))), rfl, bel.frame _, fun h => by cases h⟩

/-- For every input the law returns true, and its arguments read as before. -/
theorem proved : Rows.DiskKeepsSaid :=
  OpenClaim.holds_of_wide 3 Try.f3 rfl rfl rfl rfl rfl rfl rfl ⟨rfl, rfl, rfl, rfl, rfl⟩ rfl rfl rfl rfl rfl (by kernel_rfl) Try.func3 (by kernel_rfl)
    (of_decide_eq_true (by kernel_rfl)) (by unfold Func.isWrapper; first | (rw [if_pos (by decide +kernel)]; kernel_rfl) | (rw [if_neg (by decide +kernel)]; exact ⟨rfl, rfl⟩))
    (fun os started H enc _ => lifted os started H enc)
#print axioms proved

end Go.Proofs.Ytkhbepmaeegekaa.diskKeeps
