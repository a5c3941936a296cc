/- Rows of texts compared by the document; usufructlaw10.told. -/
import Derived.Test.YtiliajnijjkcdaaDoorMan17
namespace Go.Proofs.YtiliajnijjkcdaaDoor
open Go.RowKit

attribute [local go_sem ↓] exec_mid_src exec_store_src
attribute [local go_sem] rowOk_new World.setRow_alloc_new aggOk_src

set_option maxRecDepth 100000 in
set_option maxHeartbeats 2000000 in
theorem rtexts_any (w : World) {S S' : Nat → Prop} {ax ay : Option Addr} {l m : List (List UInt8)} (cx cy : Nat) (hx : SlIs S w 1 TxIs ax l) (hy : SlIs S' w 1 TxIs ay m) :
    Calls Tryd.prog 25 #[.slice ax l.length cx, .slice ay m.length cy] w (Tells w (l = m)) := by
  have hlx := hx.1
  have hly := hy.1
  unfold bigN at hlx hly
  have HX := shut hx
  have HY := shut hy
  clear hx hy
  by_cases hne : l.length = m.length
  · obtain ⟨n, hn⟩ : ∃ n, l.length = n := ⟨_, rfl⟩
    have hm : m.length = n := by omega
    rw [hn, hm]
    rw [hn] at hlx
    clear hne hly
    have HN := shut hn
    have HM := shut hm
    clear hn hm
    go_enter Tryd.func25, Tryd.ntmps25
    go_wp2_with fail
    go_loopw [5] (fun s13 wx => ∃ t : Nat, s13 = .int .i64 t ∧ t ≤ n ∧ Keeps Nothing w wx ∧ Shut (l.take t = m.take t)) (fun s13 _ => n - (intOf s13).toNat)
    case atStart => exact ⟨0, rfl, Nat.zero_le _, Keeps.refl _ _, shut (by simp)⟩
    case round =>
      obtain ⟨t, rfl, ht, K, HT⟩ := hrel
      by_cases hlt : t < n
      · obtain ⟨a, ha⟩ : ∃ a, l[t]? = some a := ⟨_, List.getElem?_eq_getElem (by rw [HN.out]; exact hlt)⟩
        obtain ⟨b, hb⟩ : ∃ b, m[t]? = some b := ⟨_, List.getElem?_eq_getElem (by rw [HM.out]; exact hlt)⟩
        obtain ⟨g1, o1, rfl, e1, -⟩ := tx_cell (HX.out.keeps K (fun _ _ h => h) (fun _ h => h) (fun _ _ _ h => h)) ha
        obtain ⟨g2, o2, rfl, e2, -⟩ := tx_cell (HY.out.keeps K (fun _ _ h => h) (fun _ h => h) (fun _ _ _ h => h)) hb
        have HA := shut ha
        have HB := shut hb
        clear ha hb
        have m0 : (0 : Int) ≤ t := by omega
        have m1 : (t : Int) < n := by omega
        by_cases hab : a = b
        · subst hab
          have hbq : (a == a) = true := beq_self_eq_true _
          go_wp2_with fail
          go_quiet (fail)
          go_wp2_with fail
          go_roundw
          case rel => exact ⟨t + 1, by go_num, by omega, K.drewN _, shut (take_eq HA.out HB.out HT.out rfl)⟩
          case measure => simp [intOf]; omega
        · have hbq : (a == b) = false := by rw [beq_eq_false_iff_ne]; exact hab
          have HAB := shut hab
          clear hab
          go_wp2_with fail
          go_quiet (fail)
          go_wp2_with fail
          go_ret
          exact tells_f (ne_at HA.out HB.out HAB.out) (K.drewN _)
      · obtain rfl : t = n := by omega
        have m1 : ¬ (t : Int) < t := by omega
        go_wp2_with fail
        go_ret
        refine tells_t ?_ K
        have h := HT.out
        rwa [List.take_of_length_le (Nat.le_of_eq HN.out), List.take_of_length_le (Nat.le_of_eq HM.out)] at h
  · have hne' : ¬ (l.length : Int) = m.length := by omega
    have hl : l ≠ m := fun h => hne (by rw [h])
    go_enter Tryd.func25, Tryd.ntmps25
    go_wp2_with fail
    go_ret
    exact tells_f hl (Keeps.refl _ _)

theorem parse_A : parseL [10, 61, 61, 32, 97, 10, 102, 110, 32, 102, 40, 41, 32, 123, 10, 125, 10, 61, 61, 32, 98, 32, 58, 32, 97, 10] = (0, 0, [⟨[97], [], [102, 110, 32, 102, 40, 41, 32, 123, 10, 125, 10]⟩, ⟨[98], [[97]], []⟩]) := by kernel_rfl
theorem parse_B : parseL [61, 61, 32, 97, 10, 61, 61, 32, 97, 10] = (23, 5, []) := by kernel_rfl
theorem parse_C : parseL [] = (40, 0, []) := by kernel_rfl
theorem idx_D : idxL [⟨[97], [], []⟩, ⟨[98], [[99]], []⟩] = (41, 1, []) := by kernel_rfl
/-- A crate's cells in a row that was read. -/
theorem srcd_at {S : Nat → Prop} {w : World} {ao : Option Addr} {l : List SrcD} (h : SlIs S w 3 (SrcIs S w) ao l) {j : Nat} {d : SrcD} (hd : l[j]? = some d) : ∃ b o a c, ao = some ⟨b, o, none⟩ ∧ w.cell? ⟨b, o + j * 3, none⟩ = some (.string ⟨d.name.toArray⟩) ∧ w.cell? ⟨b, o + j * 3 + 1, none⟩ = some (.slice a d.deps.length c) ∧ w.cell? ⟨b, o + j * 3 + 2, none⟩ = some (.string ⟨d.text.toArray⟩) ∧ SlIs S w 1 TxIs a d.deps := by
  obtain ⟨b, o, e, _, cs, _, hr, a, c, rfl, _, _, _, hd⟩ := h.get hd
  exact ⟨b, o, a, c, e, hr 0 _ rfl, hr 1 _ rfl, hr 2 _ rfl, hd⟩

set_option maxRecDepth 100000 in
set_option linter.unusedSimpArgs false in
set_option maxHeartbeats 8000000 in
theorem told10_any (w : World) (hM : MaxV w) : Calls Tryd.prog 9 #[] w fun e w' => e = .returned (.bool true) ∧ Keeps Nothing w w' := by
  have h1 := parse_any w [10, 61, 61, 32, 97, 10, 102, 110, 32, 102, 40, 41, 32, 123, 10, 125, 10, 61, 61, 32, 98, 32, 58, 32, 97, 10] hM (by decide)
  rw [parse_A] at h1
  have HM := shut hM
  clear hM
  go_enter Tryd.func9, Tryd.ntmps9
  go_wp2_with fail
  refine h1.mono ?_
  rintro e w1 ⟨K1, hp⟩
  clear h1
  rcases hp with ⟨_, ao, cap, rfl, _, hS⟩ | ⟨hc, _⟩
  rotate_left
  · exact absurd rfl hc
  have HS := shut hS
  clear hS
  have h2 := parse_any w1 [61, 61, 32, 97, 10, 61, 61, 32, 97, 10] (HM.out.keeps K1) (by decide)
  rw [parse_B] at h2
  go_wp2_with fail
  refine h2.mono ?_
  rintro e w2 ⟨K12, hp⟩
  clear h2
  rcases hp with ⟨hc, _⟩ | ⟨_, ev2, rfl, ⟨b2, rfl⟩, hE2⟩
  · exact absurd hc (by decide)
  have HE2 := shut hE2
  have K2 := K1.trans K12 (fun _ h _ => h)
  clear hE2
  have h3 := parse_any w2 [] (HM.out.keeps K2) (by decide)
  rw [parse_C] at h3
  go_wp2_with fail
  refine h3.mono ?_
  rintro e w3 ⟨K23, hp⟩
  clear h3
  rcases hp with ⟨hc, _⟩ | ⟨_, ev3, rfl, ⟨b3, rfl⟩, hE3⟩
  · exact absurd hc (by decide)
  have HE3 := shut hE3
  clear hE3
  have K3 := K2.trans K23 (fun _ h _ => h)
  have kc : Keeps Nothing w3 (w3.alloc (.cells #[.string ⟨#[99]⟩] 9)) := (Keeps.refl Nothing w3).alloc _
  have BC := blk_new w3 #[.string ⟨#[99]⟩] 9
  have kl : Keeps Nothing (w3.alloc (.cells #[.string ⟨#[99]⟩] 9)) ((w3.alloc (.cells #[.string ⟨#[99]⟩] 9)).alloc (.cells #[.string ⟨#[97]⟩, .slice none 0 0, .string ⟨#[]⟩, .string ⟨#[98]⟩, .slice (some ⟨w3.heap.size, 0, none⟩) 1 1, .string ⟨#[]⟩] 43)) := (Keeps.refl Nothing _).alloc _
  have BL := blk_new (w3.alloc (.cells #[.string ⟨#[99]⟩] 9)) #[.string ⟨#[97]⟩, .slice none 0 0, .string ⟨#[]⟩, .string ⟨#[98]⟩, .slice (some ⟨w3.heap.size, 0, none⟩) 1 1, .string ⟨#[]⟩] 43
  rw [World.size_alloc] at BL
  have BC2 := kl.blk BC (fun h => h)
  have hsl : SlIs (fun _ => True) ((w3.alloc (.cells #[.string ⟨#[99]⟩] 9)).alloc (.cells #[.string ⟨#[97]⟩, .slice none 0 0, .string ⟨#[]⟩, .string ⟨#[98]⟩, .slice (some ⟨w3.heap.size, 0, none⟩) 1 1, .string ⟨#[]⟩] 43)) 3 (SrcIs (fun _ => True) ((w3.alloc (.cells #[.string ⟨#[99]⟩] 9)).alloc (.cells #[.string ⟨#[97]⟩, .slice none 0 0, .string ⟨#[]⟩, .string ⟨#[98]⟩, .slice (some ⟨w3.heap.size, 0, none⟩) 1 1, .string ⟨#[]⟩] 43))) (some ⟨w3.heap.size + 1, 0, none⟩) [⟨[97], [], []⟩, ⟨[98], [[99]], []⟩] := by
    refine ⟨by unfold bigN; decide, .inr ⟨w3.heap.size + 1, 0, rfl, trivial, ⟨⟨[.string ⟨#[97]⟩, .slice none 0 0, .string ⟨#[]⟩], rfl, ?_, none, 0, rfl, ?_, ?_, ⟨Nat.le_refl _, Nat.zero_le _⟩, slIs_nil _ _ _ _ _⟩, ⟨⟨[.string ⟨#[98]⟩, .slice (some ⟨w3.heap.size, 0, none⟩) 1 1, .string ⟨#[]⟩], rfl, ?_, some ⟨w3.heap.size, 0, none⟩, 1, rfl, ?_, ?_, ⟨Nat.le_refl _, by unfold maxLen; decide⟩, ?_⟩, trivial⟩⟩⟩⟩
    · intro t v ht
      match t, ht with
      | 0, ht => exact blk_cell BL 0 (by simpa using ht)
      | 1, ht => exact blk_cell BL 1 (by simpa using ht)
      | 2, ht => exact blk_cell BL 2 (by simpa using ht)
    · unfold bigN; decide
    · unfold bigN; decide
    · intro t v ht
      match t, ht with
      | 0, ht => exact blk_cell BL 3 (by simpa using ht)
      | 1, ht => exact blk_cell BL 4 (by simpa using ht)
      | 2, ht => exact blk_cell BL 5 (by simpa using ht)
    · unfold bigN; decide
    · unfold bigN; decide
    · refine ⟨by unfold bigN; decide, .inr ⟨w3.heap.size, 0, rfl, trivial, ⟨⟨[txV [99]], rfl, ?_, rfl, by unfold bigN; decide⟩, trivial⟩⟩⟩
      intro t v ht
      match t, ht with
      | 0, ht => exact blk_cell BC2 0 (by simpa [txV] using ht)
  have h4 := index_any [⟨[97], [], []⟩, ⟨[98], [[99]], []⟩] _ 2 hsl (by decide) (by decide)
  rw [idx_D] at h4
  have K4 := K3.trans (kc.trans kl (fun _ h _ => h)) (fun _ h _ => h)
  have K34 := kc.trans kl (fun _ h _ => h)
  clear hsl BL BC BC2
  go_wp2_with fail
  refine h4.mono ?_
  rintro e w5 ⟨K45, hp⟩
  clear h4
  rcases hp with ⟨hc, _⟩ | ⟨_, ev4, rfl, ⟨b4, rfl⟩, hE4⟩
  · exact absurd hc (by show ¬ (41 : Int) = 0; decide)
  have K35 := K34.trans K45 (fun _ h _ => h)
  have K25 := K23.trans K35 (fun _ h _ => h)
  have K15 := K12.trans K25 (fun _ h _ => h)
  have KF := K4.trans K45 (fun _ h _ => h)
  have HS5 := shut (HS.out.keeps K15 (S' := fun _ => True) (Q := SrcIs (fun _ => True) w5) (fun _ _ h => h) (fun _ h => h) (fun _ _ _ h => h.keeps K15 (fun _ _ h => h) (fun _ h => h)))
  have HE2 := shut (HE2.out.keeps K25 (fun _ h => h.elim))
  have HE3 := shut (HE3.out.keeps K35 (fun _ h => h.elim))
  have HE4 := shut hE4
  obtain ⟨bl, ol, a0, c0, rfl, -, -, t0, -⟩ := srcd_at HS5.out (j := 0) rfl
  obtain ⟨bl', ol', a1, c1, hbb, -, d1, t1, hd1⟩ := srcd_at HS5.out (j := 1) rfl
  simp only [Option.some.injEq, Addr.mk.injEq, and_true] at hbb
  obtain ⟨rfl, rfl⟩ := hbb
  simp only [Nat.zero_mul, Nat.add_zero, Nat.one_mul] at t0 t1 d1
  have HD1 := shut hd1
  clear hd1 hE4 HS HS5 K1 K2 K3 K12 K23 K34 K35 K25 K15 K4 K45 kc kl
  have q1 : (([102, 110, 32, 102, 40, 41, 32, 123, 10, 125, 10] : List UInt8) == [102, 110, 32, 102, 40, 41, 32, 123, 10, 125, 10]) = true := by decide
  have kx : Keeps Nothing w5 (w5.alloc (.cells #[.string ⟨#[97]⟩] 9)) := (Keeps.refl Nothing w5).alloc _
  have BX := blk_new w5 #[.string ⟨#[97]⟩] 9
  have hxs : SlIs (fun _ => True) (w5.alloc (.cells #[.string ⟨#[97]⟩] 9)) 1 TxIs (some ⟨w5.heap.size, 0, none⟩) [[97]] := by
    refine ⟨by unfold bigN; decide, .inr ⟨w5.heap.size, 0, rfl, trivial, ⟨⟨[txV [97]], rfl, ?_, rfl, by unfold bigN; decide⟩, trivial⟩⟩⟩
    intro t v ht
    match t, ht with
    | 0, ht => exact blk_cell BX 0 (by simpa [txV] using ht)
  have h5 := rtexts_any (w5.alloc (.cells #[.string ⟨#[97]⟩] 9)) c1 1 (HD1.out.keeps kx (S' := fun _ => True) (fun _ _ h => h) (fun _ h => h) (fun _ _ _ h => h)) hxs
  clear hxs BX
  go_wp2_with fail
  refine h5.mono ?_
  rintro e w6 ⟨⟨z, rfl, hz⟩, K6⟩
  obtain rfl : z = true := hz.2 (by first | rfl | trivial)
  have k56 := kx.trans K6 (fun _ h _ => h)
  have i1 := is_any (HE2.out.keeps k56 (fun _ h => h.elim)) 23 5
  rw [decide_eq_true (by decide)] at i1
  clear h5 hz HD1
  go_wp2_with fail
  refine i1.mono ?_
  rintro e w7 ⟨rfl, n7, rfl⟩
  clear i1
  have kd7 : Keeps Nothing w6 (w6.drewN n7) := (Keeps.refl Nothing w6).drewN n7
  have k57 := k56.trans kd7 (fun _ h _ => h)
  generalize w6.drewN n7 = w7 at *
  have i2 := is_any (HE3.out.keeps k57 (fun _ h => h.elim)) 40 0
  rw [decide_eq_true (by decide)] at i2
  go_wp2_with fail
  refine i2.mono ?_
  rintro e w8 ⟨rfl, n8, rfl⟩
  clear i2
  have kd8 : Keeps Nothing w7 (w7.drewN n8) := (Keeps.refl Nothing _).drewN n8
  have k58 := k57.trans kd8 (fun _ h _ => h)
  generalize w7.drewN n8 = w8 at *
  have i3 := is_any (HE4.out.keeps k58 (fun _ h => h.elim)) 41 1
  rw [decide_eq_true (by decide)] at i3
  go_wp2_with fail
  refine i3.mono ?_
  rintro e w9 ⟨rfl, n9, rfl⟩
  clear i3
  have kd9 := k58.trans ((Keeps.refl Nothing w8).drewN n9) (fun _ h _ => h)
  have KFF := KF.trans kd9 (fun _ h _ => h)
  clear kd7 kd8 k57 k58 kd9
  go_wp2_with fail
  go_ret
  exact ⟨rfl, KFF⟩

end Go.Proofs.YtiliajnijjkcdaaDoor
