/- usufructlaw26.JournalJunk: the walk. -/
import Derived.Test.YteifmkfkekglpaaDoorJouU
import Derived.Test.YteifmkfkekglpaaDoorJouT
namespace Go.Proofs.YteifmkfkekglpaaDoor
open Go.RowKit

theorem scanE_zero {b : List UInt8} (h : (scanE b).2 = 0) : scanE b = ([], 0) := by
  cases hs : stepE b with
  | none => exact scanE_none hs
  | some e =>
    have h1 := lenE_bd b e hs
    rw [scanE_some hs] at h
    simp only at h
    omega

attribute [local go_sem ↓] exec_store_ent exec_mid_ent

set_option maxRecDepth 100000 in
set_option maxHeartbeats 4000000 in
theorem junk_any {w : World} (hg : ErrVar w) {ao0 ao1 : Option Addr} {n c0 n1 c1' : Nat} {l : List EntT} (hn : l.length = n) (hX : EntsAt w ao0 l) {jk : List UInt8} (hn1 : jk.length = n1) (hB : BytesAt w ao1 jk) {x : EntT} (hx : x.Fit) :
    Calls Tryd.prog 5 #[.slice ao0 n c0, .slice ao1 n1 c1', .agg x.cells.toArray] w fun e w' => e = .returned (.bool true) ∧ Keeps Nothing w w' := by
  obtain ⟨z1, z2, z3⟩ := x
  have HN := shut hn
  have HN1 := shut hn1
  clear hn hn1
  show Calls _ _ #[.slice ao0 n c0, .slice ao1 n1 c1', .agg #[.int .i64 z1, .int .i64 z2, .string ⟨z3.toArray⟩]] _ _
  have ka : Keeps Nothing w (w.alloc (.cells #[.int .i64 z1, .int .i64 z2, .string ⟨z3.toArray⟩] 23)) := (Keeps.refl Nothing w).alloc _
  have BE := blk_new w #[.int .i64 z1, .int .i64 z2, .string ⟨z3.toArray⟩] 23
  have hX0 := hX.keepsN ka
  have hB0 := hB.keeps ka (fun _ _ h => h)
  have hg0 := hg.keeps ka
  go_enter Tryd.func5, Tryd.ntmps5
  go_upto_region 1 with fail
  obtain ⟨wa, hwa⟩ : ∃ wa, wa = w.alloc (.cells #[.int .i64 z1, .int .i64 z2, .string ⟨z3.toArray⟩] 23) := ⟨_, rfl⟩
  rw [← hwa] at ka BE hX0 hg0 hB0 ⊢
  have hgb : w.heap.size < wa.heap.size := by rw [hwa, World.size_alloc]; omega
  clear hwa
  obtain ⟨gb, hgb2⟩ : ∃ gb, gb = w.heap.size := ⟨_, rfl⟩
  rw [← hgb2] at BE hgb ⊢
  clear hgb2
  have cd := blk_cell BE 2 rfl
  have hsz : (⟨z3.toArray⟩ : ByteArray).size = z3.length := rfl
  by_cases hbig : 200 < n1 ∨ 100 < z3.length
  · have hb : (200 : Int) < n1 ∨ (100 : Int) < z3.length := by omega
    go_wp2_with fail
    all_goals
      refine (told26_any hg0).mono ?_
      rintro e w2 ⟨rfl, k2⟩
      go_wp2_with fail
      go_ret
      exact ⟨rfl, ka.trans k2 (fun _ h _ => h)⟩
  have hb1 : ¬ (200 : Int) < n1 := by omega
  have hb : ¬ (100 : Int) < z3.length := by omega
  have hb3 : n1 ≤ 200 ∧ z3.length ≤ 100 := by omega
  go_wp2_with fail
  clear cd hb1 hb
  go_loopw [7, 8, 9, 10, 11] (fun s7 s8 s9 s10 s11 wx => ∃ (i : Nat) (W : List EntT) (o1 : Option Addr) (c1 : Nat), s7 = .string ⟨(framesB W).toArray⟩ ∧ s8 = .slice o1 W.length c1 ∧ s9 = .int .i64 i ∧ i ≤ n ∧ i ≤ 8 ∧ W.length ≤ i ∧
    Shut (∀ x ∈ W, GoodE x ∧ x.data.length ≤ 100) ∧ OwnE wx o1 c1 W ∧ Shut (∀ g, blockOf o1 = some g → wa.heap.size ≤ g) ∧ Keeps Nothing wa wx) (fun _ _ s9 _ _ _ => 8 - (intOf s9).toNat)
  case atStart => exact ⟨0, [], none, 0, rfl, rfl, rfl, Nat.zero_le _, by omega, Nat.le_refl _, shut (by simp), ownC_nil _ _ _, shut (fun g h => by simp [blockOf] at h), Keeps.refl _ _⟩
  case round =>
    obtain ⟨i, W, o1, c1, rfl, rfl, rfl, hin, hi8, hWi, GW, OW, HF, KW⟩ := hrel
    by_cases hlt : i < n ∧ i < 8
    · obtain ⟨x, hx'⟩ : ∃ x, l[i]? = some x := ⟨_, List.getElem?_eq_getElem (by rw [HN.out]; exact hlt.1)⟩
      obtain ⟨b, off, rfl⟩ := hX0.head (by rw [HN.out]; omega)
      obtain ⟨hfit, c2d, m1d, m2d⟩ := ents_one (hX0.keepsN KW) hx'
      have i1 : (i : Int) < n := by omega
      have i2 : (i : Int) < 8 := by omega
      have i3 : (0 : Int) ≤ i := by omega
      have HX := shut hx'
      clear hx'
      by_cases hbig2 : 100 < x.data.length
      · have hb : (100 : Int) < x.data.length := by omega
        have hsz : (⟨x.data.toArray⟩ : ByteArray).size = x.data.length := rfl
        go_wp2_with fail
        refine (told26_any (hg0.keeps KW)).mono ?_
        rintro e w3 ⟨rfl, k3⟩
        go_wp2_with fail
        go_ret
        exact ⟨rfl, (ka.trans KW (fun _ h _ => h)).trans k3 (fun _ h _ => h)⟩
      · have hb : ¬ (100 : Int) < x.data.length := by omega
        have hsz : (⟨x.data.toArray⟩ : ByteArray).size = x.data.length := rfl
        have hfr := rframe_any wr x hfit (by omega)
        go_wp2_with fail
        refine hfr.mono ?_
        rintro e w3 hp3
        clear hfr
        by_cases hP : frameP x
        · have hgx : GoodE x ∧ x.data.length ≤ 100 := ⟨⟨hfit, hP, by omega⟩, by omega⟩
          obtain ⟨rfl, k3⟩ := hp3.1 hP
          have KW3 := KW.trans k3 (fun _ h _ => h)
          have OW3 := OwnC.keepsN OW k3
          obtain ⟨-, -, m1e, m2e0⟩ := ents_one (hX0.keepsN KW3) HX.out
          have m2e : midOf w3 b (off + i * 3) 3 = #[.int .i64 x.crate, .int .i64 x.epoch, .string ⟨x.data.toArray⟩] := m2e0
          have hle := framesB_len (k := 100) (by omega) (L := W) (GW.out)
          have hfl := good_len hgx.1 100 hgx.2 (by omega)
          clear c2d m1d m2d m2e0 hp3 k3 OW KW
          have hcat : ¬ 9223372036854775807 < (framesB W).length + (frameE x).length := by omega
          have hs1 : (⟨(framesB W).toArray⟩ : ByteArray).size = (framesB W).length := rfl
          have hs2 : (⟨(frameE x).toArray⟩ : ByteArray).size = (frameE x).length := rfl
          have ka3 : Keeps Nothing w3 (w3.alloc (.cells #[.int .i64 x.crate, .int .i64 x.epoch, .string ⟨x.data.toArray⟩] 23)) := (Keeps.refl Nothing w3).alloc _
          have BD := blk_new w3 #[.int .i64 x.crate, .int .i64 x.epoch, .string ⟨x.data.toArray⟩] 23
          go_wp2_with (at_builtin; refine wpList_appE _ rfl (.tmp 61) (.tmp 66) rfl o1 c1 W W.length rfl rfl (OwnC.keepsN OW3 ka3) w3.heap.size _ x rfl rfl BD (by omega) ?_)
          intro on cn wn On kn mn
          have On' : OwnE wn on cn (W ++ [x]) := by unfold OwnE; rw [List.map_append]; exact On
          have Kn : Keeps Nothing wa wn := (KW3.trans ka3 (fun _ h _ => h)).trans kn (fun i hi hlt => by have := HF.out i hi; omega)
          have HFn := shut (mn.new (by have := KW3.size; omega) HF.out)
          have GN : Shut (∀ y ∈ W ++ [x], GoodE y ∧ y.data.length ≤ 100) := shut (by
            intro y hy
            rcases List.mem_append.1 hy with hy | hy
            · exact GW.out y hy
            · rw [List.mem_singleton] at hy
              subst hy
              exact hgx)
          clear ka3 BD m1e m2e kn mn On OW3 KW3 hcat hs1 hs2
          go_wp2_with fail
          go_roundw
          case rel => exact ⟨i + 1, W ++ [x], on, cn, by rw [framesB_snoc, ByteArray.mk_append_mk], by simp, by go_num, by omega, by omega, by simp; omega, GN, On', HFn, Kn⟩
          case measure => simp [intOf]; omega
        · obtain ⟨rfl, k3⟩ := hp3.2 hP
          clear hp3
          go_wp2_with fail
          go_roundw
          case rel => exact ⟨i + 1, W, o1, c1, rfl, rfl, by go_num, by omega, by omega, by omega, GW, OwnC.keepsN OW k3, HF, KW.trans k3 (fun _ h _ => h)⟩
          case measure => simp [intOf]; omega
    · have hor : ¬ (i : Int) < n ∨ ¬ (i : Int) < 8 := by omega
      have hstr := run_str wr c1' jk (l := n1) HN1.out (hB0.keeps KW (fun _ _ h => h))
      have hle := framesB_len (k := 100) (by omega) (L := W) (GW.out)
      have hrs := rscan_any wr jk (by rw [HN1.out]; omega)
      go_wp2_with fail
      all_goals
        clear hor hlt
        refine hrs.mono ?_
        rintro e w1 ⟨oj, cj, rfl, -, k1, -⟩
        clear hrs hstr
        have KW1 := KW.trans k1 (fun _ h _ => h)
        have OW1 := OwnC.keepsN OW k1
        clear k1 OW KW
        by_cases hz : 0 < (scanE jk).2
        case pos =>
          have hz' : (0 : Int) < ((scanE jk).2 : Nat) := by omega
          go_wp2_with fail
          refine (told26_any (hg0.keeps KW1)).mono ?_
          rintro e w3 ⟨rfl, k3⟩
          go_wp2_with fail
          go_ret
          exact ⟨rfl, (ka.trans KW1 (fun _ h _ => h)).trans k3 (fun _ h _ => h)⟩
        case neg =>
          have hz' : ¬ (0 : Int) < ((scanE jk).2 : Nat) := by omega
          have HSJ := shut (scanE_zero (by omega : (scanE jk).2 = 0))
          go_wp2_with fail
          clear hz hz'
          refine (disk_new 1048576 (by omega) (by omega) w1).mono ?_
          rintro e w2 ⟨rfl, hw2⟩
          have hk1' := dk_new w1 1048576 (by omega) (by omega)
          rw [← hw2] at hk1'
          have k2 : Keeps Nothing w1 w2 := by rw [hw2]; exact (Keeps.refl Nothing w1).alloc _
          clear hw2
          obtain ⟨p, hp0⟩ : ∃ p, p = w1.heap.size := ⟨_, rfl⟩
          rw [← hp0] at hk1' ⊢
          have hp : wa.heap.size ≤ p := by rw [hp0]; exact KW1.size
          clear hp0
          have KW2 := KW1.trans k2 (fun _ h _ => h)
          have OW2 := OwnC.keepsN OW1 k2
          clear KW1 OW1 k2
          obtain ⟨P, hP⟩ : ∃ P, framesB W = P := ⟨_, rfl⟩
          rw [hP] at hle ⊢
          have HP := shut hP
          clear hP
          have hstr := run_str w2 c1' jk (l := n1) HN1.out (hB0.keeps KW2 (fun _ _ h => h))
          obtain ⟨cap2, w2', hrun, hat, K2, hs2⟩ := run_bytes w2 ((⟨P.toArray⟩ : ByteArray) ++ (⟨jk.toArray⟩ : ByteArray))
          have hbo : bytesOf ((⟨P.toArray⟩ : ByteArray) ++ (⟨jk.toArray⟩ : ByteArray)) = P ++ jk := by rw [ByteArray.mk_append_mk]; simp [bytesOf]
          rw [hbo] at hat
          have hszb : ((⟨P.toArray⟩ : ByteArray) ++ (⟨jk.toArray⟩ : ByteArray)).size = (P ++ jk).length := by rw [ByteArray.mk_append_mk]; rfl
          rw [hszb] at hrun
          have hml : (P ++ jk).length ≤ 2000 := by rw [List.length_append, HN1.out]; omega
          obtain ⟨M, hM⟩ : ∃ M, (P ++ jk).length = M := ⟨_, rfl⟩
          have HM := shut hM
          rw [hM] at hrun hml
          clear hM hbo hszb hs2
          have hsP : (⟨P.toArray⟩ : ByteArray).size = P.length := rfl
          have hsJ : (⟨jk.toArray⟩ : ByteArray).size = n1 := HN1.out
          have hcat : ¬ 9223372036854775807 < P.length + n1 := by omega
          have hk2 := hk1'.keepsN K2
          have hap := disk_append hk2 cap2 hat (by rw [HM.out]; omega) rfl
          rw [HM.out] at hap
          have hapd : DkS.append ⟨1048576, [], 0, false⟩ (P ++ jk) = (0, ⟨1048576, P ++ jk, 0, false⟩) := by
            unfold DkS.append
            rw [if_neg (by simp), if_neg (by rw [HM.out]; simp only [List.length_nil]; omega), List.nil_append]
          rw [hapd] at hap
          have KW3 := KW2.trans K2 (fun _ h _ => h)
          have OW3 := OwnC.keepsN OW2 K2
          clear hapd hat K2 KW2 OW2 hk1'
          generalize w2.heap.size = gm at *
          go_wp2_with fail
          refine hap.mono ?_
          rintro e w3 ⟨ev, rfl, hev, a3, k3, hk3, kk3, m3⟩
          obtain rfl := isErr_no hev
          have OW4 := rowD OW3 hk2 kk3
          have KW4 := KW3.trans kk3 (fun i h hlt => by
            rcases h with h | h
            · omega
            · simp [blockOf] at h)
          have hf3 : ∀ g, blockOf a3 = some g → wa.heap.size ≤ g := m3.new KW3.size (fun g hg => by simp [blockOf] at hg)
          have hsy := disk_sync hk3
          have hsd : DkS.sync ⟨1048576, P ++ jk, 0, false⟩ = (0, ⟨1048576, P ++ jk, (P ++ jk).length, false⟩) := by
            unfold DkS.sync
            rw [if_neg (by simp)]
          rw [hsd] at hsy
          clear hap hev hk2 kk3 m3 hsd hrun hstr KW3 OW3
          go_wp2_with fail
          refine hsy.mono ?_
          rintro e w4 ⟨ev, rfl, hev, a4, k4, hk4, kk4, m4⟩
          obtain rfl := isErr_no hev
          have OW5 := rowD OW4 hk3 kk4
          have KW5 := KW4.trans kk4 (fun i h hlt => by
            rcases h with h | h
            · omega
            · have := hf3 i h; omega)
          have hf4 : ∀ g, blockOf a4 = some g → wa.heap.size ≤ g := m4.new KW4.size hf3
          clear hsy hev hk3 kk4 m4 KW4 OW4 hf3
          have hop := open_any hk4 rfl (by show (P ++ jk).length ≤ 5000; rw [HM.out]; omega)
          have hsc : scanE (P ++ jk) = (W, P.length) := by
            rw [← HP.out, scanE_frames W (fun y hy => (GW.out y hy).1), HSJ.out]
            simp
          have hopd : openD ⟨1048576, P ++ jk, (P ++ jk).length, false⟩ = fullD 1048576 W := openD_of rfl (by show scanE (P ++ jk) = _; rw [hsc, HP.out]) (by show (P ++ jk).take _ = _; rw [HP.out, List.take_left]) rfl (fun _ => rfl)
          go_wp2_with fail
          refine hop.mono ?_
          rintro e w5 ⟨q, o, c, ao, k, rfl, hj5, hk5, kk5, m5, hq5, ho5⟩
          rw [hopd] at hk5
          simp only at hj5
          rw [hsc] at hj5
          change Jr w5 q p o c W at hj5
          have T5 : TT wa w5 q p (fullD 1048576 W) W ao k o c o1 c1 W none 0 [] :=
            ⟨hj5, hk5, rowD OW5 hk4 kk5, ownC_nil _ _ _, by have := KW5.size; omega, hp, m5.new KW5.size hf4, fun g h => by have := ho5 g h; have := KW5.size; omega, HF.out, fun g h => by simp [blockOf] at h,
              fun g h1 h2 => by have := ho5 g h1; have := OwnC.lt OW5 h2; omega, fun g _ h => by simp [blockOf] at h, fun g _ h => by simp [blockOf] at h, KW5.trans kk5 (fun i hx hlt => by
                rcases hx with hx | hx
                · omega
                · have := hf4 i hx; omega)⟩
          clear hop hopd hsc hj5 hk5 kk5 m5 hq5 ho5 OW5 KW5 hk4 hf4
          go_wp2_with fail
          refine (entries_any T5.jr (by omega)).mono ?_
          rintro e w6 ⟨o6, c6, rfl, O6, k6⟩
          have T6 := T5.keepsN k6
          have hr6 := rents_any w6 W (by omega) O6 T6.r1
          clear T5 k6
          go_wp2_with fail
          refine hr6.mono ?_
          rintro e w7 ⟨rfl, k7⟩
          have T7 := T6.keepsN k7
          clear hr6 T6 k7 O6
          have hdz := disk_size T7.dk
          have hbl : (fullD 1048576 W).bs.length = P.length := by show (framesB W).length = _; rw [HP.out]
          rw [hbl] at hdz
          go_wp2_with fail
          refine hdz.mono ?_
          rintro e w8 ⟨rfl, rfl⟩
          have hdy := disk_synced T7.dk
          have hsl : (fullD 1048576 W).sy = P.length := by show (framesB W).length = _; rw [HP.out]
          rw [hsl] at hdy
          clear hdz hbl hsl
          go_wp2_with fail
          refine hdy.mono ?_
          rintro e w9 ⟨rfl, rfl⟩
          clear hdy
          have hadd := add_any (hg0.keeps T7.keep) T7.jr T7.dk rfl hx (by show z3.length ≤ 5000; omega) (by omega) (by have := hg.pos; have := T7.p0; omega) (fun g hg' => by have := T7.fa g hg'; have := hg.pos; omega)
          have hadd2 : Calls Tryd.prog 17 #[.pointer (some ⟨q, 0, none⟩), .agg #[.int .i64 z1, .int .i64 z2, .string ⟨z3.toArray⟩]] w9 _ := hadd
          have BE7 := T7.keep.blk BE (fun h => h)
          obtain ⟨x1, x2⟩ := jblk_mid BE7 (n := 3) rfl
          clear hadd
          go_wp2_with fail
          refine hadd2.mono ?_
          rintro e w10 ⟨A, B⟩
          clear hadd2 x1 x2 BE7
          by_cases hPx : frameP ⟨z1, z2, z3⟩
          · have hgx : GoodE ⟨z1, z2, z3⟩ ∧ z3.length ≤ 100 := ⟨⟨hx, hPx, by show z3.length ≤ 5000; omega⟩, by omega⟩
            have hc : addC (fullD 1048576 W) ⟨z1, z2, z3⟩ = 0 := addC_good hgx.1 rfl (by have := good_len hgx.1 100 hgx.2 (by omega); show ((framesB W).length : Int) + _ ≤ 1048576; rw [HP.out]; omega)
            obtain ⟨rfl, o', c', a', k', hj', hk', kk', m', m2'⟩ := A hc
            rw [fullD_add] at hk'
            have T8 := T7.add hj' hk' kk' m' m2'
            clear A B T7 hj' hk' kk' m' m2' hc
            have BE8 := T8.keep.blk BE (fun h => h)
            obtain ⟨x1, x2⟩ := jblk_mid BE8 (n := 3) rfl
            have ka3 : Keeps Nothing w10 (w10.alloc (.cells #[.int .i64 z1, .int .i64 z2, .string ⟨z3.toArray⟩] 23)) := (Keeps.refl Nothing w10).alloc _
            have BD := blk_new w10 #[.int .i64 z1, .int .i64 z2, .string ⟨z3.toArray⟩] 23
            have T9 := T8.keepsN ka3
            go_wp2_with (at_builtin; refine wpList_appE _ rfl (.tmp 138) (.tmp 140) rfl o1 c1 W W.length rfl rfl T9.r1 w10.heap.size _ ⟨z1, z2, z3⟩ rfl rfl BD (by omega) ?_)
            intro on cn wn On kn mn
            have On' : OwnE wn on cn (W ++ [⟨z1, z2, z3⟩]) := by unfold OwnE; rw [List.map_append]; exact On
            have TN := T9.app1 On' kn (mn.mono (by rw [World.size_alloc]; exact Nat.le_refl _))
            have GN : Shut (∀ y ∈ W ++ [⟨z1, z2, z3⟩], GoodE y ∧ y.data.length ≤ 100) := shut (by
              intro y hy
              rcases List.mem_append.1 hy with hy | hy
              · exact GW.out y hy
              · rw [List.mem_singleton] at hy
                rw [hy]
                exact hgx)
            have hWl : (W ++ [(⟨z1, z2, z3⟩ : EntT)]).length = W.length + 1 := by rw [List.length_append]; rfl
            rw [← hWl]
            have hV9 : (W ++ [(⟨z1, z2, z3⟩ : EntT)]).length ≤ 9 := by rw [hWl]; omega
            clear T8 T9 ka3 BD x1 x2 kn mn On On' BE8 hWl GW hgx
            obtain ⟨V, hV⟩ : ∃ V, V = W ++ [(⟨z1, z2, z3⟩ : EntT)] := ⟨_, rfl⟩
            rw [← hV] at GN TN hV9 ⊢
            clear hV
            have hgoV : ∀ y ∈ V, GoodE y := fun y hy => (GN.out y hy).1
            have hleV := framesB_len (k := 100) (by omega) (L := V) GN.out
            have hopn := open_any TN.dk rfl (by show (framesB V).length ≤ 5000; omega)
            have hscV : (scanE (fullD 1048576 V).bs).1 = V := by show (scanE (framesB V)).1 = _; rw [scanE_all _ hgoV]
            clear hleV
            go_wp2_with fail
            refine hopn.mono ?_
            rintro e w5 ⟨q5, o5, c5, a5, k5, rfl, hj5, hk5, kk5, m5, hq5, ho5⟩
            rw [openD_all hgoV rfl] at hk5
            rw [hscV] at hj5
            have T5 := TN.disk hk5 kk5 m5
            clear hopn hk5 kk5 m5 hq5 ho5 TN hscV hgoV
            go_wp2_with fail
            refine (told26_any (hg0.keeps T5.keep)).mono ?_
            rintro e w6 ⟨rfl, k6⟩
            have T6 := T5.keepsN k6
            have J6 := hj5.keepsN k6
            clear T5 k6 hj5
            go_wp2_with fail
            refine (entries_any J6 (by omega)).mono ?_
            rintro e w7 ⟨o7, c7, rfl, O7, k7⟩
            have T7 := T6.keepsN k7
            have hr7 := rents_any w7 V (by omega) O7 T7.r1
            clear T6 k7 J6
            go_wp2_with fail
            refine hr7.mono ?_
            rintro e w8 ⟨rfl, k8⟩
            have T8 := T7.keepsN k8
            clear hr7 T7 k8 O7
            go_wp2_with fail
            refine (entries_any T8.jr (by omega)).mono ?_
            rintro e w9 ⟨o9, c9, rfl, O9, k9⟩
            have T9 := T8.keepsN k9
            have hr9 := rents_any w9 V (by omega) O9 T9.r1
            clear T8 k9
            go_wp2_with fail
            refine hr9.mono ?_
            rintro e w10 ⟨rfl, k10⟩
            have KF := (ka.trans T9.keep (fun _ h _ => h)).trans k10 (fun _ h _ => h)
            clear hr9 T9 k10 O9
            go_wp2_with fail
            go_ret
            exact ⟨rfl, KF⟩
          · have hc : addC (fullD 1048576 W) ⟨z1, z2, z3⟩ = 1 := by unfold addC; rw [if_neg hPx]
            rw [hc] at B
            obtain ⟨be, rfl, hbe, hch, c', a', k', hj', hk', kk', m'⟩ := B (by decide)
            have TN := T7.add hj' hk' kk' m' (Moved.refl _ _)
            have GN := GW
            clear A B T7 hj' hk' kk' m' hc hch hbe GW
            have hgoV : ∀ y ∈ W, GoodE y := fun y hy => (GN.out y hy).1
            have hleV := framesB_len (k := 100) (by omega) (L := W) GN.out
            have hopn := open_any TN.dk rfl (by show (framesB W).length ≤ 5000; omega)
            have hscV : (scanE (fullD 1048576 W).bs).1 = W := by show (scanE (framesB W)).1 = _; rw [scanE_all _ hgoV]
            clear hleV
            go_wp2_with fail
            refine hopn.mono ?_
            rintro e w5 ⟨q5, o5, c5, a5, k5, rfl, hj5, hk5, kk5, m5, hq5, ho5⟩
            rw [openD_all hgoV rfl] at hk5
            rw [hscV] at hj5
            have T5 := TN.disk hk5 kk5 m5
            clear hopn hk5 kk5 m5 hq5 ho5 TN hscV hgoV
            go_wp2_with fail
            refine (told26_any (hg0.keeps T5.keep)).mono ?_
            rintro e w6 ⟨rfl, k6⟩
            have T6 := T5.keepsN k6
            have J6 := hj5.keepsN k6
            clear T5 k6 hj5
            go_wp2_with fail
            refine (entries_any J6 (by omega)).mono ?_
            rintro e w7 ⟨o7, c7, rfl, O7, k7⟩
            have T7 := T6.keepsN k7
            have hr7 := rents_any w7 W (by omega) O7 T7.r1
            clear T6 k7 J6
            go_wp2_with fail
            refine hr7.mono ?_
            rintro e w8 ⟨rfl, k8⟩
            have T8 := T7.keepsN k8
            clear hr7 T7 k8 O7
            go_wp2_with fail
            refine (entries_any T8.jr (by omega)).mono ?_
            rintro e w9 ⟨o9, c9, rfl, O9, k9⟩
            have T9 := T8.keepsN k9
            have hr9 := rents_any w9 W (by omega) O9 T9.r1
            clear T8 k9
            go_wp2_with fail
            refine hr9.mono ?_
            rintro e w10 ⟨rfl, k10⟩
            have KF := (ka.trans T9.keep (fun _ h _ => h)).trans k10 (fun _ h _ => h)
            clear hr9 T9 k10 O9
            go_wp2_with fail
            go_ret
            exact ⟨rfl, KF⟩

end Go.Proofs.YteifmkfkekglpaaDoor
