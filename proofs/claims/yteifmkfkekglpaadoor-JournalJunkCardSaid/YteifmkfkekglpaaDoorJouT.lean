/- usufructlaw26.JournalCrash: the walk. -/
import Derived.Test.YteifmkfkekglpaaDoorJouS
import Derived.Test.YteifmkfkekglpaaDoorMixT
namespace Go.Proofs.YteifmkfkekglpaaDoor
open Go.RowKit

theorem jplace_ex (i : Int) {n : Nat} (hn : n ≠ 0) : ∃ (x : Int) (k : Nat), Int.tmod i n = x ∧ x < n ∧ -(n : Int) < x ∧ Int.tmod (x + n) n = (k : Int) ∧ k < n := by
  have p1 := Int.tmod_lt_of_pos i (show (0 : Int) < n by omega)
  have p2 : -(n : Int) < Int.tmod i n := by
    have := Int.tmod_lt_of_pos (-i) (show (0 : Int) < n by omega)
    rw [Int.neg_tmod] at this
    omega
  generalize Int.tmod i n = x at *
  refine ⟨x, ((x + n) % n).toNat, rfl, p1, p2, ?_, ?_⟩
  · rw [Int.tmod_eq_emod_of_nonneg (by omega), Int.toNat_of_nonneg (Int.emod_nonneg _ (by omega))]
  · have := Int.emod_lt_of_pos (x + n) (show (0 : Int) < n by omega)
    have := Int.emod_nonneg (x + n) (show (n : Int) ≠ 0 by omega)
    omega

/-- An operation whose guard holds. -/
theorem wpList_unguard {P : Program} {ops : Array Oper} {rest : List Oper} {o : Oper} {a : Act} {w : World} {Q : Exit → Act → World → Prop} (hw : Region.wanted o (yielded ops a.tmps) = true)
    (h : wpList P ops Q ({ o with guard := none } :: rest) a w) : wpList P ops Q (o :: rest) a w := by
  unfold wpList at h ⊢
  rw [if_pos hw]
  rw [if_pos (by simp [Region.wanted])] at h
  exact h
/-- Another journal over the same disk. -/
theorem TT.turn {w0 w : World} {q p : Nat} {d : DkS} {L : List EntT} {ao : Option Addr} {k : Nat} {o : Option Addr} {c : Nat} {o1 : Option Addr} {c1 : Nat} {W : List EntT} {o2 : Option Addr} {c2 : Nat} {F : List EntT}
    (h : TT w0 w q p d L ao k o c o1 c1 W o2 c2 F) {B q' : Nat} {o' : Option Addr} {c' : Nat} {L' : List EntT} (hj : Jr w q' p o' c' L') (hB : w0.heap.size ≤ B) (hq : B ≤ q') (hf : ∀ g, blockOf o' = some g → B ≤ g)
    (l1 : ∀ g, blockOf o1 = some g → g < B) (l2 : ∀ g, blockOf o2 = some g → g < B) : TT w0 w q' p d L' ao k o' c' o1 c1 W o2 c2 F :=
  ⟨hj, h.dk, h.r1, h.r2, by omega, h.p0, h.fa, fun g hg => by have := hf g hg; omega, h.f1, h.f2,
    fun g h1 h2 => by have := hf g h1; have := l1 g h2; omega, fun g h1 h2 => by have := hf g h1; have := l2 g h2; omega, h.u3, h.keep⟩
/-- What is opened where frames stand whole, and then what is none. -/
theorem openD_of {d : DkS} {L : List EntT} {room : Int} (hr : d.room = room) (hs : scanE d.bs = (L, (framesB L).length)) (ht : d.bs.take (framesB L).length = framesB L) (hn : d.dn = false) (hy : (framesB L).length = d.bs.length → d.sy = d.bs.length) : openD d = fullD room L := by
  obtain ⟨r, bs, sy, dn⟩ := d
  unfold openD fullD
  simp only at hr hs ht hn hy ⊢
  subst hr hn
  rw [hs]
  simp only
  rw [ht]
  congr 1
  by_cases h : (framesB L).length < bs.length
  · rw [if_pos h]
  · rw [if_neg h]
    have h2 : (framesB L).length = bs.length := by
      have := congrArg List.length ht
      rw [List.length_take] at this
      omega
    rw [h2]
    exact hy h2
theorem crash_full {room : Int} {P F : List UInt8} {k : Nat} (hk : k ≤ F.length) : (DkS.crash ⟨room, P ++ F, P.length, false⟩ (k : Int)) = ⟨room, P ++ F.take k, (P ++ F.take k).length, true⟩ := by
  have hm : P.length + (min (max (k : Int) 0) (((P ++ F).length : Int) - P.length)).toNat = P.length + k := by
    rw [List.length_append]
    omega
  unfold DkS.crash
  rw [if_neg (by simp)]
  simp only [hm]
  rw [List.take_append, List.take_of_length_le (by omega), Nat.add_sub_cancel_left, List.length_append, List.length_take, Nat.min_eq_left hk]

set_option maxRecDepth 100000 in
set_option maxHeartbeats 2000000 in
theorem entries_new {w : World} {q p : Nat} {o : Option Addr} {cap : Nat} {L : List EntT} (h : Jr w q p o cap L) (hl : L.length ≤ 1000000) :
    Calls Tryd.prog 18 #[.pointer (some ⟨q, 0, none⟩)] w fun e w' => ∃ o' c', e = .returned (.slice o' L.length c') ∧ OwnE w' o' c' L ∧ Keeps Nothing w w' ∧ ∀ g, blockOf o' = some g → w.heap.size ≤ g := by
  have h1 := blk_cell h.blk 1 rfl
  go_enter Tryd.func18, Tryd.ntmps18
  go_wp2_with (at_builtin; refine wpList_copyE _ rfl (.const (.slice none 0 0)) (.tmp 8) rfl rfl o cap L L.length rfl rfl h.own hl ?_)
  intro o' c' w' hO hK hF
  go_wp2_with fail
  go_ret
  exact ⟨o', c', rfl, hO, hK, hF⟩

attribute [local go_sem ↓] exec_store_ent exec_mid_ent

set_option maxRecDepth 100000 in
set_option maxHeartbeats 4000000 in
theorem crash_any {w : World} (hg : ErrVar w) {ao0 : Option Addr} {n c0 : Nat} {l : List EntT} (hn : l.length = n) (hX : EntsAt w ao0 l) {x : EntT} (hx : x.Fit) (keep : Int) :
    Calls Tryd.prog 6 #[.slice ao0 n c0, .agg x.cells.toArray, .int .i64 keep] w fun e w' => e = .returned (.bool true) ∧ Keeps Nothing w w' := by
  obtain ⟨z1, z2, z3⟩ := x
  have HN := shut hn
  clear hn
  show Calls _ _ #[.slice ao0 n c0, .agg #[.int .i64 z1, .int .i64 z2, .string ⟨z3.toArray⟩], .int .i64 keep] _ _
  have ka : Keeps Nothing w (w.alloc (.cells #[.int .i64 z1, .int .i64 z2, .string ⟨z3.toArray⟩] 23)) := (Keeps.refl Nothing w).alloc _
  have BE := blk_new w #[.int .i64 z1, .int .i64 z2, .string ⟨z3.toArray⟩] 23
  have hX0 := hX.keepsN ka
  have hg0 := hg.keeps ka
  go_enter Tryd.func6, Tryd.ntmps6
  go_wp2_with fail
  obtain ⟨wa, hwa⟩ : ∃ wa, wa = w.alloc (.cells #[.int .i64 z1, .int .i64 z2, .string ⟨z3.toArray⟩] 23) := ⟨_, rfl⟩
  rw [← hwa] at ka BE hX0 hg0 ⊢
  have hgb : w.heap.size < wa.heap.size := by rw [hwa, World.size_alloc]; omega
  clear hwa
  obtain ⟨gb, hgb2⟩ : ∃ gb, gb = w.heap.size := ⟨_, rfl⟩
  rw [← hgb2] at BE hgb ⊢
  clear hgb2
  refine (disk_new 1048576 (by omega) (by omega) wa).mono ?_
  rintro e w1 ⟨rfl, hw1⟩
  have hk1' := dk_new wa 1048576 (by omega) (by omega)
  rw [← hw1] at hk1'
  have K1 : Keeps Nothing wa w1 := by rw [hw1]; exact (Keeps.refl Nothing wa).alloc _
  clear hw1
  obtain ⟨p, hp0⟩ : ∃ p, p = wa.heap.size := ⟨_, rfl⟩
  rw [← hp0] at hk1' ⊢
  have hp : wa.heap.size ≤ p := Nat.le_of_eq hp0.symm
  clear hp0
  have BE1 := K1.blk BE (fun h => h)
  have cd := blk_cell BE1 2 rfl
  have hsz : (⟨z3.toArray⟩ : ByteArray).size = z3.length := rfl
  by_cases hbig : 100 < z3.length
  · have hb : (100 : Int) < z3.length := by omega
    go_wp2_with fail
    refine (told26_any (hg0.keeps K1)).mono ?_
    rintro e w2 ⟨rfl, k2⟩
    go_wp2_with fail
    go_ret
    exact ⟨rfl, (ka.trans K1 (fun _ h _ => h)).trans k2 (fun _ h _ => h)⟩
  have hb : ¬ (100 : Int) < z3.length := by omega
  go_wp2_with fail
  refine (open_any hk1' rfl (by show 0 ≤ 5000; omega)).mono ?_
  rintro e w2 ⟨q, o, c, ao, k, rfl, hj2, hk2, kk2, m2, hq, ho⟩
  have hs0 : scanE [] = ([], 0) := scanE_none (stepE_short (by rw [List.length_nil]; omega))
  rw [openD_all (L := []) (by simp) rfl] at hk2
  simp only at hj2
  rw [hs0] at hj2
  have hT : TT wa w2 q p (fullD 1048576 []) [] ao k o c none 0 [] none 0 [] :=
    ⟨hj2, hk2, ownC_nil _ _ _, ownC_nil _ _ _, by have := K1.size; omega, hp, m2.new K1.size (fun g h => by simp [blockOf] at h), fun g h => by have := ho g h; have := K1.size; omega, fun g h => by simp [blockOf] at h, fun g h => by simp [blockOf] at h,
      fun g _ h => by simp [blockOf] at h, fun g _ h => by simp [blockOf] at h, fun g _ h => by simp [blockOf] at h, K1.trans kk2 (fun i hx hlt => by
        rcases hx with hx | hx
        · omega
        · simp [blockOf] at hx)⟩
  clear hj2 hk2 kk2 m2 hq ho hs0 hk1' K1 BE1 cd hb
  go_wp2_with fail
  go_loopw [11, 12] (fun s11 s12 wx => ∃ (i : Nat) (W : List EntT) (ao : Option Addr) (k : Nat) (o : Option Addr) (c : Nat) (o1 : Option Addr) (c1 : Nat), s11 = .slice o1 W.length c1 ∧ s12 = .int .i64 i ∧ i ≤ n ∧ i ≤ 12 ∧ W.length ≤ i ∧
    Shut (∀ x ∈ W, GoodE x ∧ x.data.length ≤ 100) ∧ TT wa wx q p (fullD 1048576 W) W ao k o c o1 c1 W none 0 []) (fun _ s12 _ => 12 - (intOf s12).toNat)
  case atStart => exact ⟨0, [], ao, k, o, c, none, 0, rfl, rfl, Nat.zero_le _, by omega, Nat.le_refl _, shut (by simp), hT⟩
  case round =>
    clear hT
    obtain ⟨i, W, ao, k, o, c, o1, c1, rfl, rfl, hin, hi8, hWi, GW, T⟩ := hrel
    by_cases hlt : i < n ∧ i < 12
    · obtain ⟨x, hx'⟩ : ∃ x, l[i]? = some x := ⟨_, List.getElem?_eq_getElem (by rw [HN.out]; exact hlt.1)⟩
      obtain ⟨b, off, rfl⟩ := hX0.head (by rw [HN.out]; omega)
      obtain ⟨hfit, c2d, m1d, m2d⟩ := ents_one (hX0.keepsN T.keep) hx'
      have i1 : (i : Int) < n := by omega
      have i2 : (i : Int) < 12 := by omega
      have i3 : (0 : Int) ≤ i := by omega
      have HX := shut hx'
      clear hx'
      by_cases hbig : 100 < x.data.length
      · have hb : (100 : Int) < x.data.length := by omega
        have hsz : (⟨x.data.toArray⟩ : ByteArray).size = x.data.length := rfl
        go_wp2_with fail
        refine (told26_any (hg0.keeps T.keep)).mono ?_
        rintro e w3 ⟨rfl, k3⟩
        go_wp2_with fail
        go_ret
        exact ⟨rfl, (ka.trans T.keep (fun _ h _ => h)).trans k3 (fun _ h _ => h)⟩
      · have hb : ¬ (100 : Int) < x.data.length := by omega
        have hsz : (⟨x.data.toArray⟩ : ByteArray).size = x.data.length := rfl
        have hle := framesB_len (k := 100) (by omega) (L := W) (GW.out)
        have hadd := add_any (hg0.keeps T.keep) T.jr T.dk rfl hfit (by omega) (by omega) (by have := hg.pos; have := T.p0; omega) (fun g hg' => by have := T.fa g hg'; have := hg.pos; omega)
        go_wp2_with fail
        refine hadd.mono ?_
        rintro e w3 ⟨A, B⟩
        clear hadd
        by_cases hP : frameP x
        · have hgx : GoodE x ∧ x.data.length ≤ 100 := ⟨⟨hfit, hP, by omega⟩, by omega⟩
          have hc : addC (fullD 1048576 W) x = 0 := addC_good hgx.1 rfl (by have := good_len hgx.1 100 hgx.2 (by omega); show ((framesB W).length : Int) + _ ≤ 1048576; omega)
          obtain ⟨rfl, o', c', a', k', hj', hk', kk', m', m2'⟩ := A hc
          rw [fullD_add] at hk'
          have T3 := T.add hj' hk' kk' m' m2'
          clear A B T hj' hk' kk' m' m2' hc
          obtain ⟨-, -, m1e, m2e0⟩ := ents_one (hX0.keepsN T3.keep) HX.out
          have m2e : midOf w3 b (off + i * 3) 3 = #[.int .i64 x.crate, .int .i64 x.epoch, .string ⟨x.data.toArray⟩] := m2e0
          clear c2d m1d m2d m2e0
          have ka3 : Keeps Nothing w3 (w3.alloc (.cells #[.int .i64 x.crate, .int .i64 x.epoch, .string ⟨x.data.toArray⟩] 23)) := (Keeps.refl Nothing w3).alloc _
          have BD := blk_new w3 #[.int .i64 x.crate, .int .i64 x.epoch, .string ⟨x.data.toArray⟩] 23
          have T4 := T3.keepsN ka3
          go_wp2_with (at_builtin; refine wpList_appE _ rfl (.tmp 71) (.tmp 76) rfl o1 c1 W W.length rfl rfl T4.r1 w3.heap.size _ x rfl rfl BD (by omega) ?_)
          intro on cn wn On kn mn
          have On' : OwnE wn on cn (W ++ [x]) := by unfold OwnE; rw [List.map_append]; exact On
          have T11 := T4.app1 On' kn (mn.mono (by rw [World.size_alloc]; exact Nat.le_refl _))
          have GN : Shut (∀ y ∈ W ++ [x], GoodE y ∧ y.data.length ≤ 100) := shut (by
            intro y hy
            rcases List.mem_append.1 hy with hy | hy
            · exact GW.out y hy
            · rw [List.mem_singleton] at hy
              subst hy
              exact hgx)
          clear T4 T3 ka3 BD m1e m2e kn mn On On'
          go_wp2_with fail
          go_roundw
          case rel => exact ⟨i + 1, W ++ [x], _, _, _, _, on, cn, by simp, by go_num, by omega, by omega, by simp; omega, GN, T11⟩
          case measure => simp [intOf]; omega
        · have hc : addC (fullD 1048576 W) x = 1 := by unfold addC; rw [if_neg hP]
          rw [hc] at B
          obtain ⟨be, rfl, hbe, hch, c', a', k', hj', hk', kk', m'⟩ := B (by decide)
          have T2 := T.add hj' hk' kk' m' (Moved.refl _ _)
          clear A B T hj' hk' kk' m' hc
          go_wp2_with fail
          go_roundw
          case rel => exact ⟨i + 1, W, _, _, _, _, o1, c1, rfl, by go_num, by omega, by omega, by omega, GW, T2⟩
          case measure => simp [intOf]; omega
    · have hor : ¬ (i : Int) < n ∨ ¬ (i : Int) < 12 := by omega
      have BW := T.keep.blk BE (fun h => h)
      have KW := ka.trans T.keep (fun _ h _ => h)
      obtain ⟨x1, x2⟩ := jblk_mid BW (n := 3) rfl
      have hfr := frame_any wr ⟨z1, z2, z3⟩ hx (by show z3.length ≤ 5000; omega)
      have hfr2 : Calls Tryd.prog 8 #[.agg #[.int .i64 z1, .int .i64 z2, .string ⟨z3.toArray⟩]] wr _ := hfr
      have hle := framesB_len (k := 100) (by omega) (L := W) (GW.out)
      clear hfr
      go_wp2_with fail
      all_goals
        clear hor hlt x1 x2
        refine hfr2.mono ?_
        rintro e w1 hp1
        clear hfr2
        by_cases hP : frameP ⟨z1, z2, z3⟩
        case neg =>
          obtain ⟨ev, rfl, hev, -, k1⟩ := hp1.2 hP
          obtain ⟨be, rfl⟩ := isErr_yes hev (by decide)
          have T1 := T.keepsN k1
          clear hp1 T
          go_wp2_with fail
          refine (told26_any (hg0.keeps T1.keep)).mono ?_
          rintro e w2 ⟨rfl, k2⟩
          go_wp2_with fail
          go_ret
          exact ⟨rfl, (ka.trans T1.keep (fun _ h _ => h)).trans k2 (fun _ h _ => h)⟩
        case pos =>
          obtain ⟨xe, hxe⟩ : ∃ xe : EntT, xe = ⟨z1, z2, z3⟩ := ⟨_, rfl⟩
          have HXE := shut hxe
          have hgx : GoodE xe ∧ xe.data.length ≤ 100 := by rw [hxe]; exact ⟨⟨hx, hP, by show z3.length ≤ 5000; omega⟩, by show z3.length ≤ 100; omega⟩
          obtain ⟨a1, c3, rfl, o3, k1, -⟩ := hp1.1 hP
          rw [← hxe] at o3 ⊢
          clear hp1 hP hxe
          have HGX := shut hgx
          have hfl := good_len hgx.1 100 hgx.2 (by omega)
          have hfl0 : 12 ≤ (frameE xe).length := by rw [frameE_len]; omega
          clear hgx
          have T1 := T.keepsN k1
          clear T k1 BW KW
          obtain ⟨FB, hFB⟩ : ∃ FB, frameE xe = FB := ⟨_, rfl⟩
          rw [hFB] at o3 hfl hfl0 ⊢
          have HFB := shut hFB
          clear hFB
          have hap := disk_append T1.dk c3 (own8_at o3) (by omega) rfl
          have hapd : (fullD 1048576 W).append FB = (0, ⟨1048576, framesB W ++ FB, (framesB W).length, false⟩) := by
            unfold DkS.append fullD
            rw [if_neg (by simp), if_neg (by show ¬ (1048576 : Int) - (framesB W).length < FB.length; omega)]
          rw [hapd] at hap
          clear hapd o3
          obtain ⟨M, hM⟩ : ∃ M, FB.length = M := ⟨_, rfl⟩
          have HM := shut hM
          rw [hM] at hap hfl hfl0 ⊢
          clear hM
          go_wp2_with fail
          refine hap.mono ?_
          rintro e w2 ⟨ev, rfl, hev, a2, k2, hk2, kk2, m2⟩
          obtain rfl := isErr_no hev
          have T2 := T1.disk hk2 kk2 m2
          clear hap hev T1 hk2 kk2 m2
          obtain ⟨y, K, hy1, hy2, hy3, hK, hKM⟩ := jplace_ex keep (show M + 1 ≠ 0 by omega)
          have hy1' : Int.tmod keep ((M : Int) + 1) = y := hy1
          have hK' : Int.tmod (y + M + 1) ((M : Int) + 1) = (K : Int) := by rw [Int.add_assoc]; exact hK
          clear hy1 hK
          have hcr := disk_crash T2.dk (K : Int)
          rw [crash_full (by rw [HM.out]; omega)] at hcr
          go_wp2_with fail
          refine hcr.mono ?_
          rintro e w3 ⟨rfl, a3, k3, hk3, kk3, m3⟩
          have T3 := T2.disk hk3 kk3 m3
          clear hcr T2 hk3 kk3 m3 hy1' hK' hy2 hy3
          have hst := disk_start T3.dk
          have hsd : DkS.start ⟨1048576, framesB W ++ FB.take K, (framesB W ++ FB.take K).length, true⟩ = (0, ⟨1048576, framesB W ++ FB.take K, (framesB W ++ FB.take K).length, false⟩) := by
            unfold DkS.start
            rw [if_pos rfl]
          rw [hsd] at hst
          clear hsd
          go_wp2_with fail
          refine hst.mono ?_
          rintro e w4 ⟨ev, rfl, hev, a4, k4, hk4, kk4, m4⟩
          obtain rfl := isErr_no hev
          have T4 := T3.disk hk4 kk4 m4
          clear hst hev T3 hk4 kk4 m4
          have hjoin : (K = M ∧ (framesB W ++ FB.take K) = framesB (W ++ [xe])) ∨ (K ≠ M ∧ scanE (framesB W ++ FB.take K) = (W, (framesB W).length) ∧ (framesB W ++ FB.take K).length ≤ 5000) := by
            by_cases h : K = M
            · refine .inl ⟨h, ?_⟩
              rw [framesB_snoc, HFB.out, List.take_of_length_le (by rw [HM.out]; omega)]
            · refine .inr ⟨h, ?_, ?_⟩
              · rw [scanE_frames W (fun y hy => (GW.out y hy).1), ← HFB.out, scanE_cut xe HGX.out.1.1 HGX.out.1.2.2 K (by rw [HFB.out, HM.out]; omega)]
                simp
              · rw [List.length_append, List.length_take, HM.out]; omega
          rcases hjoin with ⟨rfl, hbs⟩ | ⟨hne, hsc, hbl⟩
          case inl =>
            rw [hbs] at T4
            clear hbs
            have BE4 := T4.keep.blk BE (fun h => h)
            obtain ⟨x1, x2⟩ := jblk_mid BE4 (n := 3) rfl
            have ka3 : Keeps Nothing w4 (w4.alloc (.cells #[.int .i64 z1, .int .i64 z2, .string ⟨z3.toArray⟩] 23)) := (Keeps.refl Nothing w4).alloc _
            have BD := blk_new w4 #[.int .i64 z1, .int .i64 z2, .string ⟨z3.toArray⟩] 23
            have T5 := T4.keepsN ka3
            go_wp2_with (at_builtin; refine wpList_appE _ rfl (.tmp 113) (.tmp 115) rfl o1 c1 W W.length rfl rfl T5.r1 w4.heap.size _ xe (by rw [HXE.out]; rfl) rfl BD (by omega) ?_)
            intro on cn wn On kn mn
            have On' : OwnE wn on cn (W ++ [xe]) := by unfold OwnE; rw [List.map_append]; exact On
            have T11 := T5.app1 On' kn (mn.mono (by rw [World.size_alloc]; exact Nat.le_refl _))
            have GN : Shut (∀ y ∈ W ++ [xe], GoodE y ∧ y.data.length ≤ 100) := shut (by
              intro y hy
              rcases List.mem_append.1 hy with hy | hy
              · exact GW.out y hy
              · rw [List.mem_singleton] at hy
                rw [hy]
                exact HGX.out)
            clear T4 T5 ka3 BD x1 x2 kn mn On On' BE4
            have hgo : ∀ y ∈ W ++ [xe], GoodE y := fun y hy => (GN.out y hy).1
            have hle2 := framesB_len (k := 100) (by omega) (L := W ++ [xe]) (GN.out)
            have hWl : (W ++ [xe]).length = W.length + 1 := by rw [List.length_append]; rfl
            have hlb : (framesB (W ++ [xe])).length ≤ 5000 := by rw [hWl] at hle2; omega
            have hsc := scanE_all _ hgo
            rw [← hWl]
            have hV13 : (W ++ [xe]).length ≤ 13 := by rw [hWl]; omega
            have hop0 := openD_all hgo (d := ⟨1048576, framesB (W ++ [xe]), (framesB (W ++ [xe])).length, false⟩) rfl
            have hop : openD ⟨1048576, framesB (W ++ [xe]), (framesB (W ++ [xe])).length, false⟩ = fullD 1048576 (W ++ [xe]) := hop0
            obtain ⟨V, hV⟩ : ∃ V, V = W ++ [xe] := ⟨_, rfl⟩
            rw [← hV] at GN T11 hsc hlb hop hV13 ⊢
            clear hgo hle2 hWl hop0 hV
            clear GW
            generalize framesB V = BS at hsc hlb hop T11
            have hopn := open_any T11.dk rfl hlb
            go_wp2_with fail
            refine hopn.mono ?_
            rintro e w5 ⟨q5, o5, c5, a5, k5, rfl, hj5, hk5, kk5, m5, hq5, ho5⟩
            rw [hop] at hk5
            simp only at hj5
            rw [hsc] at hj5
            change Jr w5 q5 p o5 c5 V at hj5
            have T12 := (T11.disk hk5 kk5 m5).turn hj5 T11.keep.size hq5 ho5 (fun g hg => OwnC.lt T11.r1 hg) (fun g hg => OwnC.lt T11.r2 hg)
            clear hopn hop hk5 kk5 m5 hq5 ho5 hj5 T11 hsc hlb
            go_wp2_with fail
            refine (entries_any T12.jr (by omega)).mono ?_
            rintro e w6 ⟨o6, c6, rfl, O6, k6⟩
            have T13 := T12.keepsN k6
            have hr6 := rents_any w6 V (by omega) O6 T13.r1
            clear T12 k6
            go_wp2_with fail
            refine hr6.mono ?_
            rintro e w7 ⟨rfl, k7⟩
            have T14 := T13.keepsN k7
            clear hr6 T13 k7 O6
            have hle5 := framesB_len (k := 100) (by omega) (L := V) GN.out
            have hadd := add_any (hg0.keeps T14.keep) T14.jr T14.dk rfl HGX.out.1.1 (by have := HGX.out.2; omega) (by omega) (by have := hg.pos; have := T14.p0; omega) (fun g hg' => by have := T14.fa g hg'; have := hg.pos; omega)
            have hc : addC (fullD 1048576 V) xe = 0 := addC_good HGX.out.1 rfl (by have := good_len HGX.out.1 100 HGX.out.2 (by omega); show ((framesB V).length : Int) + _ ≤ 1048576; omega)
            rw [HXE.out] at hadd
            have hadd2 : Calls Tryd.prog 17 #[.pointer (some ⟨q5, 0, none⟩), .agg #[.int .i64 z1, .int .i64 z2, .string ⟨z3.toArray⟩]] w7 _ := hadd
            have BE7 := T14.keep.blk BE (fun h => h)
            obtain ⟨x1, x2⟩ := jblk_mid BE7 (n := 3) rfl
            clear hadd
            go_wp2_with fail
            refine hadd2.mono ?_
            rintro e w8 ⟨A, -⟩
            rw [← HXE.out] at A
            obtain ⟨rfl, o8, c8, a8, k8, hj8, hk8, kk8, m8, m8'⟩ := A hc
            rw [fullD_add] at hk8
            have T15 := T14.add hj8 hk8 kk8 m8 m8'
            clear A hadd2 T14 hj8 hk8 kk8 m8 m8' hc x1 x2 BE7 hle5
            have GV : Shut (∀ y ∈ V ++ [xe], GoodE y ∧ y.data.length ≤ 100) := shut (by
              intro y hy
              rcases List.mem_append.1 hy with hy | hy
              · exact GN.out y hy
              · rw [List.mem_singleton] at hy
                rw [hy]
                exact HGX.out)
            have hgo5 : ∀ y ∈ V ++ [xe], GoodE y := fun y hy => (GV.out y hy).1
            have hVl : (V ++ [xe]).length = V.length + 1 := by rw [List.length_append]; rfl
            have hle6 := framesB_len (k := 100) (by omega) (L := V ++ [xe]) GV.out
            rw [hVl] at hle6
            have hop5 := open_any T15.dk rfl (by show (framesB (V ++ [xe])).length ≤ 5000; omega)
            have hsc5 : (scanE (fullD 1048576 (V ++ [xe])).bs).1 = V ++ [xe] := by show (scanE (framesB (V ++ [xe]))).1 = _; rw [scanE_all _ hgo5]
            clear hle6
            go_wp2_with fail
            refine hop5.mono ?_
            rintro e w9 ⟨q9, o9, c9, a9, k9, rfl, hj9, hk9, kk9, m9, hq9, ho9⟩
            rw [openD_all hgo5 rfl] at hk9
            rw [hsc5] at hj9
            have T16 := (T15.disk hk9 kk9 m9).turn hj9 T15.keep.size hq9 ho9 (fun g hg => OwnC.lt T15.r1 hg) (fun g hg => OwnC.lt T15.r2 hg)
            clear hop5 hk9 kk9 m9 hq9 ho9 hj9 hsc5 hgo5 T15
            go_wp2_with fail
            have BE9 := T16.keep.blk BE (fun h => h)
            refine wp_region_mixT (fun W => Blk W gb #[.int .i64 z1, .int .i64 z2, .string ⟨z3.toArray⟩] 23) 18 (.one 0 (.take 1 (.take 2 (.take 3 (.take 4 (.take 5 (.take 6 (.take 7 (.take 8 (.take 9 (.take 10 (.take 12 (.take 13 (.two 11 14 (.one 14 (.one 15 (.one 16 (.take 17 (.one 18 .done))))) (.one 11 (.one 15 (.one 16 (.take 17 (.one 18 .done))))))))))))))))))) (by kernel_rfl) (by kernel_rfl) BE9 ?_
            simp only [itemsT, PlanT.map, List.getD_cons_zero, List.getD_cons_succ, Nat.reduceBEq]
            have T17 := T16.keepsN (Keeps.refl Nothing w9).drew
            clear T16 BE9
            generalize w9.drew = w10 at *
            refine wpMixT_one (fun K hK => ?_)
            go_wp2_with fail
            refine (told26_any (hg0.keeps T17.keep)).mono ?_
            rintro e w11 ⟨rfl, k11⟩
            have T18 := T17.keepsN k11
            clear T17 k11
            go_wp2_with fail
            refine hK _ _ (.inr (T18.keep.blk BE (fun h => h))) ?_
            clear hK K
            repeat (refine wpMixT_free (fun K hK => ?_); go_simp; refine hK _ ?_; clear hK K)
            refine wpMixT_yield (v := .agg #[.int .i64 z1, .int .i64 z2, .string ⟨z3.toArray⟩]) (fun W hW => ?_) (fun K hK => ?_)
            · obtain ⟨zz, z4⟩ := jblk_mid hW (n := 3) rfl
              go_simp
            go_simp
            refine hK _ ?_
            clear hK K
            refine wpMixT_two (fun K hK => ?_) (fun K hK => ?_)
            · go_wp2_with fail
              refine (entries_new T18.jr (by rw [hVl]; omega)).mono ?_
              rintro e w12 ⟨o12, c12, rfl, O12, k12, f12⟩
              have T19 := T18.keepsN k12
              clear k12
              rw [hVl]
              go_wp2_with fail
              refine hK _ _ (.inr (T19.keep.blk BE (fun h => h))) ?_
              clear hK K
              refine wpMixT_one (fun K hK => ?_)
              go_wp2_with fail
              have ka4 : Keeps Nothing w12 (w12.alloc (.cells #[.int .i64 z1, .int .i64 z2, .string ⟨z3.toArray⟩] 23)) := (Keeps.refl Nothing w12).alloc _
              have BD := blk_new w12 #[.int .i64 z1, .int .i64 z2, .string ⟨z3.toArray⟩] 23
              have T20 := T19.keepsN ka4
              have O20 := OwnC.keepsN O12 ka4
              refine hK _ _ (.inr (T20.keep.blk BE (fun h => h))) ?_
              clear hK K ka4 T19
              generalize w12.alloc (.cells #[.int .i64 z1, .int .i64 z2, .string ⟨z3.toArray⟩] 23) = w13 at *
              generalize w12.heap.size = gd at *
              have hu : ∀ g, blockOf o12 = some g → blockOf on ≠ some g := fun g hg hx => by have := f12 g hg; have := OwnC.lt T18.r1 hx; omega
              refine wpMixT_one (fun K hK => ?_)
              refine wpList_unguard (by go_simp) ?_
              refine wpList_appE _ rfl (.tmp 158) (.tmp 160) rfl on cn V V.length rfl rfl T20.r1 gd _ xe (by rw [HXE.out]; rfl) rfl BD (by omega) ?_
              intro o14 c14 w14 O14 k14 m14
              have O14' : OwnE w14 o14 c14 (V ++ [xe]) := O14
              have O12e := OwnC.keeps O20 k14 hu
              have K14 : Keeps Nothing wa w14 := T20.keep.trans k14 (fun i hi hlt => by have := T18.f1 i hi; omega)
              have hre := rents_any w14 (V ++ [xe]) (by rw [hVl]; omega) O12e O14'
              rw [hVl] at hre
              clear O14 O14' O12e k14 m14 T20 O20 O12 BD hu
              go_wp2_with fail
              refine hK _ _ (.inr (K14.blk BE (fun h => h))) ?_
              clear hK K
              refine wpMixT_one (fun K hK => ?_)
              go_wp2_with fail
              refine hre.mono ?_
              rintro e w15 ⟨rfl, k15⟩
              have K15 := K14.trans k15 (fun _ h _ => h)
              clear hre K14 k15
              go_wp2_with fail
              refine hK _ _ (.inr (K15.blk BE (fun h => h))) ?_
              clear hK K
              repeat (refine wpMixT_free (fun K hK => ?_); go_simp; refine hK _ ?_; clear hK K)
              refine wpMixT_one (fun K hK => ?_)
              go_wp2_with fail
              refine hK _ _ (.inl trivial) ?_
              clear hK K
              refine wpMixT_done ?_
              go_wp2_with fail
              go_ret
              exact ⟨rfl, ka.trans K15 (fun _ h _ => h)⟩
            · go_wp2_with fail
              have ka4 : Keeps Nothing w11 (w11.alloc (.cells #[.int .i64 z1, .int .i64 z2, .string ⟨z3.toArray⟩] 23)) := (Keeps.refl Nothing w11).alloc _
              have BD0 := blk_new w11 #[.int .i64 z1, .int .i64 z2, .string ⟨z3.toArray⟩] 23
              have T19 := T18.keepsN ka4
              refine hK _ _ (.inr (T19.keep.blk BE (fun h => h))) ?_
              clear hK K
              have hsz4 : w11.heap.size ≤ (w11.alloc (.cells #[.int .i64 z1, .int .i64 z2, .string ⟨z3.toArray⟩] 23)).heap.size := ka4.size
              clear ka4
              generalize w11.alloc (.cells #[.int .i64 z1, .int .i64 z2, .string ⟨z3.toArray⟩] 23) = w13 at *
              generalize hgd : w11.heap.size = gd at *
              refine wpMixT_one (fun K hK => ?_)
              go_wp2_with fail
              refine (entries_new T19.jr (by rw [hVl]; omega)).mono ?_
              rintro e w12 ⟨o12, c12, rfl, O12, k12, f12⟩
              have T20 := T19.keepsN k12
              have BD := k12.blk BD0 (fun h => h)
              have O20 := O12
              clear k12 T19 BD0
              rw [hVl]
              go_wp2_with fail
              refine hK _ _ (.inr (T20.keep.blk BE (fun h => h))) ?_
              clear hK K
              have hu : ∀ g, blockOf o12 = some g → blockOf on ≠ some g := fun g hg hx => by have := f12 g hg; have := OwnC.lt T18.r1 hx; omega
              refine wpMixT_one (fun K hK => ?_)
              refine wpList_unguard (by go_simp) ?_
              refine wpList_appE _ rfl (.tmp 158) (.tmp 160) rfl on cn V V.length rfl rfl T20.r1 gd _ xe (by rw [HXE.out]; rfl) rfl BD (by omega) ?_
              intro o14 c14 w14 O14 k14 m14
              have O14' : OwnE w14 o14 c14 (V ++ [xe]) := O14
              have O12e := OwnC.keeps O20 k14 hu
              have K14 : Keeps Nothing wa w14 := T20.keep.trans k14 (fun i hi hlt => by have := T18.f1 i hi; omega)
              have hre := rents_any w14 (V ++ [xe]) (by rw [hVl]; omega) O12e O14'
              rw [hVl] at hre
              clear O14 O14' O12e k14 m14 T20 O20 O12 BD hu
              go_wp2_with fail
              refine hK _ _ (.inr (K14.blk BE (fun h => h))) ?_
              clear hK K
              refine wpMixT_one (fun K hK => ?_)
              go_wp2_with fail
              refine hre.mono ?_
              rintro e w15 ⟨rfl, k15⟩
              have K15 := K14.trans k15 (fun _ h _ => h)
              clear hre K14 k15
              go_wp2_with fail
              refine hK _ _ (.inr (K15.blk BE (fun h => h))) ?_
              clear hK K
              repeat (refine wpMixT_free (fun K hK => ?_); go_simp; refine hK _ ?_; clear hK K)
              refine wpMixT_one (fun K hK => ?_)
              go_wp2_with fail
              refine hK _ _ (.inl trivial) ?_
              clear hK K
              refine wpMixT_done ?_
              go_wp2_with fail
              go_ret
              exact ⟨rfl, ka.trans K15 (fun _ h _ => h)⟩
          case inr =>
            have hne' : ¬ (K : Int) = M := by omega
            have hop : openD ⟨1048576, framesB W ++ FB.take K, (framesB W ++ FB.take K).length, false⟩ = fullD 1048576 W := openD_of rfl hsc (by rw [List.take_left]) rfl (fun _ => rfl)
            have hlb := hbl
            have hV13 : W.length ≤ 13 := by omega
            have GN := GW
            generalize framesB W ++ FB.take K = BS at hsc hop T4 hlb
            clear hbl GW
            have hopn := open_any T4.dk rfl hlb
            go_wp2_with fail
            refine hopn.mono ?_
            rintro e w5 ⟨q5, o5, c5, a5, k5, rfl, hj5, hk5, kk5, m5, hq5, ho5⟩
            rw [hop] at hk5
            simp only at hj5
            rw [hsc] at hj5
            change Jr w5 q5 p o5 c5 W at hj5
            have T12 := (T4.disk hk5 kk5 m5).turn hj5 T4.keep.size hq5 ho5 (fun g hg => OwnC.lt T4.r1 hg) (fun g hg => OwnC.lt T4.r2 hg)
            clear hopn hop hk5 kk5 m5 hq5 ho5 hj5 T4 hsc hlb
            go_wp2_with fail
            refine (entries_any T12.jr (by omega)).mono ?_
            rintro e w6 ⟨o6, c6, rfl, O6, k6⟩
            have T13 := T12.keepsN k6
            have hr6 := rents_any w6 W (by omega) O6 T13.r1
            clear T12 k6
            go_wp2_with fail
            refine hr6.mono ?_
            rintro e w7 ⟨rfl, k7⟩
            have T14 := T13.keepsN k7
            clear hr6 T13 k7 O6
            have hle5 := framesB_len (k := 100) (by omega) (L := W) GN.out
            have hadd := add_any (hg0.keeps T14.keep) T14.jr T14.dk rfl HGX.out.1.1 (by have := HGX.out.2; omega) (by omega) (by have := hg.pos; have := T14.p0; omega) (fun g hg' => by have := T14.fa g hg'; have := hg.pos; omega)
            have hc : addC (fullD 1048576 W) xe = 0 := addC_good HGX.out.1 rfl (by have := good_len HGX.out.1 100 HGX.out.2 (by omega); show ((framesB W).length : Int) + _ ≤ 1048576; omega)
            rw [HXE.out] at hadd
            have hadd2 : Calls Tryd.prog 17 #[.pointer (some ⟨q5, 0, none⟩), .agg #[.int .i64 z1, .int .i64 z2, .string ⟨z3.toArray⟩]] w7 _ := hadd
            have BE7 := T14.keep.blk BE (fun h => h)
            obtain ⟨x1, x2⟩ := jblk_mid BE7 (n := 3) rfl
            clear hadd
            go_wp2_with fail
            refine hadd2.mono ?_
            rintro e w8 ⟨A, -⟩
            rw [← HXE.out] at A
            obtain ⟨rfl, o8, c8, a8, k8, hj8, hk8, kk8, m8, m8'⟩ := A hc
            rw [fullD_add] at hk8
            have T15 := T14.add hj8 hk8 kk8 m8 m8'
            clear A hadd2 T14 hj8 hk8 kk8 m8 m8' hc x1 x2 BE7 hle5
            have GV : Shut (∀ y ∈ W ++ [xe], GoodE y ∧ y.data.length ≤ 100) := shut (by
              intro y hy
              rcases List.mem_append.1 hy with hy | hy
              · exact GN.out y hy
              · rw [List.mem_singleton] at hy
                rw [hy]
                exact HGX.out)
            have hgo5 : ∀ y ∈ W ++ [xe], GoodE y := fun y hy => (GV.out y hy).1
            have hVl : (W ++ [xe]).length = W.length + 1 := by rw [List.length_append]; rfl
            have hle6 := framesB_len (k := 100) (by omega) (L := W ++ [xe]) GV.out
            rw [hVl] at hle6
            have hop5 := open_any T15.dk rfl (by show (framesB (W ++ [xe])).length ≤ 5000; omega)
            have hsc5 : (scanE (fullD 1048576 (W ++ [xe])).bs).1 = W ++ [xe] := by show (scanE (framesB (W ++ [xe]))).1 = _; rw [scanE_all _ hgo5]
            clear hle6
            go_wp2_with fail
            refine hop5.mono ?_
            rintro e w9 ⟨q9, o9, c9, a9, k9, rfl, hj9, hk9, kk9, m9, hq9, ho9⟩
            rw [openD_all hgo5 rfl] at hk9
            rw [hsc5] at hj9
            have T16 := (T15.disk hk9 kk9 m9).turn hj9 T15.keep.size hq9 ho9 (fun g hg => OwnC.lt T15.r1 hg) (fun g hg => OwnC.lt T15.r2 hg)
            clear hop5 hk9 kk9 m9 hq9 ho9 hj9 hsc5 hgo5 T15
            go_wp2_with fail
            have BE9 := T16.keep.blk BE (fun h => h)
            refine wp_region_mixT (fun W => Blk W gb #[.int .i64 z1, .int .i64 z2, .string ⟨z3.toArray⟩] 23) 18 (.one 0 (.take 1 (.take 2 (.take 3 (.take 4 (.take 5 (.take 6 (.take 7 (.take 8 (.take 9 (.take 10 (.take 12 (.take 13 (.two 11 14 (.one 14 (.one 15 (.one 16 (.take 17 (.one 18 .done))))) (.one 11 (.one 15 (.one 16 (.take 17 (.one 18 .done))))))))))))))))))) (by kernel_rfl) (by kernel_rfl) BE9 ?_
            simp only [itemsT, PlanT.map, List.getD_cons_zero, List.getD_cons_succ, Nat.reduceBEq]
            have T17 := T16.keepsN (Keeps.refl Nothing w9).drew
            clear T16 BE9
            generalize w9.drew = w10 at *
            refine wpMixT_one (fun K hK => ?_)
            go_wp2_with fail
            refine (told26_any (hg0.keeps T17.keep)).mono ?_
            rintro e w11 ⟨rfl, k11⟩
            have T18 := T17.keepsN k11
            clear T17 k11
            go_wp2_with fail
            refine hK _ _ (.inr (T18.keep.blk BE (fun h => h))) ?_
            clear hK K
            repeat (refine wpMixT_free (fun K hK => ?_); go_simp; refine hK _ ?_; clear hK K)
            refine wpMixT_yield (v := .agg #[.int .i64 z1, .int .i64 z2, .string ⟨z3.toArray⟩]) (fun W hW => ?_) (fun K hK => ?_)
            · obtain ⟨zz, z4⟩ := jblk_mid hW (n := 3) rfl
              go_simp
            go_simp
            refine hK _ ?_
            clear hK K
            refine wpMixT_two (fun K hK => ?_) (fun K hK => ?_)
            · go_wp2_with fail
              refine (entries_new T18.jr (by rw [hVl]; omega)).mono ?_
              rintro e w12 ⟨o12, c12, rfl, O12, k12, f12⟩
              have T19 := T18.keepsN k12
              clear k12
              rw [hVl]
              go_wp2_with fail
              refine hK _ _ (.inr (T19.keep.blk BE (fun h => h))) ?_
              clear hK K
              refine wpMixT_one (fun K hK => ?_)
              go_wp2_with fail
              have ka4 : Keeps Nothing w12 (w12.alloc (.cells #[.int .i64 z1, .int .i64 z2, .string ⟨z3.toArray⟩] 23)) := (Keeps.refl Nothing w12).alloc _
              have BD := blk_new w12 #[.int .i64 z1, .int .i64 z2, .string ⟨z3.toArray⟩] 23
              have T20 := T19.keepsN ka4
              have O20 := OwnC.keepsN O12 ka4
              refine hK _ _ (.inr (T20.keep.blk BE (fun h => h))) ?_
              clear hK K ka4 T19
              generalize w12.alloc (.cells #[.int .i64 z1, .int .i64 z2, .string ⟨z3.toArray⟩] 23) = w13 at *
              generalize w12.heap.size = gd at *
              have hu : ∀ g, blockOf o12 = some g → blockOf o1 ≠ some g := fun g hg hx => by have := f12 g hg; have := OwnC.lt T18.r1 hx; omega
              refine wpMixT_one (fun K hK => ?_)
              refine wpList_unguard (by go_simp) ?_
              refine wpList_appE _ rfl (.tmp 158) (.tmp 160) rfl o1 c1 W W.length rfl rfl T20.r1 gd _ xe (by rw [HXE.out]; rfl) rfl BD (by omega) ?_
              intro o14 c14 w14 O14 k14 m14
              have O14' : OwnE w14 o14 c14 (W ++ [xe]) := O14
              have O12e := OwnC.keeps O20 k14 hu
              have K14 : Keeps Nothing wa w14 := T20.keep.trans k14 (fun i hi hlt => by have := T18.f1 i hi; omega)
              have hre := rents_any w14 (W ++ [xe]) (by rw [hVl]; omega) O12e O14'
              rw [hVl] at hre
              clear O14 O14' O12e k14 m14 T20 O20 O12 BD hu
              go_wp2_with fail
              refine hK _ _ (.inr (K14.blk BE (fun h => h))) ?_
              clear hK K
              refine wpMixT_one (fun K hK => ?_)
              go_wp2_with fail
              refine hre.mono ?_
              rintro e w15 ⟨rfl, k15⟩
              have K15 := K14.trans k15 (fun _ h _ => h)
              clear hre K14 k15
              go_wp2_with fail
              refine hK _ _ (.inr (K15.blk BE (fun h => h))) ?_
              clear hK K
              repeat (refine wpMixT_free (fun K hK => ?_); go_simp; refine hK _ ?_; clear hK K)
              refine wpMixT_one (fun K hK => ?_)
              go_wp2_with fail
              refine hK _ _ (.inl trivial) ?_
              clear hK K
              refine wpMixT_done ?_
              go_wp2_with fail
              go_ret
              exact ⟨rfl, ka.trans K15 (fun _ h _ => h)⟩
            · go_wp2_with fail
              have ka4 : Keeps Nothing w11 (w11.alloc (.cells #[.int .i64 z1, .int .i64 z2, .string ⟨z3.toArray⟩] 23)) := (Keeps.refl Nothing w11).alloc _
              have BD0 := blk_new w11 #[.int .i64 z1, .int .i64 z2, .string ⟨z3.toArray⟩] 23
              have T19 := T18.keepsN ka4
              refine hK _ _ (.inr (T19.keep.blk BE (fun h => h))) ?_
              clear hK K
              have hsz4 : w11.heap.size ≤ (w11.alloc (.cells #[.int .i64 z1, .int .i64 z2, .string ⟨z3.toArray⟩] 23)).heap.size := ka4.size
              clear ka4
              generalize w11.alloc (.cells #[.int .i64 z1, .int .i64 z2, .string ⟨z3.toArray⟩] 23) = w13 at *
              generalize hgd : w11.heap.size = gd at *
              refine wpMixT_one (fun K hK => ?_)
              go_wp2_with fail
              refine (entries_new T19.jr (by rw [hVl]; omega)).mono ?_
              rintro e w12 ⟨o12, c12, rfl, O12, k12, f12⟩
              have T20 := T19.keepsN k12
              have BD := k12.blk BD0 (fun h => h)
              have O20 := O12
              clear k12 T19 BD0
              rw [hVl]
              go_wp2_with fail
              refine hK _ _ (.inr (T20.keep.blk BE (fun h => h))) ?_
              clear hK K
              have hu : ∀ g, blockOf o12 = some g → blockOf o1 ≠ some g := fun g hg hx => by have := f12 g hg; have := OwnC.lt T18.r1 hx; omega
              refine wpMixT_one (fun K hK => ?_)
              refine wpList_unguard (by go_simp) ?_
              refine wpList_appE _ rfl (.tmp 158) (.tmp 160) rfl o1 c1 W W.length rfl rfl T20.r1 gd _ xe (by rw [HXE.out]; rfl) rfl BD (by omega) ?_
              intro o14 c14 w14 O14 k14 m14
              have O14' : OwnE w14 o14 c14 (W ++ [xe]) := O14
              have O12e := OwnC.keeps O20 k14 hu
              have K14 : Keeps Nothing wa w14 := T20.keep.trans k14 (fun i hi hlt => by have := T18.f1 i hi; omega)
              have hre := rents_any w14 (W ++ [xe]) (by rw [hVl]; omega) O12e O14'
              rw [hVl] at hre
              clear O14 O14' O12e k14 m14 T20 O20 O12 BD hu
              go_wp2_with fail
              refine hK _ _ (.inr (K14.blk BE (fun h => h))) ?_
              clear hK K
              refine wpMixT_one (fun K hK => ?_)
              go_wp2_with fail
              refine hre.mono ?_
              rintro e w15 ⟨rfl, k15⟩
              have K15 := K14.trans k15 (fun _ h _ => h)
              clear hre K14 k15
              go_wp2_with fail
              refine hK _ _ (.inr (K15.blk BE (fun h => h))) ?_
              clear hK K
              repeat (refine wpMixT_free (fun K hK => ?_); go_simp; refine hK _ ?_; clear hK K)
              refine wpMixT_one (fun K hK => ?_)
              go_wp2_with fail
              refine hK _ _ (.inl trivial) ?_
              clear hK K
              refine wpMixT_done ?_
              go_wp2_with fail
              go_ret
              exact ⟨rfl, ka.trans K15 (fun _ h _ => h)⟩

end Go.Proofs.YteifmkfkekglpaaDoor
