/- usufructlaw29.NetTakes: what is taken was sent, in order; a net takes 4096 messages and not one more; no condition. -/
import Derived.Test.YteifmkfkekglpaaRows
import Derived.Test.YteifmkfkekglpaaNet12
import Derived.Test.YteifmkfkekglpaaNet14
import Derived.Test.YteifmkfkekglpaaStep
import Derived.Deep.Cut
import Derived.Deep.CutBlock
import Derived.ProofKit
import Derived.OpenShut
import Derived.ShutString
import Derived.ChangeOld
import Derived.Below
namespace Go.Proofs.Yteifmkfkekglpaa.netTakes
open Go.ChangeShapes Go.WideShapes Go.ChangeAt Go.RowKit
open Go.ChangeMaps (open_string shut_string)

theorem own : ownKnob Try.prog.godebug = none := by kernel_rfl
theorem laidOut : laidOutB Try.prog = true := by kernel_rfl


attribute [local go_sem ↓] exec_mid_msg exec_store_msg
attribute [local go_sem] rowOk_new World.setRow_alloc_new
theorem msg130_lit : msg3C 1 3 0 = #[.int .i64 1, .int .i64 3, .int .i64 0, .int .i64 0, .int .i64 0, .string ⟨#[]⟩, .int .u8 0, .int .u8 0, .int .u8 0, .int .u8 0, .int .u8 0, .int .u8 0, .int .u8 0, .int .u8 0, .int .u8 0, .int .u8 0, .int .u8 0, .int .u8 0, .int .u8 0, .int .u8 0, .int .u8 0, .int .u8 0, .int .u8 0, .int .u8 0, .int .u8 0, .int .u8 0, .int .u8 0, .int .u8 0, .int .u8 0, .int .u8 0, .int .u8 0, .int .u8 0, .int .u8 0, .int .u8 0, .int .u8 0, .int .u8 0, .int .u8 0, .int .u8 0, .slice none 0 0, .string ⟨#[]⟩, .string ⟨#[]⟩] := rfl
theorem agg130 : aggOk 41 (.agg #[.int .i64 1, .int .i64 3, .int .i64 0, .int .i64 0, .int .i64 0, .string ⟨#[]⟩, .int .u8 0, .int .u8 0, .int .u8 0, .int .u8 0, .int .u8 0, .int .u8 0, .int .u8 0, .int .u8 0, .int .u8 0, .int .u8 0, .int .u8 0, .int .u8 0, .int .u8 0, .int .u8 0, .int .u8 0, .int .u8 0, .int .u8 0, .int .u8 0, .int .u8 0, .int .u8 0, .int .u8 0, .int .u8 0, .int .u8 0, .int .u8 0, .int .u8 0, .int .u8 0, .int .u8 0, .int .u8 0, .int .u8 0, .int .u8 0, .int .u8 0, .int .u8 0, .slice none 0 0, .string ⟨#[]⟩, .string ⟨#[]⟩]) = true := by rw [← msg130_lit]; exact (msg3_is 1 3 0).row
theorem same_at {L : List Row8} {M : List UInt8} (h : ∀ x ∈ L, x.2.2 = M) {k : Nat} (hk : k < L.length) : ∃ b c, L[k]? = some (b, c, M) := by
  obtain ⟨x, hx⟩ : ∃ x, L[k]? = some x := ⟨L[k]'hk, List.getElem?_eq_getElem hk⟩
  obtain ⟨b, c, m⟩ := x
  have := h _ (List.mem_of_getElem? hx)
  simp only at this
  exact ⟨b, c, by rw [hx, this]⟩
theorem placeN_self (k n : Nat) (h : k < n) : placeN (k : Int) n = k := by
  unfold placeN
  rw [Int.emod_eq_of_lt (by omega) (by omega)]
  omega

set_option maxRecDepth 100000 in
set_option maxHeartbeats 8000000 in
theorem walk_many (w : World) {ao : Option Addr} {n c : Nat} : Calls Try.prog 5 #[.slice ao n c, .bool true] w (SaysTrue w) := by
  go_enter Try.func5, Try.ntmps5
  go_wp2_with fail
  refine (nt_new (Keeps.refl Nothing w)).mono ?_
  rintro e w1 ⟨p, rfl, N1⟩
  have hag := agg130
  go_upto_region 6 with fail
  clear hag
  rw [← msg130_lit]
  have hC := msg3_is 1 3 0
  obtain ⟨Z1, hZ1⟩ : ∃ Z, Z = msg3C 1 3 0 := ⟨_, rfl⟩
  rw [← hZ1] at hC ⊢
  clear hZ1
  have k1 := (Keeps.refl Nothing w1).alloc (.cells Z1 26)
  have B1 := blk_new w1 Z1 26
  have N2 := N1.keepsN k1
  clear k1 N1
  generalize w1.alloc (.cells Z1 26) = w2 at *
  generalize w1.heap.size = g6 at *
  have hy : mayP (msg3 1 3 0) := by decide
  have hlen := encMsg_len hy rfl (fun h hh => by cases hh)
  have hl2 : (encMsg (msg3 1 3 0)).length ≤ 132 := hlen
  have HNE := shut (encMsg_ne (msg3 1 3 0))
  clear hlen
  have hsend := fun W (L : List Row8) (s : Int) (N : NT w W p L s) (s0 : 0 ≤ s) (s1 : s < 1000000000) (hl : L.length < 4096) => nt_send N s0 s1 hl hC (msg3_at _ (by decide) (by decide) (by decide)) (msg3_small _ _ _) hy
  have hfull := fun W (L : List Row8) (s : Int) (N : NT w W p L s) (s0 : 0 ≤ s) (s1 : s < 1000000000) (hl : ¬ L.length < 4096) (h6 : L.length ≤ 1000000) => nt_full N s0 s1 hl h6 hC (msg3_at _ (by decide) (by decide) (by decide)) (msg3_small _ _ _) hy
  have hCs := hC.size
  clear hC hy
  generalize encMsg (msg3 1 3 0) = M at *
  go_wp2_with fail
  go_loopw [7] (fun s7 wr => ∃ (i : Nat) (L : List Row8), s7 = .int .i64 i ∧ i ≤ 4096 ∧ Shut (L.length = i) ∧ NT w wr p L i ∧ Blk wr g6 Z1 26 ∧ ∀ x ∈ L, x.2.2 = M) (fun s7 _ => 4096 - (intOf s7).toNat)
  case atStart => exact ⟨0, [], rfl, by omega, shut rfl, N2, B1, fun x hx => by cases hx⟩
  case round =>
    obtain ⟨i, L, rfl, hi, HL, N3, B3, hall⟩ := hrel
    obtain ⟨x1, x2⟩ := blk_mid B3 hCs
    by_cases hlt : i < 4096
    · have m1 : (i : Int) < 4096 := by omega
      have hs := hsend _ _ _ N3 (by omega) (by omega) (by rw [HL.out]; exact hlt)
      clear hsend hfull N2
      go_wp2_with fail
      refine hs.mono ?_
      rintro e w4 ⟨b, c, rfl, N4, O4⟩
      have B4 := O4 _ _ _ B3 (by decide) (by decide)
      clear x1 x2 hs
      go_wp2_with fail
      go_roundw
      case rel =>
        refine ⟨i + 1, L ++ [(b, c, M)], by go_num, by omega, shut (by rw [List.length_append, HL.out]; rfl), ?_, B4, fun x hx => ?_⟩
        · rw [show ((i + 1 : Nat) : Int) = (i : Int) + 1 by omega]; exact N4
        · rcases List.mem_append.1 hx with hx | hx
          · exact hall x hx
          · rw [List.mem_singleton] at hx; rw [hx]
      case measure => simp [intOf]; omega
    · obtain rfl : i = 4096 := by omega
      have hs := hfull _ _ _ N3 (by omega) (by omega) (by rw [HL.out]; omega) (by rw [HL.out]; omega)
      clear hsend hfull N2
      go_wp2_with fail
      refine hs.mono ?_
      rintro e w4 ⟨b, rfl, hE, N4, -⟩
      clear hs x1 x2 B3 N3
      have his := is_any hE 12 0
      go_wp2_with fail
      refine his.mono ?_
      rintro e w5 ⟨rfl, n5, rfl⟩
      have N5 := N4.keepsN ((Keeps.refl Nothing w4).drewN n5)
      have hd := nt_doubleF N5 5 (by rw [HL.out]; omega) (by rw [HL.out]; omega)
      clear his hE N4
      go_wp2_with fail
      refine hd.mono ?_
      rintro e w6 ⟨b2, rfl, hE, N6, -⟩
      have his := is_any hE 12 0
      clear hd N5
      go_wp2_with fail
      refine his.mono ?_
      rintro e w7 ⟨rfl, n7, rfl⟩
      have N7 := N6.keepsN ((Keeps.refl Nothing w6).drewN n7)
      have hu := nt_under N7
      have hpl := placeN_self 4095 4096 (by omega)
      obtain ⟨bx, cx, hx⟩ := same_at hall (k := 4095) (by rw [HL.out]; omega)
      have ht := nt_take N7 4095 (by rw [HL.out]; omega) (by rw [HL.out]; omega) (x := (bx, cx, M)) (by rw [HL.out]; exact (congrArg (L[·]?) hpl).trans hx)
      rw [HL.out] at hu ht
      have hpl' : placeN 4095 4096 = 4095 := hpl
      rw [hpl'] at ht
      clear his hE N6 hpl hpl' hx
      go_wp2_with fail
      refine hu.mono ?_
      rintro e w8 ⟨rfl, rfl⟩
      go_wp2_with fail
      refine ht.mono ?_
      rintro e w9 ⟨rfl, N9, -, -⟩
      clear ht hu N7
      have hl9 : (L.eraseIdx 4095).length = 4095 := by rw [List.length_eraseIdx_of_lt (by rw [HL.out]; omega), HL.out]
      have hall9 : ∀ x ∈ L.eraseIdx 4095, x.2.2 = M := fun x hx => hall x (List.mem_of_mem_eraseIdx hx)
      have HL9 := shut hl9
      clear hl9 hall
      generalize L.eraseIdx 4095 = L9 at *
      unfold rowV
      go_wp2_with fail
      refine (told29 _).mono ?_
      rintro e w10 ⟨rfl, k10⟩
      have N10 := N9.keepsN k10
      obtain ⟨by', cy, hy⟩ := same_at hall9 (k := 0) (by rw [HL9.out]; omega)
      have hpl := placeN_self 0 4095 (by omega)
      have hd := nt_double N10 0 (by rw [HL9.out]; omega) (by rw [HL9.out]; omega) (x := (by', cy, M)) (by rw [HL9.out]; exact (congrArg (L9[·]?) hpl).trans hy) (by show M.length ≤ _; omega) HNE.out
      clear hpl hy k10 N9
      go_wp2_with fail
      refine hd.mono ?_
      rintro e w11 ⟨b, c, rfl, N11, -⟩
      have hu := nt_under N11
      have hst := nt_sent N11
      have hl11 : (L9 ++ [(b, c, M)]).length = 4096 := by rw [List.length_append, HL9.out]; rfl
      rw [hl11] at hu
      clear hd N10 hl11
      go_wp2_with fail
      refine hu.mono ?_
      rintro e w12 ⟨rfl, rfl⟩
      go_wp2_with fail
      refine hst.mono ?_
      rintro e w13 ⟨rfl, rfl⟩
      go_wp2_with fail
      go_ret
      exact ⟨rfl, N11.keep⟩

theorem NT.aside {S : Nat → Prop} {w0 w w' : World} {p : Nat} {L : List Row8} {sent : Int} (h : NT w0 w p L sent) (k : Keeps S w w') (h0 : ∀ i, S i → w0.heap.size ≤ i) (hT : ∀ i, S i → ∃ cur t, Blk w i cur t ∧ t ≠ 98 ∧ t ≠ 27 ∧ t ≠ 5) : NT w0 w' p L sent := by
  obtain ⟨ao, cap, hN, K, h1, h2, h3⟩ := h
  refine ⟨ao, cap, hN.keeps k (fun hp => ?_) (fun g hg hp => ?_) (fun x hx hp => ?_), K.trans k (fun i hi hlt => by have := h0 i hi; omega), h1, h2, h3⟩
  · obtain ⟨cur, t, hb, t1, t2, t3⟩ := hT p hp
    have := hN.blk.symm.trans hb
    simp at this
    exact t1 this.2.symm
  · obtain ⟨cur, t, hb, t1, t2, t3⟩ := hT g hp
    exact hN.row.ne hb (fun e => t2 e.symm) hg
  · obtain ⟨cur, t, hb, t1, t2, t3⟩ := hT x.1 hp
    exact own8_ne (hN.each x hx) hb (fun e => t3 e.symm) rfl
theorem aside_own {w : World} {e : TypeId} {k : Nat} {ao : Option Addr} {cap : Nat} {L : List (List Value)} (h : OwnC w e k ao cap L) (h1 : e ≠ 98) (h2 : e ≠ 27) (h3 : e ≠ 5) : ∀ i, blockOf ao = some i → ∃ cur t, Blk w i cur t ∧ t ≠ 98 ∧ t ≠ 27 ∧ t ≠ 5 := fun i hi => by
  rcases h.shape with rfl | ⟨g, rfl⟩
  · cases hi
  · obtain rfl := Option.some.inj hi
    obtain ⟨cur, hb⟩ := h.blk
    exact ⟨cur, e, hb, h1, h2, h3⟩
theorem drop_map {L : List Row8} {IN : List MsgD} {i : Nat} {d : MsgD} (h : L.map (·.2.2) = (IN.drop i).map (fun d => encMsg d.m)) (hd : IN[i]? = some d) : ∃ b c L', L = (b, c, encMsg d.m) :: L' ∧ L'.map (·.2.2) = (IN.drop (i + 1)).map (fun d => encMsg d.m) := by
  have h2 : IN.drop i = d :: IN.drop (i + 1) := by
    obtain ⟨hlt, he⟩ := List.getElem?_eq_some_iff.1 hd
    rw [List.drop_eq_getElem_cons hlt, he]
  rw [h2, List.map_cons] at h
  cases L with
  | nil => cases h
  | cons x L' =>
    obtain ⟨b, c, m⟩ := x
    rw [List.map_cons, List.cons.injEq] at h
    simp only at h
    exact ⟨b, c, L', by rw [h.1], h.2⟩

set_option maxRecDepth 100000 in
set_option maxHeartbeats 8000000 in
theorem walk_few (w : World) {ao : Option Addr} {n c : Nat} {l : List MsgD} (hn : l.length = n) (hL : MsgsAt w ao l) : Calls Try.prog 5 #[.slice ao n c, .bool false] w (SaysTrue w) := by
  go_enter Try.func5, Try.ntmps5
  go_wp2_with fail
  refine (nt_new (Keeps.refl Nothing w)).mono ?_
  rintro e w1 ⟨p, rfl, N1⟩
  go_wp2_with fail
  go_loopw [10, 11] (fun s10 s11 wr => ∃ (i N : Nat) (a2 : Option Addr) (c2 : Nat) (IN : List MsgD) (L : List Row8), s11 = .int .i64 i ∧ s10 = .slice a2 N c2 ∧ i ≤ n ∧ i ≤ 20 ∧ N ≤ i ∧ Shut (IN.length = N) ∧ OwnC wr 26 41 a2 c2 (IN.map MsgD.cells) ∧ NT w wr p L N ∧ Shut (∀ g, blockOf a2 = some g → w.heap.size ≤ g) ∧ Shut (L.map (·.2.2) = IN.map (fun d => encMsg d.m)) ∧ ∀ d ∈ IN, d.Ok w ∧ mayP d.m ∧ MsgSmall d.m ∧ ¬ greatP d.m) (fun _ s11 _ => 20 - (intOf s11).toNat)
  case atStart => exact ⟨0, 0, none, 0, [], [], rfl, rfl, by omega, by omega, by omega, shut rfl, ownC_nil _ _ _, N1, shut (fun g hg => by cases hg), shut rfl, fun d hd => by cases hd⟩
  case round =>
    obtain ⟨i, N, a2, c2, IN, L, rfl, rfl, hi, hi20, hNi, HIN, O1, N2, HA2, HM, hall⟩ := hrel
    clear N1
    have hLN : L.length = N := by have := congrArg List.length HM.out; simp only [List.length_map] at this; rw [this, HIN.out]
    have HLN := shut hLN
    clear hLN
    by_cases hlt : i < n ∧ i < 20
    · obtain ⟨h1, h2⟩ := hlt
      have m1 : (i : Int) < n := by omega
      have m2 : (i : Int) < 20 := by omega
      obtain ⟨d, hd⟩ : ∃ d, l[i]? = some d := ⟨l[i]'(by omega), List.getElem?_eq_getElem (by omega)⟩
      obtain ⟨b, o, rfl⟩ := hL.head (by omega)
      obtain ⟨_, hdo, r0⟩ := hL.2 _ rfl i d hd
      simp only at r0
      have hdl := hdo.len
      have hdC := hdo.is
      have hDs : d.cells.toArray.size = 41 := hdC.size
      clear hd
      have hgr := fun W => great_any (w := W) hdC
      obtain ⟨D, hD⟩ : ∃ D, d.cells.toArray = D := ⟨_, rfl⟩
      have HD := shut hD
      rw [hD] at hgr hdC hDs
      obtain ⟨Z, hZ⟩ : ∃ Z, decide (greatP d.m) = Z := ⟨_, rfl⟩
      rw [hZ] at hgr
      have HZ := shut hZ
      have r1 := rangeAt_keeps r0 N2.keep (fun h => h)
      have x1 := midOk_range r1
      have x2 := midOf_range r1
      rw [hdl] at x1 x2
      rw [hD] at x2
      clear hZ hD r1
      go_wp2_with fail
      refine (hgr _).mono ?_
      rintro e w3 ⟨rfl, k3⟩
      have N3 := N2.keepsN k3
      have O3 := O1.keepsN k3
      clear x1 x2 hgr k3 N2 O1
      cases Z with
      | true =>
        go_wp2_with fail
        refine (told29 _).mono ?_
        rintro e w9 ⟨rfl, k9⟩
        go_wp2_with fail
        go_ret
        exact ⟨rfl, N3.keep.trans k9 (fun _ h _ => h)⟩
      | false =>
        have hng : ¬ greatP d.m := by have := HZ.out; simpa using this
        clear HZ
        have hS : MsgSmall d.m := by unfold greatP at hng; exact ⟨by omega, by omega, by omega⟩
        have r1 := rangeAt_keeps r0 N3.keep (fun h => h)
        have x1 := midOk_range r1
        have x2 := midOf_range r1
        rw [hdl, HD.out] at x2
        rw [hdl] at x1
        clear r1
        by_cases hy : mayP d.m
        · have hs := nt_send N3 (by omega) (by omega) (by rw [HLN.out]; omega) hdC (hdo.at'.keepsN N3.keep) hS hy
          go_wp2_with fail
          refine hs.mono ?_
          rintro e w4 ⟨b4, c4, rfl, N4, oth4⟩
          have O4 : OwnC w4 26 41 a2 c2 (IN.map MsgD.cells) := oth4.own O3 (by decide) (by decide)
          have r1 := rangeAt_keeps r0 N4.keep (fun h => h)
          have x1' := midOk_range r1
          have x2' := midOf_range r1
          rw [hdl, HD.out] at x2'
          rw [hdl] at x1'
          clear x1 x2 r1 hs O3 N3 oth4
          go_upto_region 22 with fail
          refine wp_region_list ?_
          repeat (refine wpList_val (fun K hK => ?_); have HK := shut hK; clear hK; go_simp; refine HK.out _ ?_; clear HK K)
          refine wpList_first (fun K hK => ?_)
          have HK := shut hK
          clear hK
          go_wp2_with fail
          rw [← zeroC_lit, fillN (n := 41) zeroC_is.size hDs]
          have BD := blk_new w4 D 26
          have ka := (Keeps.refl Nothing w4).alloc (.cells D 26)
          refine HK.out _ _ ?_
          clear HK K
          refine wpList_appM _ rfl (.tmp 94) (.tmp 99) rfl a2 c2 IN N HIN.out rfl (O4.keepsN ka) _ D d hdo HD.out.symm rfl BD (by omega) ?_
          intro a5 c5 w5 O5 k5 m5
          have N5 := NT.aside (N4.keepsN ka) k5 HA2.out (aside_own (O4.keepsN ka) (by decide) (by decide) (by decide))
          have HA5 := shut (m5.new (Nat.le_trans N4.keep.size ka.size) HA2.out)
          clear BD ka k5 m5 O4 N4 x1' x2'
          go_wp2_with fail
          go_roundw
          case rel =>
            refine ⟨i + 1, N + 1, a5, c5, IN ++ [d], L ++ [(b4, c4, encMsg d.m)], by go_num, by go_num, by omega, by omega, by omega, shut (by rw [List.length_append, HIN.out]; rfl), O5, ?_, HA5, shut (by rw [List.map_append, List.map_append, HM.out]; rfl), fun y hy' => ?_⟩
            · rw [show ((N + 1 : Nat) : Int) = (N : Int) + 1 by omega]; exact N5
            · rcases List.mem_append.1 hy' with hy' | hy'
              · exact hall y hy'
              · rw [List.mem_singleton] at hy'; rw [hy']; exact ⟨hdo, hy, hS, hng⟩
          case measure => simp [intOf]; omega
        · have hs := nt_bad N3 (by omega) (by omega) (by rw [HLN.out]; omega) hdC (hdo.at'.keepsN N3.keep) hS hy
          go_wp2_with fail
          refine hs.mono ?_
          rintro e w4 ⟨b4, rfl, -, N4, oth4⟩
          have O4 : OwnC w4 26 41 a2 c2 (IN.map MsgD.cells) := oth4.own O3 (by decide) (by decide)
          clear hs O3 N3 oth4 x1 x2
          go_wp2_with fail
          go_roundw
          case rel => exact ⟨i + 1, N, a2, c2, IN, L, by go_num, rfl, by omega, by omega, by omega, HIN, O4, N4, HA2, HM, hall⟩
          case measure => simp [intOf]; omega
    · have m1 : ¬ ((i : Int) < n ∧ (i : Int) < 20) := by omega
      by_cases h1 : i < n
      · have m2 : (i : Int) < n := by omega
        have m3 : ¬ (i : Int) < 20 := by omega
        clear m1
        go_wp2_with fail
        have HM0 : Shut (L.map (·.2.2) = (IN.drop 0).map (fun d => encMsg d.m)) := HM
        clear HM hL
        go_loopw [12] (fun s12 wx => ∃ (j : Nat) (L : List Row8), s12 = .int .i64 j ∧ j ≤ N ∧ OwnC wx 26 41 a2 c2 (IN.map MsgD.cells) ∧ NT w wx p L N ∧ Shut (L.map (·.2.2) = (IN.drop j).map (fun d => encMsg d.m))) (fun s12 _ => N - (intOf s12).toNat)
        case atStart => exact ⟨0, L, rfl, by omega, O1, N2, HM0⟩
        case round =>
          clear HM0 O1 N2 HLN
          obtain ⟨j, L, rfl, hj, O1, N2, HM⟩ := hrel
          by_cases hlt : j < N
          · have m4 : (j : Int) < N := by omega
            obtain ⟨d, hd⟩ : ∃ d, IN[j]? = some d := ⟨IN[j]'(by rw [HIN.out]; omega), List.getElem?_eq_getElem (by rw [HIN.out]; omega)⟩
            obtain ⟨b3, c3, L', rfl, hm'⟩ := drop_map HM.out hd
            obtain ⟨hdo, hy, hS, hng⟩ := hall d (List.mem_of_getElem? hd)
            have HM' := shut hm'
            clear hm' HM
            have hLl : L'.length ≤ 20 := by have h9 := congrArg List.length HM'.out; simp only [List.length_map, List.length_drop] at h9; rw [HIN.out] at h9; omega
            have hp0 : placeN 0 ((b3, c3, encMsg d.m) :: L').length = 0 := placeN_self 0 _ (by simp)
            have ht := nt_take N2 0 (by simp) (by rw [List.length_cons]; omega) (x := (b3, c3, encMsg d.m)) (by rw [hp0]; rfl)
            rw [hp0] at ht
            simp only [List.eraseIdx_cons_zero] at ht
            clear hp0
            go_wp2_with fail
            refine ht.mono ?_
            rintro e w4 ⟨rfl, N4, o4, oth4⟩
            have O4 : OwnC w4 26 41 a2 c2 (IN.map MsgD.cells) := oth4.own O1 (by decide) (by decide)
            have hgp := shut (get_put hy hdo.h32 hdo.at'.h32)
            have hlen := encMsg_len hy hdo.h32 hdo.at'.h32
            unfold greatP at hng
            have hget := get_any (c := c3) (own8_at o4) (by show (encMsg d.m).length ≤ _; omega)
            have hV : rowV (b3, c3, encMsg d.m) = .slice (some ⟨b3, 0, none⟩) (encMsg d.m).length c3 := rfl
            rw [hV]
            clear hV ht oth4 O1 N2 hlen
            go_wp2_with fail
            refine hget.mono ?_
            rintro e w5 hG
            obtain ⟨C5, a6, c6, rfl, hC5, hM5, k5⟩ := hG.1 _ hgp.out
            clear hG hget hgp o4
            have hag5 := hC5.row
            have ka := (Keeps.refl Nothing w5).alloc (.cells C5 26)
            have N6 := (N4.keepsN k5).keepsN ka
            have O6 := (O4.keepsN k5).keepsN ka
            have B6 := blk_new w5 C5 26
            have hM6 := hM5.keepsN ka
            clear k5 ka N4 O4 hM5
            go_wp2_with fail
            generalize w5.alloc (.cells C5 26) = w6 at *
            generalize w5.heap.size = g15 at *
            obtain ⟨gi, rfl⟩ := O6.head (by intro h; have := congrArg List.length h; rw [List.length_map, HIN.out] at this; simp at this; omega)
            have hall41 : ∀ x ∈ IN.map MsgD.cells, x.length = 41 := fun x hx => by obtain ⟨y, hy', rfl⟩ := List.mem_map.1 hx; exact (hall y hy').1.len
            have r6 := O6.range hall41 (j := j) (x := d.cells) (by rw [List.getElem?_map, hd]; rfl)
            have hcap := O6.cap
            rw [List.length_map, HIN.out] at hcap
            unfold maxLen at hcap
            have hdC := hdo.is
            have hdl := hdo.len
            have hsame := fun W (k : Keeps Nothing w6 W) => same_true hC5 hdC (hM6.keepsN k) (hdo.at'.keepsN (N6.keep.trans k (fun _ h _ => h)))
            obtain ⟨D, hD⟩ : ∃ D, d.cells.toArray = D := ⟨_, rfl⟩
            rw [hD] at hsame hdC
            have HD := shut hD
            clear hall41 hd hD
            refine wp_region_mix (fun V => Keeps Nothing w6 V) [(true, 0), (true, 1), (true, 2), (true, 3), (true, 4), (true, 5), (true, 6), (true, 7), (true, 8), (true, 9), (true, 10), (true, 11), (false, 12), (true, 13), (true, 14)] (by kernel_rfl) (by kernel_rfl) (Keeps.refl _ _).drew ?_
            simp only [mixItems, List.map_cons, List.map_nil, List.getD_cons_zero, List.getD_cons_succ]
            repeat (refine wpMix_free (fun K hK => ?_); go_simp; refine hK _ ?_; clear hK K)
            refine wpMix_yield (v := .agg C5) (fun V hV => ?_) (fun K hK => ?_)
            · obtain ⟨y1, y2⟩ := blk_mid (hV.blk B6 (fun h => h)) hC5.size
              go_simp
            go_simp
            refine hK _ ?_
            clear hK K
            repeat (refine wpMix_free (fun K hK => ?_); go_simp; refine hK _ ?_; clear hK K)
            refine wpMix_yield (v := .agg D) (fun V hV => ?_) (fun K hK => ?_)
            · have z1 := rangeAt_keeps r6 hV (fun h => h)
              have y1 := midOk_range z1
              have y2 := midOf_range z1
              rw [hdl, HD.out] at y2
              rw [hdl] at y1
              go_simp
            go_simp
            refine hK _ ?_
            clear hK K
            repeat (refine wpMix_free (fun K hK => ?_); go_simp; refine hK _ ?_; clear hK K)
            refine wpMix_one (fun K hK => ?_)
            go_wp2_with fail
            refine (hsame _ (Keeps.refl _ _).drew).mono ?_
            rintro e w7 ⟨rfl, k7⟩
            have K7 : Keeps Nothing w6 w7 := (Keeps.refl Nothing w6).drew.trans k7 (fun _ h _ => h)
            go_wp2_with fail
            refine hK _ _ K7 ?_
            clear hK K
            repeat (refine wpMix_free (fun K hK => ?_); go_simp; refine hK _ ?_; clear hK K)
            refine wpMix_nil ?_
            go_wp2_with fail
            go_roundw
            case rel => exact ⟨j + 1, L', by go_num, by omega, O6.keepsN K7, N6.keepsN K7, HM'⟩
            case measure => simp [intOf]; omega
          · obtain rfl : j = N := by omega
            have m4 : ¬ (j : Int) < j := by omega
            have hL0 : L.length = 0 := by have h9 := congrArg List.length HM.out; simp only [List.length_map, List.length_drop] at h9; rw [HIN.out] at h9; omega
            go_wp2_with fail
            refine (told29 _).mono ?_
            rintro e w9 ⟨rfl, k9⟩
            have N9 := N2.keepsN k9
            have hu := nt_under N9
            have hst := nt_sent N9
            rw [hL0] at hu
            clear hL0 k9
            go_wp2_with fail
            refine hu.mono ?_
            rintro e w10 ⟨rfl, rfl⟩
            go_wp2_with fail
            refine hst.mono ?_
            rintro e w11 ⟨rfl, rfl⟩
            go_wp2_with fail
            go_ret
            exact ⟨rfl, N9.keep⟩
      · have m2 : ¬ (i : Int) < n := by omega
        clear m1
        go_wp2_with fail
        have HM0 : Shut (L.map (·.2.2) = (IN.drop 0).map (fun d => encMsg d.m)) := HM
        clear HM hL
        go_loopw [12] (fun s12 wx => ∃ (j : Nat) (L : List Row8), s12 = .int .i64 j ∧ j ≤ N ∧ OwnC wx 26 41 a2 c2 (IN.map MsgD.cells) ∧ NT w wx p L N ∧ Shut (L.map (·.2.2) = (IN.drop j).map (fun d => encMsg d.m))) (fun s12 _ => N - (intOf s12).toNat)
        case atStart => exact ⟨0, L, rfl, by omega, O1, N2, HM0⟩
        case round =>
          clear HM0 O1 N2 HLN
          obtain ⟨j, L, rfl, hj, O1, N2, HM⟩ := hrel
          by_cases hlt : j < N
          · have m4 : (j : Int) < N := by omega
            obtain ⟨d, hd⟩ : ∃ d, IN[j]? = some d := ⟨IN[j]'(by rw [HIN.out]; omega), List.getElem?_eq_getElem (by rw [HIN.out]; omega)⟩
            obtain ⟨b3, c3, L', rfl, hm'⟩ := drop_map HM.out hd
            obtain ⟨hdo, hy, hS, hng⟩ := hall d (List.mem_of_getElem? hd)
            have HM' := shut hm'
            clear hm' HM
            have hLl : L'.length ≤ 20 := by have h9 := congrArg List.length HM'.out; simp only [List.length_map, List.length_drop] at h9; rw [HIN.out] at h9; omega
            have hp0 : placeN 0 ((b3, c3, encMsg d.m) :: L').length = 0 := placeN_self 0 _ (by simp)
            have ht := nt_take N2 0 (by simp) (by rw [List.length_cons]; omega) (x := (b3, c3, encMsg d.m)) (by rw [hp0]; rfl)
            rw [hp0] at ht
            simp only [List.eraseIdx_cons_zero] at ht
            clear hp0
            go_wp2_with fail
            refine ht.mono ?_
            rintro e w4 ⟨rfl, N4, o4, oth4⟩
            have O4 : OwnC w4 26 41 a2 c2 (IN.map MsgD.cells) := oth4.own O1 (by decide) (by decide)
            have hgp := shut (get_put hy hdo.h32 hdo.at'.h32)
            have hlen := encMsg_len hy hdo.h32 hdo.at'.h32
            unfold greatP at hng
            have hget := get_any (c := c3) (own8_at o4) (by show (encMsg d.m).length ≤ _; omega)
            have hV : rowV (b3, c3, encMsg d.m) = .slice (some ⟨b3, 0, none⟩) (encMsg d.m).length c3 := rfl
            rw [hV]
            clear hV ht oth4 O1 N2 hlen
            go_wp2_with fail
            refine hget.mono ?_
            rintro e w5 hG
            obtain ⟨C5, a6, c6, rfl, hC5, hM5, k5⟩ := hG.1 _ hgp.out
            clear hG hget hgp o4
            have hag5 := hC5.row
            have ka := (Keeps.refl Nothing w5).alloc (.cells C5 26)
            have N6 := (N4.keepsN k5).keepsN ka
            have O6 := (O4.keepsN k5).keepsN ka
            have B6 := blk_new w5 C5 26
            have hM6 := hM5.keepsN ka
            clear k5 ka N4 O4 hM5
            go_wp2_with fail
            generalize w5.alloc (.cells C5 26) = w6 at *
            generalize w5.heap.size = g15 at *
            obtain ⟨gi, rfl⟩ := O6.head (by intro h; have := congrArg List.length h; rw [List.length_map, HIN.out] at this; simp at this; omega)
            have hall41 : ∀ x ∈ IN.map MsgD.cells, x.length = 41 := fun x hx => by obtain ⟨y, hy', rfl⟩ := List.mem_map.1 hx; exact (hall y hy').1.len
            have r6 := O6.range hall41 (j := j) (x := d.cells) (by rw [List.getElem?_map, hd]; rfl)
            have hcap := O6.cap
            rw [List.length_map, HIN.out] at hcap
            unfold maxLen at hcap
            have hdC := hdo.is
            have hdl := hdo.len
            have hsame := fun W (k : Keeps Nothing w6 W) => same_true hC5 hdC (hM6.keepsN k) (hdo.at'.keepsN (N6.keep.trans k (fun _ h _ => h)))
            obtain ⟨D, hD⟩ : ∃ D, d.cells.toArray = D := ⟨_, rfl⟩
            rw [hD] at hsame hdC
            have HD := shut hD
            clear hall41 hd hD
            refine wp_region_mix (fun V => Keeps Nothing w6 V) [(true, 0), (true, 1), (true, 2), (true, 3), (true, 4), (true, 5), (true, 6), (true, 7), (true, 8), (true, 9), (true, 10), (true, 11), (false, 12), (true, 13), (true, 14)] (by kernel_rfl) (by kernel_rfl) (Keeps.refl _ _).drew ?_
            simp only [mixItems, List.map_cons, List.map_nil, List.getD_cons_zero, List.getD_cons_succ]
            repeat (refine wpMix_free (fun K hK => ?_); go_simp; refine hK _ ?_; clear hK K)
            refine wpMix_yield (v := .agg C5) (fun V hV => ?_) (fun K hK => ?_)
            · obtain ⟨y1, y2⟩ := blk_mid (hV.blk B6 (fun h => h)) hC5.size
              go_simp
            go_simp
            refine hK _ ?_
            clear hK K
            repeat (refine wpMix_free (fun K hK => ?_); go_simp; refine hK _ ?_; clear hK K)
            refine wpMix_yield (v := .agg D) (fun V hV => ?_) (fun K hK => ?_)
            · have z1 := rangeAt_keeps r6 hV (fun h => h)
              have y1 := midOk_range z1
              have y2 := midOf_range z1
              rw [hdl, HD.out] at y2
              rw [hdl] at y1
              go_simp
            go_simp
            refine hK _ ?_
            clear hK K
            repeat (refine wpMix_free (fun K hK => ?_); go_simp; refine hK _ ?_; clear hK K)
            refine wpMix_one (fun K hK => ?_)
            go_wp2_with fail
            refine (hsame _ (Keeps.refl _ _).drew).mono ?_
            rintro e w7 ⟨rfl, k7⟩
            have K7 : Keeps Nothing w6 w7 := (Keeps.refl Nothing w6).drew.trans k7 (fun _ h _ => h)
            go_wp2_with fail
            refine hK _ _ K7 ?_
            clear hK K
            repeat (refine wpMix_free (fun K hK => ?_); go_simp; refine hK _ ?_; clear hK K)
            refine wpMix_nil ?_
            go_wp2_with fail
            go_roundw
            case rel => exact ⟨j + 1, L', by go_num, by omega, O6.keepsN K7, N6.keepsN K7, HM'⟩
            case measure => simp [intOf]; omega
          · obtain rfl : j = N := by omega
            have m4 : ¬ (j : Int) < j := by omega
            have hL0 : L.length = 0 := by have h9 := congrArg List.length HM.out; simp only [List.length_map, List.length_drop] at h9; rw [HIN.out] at h9; omega
            go_wp2_with fail
            refine (told29 _).mono ?_
            rintro e w9 ⟨rfl, k9⟩
            have N9 := N2.keepsN k9
            have hu := nt_under N9
            have hst := nt_sent N9
            rw [hL0] at hu
            clear hL0 k9
            go_wp2_with fail
            refine hu.mono ?_
            rintro e w10 ⟨rfl, rfl⟩
            go_wp2_with fail
            refine hst.mono ?_
            rintro e w11 ⟨rfl, rfl⟩
            go_wp2_with fail
            go_ret
            exact ⟨rfl, N9.keep⟩

theorem walk (w : World) {ao : Option Addr} {n c : Nat} {l : List MsgD} (hn : l.length = n) (hL : MsgsAt w ao l) (m : Bool) : Calls Try.prog 5 #[.slice ao n c, .bool m] w (SaysTrue w) := by
  cases m
  · exact walk_few w hn hL
  · exact walk_many w

set_option maxRecDepth 100000 in
theorem lifted (os : Os) (started : os.Started) (H : Type) (enc : TypeId × Value → H) :
    ReturnsInHanded {} Try.checked os 5 .any (Rows.netTakesSpec.pre6 enc Try.prog Try.f5 Rows.netTakesRow.domain false) (Rows.netTakesSpec.post enc Try.prog Try.f5 false true false false) := by
  refine returnsInHanded_of_change (C := Try.checked) own started (by kernel_rfl) Try.func5
    (ChangeSpec.witness6 (enc := enc) (C := Try.checked) false ⟨#[], #[.slice none 0 0, .bool false], []⟩ 8 (by kernel_rfl) (by kernel_rfl) (by kernel_rfl) (by kernel_rfl)) ?_
  intro W base args ds gs before hval0 hW hcnd _
  have hval : ∀ (j : Nat) t v, Try.f5.params[j]? = some t → args[j]? = some v → Value.okWide Try.prog W .any base t v := hval0
  have hW' := hW
  obtain ⟨p, q, hA0, hV, rfl, hfz, hnd⟩ := hW
  have hA : DataW.TrodAll enc Try.prog W 0 (fun _ => true) true Try.f5.params.toList args.toList ds p := hA0
  rw [Try.params5] at hA hval
  obtain ⟨v0, vs0, d0, ds0, p0, q0, hargs, rfl, rfl, h0, r0⟩ := trodAll_cons hA
  obtain ⟨v1, vs1, d1, ds1, p1, q1, rfl, rfl, rfl, h1, r1⟩ := trodAll_cons r0
  obtain ⟨rfl, rfl, rfl⟩ := trodAll_nil r1
  obtain rfl : args = #[v0, v1] := by cases args; simp_all
  obtain ⟨rfl, rfl⟩ := trodVars_none hV
  have k0 := h0
  have lt0 : ∀ x ∈ p0, x.block < W.heap.size := by obtain ⟨m, hm⟩ := k0; exact DataW.trod_lt m _ _ _ hm
  have k1 := h1
  have lt1 : ∀ x ∈ p1, x.block < W.heap.size := by obtain ⟨m, hm⟩ := k1; exact DataW.trod_lt m _ _ _ hm
  obtain ⟨ao0, len0, cap0, rfl⟩ := okWide_slice Try.underlying60 (hval 0 60 v0 rfl rfl)
  obtain ⟨fuel0, hf0⟩ := h0
  obtain ⟨l0, hn0, hL0, hlc0, hcm0⟩ := open_msgs rfl hf0
  obtain ⟨b1, rfl, rfl, rfl⟩ := open_bool Try.underlying4 (hval 1 4 v1 rfl rfl) h1
  clear hA0 hval0
  refine (walk W hn0 hL0 b1).mono fun e W' ⟨he, hk⟩ => ?_
  subst he
  have bel : Below W.heap.size W W' := hk.below (Nat.le_refl _) (fun _ h => h.elim)
  exact ⟨_, rfl, _, _, _, [], _, [], hW', trodAll_mk1 (shut_bool Try.underlying4 _), (trodAll_cons_mk (Below.trod laidOut (by kernel_rfl) (of_decide_eq_true (by kernel_rfl)) k0 bel lt0) (trodAll_cons_mk (Below.trod laidOut (by kernel_rfl) (of_decide_eq_true (by kernel_rfl)) k1 bel lt1) trodAll_mk0)), rfl, bel.frame _, fun h => by cases h⟩

/-- For every input the law returns true, and its arguments read as before. -/
theorem proved : Rows.NetTakesSaid :=
  OpenClaim.holds_of_wide 5 Try.f5 rfl rfl rfl rfl rfl rfl rfl ⟨rfl, rfl, rfl, rfl, rfl⟩ rfl rfl rfl rfl rfl (by kernel_rfl) Try.func5 (by kernel_rfl)
    (of_decide_eq_true (by kernel_rfl)) (by unfold Func.isWrapper; first | (rw [if_pos (by decide +kernel)]; kernel_rfl) | (rw [if_neg (by decide +kernel)]; exact ⟨rfl, rfl⟩))
    (fun os started H enc _ => lifted os started H enc)
#print axioms proved

end Go.Proofs.Yteifmkfkekglpaa.netTakes
