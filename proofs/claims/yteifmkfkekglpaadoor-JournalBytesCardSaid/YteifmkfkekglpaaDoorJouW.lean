/- usufructlaw26.JournalBytes: the walk. -/
import Derived.Test.YteifmkfkekglpaaDoorJouU
import Derived.Test.YteifmkfkekglpaaDoorRowR
import Derived.Test.YteifmkfkekglpaaDoorMixT
import Derived.Deep.Cut
import Derived.Deep.CutBlock
namespace Go.Proofs.YteifmkfkekglpaaDoor
open Go.RowKit

theorem jplace2 (i : Int) {n : Nat} (hn : n ≠ 0) : ∃ (x : Int) (k : Nat), Int.tmod i n = x ∧ x < n ∧ -(n : Int) < x ∧ Int.tmod (x + n) n = (k : Int) ∧ k < n := by
  have p1 := Int.tmod_lt_of_pos i (show (0 : Int) < n by omega)
  have p2 : -(n : Int) < Int.tmod i n := by
    have := Int.tmod_lt_of_pos (-i) (show (0 : Int) < n by omega)
    rw [Int.neg_tmod] at this
    omega
  generalize Int.tmod i n = x at *
  refine ⟨x, ((x + n) % (n : Int)).toNat, rfl, p1, p2, ?_, ?_⟩
  · rw [Int.tmod_eq_emod_of_nonneg (by omega), Int.toNat_of_nonneg (Int.emod_nonneg _ (by omega))]
  · have := Int.emod_lt_of_pos (x + n) (show (0 : Int) < n by omega)
    have := Int.emod_nonneg (x + n) (show (n : Int) ≠ 0 by omega)
    omega
theorem bytes1 {w : World} {g : Nat} {c : UInt8} {t : TypeId} (h : Blk w g #[byteV c] t) : BytesAt w (some ⟨g, 0, none⟩) [c] := by
  refine ⟨fun e => (by cases e), fun a e j x hj => ?_⟩
  obtain rfl := Option.some.inj e
  have : j = 0 := by have := (List.getElem?_eq_some_iff.1 hj).1; simp at this; omega
  subst this
  obtain rfl : c = x := by simpa using hj
  rw [Addr.add_lit]
  exact blk_cell h 0 rfl
theorem jstr_from (s : List UInt8) {i : Nat} (h : i ≤ s.length) (W : World) : (Instr.slice 9 (.string ⟨s.toArray⟩) (some (.int .i64 (i : Int))) none none).run Tryd.prog W = .ok (.string ⟨(s.drop i).toArray⟩) W := by
  rw [run_slice_string_l W 9 ⟨s.toArray⟩ Tryd.underlying9 .i64 i (by omega) (by show (i : Int) ≤ s.length; omega)]
  have e : ((⟨s.toArray⟩ : ByteArray).size) = i + (s.length - i) := by show s.length = _; omega
  rw [Int.toNat_natCast, e, extract_eq, List.take_of_length_le (by rw [List.length_drop]; omega)]
theorem jstr_to (s : List UInt8) {i : Nat} (h : i ≤ s.length) (W : World) : (Instr.slice 9 (.string ⟨s.toArray⟩) none (some (.int .i64 (i : Int))) none).run Tryd.prog W = .ok (.string ⟨(s.take i).toArray⟩) W := by
  rw [run_slice_string_h W 9 ⟨s.toArray⟩ Tryd.underlying9 .i64 i (by omega) (by show (i : Int) ≤ s.length; omega)]
  have := extract_eq s 0 i
  rw [Nat.zero_add, List.drop_zero] at this
  rw [Int.toNat_natCast, this]
theorem pick4 (A R R2 : List UInt8) (v : UInt8) (B : Nat) (h1 : A.length + 1 + R.length ≤ B) (h2 : A.length + 1 + R2.length ≤ B) {j : Nat} (hj : j < 4) : ∃ s : List UInt8,
    (#[.string ⟨A.toArray⟩, .string ((⟨A.toArray⟩ : ByteArray) ++ ⟨#[v]⟩ ++ ⟨R.toArray⟩), .string ((⟨A.toArray⟩ : ByteArray) ++ ⟨R.toArray⟩), .string ((⟨A.toArray⟩ : ByteArray) ++ ⟨#[v]⟩ ++ ⟨R2.toArray⟩)] : Array Value)[j]? = some (.string ⟨s.toArray⟩) ∧ s.length ≤ B := by
  have e1 : (⟨#[v]⟩ : ByteArray) = ⟨[v].toArray⟩ := rfl
  rw [e1, ByteArray.mk_append_mk, ByteArray.mk_append_mk, ByteArray.mk_append_mk, ByteArray.mk_append_mk]
  have : j = 0 ∨ j = 1 ∨ j = 2 ∨ j = 3 := by omega
  rcases this with rfl | rfl | rfl | rfl
  · exact ⟨A, rfl, by omega⟩
  · exact ⟨A ++ [v] ++ R, rfl, by simp only [List.length_append, List.length_singleton]; omega⟩
  · exact ⟨A ++ R, rfl, by simp only [List.length_append]; omega⟩
  · exact ⟨A ++ [v] ++ R2, rfl, by simp only [List.length_append, List.length_singleton]; omega⟩
theorem rowR_blk {w : World} {g : Nat} {vs : List Value} {C : Array Value} {e : TypeId} (h : Blk w g C e) (hC : C = vs.toArray) (h1 : ∀ v ∈ vs, v.oneCell' = true) (hm : vs.length ≤ 1000) : RowR w e (some ⟨g, 0, none⟩) vs.length vs :=
  ⟨Nat.le_refl _, by unfold maxLen; omega, h1, .inr ⟨g, 0, C, rfl, h, by rw [hC]; simp, fun j v hj => by rw [hC, Nat.zero_add]; simpa using hj⟩⟩
def sv (l : List UInt8) : Value := .string ⟨l.toArray⟩
theorem info9 : (Tryd.prog.info? 9).map (fun i => (i.zero, i.size, i.bytes)) = some (some (.string ⟨#[]⟩), 1, 16) := by kernel_rfl

attribute [local go_sem ↓] exec_store_ent exec_mid_ent
/-- The bytes that Frame tells, and its error's number. -/
def frB (x : EntT) : List UInt8 := if frameP x then frameE x else []
def frC (x : EntT) : Nat := if frameP x then 0 else 1
theorem frame_one (w : World) (x : EntT) (hx : x.Fit) (hd : x.data.length ≤ 5000) : Calls Tryd.prog 8 #[.agg x.cells.toArray] w fun e w' =>
    ∃ a c ev, e = .returned (.tuple #[.slice a (frB x).length c, ev]) ∧ BytesAt w' a (frB x) ∧ IsErr w.heap.size w' ev (frC x) 0 ∧ Keeps Nothing w w' := by
  refine (frame_any w x hx hd).mono fun e w' hp => ?_
  unfold frB frC
  by_cases hP : frameP x
  · obtain ⟨a, c, he, ho, hk, _⟩ := hp.1 hP
    rw [if_pos hP, if_pos hP]
    exact ⟨a, c, _, he, own8_at ho, isErr_nil _ _, hk⟩
  · obtain ⟨ev, he, hev, _, hk⟩ := hp.2 hP
    rw [if_neg hP, if_neg hP]
    exact ⟨none, 0, ev, he, bytesAt_nil none, hev, hk⟩
theorem rframe_one (w : World) (x : EntT) (hx : x.Fit) (hd : x.data.length ≤ 5000) : Calls Tryd.prog 9 #[.agg x.cells.toArray] w fun e w' =>
    e = .returned (.tuple #[.string ⟨(frB x).toArray⟩, .int .i64 (frC x : Nat)]) ∧ Keeps Nothing w w' := by
  refine (rframe_any w x hx hd).mono fun e w' hp => ?_
  unfold frB frC
  by_cases hP : frameP x
  · rw [if_pos hP, if_pos hP]
    exact hp.1 hP
  · rw [if_neg hP, if_neg hP]
    exact hp.2 hP
theorem run_bytes2 (w : World) (s : ByteArray) : ∃ cap w', (convert 9 25 (.string s)).run Tryd.prog w = .ok (.slice (some ⟨w.heap.size, 0, none⟩) s.size cap) w' ∧
    BytesAt w' (some ⟨w.heap.size, 0, none⟩) (bytesOf s) ∧ Keeps Nothing w w' ∧ w'.heap.size = w.heap.size + 1 ∧ s.size ≤ cap := by
  obtain ⟨c, w', h1, h2, h3, h4⟩ := run_bytes w s
  have h5 := run_bytes_of_string (P := Tryd.prog) w 9 25 5 s Tryd.underlying9 Tryd.underlying25 Tryd.underlying5
  rw [h1] at h5
  injection h5 with h5 _
  injection h5 with _ _ h5
  exact ⟨c, w', h1, h2, h3, h4, by rw [h5]; exact grownCap_ge _ _ _ _⟩

set_option maxRecDepth 100000 in
set_option maxHeartbeats 8000000 in
theorem jbytes_any {w : World} (hg : ErrVar w) {x : EntT} (hx : x.Fit) {ao0 ab : Option Addr} {n c0 nb cb : Nat} {l : List EntT} (hn : l.length = n) (hX : EntsAt w ao0 l) {b : List UInt8} (hnb : b.length = nb) (hB : BytesAt w ab b)
    (at' : Int) (vz : Int) (v : UInt8) (hv0 : Value.int .u8 vz = byteV v) (how : Int) :
    Calls Tryd.prog 3 #[.agg x.cells.toArray, .slice ao0 n c0, .slice ab nb cb, .int .i64 at', .int .u8 vz, .int .i64 how] w fun e w' => e = .returned (.bool true) ∧ Keeps Nothing w w' := by
  obtain ⟨z1, z2, z3⟩ := x
  have hv := shut hv0
  have HN := shut hn
  have HNB := shut hnb
  clear hn hv0 hnb
  show Calls _ _ #[.agg #[.int .i64 z1, .int .i64 z2, .string ⟨z3.toArray⟩], .slice ao0 n c0, .slice ab nb cb, .int .i64 at', .int .u8 vz, .int .i64 how] _ _
  have ka : Keeps Nothing w (w.alloc (.cells #[.int .i64 z1, .int .i64 z2, .string ⟨z3.toArray⟩] 23)) := (Keeps.refl Nothing w).alloc _
  have BE := blk_new w #[.int .i64 z1, .int .i64 z2, .string ⟨z3.toArray⟩] 23
  have hX0 := hX.keepsN ka
  have hB0 := hB.keeps ka (fun _ _ h => h)
  have hg0 := hg.keeps ka
  go_enter Tryd.func3, Tryd.ntmps3
  go_upto_region 1 with fail
  obtain ⟨wa, hwa⟩ : ∃ wa, wa = w.alloc (.cells #[.int .i64 z1, .int .i64 z2, .string ⟨z3.toArray⟩] 23) := ⟨_, rfl⟩
  rw [← hwa] at ka BE hX0 hg0 hB0 ⊢
  have hgb : w.heap.size < wa.heap.size := by rw [hwa, World.size_alloc]; omega
  clear hwa
  obtain ⟨gb, hgb2⟩ : ∃ gb, gb = w.heap.size := ⟨_, rfl⟩
  rw [← hgb2] at BE hgb ⊢
  clear hgb2
  have cd := blk_cell BE 2 rfl
  have hsz : (⟨z3.toArray⟩ : ByteArray).size = z3.length := rfl
  by_cases hbig : 500 < z3.length ∨ 2000 < nb
  · have hb : (500 : Int) < z3.length ∨ (2000 : Int) < nb := by omega
    go_wp2_with fail
    all_goals
      refine (told26_any hg0).mono ?_
      rintro e w2 ⟨rfl, k2⟩
      go_wp2_with fail
      go_ret
      exact ⟨rfl, ka.trans k2 (fun _ h _ => h)⟩
  have hb1 : ¬ (2000 : Int) < nb := by omega
  have hb : ¬ (500 : Int) < z3.length := by omega
  have hb3 : nb ≤ 2000 ∧ z3.length ≤ 500 := by omega
  obtain ⟨x1, x2⟩ := jblk_mid BE (n := 3) rfl
  have hfr := frame_one wa ⟨z1, z2, z3⟩ hx (by show z3.length ≤ 5000; omega)
  have hfr2 : Calls Tryd.prog 8 #[.agg #[.int .i64 z1, .int .i64 z2, .string ⟨z3.toArray⟩]] wa _ := hfr
  have hrf := fun W => rframe_one W ⟨z1, z2, z3⟩ hx (by show z3.length ≤ 5000; omega)
  clear hfr
  go_wp2_with fail
  clear cd hb1 hb
  refine hfr2.mono ?_
  rintro e w1 ⟨a1, c1, ev, rfl, hBF, hev, k1⟩
  clear hfr2 x1 x2
  generalize frB ⟨z1, z2, z3⟩ = FE at *
  generalize frC ⟨z1, z2, z3⟩ = FC at *
  have hrf2 : Calls Tryd.prog 9 #[.agg #[.int .i64 z1, .int .i64 z2, .string ⟨z3.toArray⟩]] w1 _ := hrf w1
  obtain ⟨x1, x2⟩ := jblk_mid (k1.blk BE (fun h => h)) (n := 3) rfl
  clear hrf
  go_wp2_with fail
  refine hrf2.mono ?_
  rintro e w2 ⟨rfl, k2⟩
  have hev2 := hev.keeps k2 (fun _ h => h.elim)
  have K2 := k1.trans k2 (fun _ h _ => h)
  have s1 := run_str w2 c1 FE rfl (hBF.keeps k2 (fun _ _ h => h))
  have hbq : (FE == FE) = true := beq_self_eq_true _
  clear hrf2 x1 x2 k1 k2 hBF hev
  go_wp2_with fail
  refine (is_any hev2 (FC : Nat) 0).mono ?_
  rintro e w3 ⟨rfl, n3, rfl⟩
  have K3 := K2.drewN n3
  clear K2 s1 hbq hev2
  generalize w2.drewN n3 = w4 at *
  skip
  · skip
    go_wp2_with fail
    go_loopw [17, 18, 19, 20] (fun s17 s18 s19 s20 wx => ∃ (i : Nat) (S : List UInt8), s17 = .string ⟨S.toArray⟩ ∧ s18 = .int .i64 i ∧ i ≤ n ∧ i ≤ 8 ∧ S.length ≤ 142 * i ∧ Keeps Nothing wa wx) (fun _ s18 _ _ _ => 8 - (intOf s18).toNat)
    case atStart => exact ⟨0, [], rfl, rfl, Nat.zero_le _, by omega, Nat.zero_le _, K3⟩
    case round =>
      clear K3
      obtain ⟨i, S, rfl, rfl, hin, hi8, hSl, KW⟩ := hrel
      by_cases hlt : i < n ∧ i < 8
      · obtain ⟨x, hx'⟩ : ∃ x, l[i]? = some x := ⟨_, List.getElem?_eq_getElem (by rw [HN.out]; exact hlt.1)⟩
        obtain ⟨gl, off, rfl⟩ := hX0.head (by rw [HN.out]; omega)
        obtain ⟨hfit, c2d, m1d, m2d⟩ := ents_one (hX0.keepsN KW) hx'
        have i1 : (i : Int) < n := by omega
        have i2 : (i : Int) < 8 := by omega
        have i3 : (0 : Int) ≤ i := by omega
        clear hx'
        by_cases hbig2 : 100 < x.data.length
        · have hb : (100 : Int) < x.data.length := by omega
          have hsz : (⟨x.data.toArray⟩ : ByteArray).size = x.data.length := rfl
          go_wp2_with fail
          refine (told26_any (hg0.keeps KW)).mono ?_
          rintro e w19 ⟨rfl, k19⟩
          go_wp2_with fail
          go_ret
          exact ⟨rfl, (ka.trans KW (fun _ h _ => h)).trans k19 (fun _ h _ => h)⟩
        · have hb : ¬ (100 : Int) < x.data.length := by omega
          have hsz : (⟨x.data.toArray⟩ : ByteArray).size = x.data.length := rfl
          have hfr := rframe_any wr x hfit (by omega)
          go_wp2_with fail
          refine hfr.mono ?_
          rintro e w13 hp3
          clear hfr
          by_cases hP : frameP x
          · obtain ⟨rfl, k3⟩ := hp3.1 hP
            have hfl := good_len ⟨hfit, hP, by omega⟩ 100 (by omega) (by omega)
            have hcat : ¬ 9223372036854775807 < S.length + (frameE x).length := by omega
            have hs1 : (⟨S.toArray⟩ : ByteArray).size = S.length := rfl
            have hs2 : (⟨(frameE x).toArray⟩ : ByteArray).size = (frameE x).length := rfl
            clear hp3 c2d m1d m2d
            go_wp2_with fail
            go_roundw
            case rel => exact ⟨i + 1, S ++ frameE x, by rw [ByteArray.mk_append_mk], by go_num, by omega, by omega, by rw [List.length_append]; omega, KW.trans k3 (fun _ h _ => h)⟩
            case measure => simp [intOf]; omega
          · obtain ⟨rfl, k3⟩ := hp3.2 hP
            have hcat : ¬ 9223372036854775807 < S.length := by omega
            have hs1 : (⟨S.toArray⟩ : ByteArray).size = S.length := rfl
            clear hp3 c2d m1d m2d
            go_wp2_with fail
            go_roundw
            case rel => exact ⟨i + 1, S, by rw [show (⟨#[]⟩ : ByteArray) = ⟨([] : List UInt8).toArray⟩ from rfl, ByteArray.mk_append_mk, List.append_nil], by go_num, by omega, by omega, by omega, KW.trans k3 (fun _ h _ => h)⟩
            case measure => simp [intOf]; omega
      · have hor : ¬ (i : Int) < n ∨ ¬ (i : Int) < 8 := by omega
        go_upto_region 9 with fail
        go_cut [65] from 58 to 65 (fun s65 wx => s65 = .bool false ∧ wx = wr)
        case first =>
          go_wp2_with fail
          all_goals
            go_meet
            exact ⟨by first | rfl | (congr 1; rw [decide_eq_false_iff_not]; omega), rfl⟩
        obtain ⟨rfl, hwc⟩ := hcut
        rw [hwc]
        clear hwc
        have s1 := run_str wr cb b HNB.out (hB0.keeps KW (fun _ _ h => h))
        obtain ⟨M, hM⟩ : ∃ M, M = S := ⟨_, rfl⟩
        rw [← hM] at hSl ⊢
        clear hM
        obtain ⟨N, hN⟩ : ∃ N, M.length = N := ⟨_, rfl⟩
        have hsM : (⟨M.toArray⟩ : ByteArray).size = N := hN
        have hsB : (⟨b.toArray⟩ : ByteArray).size = nb := HNB.out
        have hl5 : N ≤ 1200 := by omega
        have hcat : ¬ 9223372036854775807 < N + nb := by omega
        have HSN := shut hN
        clear hSl hN
        have hbl : b.length ≤ 2000 := by rw [HNB.out]; omega
        have hMl : M.length ≤ 1200 := by rw [HSN.out]; omega
        · clear hor hlt
          go_upto_region 16 with fail
          rw [ByteArray.mk_append_mk]
          have BA := blk_new wr #[.string ⟨b.toArray⟩, .string ⟨M.toArray⟩, .string ⟨(M ++ b).toArray⟩] 9
          have K8 := KW.trans ((Keeps.refl Nothing wr).alloc (.cells #[.string ⟨b.toArray⟩, .string ⟨M.toArray⟩, .string ⟨(M ++ b).toArray⟩] 9)) (fun _ h _ => h)
          have hgA : wa.heap.size ≤ wr.heap.size := KW.size
          have RA := rowR_blk (vs := [sv b, sv M, sv (M ++ b)]) BA rfl (by intro u hu; simp only [List.mem_cons, List.not_mem_nil, or_false] at hu; rcases hu with rfl | rfl | rfl <;> rfl) (by simp)
          clear KW s1 BA hcat
          generalize wr.alloc (.cells #[.string ⟨b.toArray⟩, .string ⟨M.toArray⟩, .string ⟨(M ++ b).toArray⟩] 9) = w8 at *
          generalize wr.heap.size = gA at *
          by_cases hz : N = 0
          · have n3 : ¬ (0 : Int) < N := by omega
            have hLL : ∀ l ∈ ([b, M, M ++ b] : List (List UInt8)), l.length ≤ 5000 := by
              intro l hl'
              simp only [List.mem_cons, List.not_mem_nil, or_false] at hl'
              rcases hl' with rfl | rfl | rfl
              · omega
              · omega
              · rw [List.length_append]; omega
            have HR' : RowR w8 9 (some ⟨gA, 0, none⟩) 3 (([b, M, M ++ b] : List (List UInt8)).map sv) := RA
            clear RA
            have K9 := K8
            obtain ⟨w9, hw9⟩ : ∃ W, w8 = W := ⟨_, rfl⟩
            rw [hw9] at HR' K9 ⊢
            clear hw9
            obtain ⟨aL, haL⟩ : ∃ a : Option Addr, some ⟨gA, 0, none⟩ = a := ⟨_, rfl⟩
            rw [haL] at HR' ⊢
            clear haL
            obtain ⟨LL, hLe⟩ : ∃ LL : List (List UInt8), LL = [b, M, M ++ b] := ⟨_, rfl⟩
            have hLn : LL.length = 3 := by rw [hLe]; rfl
            rw [← hLe] at hLL HR'
            clear hLe
            have HLN := shut hLn
            clear hLn
            go_wp2_with fail
            go_loopw [23, 24, 25, 26, 27] (fun s23 s24 s25 s26 s27 wx => ∃ i : Nat, s23 = .int .i64 i ∧ i ≤ 3 ∧ Keeps Nothing w9 wx) (fun s23 _ _ _ _ _ => 3 - (intOf s23).toNat)
            case atStart => exact ⟨0, rfl, by omega, Keeps.refl _ _⟩
            case round =>
              obtain ⟨i, rfl, hi, KR⟩ := hrel
              by_cases hlt : i < 3
              · have m1 : (i : Int) < 3 := by omega
                obtain ⟨l, hl⟩ : ∃ l, LL[i]? = some l := ⟨LL[i]'(by rw [HLN.out]; exact hlt), List.getElem?_eq_getElem (by rw [HLN.out]; exact hlt)⟩
                have hl5k := hLL l (List.mem_of_getElem? hl)
                obtain ⟨gX, oX, rfl⟩ := HR'.head (by intro h; have := congrArg List.length h; rw [List.length_map, HLN.out] at this; simp at this)
                have hcell : (LL.map sv)[i]? = some (.string ⟨l.toArray⟩) := by rw [List.getElem?_map, hl]; rfl
                have cX := (HR'.keepsN KR).cell hcell
                obtain ⟨cap2, w2', hrun, hat, K2, hs2, hcc⟩ := run_bytes2 wr ⟨l.toArray⟩
                have hbe : bytesOf ⟨l.toArray⟩ = l := by simp [bytesOf]
                rw [hbe] at hat
                have hsz : (⟨l.toArray⟩ : ByteArray).size = l.length := by show l.toArray.size = _; simp
                rw [hsz] at hrun hcc
                have hscn := scan_any (c := cap2) (n := l.length) rfl hat (fun a ha => by obtain rfl := Option.some.inj ha; rfl) hl5k hcc
                have KR2 := KR.trans K2 (fun _ h _ => h)
                clear hs2 hat hsz hbe hl hcc
                generalize wr.heap.size = gb at *
                obtain ⟨nl, hnl⟩ : ∃ n, l.length = n := ⟨_, rfl⟩
                rw [hnl] at hrun hscn
                have hscn2 : Calls Tryd.prog 11 #[.slice (some ⟨gb, 0, none⟩) nl cap2] w2' (ScanPost w2' l) := hscn
                clear hscn
                have HNL := shut hnl
                clear hnl
                go_wp2_with fail
                refine hscn2.mono ?_
                rintro e wg ⟨og, cg, rfl, Og, kg, -⟩
                have KG := KR2.trans kg (fun _ h _ => h)
                have cX2 := (HR'.keepsN KG).cell hcell
                have hrs := rscan_any wg l hl5k
                clear hscn2 hrun cX kg KR2 KR
                go_wp2_with fail
                refine hrs.mono ?_
                rintro e wh ⟨oh, ch, rfl, Oh, kh, -⟩
                have KH := KG.trans kh (fun _ h _ => h)
                have Og2 := OwnC.keepsN Og kh
                have hbd := scanE_bd _ l (Nat.le_refl _)
                have hre := rents_any wh (scanE l).1 (by omega) Og2 Oh
                clear hrs cX2 kh KG Og
                go_wp2_with fail
                refine hre.mono ?_
                rintro e ws ⟨rfl, ks⟩
                have KT := KH.trans ks (fun _ h _ => h)
                clear hre ks KH
                go_wp2_with fail
                go_roundw
                case rel => exact ⟨i + 1, by go_num, by omega, KT⟩
                case measure => simp [intOf]; omega
              · obtain rfl : i = 3 := by omega
                have K10 := K9.trans KR (fun _ h _ => h)
                go_wp2_with fail
                refine (told26_any (hg0.keeps K10)).mono ?_
                rintro e w19 ⟨rfl, k19⟩
                go_wp2_with fail
                go_ret
                exact ⟨rfl, (ka.trans K10 (fun _ h _ => h)).trans k19 (fun _ h _ => h)⟩
          · have n2 : (0 : Int) < N := by omega
            obtain ⟨x, I, hx, hx1, hx2, hI, hI1⟩ := jplace2 at' (n := N) (by omega)
            obtain ⟨y, j, hy1, hy2, hy3, hj, hj1⟩ := jplace2 how (n := 4) (by omega)
            have hy1' : Int.tmod how 4 = y := hy1
            have hj' : Int.tmod (y + 4) 4 = (j : Int) := hj
            have n3 : ¬ (N : Int) = 0 := by omega
            have hIM : I < M.length := by rw [HSN.out]; exact hI1
            clear hy1 hj
            go_upto_region 18 with fail
            go_cut [21] from 97 to 151 (fun s21 wx => ∃ (aL : Option Addr) (cL : Nat) (s5 : List UInt8), s21 = .slice aL 4 cL ∧ RowR wx 9 aL cL (([b, M, M ++ b, s5] : List (List UInt8)).map sv) ∧ Keeps Nothing wa wx ∧ s5.length ≤ 4000)
            case first =>
              have e1 := jstr_to M (i := I) (by omega)
              obtain ⟨J, hJ⟩ : ∃ J, J = I + 1 := ⟨_, rfl⟩
              have e2 := jstr_from M (i := J) (by omega)
              have w1' : IntKind.i64.wrap ((I : Int) + 1) = (J : Int) := by rw [IntKind.wrap_i64]; omega
              obtain ⟨nA, hnA⟩ : ∃ n, (M.take I).length = n := ⟨_, rfl⟩
              obtain ⟨nR, hnR⟩ : ∃ n, (M.drop J).length = n := ⟨_, rfl⟩
              have hnA2 : nA ≤ 3500 := by rw [← hnA, List.length_take]; omega
              have hnR2 : nR ≤ 3500 := by rw [← hnR, List.length_drop]; omega
              have e3 := jstr_from M (i := I) (by omega)
              obtain ⟨nS, hnS⟩ : ∃ n, (M.drop I).length = n := ⟨_, rfl⟩
              have hnS2 : nS ≤ 3500 := by rw [← hnS, List.length_drop]; omega
              have hsum2 : (M.take I).length + (M.drop I).length ≤ 3500 := by rw [List.length_take, List.length_drop]; omega
              have hsum1 : (M.take I).length + (M.drop J).length ≤ 3500 := by rw [List.length_take, List.length_drop]; omega
              generalize M.drop I = R2 at *
              have l4 : ¬ 9223372036854775807 < nA + 1 + nS := by omega
              generalize M.take I = A at *
              generalize M.drop J = R at *
              clear hJ
              rw [hnA, hnR] at hsum1
              rw [hnA, hnS] at hsum2
              have l1 : ¬ 9223372036854775807 < nA + nR := by omega
              have l2 : ¬ 9223372036854775807 < nA + 1 := by omega
              have l3 : ¬ 9223372036854775807 < nA + 1 + nR := by omega
              have w2' : IntKind.i64.wrap (y + 4) = y + 4 := by rw [IntKind.wrap_i64]; omega
              refine wp_region_mixT (fun _ => True) 44 (.take 0 (.take 1 (.take 2 (.take 3 (.take 4 (.take 5 (.take 6 (.take 7 (.take 11 (.take 12 (.take 13 (.take 14 (.take 16 (.take 17 (.take 18 (.take 19 (.take 20 (.take 21 (.take 22 (.take 23 (.take 24 (.take 25 (.take 26 (.take 27 (.take 31 (.take 32 (.take 33 (.take 36 (.take 37 (.take 38 (.take 39 (.two 8 28 (.two 9 28 (.take 10 (.take 15 (.one 28 (.one 29 (.take 30 (.take 34 (.one 35 (.take 40 (.one 41 (.one 42 (.one 43 (.one 44 .done)))))))))))) (.two 9 29 (.take 10 (.take 15 (.one 29 (.take 30 (.take 34 (.one 35 (.take 40 (.one 41 (.one 42 (.one 43 (.one 44 .done))))))))))) (.take 30 (.take 34 (.one 9 (.take 10 (.take 15 (.one 35 (.take 40 (.one 41 (.one 42 (.one 43 (.one 44 .done))))))))))))) (.two 8 29 (.two 9 29 (.take 10 (.take 15 (.one 29 (.take 30 (.take 34 (.one 35 (.take 40 (.one 41 (.one 42 (.one 43 (.one 44 .done))))))))))) (.take 30 (.take 34 (.one 9 (.take 10 (.take 15 (.one 35 (.take 40 (.one 41 (.one 42 (.one 43 (.one 44 .done)))))))))))) (.take 30 (.take 34 (.one 8 (.one 9 (.take 10 (.take 15 (.one 35 (.take 40 (.one 41 (.one 42 (.one 43 (.one 44 .done))))))))))))))))))))))))))))))))))))))))))))) (by kernel_rfl) (by kernel_rfl) trivial ?_
              simp only [itemsT, PlanT.map, List.getD_cons_zero, List.getD_cons_succ, Nat.reduceBEq]
              have KW : Keeps Nothing w8 w8.drew := (Keeps.refl _ _).drew
              generalize w8.drew = wW at *
              repeat (refine wpMixT_free (fun K hK => ?_); go_simp; refine hK _ ?_; clear hK K)
              refine wpMixT_two (fun K hK => ?_) (fun K hK => ?_)
              · go_wp2_with fail
                have ka := (Keeps.refl Nothing wW).alloc (.cells #[.int .u8 vz] 5)
                have K' := KW.trans ka (fun _ h _ => h)
                have B8 := blk_new wW #[.int .u8 vz] 5
                refine hK _ _ (.inr trivial) ?_
                clear hK K
                try replace B28 := blk_alloc B28 (.cells #[.int .u8 vz] 5)
                clear KW ka
                generalize wW.alloc (.cells #[.int .u8 vz] 5) = w' at *
                generalize wW.heap.size = g8 at *
                clear wW
                rename World => wW
                have KW := K'
                clear K'
                refine wpMixT_two (fun K hK => ?_) (fun K hK => ?_)
                · have s9 := run_str (l := 1) wW 1 [v] rfl (bytes1 (by rw [← hv.out]; exact B8))
                  go_wp2_with fail
                  refine hK _ _ (.inr trivial) ?_
                  clear hK K s9
                  repeat (refine wpMixT_free (fun K hK => ?_); go_simp; refine hK _ ?_; clear hK K)
                  refine wpMixT_one (fun K hK => ?_)
                  go_wp2_with fail
                  have ka := (Keeps.refl Nothing wW).alloc (.cells #[.int .u8 vz] 5)
                  have K' := KW.trans ka (fun _ h _ => h)
                  have B28 := blk_new wW #[.int .u8 vz] 5
                  refine hK _ _ (.inr trivial) ?_
                  clear hK K
                  try replace B8 := blk_alloc B8 (.cells #[.int .u8 vz] 5)
                  clear KW ka
                  generalize wW.alloc (.cells #[.int .u8 vz] 5) = w' at *
                  generalize wW.heap.size = g28 at *
                  clear wW
                  rename World => wW
                  have KW := K'
                  clear K'
                  refine wpMixT_one (fun K hK => ?_)
                  have s9 := run_str (l := 1) wW 1 [v] rfl (bytes1 (by rw [← hv.out]; exact B28))
                  go_wp2_with fail
                  refine hK _ _ (.inr trivial) ?_
                  clear hK K s9
                  repeat (refine wpMixT_free (fun K hK => ?_); go_simp; refine hK _ ?_; clear hK K)
                  refine wpMixT_one (fun K hK => ?_)
                  go_wp2_with fail
                  have ka := (Keeps.refl Nothing wW).alloc (.cells #[.string ⟨A.toArray⟩, .string ((⟨A.toArray⟩ : ByteArray) ++ ⟨#[v]⟩ ++ ⟨R.toArray⟩), .string ((⟨A.toArray⟩ : ByteArray) ++ ⟨R.toArray⟩), .string ((⟨A.toArray⟩ : ByteArray) ++ ⟨#[v]⟩ ++ ⟨R2.toArray⟩)] 9)
                  have K' := KW.trans ka (fun _ h _ => h)
                  have BQ := blk_new wW #[.string ⟨A.toArray⟩, .string ((⟨A.toArray⟩ : ByteArray) ++ ⟨#[v]⟩ ++ ⟨R.toArray⟩), .string ((⟨A.toArray⟩ : ByteArray) ++ ⟨R.toArray⟩), .string ((⟨A.toArray⟩ : ByteArray) ++ ⟨#[v]⟩ ++ ⟨R2.toArray⟩)] 9
                  refine hK _ _ (.inr trivial) ?_
                  clear hK K
                  clear KW ka
                  generalize wW.alloc (.cells #[.string ⟨A.toArray⟩, .string ((⟨A.toArray⟩ : ByteArray) ++ ⟨#[v]⟩ ++ ⟨R.toArray⟩), .string ((⟨A.toArray⟩ : ByteArray) ++ ⟨R.toArray⟩), .string ((⟨A.toArray⟩ : ByteArray) ++ ⟨#[v]⟩ ++ ⟨R2.toArray⟩)] 9) = wq at *
                  generalize wW.heap.size = gq at *
                  obtain ⟨s5, hs5, hs5l⟩ := pick4 A R R2 v 4000 (by omega) (by omega) hj1
                  have cQ := blk_cell BQ j hs5
                  have hj4 : (j : Int) < 4 := by omega
                  repeat (refine wpMixT_free (fun K hK => ?_); go_simp; refine hK _ ?_; clear hK K)
                  refine wpMixT_one (fun K hK => ?_)
                  go_wp2_with fail
                  refine hK _ _ (.inr trivial) ?_
                  clear hK K BQ cQ hs5
                  refine wpMixT_one (fun K hK => ?_)
                  go_wp2_with fail
                  have ka := (Keeps.refl Nothing wq).alloc (.cells #[.string ⟨s5.toArray⟩] 9)
                  have KX := K'.trans ka (fun _ h _ => h)
                  have BX := blk_new wq #[.string ⟨s5.toArray⟩] 9
                  refine hK _ _ (.inr trivial) ?_
                  clear hK K K' ka
                  generalize wq.alloc (.cells #[.string ⟨s5.toArray⟩] 9) = wx at *
                  generalize wq.heap.size = gx at *
                  have RX := RA.keepsN KX
                  obtain ⟨i9, hi9, hz90, hz91, hz92⟩ := jinfo3 info9
                  have hsrc : Src Tryd.prog 1 34 (.slice (some ⟨gx, 0, none⟩) 1 1) 1 [.string ⟨s5.toArray⟩] wx := Src.ofSlice _ Tryd.underlying34 ⟨gx, 0, none⟩ 1 1 _ rfl (fun t u hu => by
                    rw [ad_mid, Nat.zero_add]
                    exact blk_cell BX t (by simpa using hu)) (by intro u hu; simp at hu; subst hu; rfl)
                  refine wpMixT_one (fun K hK => ?_)
                  refine wpList_append_row _ rfl (.tmp 108) (.tmp 150) 34 34 rfl 9 i9 (.string ⟨#[]⟩) 16 Tryd.underlying34 hi9 hz90 hz91 hz92 rfl (some ⟨gA, 0, none⟩) 3 3 _ rfl rfl RX _ 1 _ rfl hsrc (by unfold maxLen; omega) (by omega) ?_
                  intro aL cL w9 HR _ k9 _
                  have K9 : Keeps Nothing wa w9 := (K8.trans KX (fun _ h _ => h)).trans k9 (fun i hi hlt => by have := Option.some.inj hi; simp only at this; omega)
                  clear k9 RX hsrc BX KX
                  go_wp2_with fail
                  refine hK _ _ (.inr trivial) ?_
                  clear hK K
                  refine wpMixT_one (fun K hK => ?_)
                  go_wp2_with fail
                  refine hK _ _ (.inl trivial) ?_
                  clear hK K
                  refine wpMixT_done ?_
                  go_wp2_with fail
                  go_meet
                  exact ⟨aL, cL, s5, rfl, HR, K9, hs5l⟩
                · go_wp2_with fail
                  have ka := (Keeps.refl Nothing wW).alloc (.cells #[.int .u8 vz] 5)
                  have K' := KW.trans ka (fun _ h _ => h)
                  have B28 := blk_new wW #[.int .u8 vz] 5
                  refine hK _ _ (.inr trivial) ?_
                  clear hK K
                  try replace B8 := blk_alloc B8 (.cells #[.int .u8 vz] 5)
                  clear KW ka
                  generalize wW.alloc (.cells #[.int .u8 vz] 5) = w' at *
                  generalize wW.heap.size = g28 at *
                  clear wW
                  rename World => wW
                  have KW := K'
                  clear K'
                  refine wpMixT_two (fun K hK => ?_) (fun K hK => ?_)
                  · have s9 := run_str (l := 1) wW 1 [v] rfl (bytes1 (by rw [← hv.out]; exact B8))
                    go_wp2_with fail
                    refine hK _ _ (.inr trivial) ?_
                    clear hK K s9
                    repeat (refine wpMixT_free (fun K hK => ?_); go_simp; refine hK _ ?_; clear hK K)
                    refine wpMixT_one (fun K hK => ?_)
                    have s9 := run_str (l := 1) wW 1 [v] rfl (bytes1 (by rw [← hv.out]; exact B28))
                    go_wp2_with fail
                    refine hK _ _ (.inr trivial) ?_
                    clear hK K s9
                    repeat (refine wpMixT_free (fun K hK => ?_); go_simp; refine hK _ ?_; clear hK K)
                    refine wpMixT_one (fun K hK => ?_)
                    go_wp2_with fail
                    have ka := (Keeps.refl Nothing wW).alloc (.cells #[.string ⟨A.toArray⟩, .string ((⟨A.toArray⟩ : ByteArray) ++ ⟨#[v]⟩ ++ ⟨R.toArray⟩), .string ((⟨A.toArray⟩ : ByteArray) ++ ⟨R.toArray⟩), .string ((⟨A.toArray⟩ : ByteArray) ++ ⟨#[v]⟩ ++ ⟨R2.toArray⟩)] 9)
                    have K' := KW.trans ka (fun _ h _ => h)
                    have BQ := blk_new wW #[.string ⟨A.toArray⟩, .string ((⟨A.toArray⟩ : ByteArray) ++ ⟨#[v]⟩ ++ ⟨R.toArray⟩), .string ((⟨A.toArray⟩ : ByteArray) ++ ⟨R.toArray⟩), .string ((⟨A.toArray⟩ : ByteArray) ++ ⟨#[v]⟩ ++ ⟨R2.toArray⟩)] 9
                    refine hK _ _ (.inr trivial) ?_
                    clear hK K
                    clear KW ka
                    generalize wW.alloc (.cells #[.string ⟨A.toArray⟩, .string ((⟨A.toArray⟩ : ByteArray) ++ ⟨#[v]⟩ ++ ⟨R.toArray⟩), .string ((⟨A.toArray⟩ : ByteArray) ++ ⟨R.toArray⟩), .string ((⟨A.toArray⟩ : ByteArray) ++ ⟨#[v]⟩ ++ ⟨R2.toArray⟩)] 9) = wq at *
                    generalize wW.heap.size = gq at *
                    obtain ⟨s5, hs5, hs5l⟩ := pick4 A R R2 v 4000 (by omega) (by omega) hj1
                    have cQ := blk_cell BQ j hs5
                    have hj4 : (j : Int) < 4 := by omega
                    repeat (refine wpMixT_free (fun K hK => ?_); go_simp; refine hK _ ?_; clear hK K)
                    refine wpMixT_one (fun K hK => ?_)
                    go_wp2_with fail
                    refine hK _ _ (.inr trivial) ?_
                    clear hK K BQ cQ hs5
                    refine wpMixT_one (fun K hK => ?_)
                    go_wp2_with fail
                    have ka := (Keeps.refl Nothing wq).alloc (.cells #[.string ⟨s5.toArray⟩] 9)
                    have KX := K'.trans ka (fun _ h _ => h)
                    have BX := blk_new wq #[.string ⟨s5.toArray⟩] 9
                    refine hK _ _ (.inr trivial) ?_
                    clear hK K K' ka
                    generalize wq.alloc (.cells #[.string ⟨s5.toArray⟩] 9) = wx at *
                    generalize wq.heap.size = gx at *
                    have RX := RA.keepsN KX
                    obtain ⟨i9, hi9, hz90, hz91, hz92⟩ := jinfo3 info9
                    have hsrc : Src Tryd.prog 1 34 (.slice (some ⟨gx, 0, none⟩) 1 1) 1 [.string ⟨s5.toArray⟩] wx := Src.ofSlice _ Tryd.underlying34 ⟨gx, 0, none⟩ 1 1 _ rfl (fun t u hu => by
                      rw [ad_mid, Nat.zero_add]
                      exact blk_cell BX t (by simpa using hu)) (by intro u hu; simp at hu; subst hu; rfl)
                    refine wpMixT_one (fun K hK => ?_)
                    refine wpList_append_row _ rfl (.tmp 108) (.tmp 150) 34 34 rfl 9 i9 (.string ⟨#[]⟩) 16 Tryd.underlying34 hi9 hz90 hz91 hz92 rfl (some ⟨gA, 0, none⟩) 3 3 _ rfl rfl RX _ 1 _ rfl hsrc (by unfold maxLen; omega) (by omega) ?_
                    intro aL cL w9 HR _ k9 _
                    have K9 : Keeps Nothing wa w9 := (K8.trans KX (fun _ h _ => h)).trans k9 (fun i hi hlt => by have := Option.some.inj hi; simp only at this; omega)
                    clear k9 RX hsrc BX KX
                    go_wp2_with fail
                    refine hK _ _ (.inr trivial) ?_
                    clear hK K
                    refine wpMixT_one (fun K hK => ?_)
                    go_wp2_with fail
                    refine hK _ _ (.inl trivial) ?_
                    clear hK K
                    refine wpMixT_done ?_
                    go_wp2_with fail
                    go_meet
                    exact ⟨aL, cL, s5, rfl, HR, K9, hs5l⟩
                  · have s9 := run_str (l := 1) wW 1 [v] rfl (bytes1 (by rw [← hv.out]; exact B28))
                    go_wp2_with fail
                    refine hK _ _ (.inr trivial) ?_
                    clear hK K s9
                    repeat (refine wpMixT_free (fun K hK => ?_); go_simp; refine hK _ ?_; clear hK K)
                    refine wpMixT_one (fun K hK => ?_)
                    have s9 := run_str (l := 1) wW 1 [v] rfl (bytes1 (by rw [← hv.out]; exact B8))
                    go_wp2_with fail
                    refine hK _ _ (.inr trivial) ?_
                    clear hK K s9
                    repeat (refine wpMixT_free (fun K hK => ?_); go_simp; refine hK _ ?_; clear hK K)
                    refine wpMixT_one (fun K hK => ?_)
                    go_wp2_with fail
                    have ka := (Keeps.refl Nothing wW).alloc (.cells #[.string ⟨A.toArray⟩, .string ((⟨A.toArray⟩ : ByteArray) ++ ⟨#[v]⟩ ++ ⟨R.toArray⟩), .string ((⟨A.toArray⟩ : ByteArray) ++ ⟨R.toArray⟩), .string ((⟨A.toArray⟩ : ByteArray) ++ ⟨#[v]⟩ ++ ⟨R2.toArray⟩)] 9)
                    have K' := KW.trans ka (fun _ h _ => h)
                    have BQ := blk_new wW #[.string ⟨A.toArray⟩, .string ((⟨A.toArray⟩ : ByteArray) ++ ⟨#[v]⟩ ++ ⟨R.toArray⟩), .string ((⟨A.toArray⟩ : ByteArray) ++ ⟨R.toArray⟩), .string ((⟨A.toArray⟩ : ByteArray) ++ ⟨#[v]⟩ ++ ⟨R2.toArray⟩)] 9
                    refine hK _ _ (.inr trivial) ?_
                    clear hK K
                    clear KW ka
                    generalize wW.alloc (.cells #[.string ⟨A.toArray⟩, .string ((⟨A.toArray⟩ : ByteArray) ++ ⟨#[v]⟩ ++ ⟨R.toArray⟩), .string ((⟨A.toArray⟩ : ByteArray) ++ ⟨R.toArray⟩), .string ((⟨A.toArray⟩ : ByteArray) ++ ⟨#[v]⟩ ++ ⟨R2.toArray⟩)] 9) = wq at *
                    generalize wW.heap.size = gq at *
                    obtain ⟨s5, hs5, hs5l⟩ := pick4 A R R2 v 4000 (by omega) (by omega) hj1
                    have cQ := blk_cell BQ j hs5
                    have hj4 : (j : Int) < 4 := by omega
                    repeat (refine wpMixT_free (fun K hK => ?_); go_simp; refine hK _ ?_; clear hK K)
                    refine wpMixT_one (fun K hK => ?_)
                    go_wp2_with fail
                    refine hK _ _ (.inr trivial) ?_
                    clear hK K BQ cQ hs5
                    refine wpMixT_one (fun K hK => ?_)
                    go_wp2_with fail
                    have ka := (Keeps.refl Nothing wq).alloc (.cells #[.string ⟨s5.toArray⟩] 9)
                    have KX := K'.trans ka (fun _ h _ => h)
                    have BX := blk_new wq #[.string ⟨s5.toArray⟩] 9
                    refine hK _ _ (.inr trivial) ?_
                    clear hK K K' ka
                    generalize wq.alloc (.cells #[.string ⟨s5.toArray⟩] 9) = wx at *
                    generalize wq.heap.size = gx at *
                    have RX := RA.keepsN KX
                    obtain ⟨i9, hi9, hz90, hz91, hz92⟩ := jinfo3 info9
                    have hsrc : Src Tryd.prog 1 34 (.slice (some ⟨gx, 0, none⟩) 1 1) 1 [.string ⟨s5.toArray⟩] wx := Src.ofSlice _ Tryd.underlying34 ⟨gx, 0, none⟩ 1 1 _ rfl (fun t u hu => by
                      rw [ad_mid, Nat.zero_add]
                      exact blk_cell BX t (by simpa using hu)) (by intro u hu; simp at hu; subst hu; rfl)
                    refine wpMixT_one (fun K hK => ?_)
                    refine wpList_append_row _ rfl (.tmp 108) (.tmp 150) 34 34 rfl 9 i9 (.string ⟨#[]⟩) 16 Tryd.underlying34 hi9 hz90 hz91 hz92 rfl (some ⟨gA, 0, none⟩) 3 3 _ rfl rfl RX _ 1 _ rfl hsrc (by unfold maxLen; omega) (by omega) ?_
                    intro aL cL w9 HR _ k9 _
                    have K9 : Keeps Nothing wa w9 := (K8.trans KX (fun _ h _ => h)).trans k9 (fun i hi hlt => by have := Option.some.inj hi; simp only at this; omega)
                    clear k9 RX hsrc BX KX
                    go_wp2_with fail
                    refine hK _ _ (.inr trivial) ?_
                    clear hK K
                    refine wpMixT_one (fun K hK => ?_)
                    go_wp2_with fail
                    refine hK _ _ (.inl trivial) ?_
                    clear hK K
                    refine wpMixT_done ?_
                    go_wp2_with fail
                    go_meet
                    exact ⟨aL, cL, s5, rfl, HR, K9, hs5l⟩
              · go_wp2_with fail
                have ka := (Keeps.refl Nothing wW).alloc (.cells #[.int .u8 vz] 5)
                have K' := KW.trans ka (fun _ h _ => h)
                have B28 := blk_new wW #[.int .u8 vz] 5
                refine hK _ _ (.inr trivial) ?_
                clear hK K
                try replace B8 := blk_alloc B8 (.cells #[.int .u8 vz] 5)
                clear KW ka
                generalize wW.alloc (.cells #[.int .u8 vz] 5) = w' at *
                generalize wW.heap.size = g28 at *
                clear wW
                rename World => wW
                have KW := K'
                clear K'
                refine wpMixT_two (fun K hK => ?_) (fun K hK => ?_)
                · go_wp2_with fail
                  have ka := (Keeps.refl Nothing wW).alloc (.cells #[.int .u8 vz] 5)
                  have K' := KW.trans ka (fun _ h _ => h)
                  have B8 := blk_new wW #[.int .u8 vz] 5
                  refine hK _ _ (.inr trivial) ?_
                  clear hK K
                  try replace B28 := blk_alloc B28 (.cells #[.int .u8 vz] 5)
                  clear KW ka
                  generalize wW.alloc (.cells #[.int .u8 vz] 5) = w' at *
                  generalize wW.heap.size = g8 at *
                  clear wW
                  rename World => wW
                  have KW := K'
                  clear K'
                  refine wpMixT_two (fun K hK => ?_) (fun K hK => ?_)
                  · have s9 := run_str (l := 1) wW 1 [v] rfl (bytes1 (by rw [← hv.out]; exact B8))
                    go_wp2_with fail
                    refine hK _ _ (.inr trivial) ?_
                    clear hK K s9
                    repeat (refine wpMixT_free (fun K hK => ?_); go_simp; refine hK _ ?_; clear hK K)
                    refine wpMixT_one (fun K hK => ?_)
                    have s9 := run_str (l := 1) wW 1 [v] rfl (bytes1 (by rw [← hv.out]; exact B28))
                    go_wp2_with fail
                    refine hK _ _ (.inr trivial) ?_
                    clear hK K s9
                    repeat (refine wpMixT_free (fun K hK => ?_); go_simp; refine hK _ ?_; clear hK K)
                    refine wpMixT_one (fun K hK => ?_)
                    go_wp2_with fail
                    have ka := (Keeps.refl Nothing wW).alloc (.cells #[.string ⟨A.toArray⟩, .string ((⟨A.toArray⟩ : ByteArray) ++ ⟨#[v]⟩ ++ ⟨R.toArray⟩), .string ((⟨A.toArray⟩ : ByteArray) ++ ⟨R.toArray⟩), .string ((⟨A.toArray⟩ : ByteArray) ++ ⟨#[v]⟩ ++ ⟨R2.toArray⟩)] 9)
                    have K' := KW.trans ka (fun _ h _ => h)
                    have BQ := blk_new wW #[.string ⟨A.toArray⟩, .string ((⟨A.toArray⟩ : ByteArray) ++ ⟨#[v]⟩ ++ ⟨R.toArray⟩), .string ((⟨A.toArray⟩ : ByteArray) ++ ⟨R.toArray⟩), .string ((⟨A.toArray⟩ : ByteArray) ++ ⟨#[v]⟩ ++ ⟨R2.toArray⟩)] 9
                    refine hK _ _ (.inr trivial) ?_
                    clear hK K
                    clear KW ka
                    generalize wW.alloc (.cells #[.string ⟨A.toArray⟩, .string ((⟨A.toArray⟩ : ByteArray) ++ ⟨#[v]⟩ ++ ⟨R.toArray⟩), .string ((⟨A.toArray⟩ : ByteArray) ++ ⟨R.toArray⟩), .string ((⟨A.toArray⟩ : ByteArray) ++ ⟨#[v]⟩ ++ ⟨R2.toArray⟩)] 9) = wq at *
                    generalize wW.heap.size = gq at *
                    obtain ⟨s5, hs5, hs5l⟩ := pick4 A R R2 v 4000 (by omega) (by omega) hj1
                    have cQ := blk_cell BQ j hs5
                    have hj4 : (j : Int) < 4 := by omega
                    repeat (refine wpMixT_free (fun K hK => ?_); go_simp; refine hK _ ?_; clear hK K)
                    refine wpMixT_one (fun K hK => ?_)
                    go_wp2_with fail
                    refine hK _ _ (.inr trivial) ?_
                    clear hK K BQ cQ hs5
                    refine wpMixT_one (fun K hK => ?_)
                    go_wp2_with fail
                    have ka := (Keeps.refl Nothing wq).alloc (.cells #[.string ⟨s5.toArray⟩] 9)
                    have KX := K'.trans ka (fun _ h _ => h)
                    have BX := blk_new wq #[.string ⟨s5.toArray⟩] 9
                    refine hK _ _ (.inr trivial) ?_
                    clear hK K K' ka
                    generalize wq.alloc (.cells #[.string ⟨s5.toArray⟩] 9) = wx at *
                    generalize wq.heap.size = gx at *
                    have RX := RA.keepsN KX
                    obtain ⟨i9, hi9, hz90, hz91, hz92⟩ := jinfo3 info9
                    have hsrc : Src Tryd.prog 1 34 (.slice (some ⟨gx, 0, none⟩) 1 1) 1 [.string ⟨s5.toArray⟩] wx := Src.ofSlice _ Tryd.underlying34 ⟨gx, 0, none⟩ 1 1 _ rfl (fun t u hu => by
                      rw [ad_mid, Nat.zero_add]
                      exact blk_cell BX t (by simpa using hu)) (by intro u hu; simp at hu; subst hu; rfl)
                    refine wpMixT_one (fun K hK => ?_)
                    refine wpList_append_row _ rfl (.tmp 108) (.tmp 150) 34 34 rfl 9 i9 (.string ⟨#[]⟩) 16 Tryd.underlying34 hi9 hz90 hz91 hz92 rfl (some ⟨gA, 0, none⟩) 3 3 _ rfl rfl RX _ 1 _ rfl hsrc (by unfold maxLen; omega) (by omega) ?_
                    intro aL cL w9 HR _ k9 _
                    have K9 : Keeps Nothing wa w9 := (K8.trans KX (fun _ h _ => h)).trans k9 (fun i hi hlt => by have := Option.some.inj hi; simp only at this; omega)
                    clear k9 RX hsrc BX KX
                    go_wp2_with fail
                    refine hK _ _ (.inr trivial) ?_
                    clear hK K
                    refine wpMixT_one (fun K hK => ?_)
                    go_wp2_with fail
                    refine hK _ _ (.inl trivial) ?_
                    clear hK K
                    refine wpMixT_done ?_
                    go_wp2_with fail
                    go_meet
                    exact ⟨aL, cL, s5, rfl, HR, K9, hs5l⟩
                  · have s9 := run_str (l := 1) wW 1 [v] rfl (bytes1 (by rw [← hv.out]; exact B28))
                    go_wp2_with fail
                    refine hK _ _ (.inr trivial) ?_
                    clear hK K s9
                    repeat (refine wpMixT_free (fun K hK => ?_); go_simp; refine hK _ ?_; clear hK K)
                    refine wpMixT_one (fun K hK => ?_)
                    have s9 := run_str (l := 1) wW 1 [v] rfl (bytes1 (by rw [← hv.out]; exact B8))
                    go_wp2_with fail
                    refine hK _ _ (.inr trivial) ?_
                    clear hK K s9
                    repeat (refine wpMixT_free (fun K hK => ?_); go_simp; refine hK _ ?_; clear hK K)
                    refine wpMixT_one (fun K hK => ?_)
                    go_wp2_with fail
                    have ka := (Keeps.refl Nothing wW).alloc (.cells #[.string ⟨A.toArray⟩, .string ((⟨A.toArray⟩ : ByteArray) ++ ⟨#[v]⟩ ++ ⟨R.toArray⟩), .string ((⟨A.toArray⟩ : ByteArray) ++ ⟨R.toArray⟩), .string ((⟨A.toArray⟩ : ByteArray) ++ ⟨#[v]⟩ ++ ⟨R2.toArray⟩)] 9)
                    have K' := KW.trans ka (fun _ h _ => h)
                    have BQ := blk_new wW #[.string ⟨A.toArray⟩, .string ((⟨A.toArray⟩ : ByteArray) ++ ⟨#[v]⟩ ++ ⟨R.toArray⟩), .string ((⟨A.toArray⟩ : ByteArray) ++ ⟨R.toArray⟩), .string ((⟨A.toArray⟩ : ByteArray) ++ ⟨#[v]⟩ ++ ⟨R2.toArray⟩)] 9
                    refine hK _ _ (.inr trivial) ?_
                    clear hK K
                    clear KW ka
                    generalize wW.alloc (.cells #[.string ⟨A.toArray⟩, .string ((⟨A.toArray⟩ : ByteArray) ++ ⟨#[v]⟩ ++ ⟨R.toArray⟩), .string ((⟨A.toArray⟩ : ByteArray) ++ ⟨R.toArray⟩), .string ((⟨A.toArray⟩ : ByteArray) ++ ⟨#[v]⟩ ++ ⟨R2.toArray⟩)] 9) = wq at *
                    generalize wW.heap.size = gq at *
                    obtain ⟨s5, hs5, hs5l⟩ := pick4 A R R2 v 4000 (by omega) (by omega) hj1
                    have cQ := blk_cell BQ j hs5
                    have hj4 : (j : Int) < 4 := by omega
                    repeat (refine wpMixT_free (fun K hK => ?_); go_simp; refine hK _ ?_; clear hK K)
                    refine wpMixT_one (fun K hK => ?_)
                    go_wp2_with fail
                    refine hK _ _ (.inr trivial) ?_
                    clear hK K BQ cQ hs5
                    refine wpMixT_one (fun K hK => ?_)
                    go_wp2_with fail
                    have ka := (Keeps.refl Nothing wq).alloc (.cells #[.string ⟨s5.toArray⟩] 9)
                    have KX := K'.trans ka (fun _ h _ => h)
                    have BX := blk_new wq #[.string ⟨s5.toArray⟩] 9
                    refine hK _ _ (.inr trivial) ?_
                    clear hK K K' ka
                    generalize wq.alloc (.cells #[.string ⟨s5.toArray⟩] 9) = wx at *
                    generalize wq.heap.size = gx at *
                    have RX := RA.keepsN KX
                    obtain ⟨i9, hi9, hz90, hz91, hz92⟩ := jinfo3 info9
                    have hsrc : Src Tryd.prog 1 34 (.slice (some ⟨gx, 0, none⟩) 1 1) 1 [.string ⟨s5.toArray⟩] wx := Src.ofSlice _ Tryd.underlying34 ⟨gx, 0, none⟩ 1 1 _ rfl (fun t u hu => by
                      rw [ad_mid, Nat.zero_add]
                      exact blk_cell BX t (by simpa using hu)) (by intro u hu; simp at hu; subst hu; rfl)
                    refine wpMixT_one (fun K hK => ?_)
                    refine wpList_append_row _ rfl (.tmp 108) (.tmp 150) 34 34 rfl 9 i9 (.string ⟨#[]⟩) 16 Tryd.underlying34 hi9 hz90 hz91 hz92 rfl (some ⟨gA, 0, none⟩) 3 3 _ rfl rfl RX _ 1 _ rfl hsrc (by unfold maxLen; omega) (by omega) ?_
                    intro aL cL w9 HR _ k9 _
                    have K9 : Keeps Nothing wa w9 := (K8.trans KX (fun _ h _ => h)).trans k9 (fun i hi hlt => by have := Option.some.inj hi; simp only at this; omega)
                    clear k9 RX hsrc BX KX
                    go_wp2_with fail
                    refine hK _ _ (.inr trivial) ?_
                    clear hK K
                    refine wpMixT_one (fun K hK => ?_)
                    go_wp2_with fail
                    refine hK _ _ (.inl trivial) ?_
                    clear hK K
                    refine wpMixT_done ?_
                    go_wp2_with fail
                    go_meet
                    exact ⟨aL, cL, s5, rfl, HR, K9, hs5l⟩
                · have s9 := run_str (l := 1) wW 1 [v] rfl (bytes1 (by rw [← hv.out]; exact B28))
                  go_wp2_with fail
                  refine hK _ _ (.inr trivial) ?_
                  clear hK K s9
                  repeat (refine wpMixT_free (fun K hK => ?_); go_simp; refine hK _ ?_; clear hK K)
                  refine wpMixT_one (fun K hK => ?_)
                  go_wp2_with fail
                  have ka := (Keeps.refl Nothing wW).alloc (.cells #[.int .u8 vz] 5)
                  have K' := KW.trans ka (fun _ h _ => h)
                  have B8 := blk_new wW #[.int .u8 vz] 5
                  refine hK _ _ (.inr trivial) ?_
                  clear hK K
                  try replace B28 := blk_alloc B28 (.cells #[.int .u8 vz] 5)
                  clear KW ka
                  generalize wW.alloc (.cells #[.int .u8 vz] 5) = w' at *
                  generalize wW.heap.size = g8 at *
                  clear wW
                  rename World => wW
                  have KW := K'
                  clear K'
                  refine wpMixT_one (fun K hK => ?_)
                  have s9 := run_str (l := 1) wW 1 [v] rfl (bytes1 (by rw [← hv.out]; exact B8))
                  go_wp2_with fail
                  refine hK _ _ (.inr trivial) ?_
                  clear hK K s9
                  repeat (refine wpMixT_free (fun K hK => ?_); go_simp; refine hK _ ?_; clear hK K)
                  refine wpMixT_one (fun K hK => ?_)
                  go_wp2_with fail
                  have ka := (Keeps.refl Nothing wW).alloc (.cells #[.string ⟨A.toArray⟩, .string ((⟨A.toArray⟩ : ByteArray) ++ ⟨#[v]⟩ ++ ⟨R.toArray⟩), .string ((⟨A.toArray⟩ : ByteArray) ++ ⟨R.toArray⟩), .string ((⟨A.toArray⟩ : ByteArray) ++ ⟨#[v]⟩ ++ ⟨R2.toArray⟩)] 9)
                  have K' := KW.trans ka (fun _ h _ => h)
                  have BQ := blk_new wW #[.string ⟨A.toArray⟩, .string ((⟨A.toArray⟩ : ByteArray) ++ ⟨#[v]⟩ ++ ⟨R.toArray⟩), .string ((⟨A.toArray⟩ : ByteArray) ++ ⟨R.toArray⟩), .string ((⟨A.toArray⟩ : ByteArray) ++ ⟨#[v]⟩ ++ ⟨R2.toArray⟩)] 9
                  refine hK _ _ (.inr trivial) ?_
                  clear hK K
                  clear KW ka
                  generalize wW.alloc (.cells #[.string ⟨A.toArray⟩, .string ((⟨A.toArray⟩ : ByteArray) ++ ⟨#[v]⟩ ++ ⟨R.toArray⟩), .string ((⟨A.toArray⟩ : ByteArray) ++ ⟨R.toArray⟩), .string ((⟨A.toArray⟩ : ByteArray) ++ ⟨#[v]⟩ ++ ⟨R2.toArray⟩)] 9) = wq at *
                  generalize wW.heap.size = gq at *
                  obtain ⟨s5, hs5, hs5l⟩ := pick4 A R R2 v 4000 (by omega) (by omega) hj1
                  have cQ := blk_cell BQ j hs5
                  have hj4 : (j : Int) < 4 := by omega
                  repeat (refine wpMixT_free (fun K hK => ?_); go_simp; refine hK _ ?_; clear hK K)
                  refine wpMixT_one (fun K hK => ?_)
                  go_wp2_with fail
                  refine hK _ _ (.inr trivial) ?_
                  clear hK K BQ cQ hs5
                  refine wpMixT_one (fun K hK => ?_)
                  go_wp2_with fail
                  have ka := (Keeps.refl Nothing wq).alloc (.cells #[.string ⟨s5.toArray⟩] 9)
                  have KX := K'.trans ka (fun _ h _ => h)
                  have BX := blk_new wq #[.string ⟨s5.toArray⟩] 9
                  refine hK _ _ (.inr trivial) ?_
                  clear hK K K' ka
                  generalize wq.alloc (.cells #[.string ⟨s5.toArray⟩] 9) = wx at *
                  generalize wq.heap.size = gx at *
                  have RX := RA.keepsN KX
                  obtain ⟨i9, hi9, hz90, hz91, hz92⟩ := jinfo3 info9
                  have hsrc : Src Tryd.prog 1 34 (.slice (some ⟨gx, 0, none⟩) 1 1) 1 [.string ⟨s5.toArray⟩] wx := Src.ofSlice _ Tryd.underlying34 ⟨gx, 0, none⟩ 1 1 _ rfl (fun t u hu => by
                    rw [ad_mid, Nat.zero_add]
                    exact blk_cell BX t (by simpa using hu)) (by intro u hu; simp at hu; subst hu; rfl)
                  refine wpMixT_one (fun K hK => ?_)
                  refine wpList_append_row _ rfl (.tmp 108) (.tmp 150) 34 34 rfl 9 i9 (.string ⟨#[]⟩) 16 Tryd.underlying34 hi9 hz90 hz91 hz92 rfl (some ⟨gA, 0, none⟩) 3 3 _ rfl rfl RX _ 1 _ rfl hsrc (by unfold maxLen; omega) (by omega) ?_
                  intro aL cL w9 HR _ k9 _
                  have K9 : Keeps Nothing wa w9 := (K8.trans KX (fun _ h _ => h)).trans k9 (fun i hi hlt => by have := Option.some.inj hi; simp only at this; omega)
                  clear k9 RX hsrc BX KX
                  go_wp2_with fail
                  refine hK _ _ (.inr trivial) ?_
                  clear hK K
                  refine wpMixT_one (fun K hK => ?_)
                  go_wp2_with fail
                  refine hK _ _ (.inl trivial) ?_
                  clear hK K
                  refine wpMixT_done ?_
                  go_wp2_with fail
                  go_meet
                  exact ⟨aL, cL, s5, rfl, HR, K9, hs5l⟩
            case rest =>
              obtain ⟨aL, cL, s5, rfl, HR', K9, hs5l⟩ := hcut
              have hLL : ∀ l ∈ ([b, M, M ++ b, s5] : List (List UInt8)), l.length ≤ 5000 := by
                intro l hl'
                simp only [List.mem_cons, List.not_mem_nil, or_false] at hl'
                rcases hl' with rfl | rfl | rfl | rfl
                · omega
                · omega
                · rw [List.length_append]; omega
                · omega
              rename World => w9
              obtain ⟨LL, hLe⟩ : ∃ LL : List (List UInt8), LL = [b, M, M ++ b, s5] := ⟨_, rfl⟩
              have hLn : LL.length = 4 := by rw [hLe]; rfl
              rw [← hLe] at hLL HR'
              clear hLe
              have HLN := shut hLn
              clear hLn
              go_wp2_with fail
              go_loopw [23, 24, 25, 26, 27] (fun s23 s24 s25 s26 s27 wx => ∃ i : Nat, s23 = .int .i64 i ∧ i ≤ 4 ∧ Keeps Nothing w9 wx) (fun s23 _ _ _ _ _ => 4 - (intOf s23).toNat)
              case atStart => exact ⟨0, rfl, by omega, Keeps.refl _ _⟩
              case round =>
                obtain ⟨i, rfl, hi, KR⟩ := hrel
                by_cases hlt : i < 4
                · have m1 : (i : Int) < 4 := by omega
                  obtain ⟨l, hl⟩ : ∃ l, LL[i]? = some l := ⟨LL[i]'(by rw [HLN.out]; exact hlt), List.getElem?_eq_getElem (by rw [HLN.out]; exact hlt)⟩
                  have hl5k := hLL l (List.mem_of_getElem? hl)
                  obtain ⟨gX, oX, rfl⟩ := HR'.head (by intro h; have := congrArg List.length h; rw [List.length_map, HLN.out] at this; simp at this)
                  have hcell : (LL.map sv)[i]? = some (.string ⟨l.toArray⟩) := by rw [List.getElem?_map, hl]; rfl
                  have cX := (HR'.keepsN KR).cell hcell
                  obtain ⟨cap2, w2', hrun, hat, K2, hs2, hcc⟩ := run_bytes2 wr ⟨l.toArray⟩
                  have hbe : bytesOf ⟨l.toArray⟩ = l := by simp [bytesOf]
                  rw [hbe] at hat
                  have hsz : (⟨l.toArray⟩ : ByteArray).size = l.length := by show l.toArray.size = _; simp
                  rw [hsz] at hrun hcc
                  have hscn := scan_any (c := cap2) (n := l.length) rfl hat (fun a ha => by obtain rfl := Option.some.inj ha; rfl) hl5k hcc
                  have KR2 := KR.trans K2 (fun _ h _ => h)
                  clear hs2 hat hsz hbe hl hcc
                  generalize wr.heap.size = gb at *
                  obtain ⟨nl, hnl⟩ : ∃ n, l.length = n := ⟨_, rfl⟩
                  rw [hnl] at hrun hscn
                  have hscn2 : Calls Tryd.prog 11 #[.slice (some ⟨gb, 0, none⟩) nl cap2] w2' (ScanPost w2' l) := hscn
                  clear hscn
                  have HNL := shut hnl
                  clear hnl
                  go_wp2_with fail
                  refine hscn2.mono ?_
                  rintro e wg ⟨og, cg, rfl, Og, kg, -⟩
                  have KG := KR2.trans kg (fun _ h _ => h)
                  have cX2 := (HR'.keepsN KG).cell hcell
                  have hrs := rscan_any wg l hl5k
                  clear hscn2 hrun cX kg KR2 KR
                  go_wp2_with fail
                  refine hrs.mono ?_
                  rintro e wh ⟨oh, ch, rfl, Oh, kh, -⟩
                  have KH := KG.trans kh (fun _ h _ => h)
                  have Og2 := OwnC.keepsN Og kh
                  have hbd := scanE_bd _ l (Nat.le_refl _)
                  have hre := rents_any wh (scanE l).1 (by omega) Og2 Oh
                  clear hrs cX2 kh KG Og
                  go_wp2_with fail
                  refine hre.mono ?_
                  rintro e ws ⟨rfl, ks⟩
                  have KT := KH.trans ks (fun _ h _ => h)
                  clear hre ks KH
                  go_wp2_with fail
                  go_roundw
                  case rel => exact ⟨i + 1, by go_num, by omega, KT⟩
                  case measure => simp [intOf]; omega
                · obtain rfl : i = 4 := by omega
                  have K10 := K9.trans KR (fun _ h _ => h)
                  go_wp2_with fail
                  refine (told26_any (hg0.keeps K10)).mono ?_
                  rintro e w19 ⟨rfl, k19⟩
                  go_wp2_with fail
                  go_ret
                  exact ⟨rfl, (ka.trans K10 (fun _ h _ => h)).trans k19 (fun _ h _ => h)⟩

end Go.Proofs.YteifmkfkekglpaaDoor
