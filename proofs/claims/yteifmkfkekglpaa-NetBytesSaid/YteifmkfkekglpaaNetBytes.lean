/- usufructlaw29.NetBytes: which messages may be, their bytes, what bytes mean; no condition. -/
import Derived.Test.YteifmkfkekglpaaRows
import Derived.Test.YteifmkfkekglpaaNet12
import Derived.Test.YteifmkfkekglpaaNet13
import Derived.Test.YteifmkfkekglpaaNet15
import Derived.Test.YteifmkfkekglpaaNet3
import Derived.Test.YteifmkfkekglpaaRowR
import Derived.Test.YteifmkfkekglpaaMixT
import Derived.Deep.Cut
import Derived.Deep.CutBlock
import Derived.ProofKit
import Derived.OpenShut
import Derived.ShutString
import Derived.ChangeOld
import Derived.Below
namespace Go.Proofs.Yteifmkfkekglpaa.netBytes
open Go.ChangeShapes Go.WideShapes Go.ChangeAt Go.RowKit
open Go.ChangeMaps (open_string shut_string)

theorem own : ownKnob Try.prog.godebug = none := by kernel_rfl
theorem laidOut : laidOutB Try.prog = true := by kernel_rfl


attribute [local go_sem ↓] exec_mid_msg exec_store_msg
attribute [local go_sem] rowOk_new World.setRow_alloc_new

theorem place_ex (i : Int) {n : Nat} (hn : n ≠ 0) : ∃ (x : Int) (k : Nat), Int.tmod i n = x ∧ x < n ∧ -(n : Int) < x ∧ Int.tmod (x + n) n = (k : Int) ∧ k < n := by
  have p1 := Int.tmod_lt_of_pos i (show (0 : Int) < n by omega)
  have p2 : -(n : Int) < Int.tmod i n := by
    have := Int.tmod_lt_of_pos (-i) (show (0 : Int) < n by omega)
    rw [Int.neg_tmod] at this
    omega
  generalize Int.tmod i n = x at *
  refine ⟨x, ((x + n) % (n : Int)).toNat, rfl, p1, p2, ?_, ?_⟩
  · rw [Int.tmod_eq_emod_of_nonneg (by omega), Int.toNat_of_nonneg (Int.emod_nonneg _ (by omega))]
  · have := Int.emod_lt_of_pos (x + n) (show (0 : Int) < n by omega)
    have := Int.emod_nonneg (x + n) (show (n : Int) ≠ 0 by omega)
    omega
theorem bytes1 {w : World} {g : Nat} {c : UInt8} {t : TypeId} (h : Blk w g #[byteV c] t) : BytesAt w (some ⟨g, 0, none⟩) [c] := by
  refine ⟨fun e => (by cases e), fun a e j x hj => ?_⟩
  obtain rfl := Option.some.inj e
  have : j = 0 := by have := (List.getElem?_eq_some_iff.1 hj).1; simp at this; omega
  subst this
  obtain rfl : c = x := by simpa using hj
  rw [Addr.add_lit]
  exact blk_cell h 0 rfl
theorem str_from (s : List UInt8) {i : Nat} (h : i ≤ s.length) (W : World) : (Instr.slice 9 (.string ⟨s.toArray⟩) (some (.int .i64 (i : Int))) none none).run Try.prog W = .ok (.string ⟨(s.drop i).toArray⟩) W := by
  rw [run_slice_string_l W 9 ⟨s.toArray⟩ Try.underlying9 .i64 i (by omega) (by show (i : Int) ≤ s.length; omega)]
  have e : ((⟨s.toArray⟩ : ByteArray).size) = i + (s.length - i) := by show s.length = _; omega
  rw [Int.toNat_natCast, e, extract_eq, List.take_of_length_le (by rw [List.length_drop]; omega)]
theorem str_to (s : List UInt8) {i : Nat} (h : i ≤ s.length) (W : World) : (Instr.slice 9 (.string ⟨s.toArray⟩) none (some (.int .i64 (i : Int))) none).run Try.prog W = .ok (.string ⟨(s.take i).toArray⟩) W := by
  rw [run_slice_string_h W 9 ⟨s.toArray⟩ Try.underlying9 .i64 i (by omega) (by show (i : Int) ≤ s.length; omega)]
  have := extract_eq s 0 i
  rw [Nat.zero_add, List.drop_zero] at this
  rw [Int.toNat_natCast, this]
theorem pick4 (A R R2 : List UInt8) (v : UInt8) (B : Nat) (h1 : A.length + 1 + R.length ≤ B) (h2 : A.length + 1 + R2.length ≤ B) {j : Nat} (hj : j < 4) : ∃ s : List UInt8,
    (#[.string ⟨A.toArray⟩, .string ((⟨A.toArray⟩ : ByteArray) ++ ⟨#[v]⟩ ++ ⟨R.toArray⟩), .string ((⟨A.toArray⟩ : ByteArray) ++ ⟨R.toArray⟩), .string ((⟨A.toArray⟩ : ByteArray) ++ ⟨#[v]⟩ ++ ⟨R2.toArray⟩)] : Array Value)[j]? = some (.string ⟨s.toArray⟩) ∧ s.length ≤ B := by
  have e1 : (⟨#[v]⟩ : ByteArray) = ⟨[v].toArray⟩ := rfl
  rw [e1, str_app, str_app, str_app, str_app]
  have : j = 0 ∨ j = 1 ∨ j = 2 ∨ j = 3 := by omega
  rcases this with rfl | rfl | rfl | rfl
  · exact ⟨A, rfl, by omega⟩
  · exact ⟨A ++ [v] ++ R, rfl, by simp only [List.length_append, List.length_singleton]; omega⟩
  · exact ⟨A ++ R, rfl, by simp only [List.length_append]; omega⟩
  · exact ⟨A ++ [v] ++ R2, rfl, by simp only [List.length_append, List.length_singleton]; omega⟩
theorem rowR_blk {w : World} {g : Nat} {vs : List Value} {C : Array Value} {e : TypeId} (h : Blk w g C e) (hC : C = vs.toArray) (h1 : ∀ v ∈ vs, v.oneCell' = true) (hm : vs.length ≤ 1000) : RowR w e (some ⟨g, 0, none⟩) vs.length vs :=
  ⟨Nat.le_refl _, by unfold maxLen; omega, h1, .inr ⟨g, 0, C, rfl, h, by rw [hC]; simp, fun j v hj => by rw [hC, Nat.zero_add]; simpa using hj⟩⟩
def sv (l : List UInt8) : Value := .string ⟨l.toArray⟩
theorem info9 : (Try.prog.info? 9).map (fun i => (i.zero, i.size, i.bytes)) = some (some (.string ⟨#[]⟩), 1, 16) := by kernel_rfl

set_option maxRecDepth 100000 in
set_option maxHeartbeats 8000000 in
theorem walk (w : World) {C : Array Value} {m : MsgT} {ao : Option Addr} {cap : Nat} (hC : MsgC C m ao cap) (hM : MsgAt w m ao cap)
    {ab : Option Addr} {nb cb : Nat} {b : List UInt8} (hnb : b.length = nb) (hB : BytesAt w ab b) (at' : Int) (vz : Int) (v : UInt8) (hv0 : Value.int .u8 vz = byteV v) (how : Int) :
    Calls Try.prog 3 #[.agg C, .slice ab nb cb, .int .i64 at', .int .u8 vz, .int .i64 how] w (SaysTrue w) := by
  have hv := shut hv0
  clear hv0
  have B0 := blk_new w C 26
  have K0 := (Keeps.refl Nothing w).alloc (.cells C 26)
  have hgr := fun W => great_any (w := W) hC
  obtain ⟨x1, x2⟩ := blk_mid B0 hC.size
  have hag := hC.row
  obtain ⟨Z, hZ⟩ : ∃ Z, decide (greatP m) = Z := ⟨_, rfl⟩
  rw [hZ] at hgr
  have HZ := shut hZ
  clear hZ
  go_enter Try.func3, Try.ntmps3
  go_wp2_with fail
  refine (hgr _).mono ?_
  rintro e w1 ⟨rfl, k1⟩
  have K1 := K0.trans k1 (fun _ h _ => h)
  have B1 := k1.blk B0 (fun h => h)
  clear hgr x1 x2 k1 B0 K0
  cases Z with
  | true =>
    go_wp2_with fail
    refine (told29 _).mono ?_
    rintro e w9 ⟨rfl, k9⟩
    go_wp2_with fail
    go_ret
    exact ⟨rfl, K1.trans k9 (fun _ h _ => h)⟩
  | false =>
    have hng : ¬ greatP m := by have := HZ.out; simpa using this
    clear HZ
    unfold greatP at hng
    by_cases hnb1 : nb ≤ 3000
    rotate_left
    · have n1 : (3000 : Int) < nb := by omega
      go_wp2_with fail
      refine (told29 _).mono ?_
      rintro e w9 ⟨rfl, k9⟩
      go_wp2_with fail
      go_ret
      exact ⟨rfl, K1.trans k9 (fun _ h _ => h)⟩
    · have n1 : ¬ (3000 : Int) < nb := by omega
      have hS : MsgSmall m := ⟨by omega, by omega, by omega⟩
      obtain ⟨x1, x2⟩ := blk_mid B1 hC.size
      go_wp2_with fail
      refine (put_any hC (hM.keepsN K1) hS).mono ?_
      rintro e w2 hP
      clear x1 x2
      have hmay := fun W => may_any (w := W) hC
      have hrmay := rmay_any hC
      unfold RMay at hrmay
      by_cases hy : mayP m
      · obtain ⟨a, c, rfl, ho, k2, hf⟩ := hP.1 hy
        clear hP hf
        rw [decide_eq_true hy] at hmay hrmay
        have K2 := K1.trans k2 (fun _ h _ => h)
        have B2 := k2.blk B1 (fun h => h)
        clear k2 K1 B1
        have hlen := encMsg_len hy hC.h32 hM.h32
        have hl5 : (encMsg m).length ≤ 3500 := by omega
        have hrp : rPut m = (encMsg m, 0) := by unfold rPut; rw [if_pos hy]
        have hput := rput_of (rmay_any hC) hC (hM.keepsN K2) hS
        rw [hrp] at hput
        have hne := encMsg_ne m
        generalize encMsg m = M at *
        obtain ⟨x1, x2⟩ := blk_mid B2 hC.size
        clear hrp hlen
        obtain ⟨N, hN⟩ : ∃ N, M.length = N := ⟨_, rfl⟩
        have hN0 : 0 < N := by rw [← hN]; exact List.length_pos_iff.2 hne
        rw [hN] at hl5 ⊢
        go_wp2_with fail
        refine hput.mono ?_
        rintro e w3 ⟨rfl, k3⟩
        have K3 := K2.trans k3 (fun _ h _ => h)
        have B3 := k3.blk B2 (fun h => h)
        have s1 := run_str w3.drew c M hN ((own8_at ho).keeps k3.drew (fun _ _ h => h))
        clear x1 x2 hput K2 B2 k3
        go_wp2_with fail
        refine wp_region_mix (fun V => Keeps Nothing w3 V) [(true, 0), (true, 2), (false, 1), (true, 3), (true, 4), (true, 5), (true, 6), (false, 7), (true, 8), (true, 9), (true, 10), (true, 11), (true, 13), (false, 12), (false, 14), (true, 15), (true, 16)] (by kernel_rfl) (by kernel_rfl) (Keeps.refl _ _).drew ?_
        simp only [mixItems, List.map_cons, List.map_nil, List.getD_cons_zero, List.getD_cons_succ]
        repeat (refine wpMix_free (fun K hK => ?_); go_simp; refine hK _ ?_; clear hK K)
        refine wpMix_one (fun K hK => ?_)
        go_wp2_with fail
        refine hK _ _ (Keeps.refl Nothing w3).drew ?_
        clear hK K s1
        repeat (refine wpMix_free (fun K hK => ?_); go_simp; refine hK _ ?_; clear hK K)
        refine wpMix_one (fun K hK => ?_)
        go_wp2_with fail
        refine (is_any (w := w3.drew) (isErr_nil 0 _) _ 0).mono ?_
        rintro e w4 ⟨rfl, n4, rfl⟩
        have K4 : Keeps Nothing w3 (w3.drew.drewN n4) := (Keeps.refl Nothing w3).drew.drewN n4
        generalize w3.drew.drewN n4 = w4 at *
        go_wp2_with fail
        refine hK _ _ K4 ?_
        clear hK K
        repeat (refine wpMix_free (fun K hK => ?_); go_simp; refine hK _ ?_; clear hK K)
        refine wpMix_yield (v := .agg C) (fun V hV => ?_) (fun K hK => ?_)
        · obtain ⟨y1, y2⟩ := blk_mid (hV.blk B3 (fun h => h)) hC.size
          go_simp
        go_simp
        refine hK _ ?_
        clear hK K
        repeat (refine wpMix_free (fun K hK => ?_); go_simp; refine hK _ ?_; clear hK K)
        refine wpMix_yield (v := .agg C) (fun V hV => ?_) (fun K hK => ?_)
        · obtain ⟨y1, y2⟩ := blk_mid (hV.blk B3 (fun h => h)) hC.size
          go_simp
        go_simp
        refine hK _ ?_
        clear hK K
        repeat (refine wpMix_free (fun K hK => ?_); go_simp; refine hK _ ?_; clear hK K)
        refine wpMix_one (fun K hK => ?_)
        go_wp2_with fail
        refine (hmay _).mono ?_
        rintro e w5 ⟨rfl, k5⟩
        have K5 := K4.trans k5 (fun _ h _ => h)
        go_wp2_with fail
        refine hK _ _ K5 ?_
        clear hK K K4 k5
        refine wpMix_one (fun K hK => ?_)
        go_wp2_with fail
        refine (hrmay _).mono ?_
        rintro e w6 ⟨rfl, k6⟩
        have K6 := K5.trans k6 (fun _ h _ => h)
        go_wp2_with fail
        refine hK _ _ K6 ?_
        clear hK K K5 k6
        repeat (refine wpMix_free (fun K hK => ?_); go_simp; refine hK _ ?_; clear hK K)
        refine wpMix_nil ?_
        have K7 := K3.trans K6 (fun _ h _ => h)
        have s2 := run_str w6 cb b hnb (hB.keeps K7 (fun _ _ h => h))
        obtain ⟨x, I, hx, hx1, hx2, hI, hI1⟩ := place_ex at' (n := N) (by omega)
        obtain ⟨y, j, hy1, hy2, hy3, hj, hj1⟩ := place_ex how (n := 4) (by omega)
        have hy1' : Int.tmod how 4 = y := hy1
        have hj' : Int.tmod (y + 4) 4 = (j : Int) := hj
        have n2 : (0 : Int) < N := by omega
        have n3 : ¬ (N : Int) = 0 := by omega
        clear hy1 hj K3 K6 B3 hmay hrmay ho hne
        go_upto_region 10 with fail
        go_cut [15] from 74 to 117 (fun s15 wx => ∃ (aL : Option Addr) (cL : Nat) (s5 : List UInt8), s15 = .slice aL 3 cL ∧ RowR wx 9 aL cL (([b, M, s5] : List (List UInt8)).map sv) ∧ Keeps Nothing w wx ∧ s5.length ≤ 4000)
        case first =>
          have e1 := str_to M (i := I) (by omega)
          obtain ⟨J, hJ⟩ : ∃ J, J = I + 1 := ⟨_, rfl⟩
          have e2 := str_from M (i := J) (by omega)
          have w1' : IntKind.i64.wrap ((I : Int) + 1) = (J : Int) := by rw [IntKind.wrap_i64]; omega
          obtain ⟨nA, hnA⟩ : ∃ n, (M.take I).length = n := ⟨_, rfl⟩
          obtain ⟨nR, hnR⟩ : ∃ n, (M.drop J).length = n := ⟨_, rfl⟩
          have hnA2 : nA ≤ 3500 := by rw [← hnA, List.length_take]; omega
          have hnR2 : nR ≤ 3500 := by rw [← hnR, List.length_drop]; omega
          have e3 := str_from M (i := I) (by omega)
          obtain ⟨nS, hnS⟩ : ∃ n, (M.drop I).length = n := ⟨_, rfl⟩
          have hnS2 : nS ≤ 3500 := by rw [← hnS, List.length_drop]; omega
          have hsum2 : (M.take I).length + (M.drop I).length ≤ 3500 := by rw [List.length_take, List.length_drop]; omega
          have hsum1 : (M.take I).length + (M.drop J).length ≤ 3500 := by rw [List.length_take, List.length_drop]; omega
          generalize M.drop I = R2 at *
          have l4 : ¬ 9223372036854775807 < nA + 1 + nS := by omega
          generalize M.take I = A at *
          generalize M.drop J = R at *
          clear hJ
          rw [hnA, hnR] at hsum1
          rw [hnA, hnS] at hsum2
          have l1 : ¬ 9223372036854775807 < nA + nR := by omega
          have l2 : ¬ 9223372036854775807 < nA + 1 := by omega
          have l3 : ¬ 9223372036854775807 < nA + 1 + nR := by omega
          have w2' : IntKind.i64.wrap (y + 4) = y + 4 := by rw [IntKind.wrap_i64]; omega
          have BA := blk_new w6 #[.string ⟨b.toArray⟩, .string ⟨M.toArray⟩] 9
          have K8 := K7.trans ((Keeps.refl Nothing w6).alloc (.cells #[.string ⟨b.toArray⟩, .string ⟨M.toArray⟩] 9)) (fun _ h _ => h)
          have hgA : w.heap.size ≤ w6.heap.size := K7.size
          have RA := rowR_blk (vs := [sv b, sv M]) BA rfl (by intro u hu; simp only [List.mem_cons, List.not_mem_nil, or_false] at hu; rcases hu with rfl | rfl <;> rfl) (by simp)
          clear K7 s2
          generalize w6.alloc (.cells #[.string ⟨b.toArray⟩, .string ⟨M.toArray⟩] 9) = w8 at *
          generalize w6.heap.size = gA at *
          refine wp_region_mixT (fun _ => True) 44 (.take 0 (.take 1 (.take 2 (.take 3 (.take 4 (.take 5 (.take 6 (.take 7 (.take 11 (.take 12 (.take 13 (.take 14 (.take 16 (.take 17 (.take 18 (.take 19 (.take 20 (.take 21 (.take 22 (.take 23 (.take 24 (.take 25 (.take 26 (.take 27 (.take 31 (.take 32 (.take 33 (.take 36 (.take 37 (.take 38 (.take 39 (.two 8 28 (.two 9 28 (.take 10 (.take 15 (.one 28 (.one 29 (.take 30 (.take 34 (.one 35 (.take 40 (.one 41 (.one 42 (.one 43 (.one 44 .done)))))))))))) (.two 9 29 (.take 10 (.take 15 (.one 29 (.take 30 (.take 34 (.one 35 (.take 40 (.one 41 (.one 42 (.one 43 (.one 44 .done))))))))))) (.take 30 (.take 34 (.one 9 (.take 10 (.take 15 (.one 35 (.take 40 (.one 41 (.one 42 (.one 43 (.one 44 .done))))))))))))) (.two 8 29 (.two 9 29 (.take 10 (.take 15 (.one 29 (.take 30 (.take 34 (.one 35 (.take 40 (.one 41 (.one 42 (.one 43 (.one 44 .done))))))))))) (.take 30 (.take 34 (.one 9 (.take 10 (.take 15 (.one 35 (.take 40 (.one 41 (.one 42 (.one 43 (.one 44 .done)))))))))))) (.take 30 (.take 34 (.one 8 (.one 9 (.take 10 (.take 15 (.one 35 (.take 40 (.one 41 (.one 42 (.one 43 (.one 44 .done))))))))))))))))))))))))))))))))))))))))))))) (by kernel_rfl) (by kernel_rfl) trivial ?_
          simp only [itemsT, PlanT.map, List.getD_cons_zero, List.getD_cons_succ, Nat.reduceBEq]
          have KW : Keeps Nothing w8 w8.drew := (Keeps.refl _ _).drew
          generalize w8.drew = wW at *
          repeat (refine wpMixT_free (fun K hK => ?_); go_simp; refine hK _ ?_; clear hK K)
          refine wpMixT_two (fun K hK => ?_) (fun K hK => ?_)
          · go_wp2_with fail
            have ka := (Keeps.refl Nothing wW).alloc (.cells #[.int .u8 vz] 5)
            have K' := KW.trans ka (fun _ h _ => h)
            have B8 := blk_new wW #[.int .u8 vz] 5
            refine hK _ _ (.inr trivial) ?_
            clear hK K
            try replace B28 := blk_alloc B28 (.cells #[.int .u8 vz] 5)
            clear KW ka
            generalize wW.alloc (.cells #[.int .u8 vz] 5) = w' at *
            generalize wW.heap.size = g8 at *
            clear wW
            rename World => wW
            have KW := K'
            clear K'
            refine wpMixT_two (fun K hK => ?_) (fun K hK => ?_)
            · have s9 := run_str (l := 1) wW 1 [v] rfl (bytes1 (by rw [← hv.out]; exact B8))
              go_wp2_with fail
              refine hK _ _ (.inr trivial) ?_
              clear hK K s9
              repeat (refine wpMixT_free (fun K hK => ?_); go_simp; refine hK _ ?_; clear hK K)
              refine wpMixT_one (fun K hK => ?_)
              go_wp2_with fail
              have ka := (Keeps.refl Nothing wW).alloc (.cells #[.int .u8 vz] 5)
              have K' := KW.trans ka (fun _ h _ => h)
              have B28 := blk_new wW #[.int .u8 vz] 5
              refine hK _ _ (.inr trivial) ?_
              clear hK K
              try replace B8 := blk_alloc B8 (.cells #[.int .u8 vz] 5)
              clear KW ka
              generalize wW.alloc (.cells #[.int .u8 vz] 5) = w' at *
              generalize wW.heap.size = g28 at *
              clear wW
              rename World => wW
              have KW := K'
              clear K'
              refine wpMixT_one (fun K hK => ?_)
              have s9 := run_str (l := 1) wW 1 [v] rfl (bytes1 (by rw [← hv.out]; exact B28))
              go_wp2_with fail
              refine hK _ _ (.inr trivial) ?_
              clear hK K s9
              repeat (refine wpMixT_free (fun K hK => ?_); go_simp; refine hK _ ?_; clear hK K)
              refine wpMixT_one (fun K hK => ?_)
              go_wp2_with fail
              have ka := (Keeps.refl Nothing wW).alloc (.cells #[.string ⟨A.toArray⟩, .string ((⟨A.toArray⟩ : ByteArray) ++ ⟨#[v]⟩ ++ ⟨R.toArray⟩), .string ((⟨A.toArray⟩ : ByteArray) ++ ⟨R.toArray⟩), .string ((⟨A.toArray⟩ : ByteArray) ++ ⟨#[v]⟩ ++ ⟨R2.toArray⟩)] 9)
              have K' := KW.trans ka (fun _ h _ => h)
              have BQ := blk_new wW #[.string ⟨A.toArray⟩, .string ((⟨A.toArray⟩ : ByteArray) ++ ⟨#[v]⟩ ++ ⟨R.toArray⟩), .string ((⟨A.toArray⟩ : ByteArray) ++ ⟨R.toArray⟩), .string ((⟨A.toArray⟩ : ByteArray) ++ ⟨#[v]⟩ ++ ⟨R2.toArray⟩)] 9
              refine hK _ _ (.inr trivial) ?_
              clear hK K
              clear KW ka
              generalize wW.alloc (.cells #[.string ⟨A.toArray⟩, .string ((⟨A.toArray⟩ : ByteArray) ++ ⟨#[v]⟩ ++ ⟨R.toArray⟩), .string ((⟨A.toArray⟩ : ByteArray) ++ ⟨R.toArray⟩), .string ((⟨A.toArray⟩ : ByteArray) ++ ⟨#[v]⟩ ++ ⟨R2.toArray⟩)] 9) = wq at *
              generalize wW.heap.size = gq at *
              obtain ⟨s5, hs5, hs5l⟩ := pick4 A R R2 v 4000 (by omega) (by omega) hj1
              have cQ := blk_cell BQ j hs5
              have hj4 : (j : Int) < 4 := by omega
              repeat (refine wpMixT_free (fun K hK => ?_); go_simp; refine hK _ ?_; clear hK K)
              refine wpMixT_one (fun K hK => ?_)
              go_wp2_with fail
              refine hK _ _ (.inr trivial) ?_
              clear hK K BQ cQ hs5
              refine wpMixT_one (fun K hK => ?_)
              go_wp2_with fail
              have ka := (Keeps.refl Nothing wq).alloc (.cells #[.string ⟨s5.toArray⟩] 9)
              have KX := K'.trans ka (fun _ h _ => h)
              have BX := blk_new wq #[.string ⟨s5.toArray⟩] 9
              refine hK _ _ (.inr trivial) ?_
              clear hK K K' ka
              generalize wq.alloc (.cells #[.string ⟨s5.toArray⟩] 9) = wx at *
              generalize wq.heap.size = gx at *
              have RX := RA.keepsN KX
              obtain ⟨i9, hi9, hz90, hz91, hz92⟩ := info_parts3 info9
              have hsrc : Src Try.prog 1 37 (.slice (some ⟨gx, 0, none⟩) 1 1) 1 [.string ⟨s5.toArray⟩] wx := Src.ofSlice _ Try.underlying37 ⟨gx, 0, none⟩ 1 1 _ rfl (fun t u hu => by
                rw [ad_mid, Nat.zero_add]
                exact blk_cell BX t (by simpa using hu)) (by intro u hu; simp at hu; subst hu; rfl)
              refine wpMixT_one (fun K hK => ?_)
              refine wpList_append_row _ rfl (.tmp 74) (.tmp 116) 37 37 rfl 9 i9 (.string ⟨#[]⟩) 16 Try.underlying37 hi9 hz90 hz91 hz92 rfl (some ⟨gA, 0, none⟩) 2 2 _ rfl rfl RX _ 1 _ rfl hsrc (by unfold maxLen; omega) (by omega) ?_
              intro aL cL w9 HR _ k9 _
              have K9 : Keeps Nothing w w9 := (K8.trans KX (fun _ h _ => h)).trans k9 (fun i hi hlt => by have := Option.some.inj hi; simp only at this; omega)
              clear k9 RX hsrc BX KX
              go_wp2_with fail
              refine hK _ _ (.inr trivial) ?_
              clear hK K
              refine wpMixT_one (fun K hK => ?_)
              go_wp2_with fail
              refine hK _ _ (.inl trivial) ?_
              clear hK K
              refine wpMixT_done ?_
              go_wp2_with fail
              go_meet
              exact ⟨aL, cL, s5, rfl, HR, K9, hs5l⟩
            · go_wp2_with fail
              have ka := (Keeps.refl Nothing wW).alloc (.cells #[.int .u8 vz] 5)
              have K' := KW.trans ka (fun _ h _ => h)
              have B28 := blk_new wW #[.int .u8 vz] 5
              refine hK _ _ (.inr trivial) ?_
              clear hK K
              try replace B8 := blk_alloc B8 (.cells #[.int .u8 vz] 5)
              clear KW ka
              generalize wW.alloc (.cells #[.int .u8 vz] 5) = w' at *
              generalize wW.heap.size = g28 at *
              clear wW
              rename World => wW
              have KW := K'
              clear K'
              refine wpMixT_two (fun K hK => ?_) (fun K hK => ?_)
              · have s9 := run_str (l := 1) wW 1 [v] rfl (bytes1 (by rw [← hv.out]; exact B8))
                go_wp2_with fail
                refine hK _ _ (.inr trivial) ?_
                clear hK K s9
                repeat (refine wpMixT_free (fun K hK => ?_); go_simp; refine hK _ ?_; clear hK K)
                refine wpMixT_one (fun K hK => ?_)
                have s9 := run_str (l := 1) wW 1 [v] rfl (bytes1 (by rw [← hv.out]; exact B28))
                go_wp2_with fail
                refine hK _ _ (.inr trivial) ?_
                clear hK K s9
                repeat (refine wpMixT_free (fun K hK => ?_); go_simp; refine hK _ ?_; clear hK K)
                refine wpMixT_one (fun K hK => ?_)
                go_wp2_with fail
                have ka := (Keeps.refl Nothing wW).alloc (.cells #[.string ⟨A.toArray⟩, .string ((⟨A.toArray⟩ : ByteArray) ++ ⟨#[v]⟩ ++ ⟨R.toArray⟩), .string ((⟨A.toArray⟩ : ByteArray) ++ ⟨R.toArray⟩), .string ((⟨A.toArray⟩ : ByteArray) ++ ⟨#[v]⟩ ++ ⟨R2.toArray⟩)] 9)
                have K' := KW.trans ka (fun _ h _ => h)
                have BQ := blk_new wW #[.string ⟨A.toArray⟩, .string ((⟨A.toArray⟩ : ByteArray) ++ ⟨#[v]⟩ ++ ⟨R.toArray⟩), .string ((⟨A.toArray⟩ : ByteArray) ++ ⟨R.toArray⟩), .string ((⟨A.toArray⟩ : ByteArray) ++ ⟨#[v]⟩ ++ ⟨R2.toArray⟩)] 9
                refine hK _ _ (.inr trivial) ?_
                clear hK K
                clear KW ka
                generalize wW.alloc (.cells #[.string ⟨A.toArray⟩, .string ((⟨A.toArray⟩ : ByteArray) ++ ⟨#[v]⟩ ++ ⟨R.toArray⟩), .string ((⟨A.toArray⟩ : ByteArray) ++ ⟨R.toArray⟩), .string ((⟨A.toArray⟩ : ByteArray) ++ ⟨#[v]⟩ ++ ⟨R2.toArray⟩)] 9) = wq at *
                generalize wW.heap.size = gq at *
                obtain ⟨s5, hs5, hs5l⟩ := pick4 A R R2 v 4000 (by omega) (by omega) hj1
                have cQ := blk_cell BQ j hs5
                have hj4 : (j : Int) < 4 := by omega
                repeat (refine wpMixT_free (fun K hK => ?_); go_simp; refine hK _ ?_; clear hK K)
                refine wpMixT_one (fun K hK => ?_)
                go_wp2_with fail
                refine hK _ _ (.inr trivial) ?_
                clear hK K BQ cQ hs5
                refine wpMixT_one (fun K hK => ?_)
                go_wp2_with fail
                have ka := (Keeps.refl Nothing wq).alloc (.cells #[.string ⟨s5.toArray⟩] 9)
                have KX := K'.trans ka (fun _ h _ => h)
                have BX := blk_new wq #[.string ⟨s5.toArray⟩] 9
                refine hK _ _ (.inr trivial) ?_
                clear hK K K' ka
                generalize wq.alloc (.cells #[.string ⟨s5.toArray⟩] 9) = wx at *
                generalize wq.heap.size = gx at *
                have RX := RA.keepsN KX
                obtain ⟨i9, hi9, hz90, hz91, hz92⟩ := info_parts3 info9
                have hsrc : Src Try.prog 1 37 (.slice (some ⟨gx, 0, none⟩) 1 1) 1 [.string ⟨s5.toArray⟩] wx := Src.ofSlice _ Try.underlying37 ⟨gx, 0, none⟩ 1 1 _ rfl (fun t u hu => by
                  rw [ad_mid, Nat.zero_add]
                  exact blk_cell BX t (by simpa using hu)) (by intro u hu; simp at hu; subst hu; rfl)
                refine wpMixT_one (fun K hK => ?_)
                refine wpList_append_row _ rfl (.tmp 74) (.tmp 116) 37 37 rfl 9 i9 (.string ⟨#[]⟩) 16 Try.underlying37 hi9 hz90 hz91 hz92 rfl (some ⟨gA, 0, none⟩) 2 2 _ rfl rfl RX _ 1 _ rfl hsrc (by unfold maxLen; omega) (by omega) ?_
                intro aL cL w9 HR _ k9 _
                have K9 : Keeps Nothing w w9 := (K8.trans KX (fun _ h _ => h)).trans k9 (fun i hi hlt => by have := Option.some.inj hi; simp only at this; omega)
                clear k9 RX hsrc BX KX
                go_wp2_with fail
                refine hK _ _ (.inr trivial) ?_
                clear hK K
                refine wpMixT_one (fun K hK => ?_)
                go_wp2_with fail
                refine hK _ _ (.inl trivial) ?_
                clear hK K
                refine wpMixT_done ?_
                go_wp2_with fail
                go_meet
                exact ⟨aL, cL, s5, rfl, HR, K9, hs5l⟩
              · have s9 := run_str (l := 1) wW 1 [v] rfl (bytes1 (by rw [← hv.out]; exact B28))
                go_wp2_with fail
                refine hK _ _ (.inr trivial) ?_
                clear hK K s9
                repeat (refine wpMixT_free (fun K hK => ?_); go_simp; refine hK _ ?_; clear hK K)
                refine wpMixT_one (fun K hK => ?_)
                have s9 := run_str (l := 1) wW 1 [v] rfl (bytes1 (by rw [← hv.out]; exact B8))
                go_wp2_with fail
                refine hK _ _ (.inr trivial) ?_
                clear hK K s9
                repeat (refine wpMixT_free (fun K hK => ?_); go_simp; refine hK _ ?_; clear hK K)
                refine wpMixT_one (fun K hK => ?_)
                go_wp2_with fail
                have ka := (Keeps.refl Nothing wW).alloc (.cells #[.string ⟨A.toArray⟩, .string ((⟨A.toArray⟩ : ByteArray) ++ ⟨#[v]⟩ ++ ⟨R.toArray⟩), .string ((⟨A.toArray⟩ : ByteArray) ++ ⟨R.toArray⟩), .string ((⟨A.toArray⟩ : ByteArray) ++ ⟨#[v]⟩ ++ ⟨R2.toArray⟩)] 9)
                have K' := KW.trans ka (fun _ h _ => h)
                have BQ := blk_new wW #[.string ⟨A.toArray⟩, .string ((⟨A.toArray⟩ : ByteArray) ++ ⟨#[v]⟩ ++ ⟨R.toArray⟩), .string ((⟨A.toArray⟩ : ByteArray) ++ ⟨R.toArray⟩), .string ((⟨A.toArray⟩ : ByteArray) ++ ⟨#[v]⟩ ++ ⟨R2.toArray⟩)] 9
                refine hK _ _ (.inr trivial) ?_
                clear hK K
                clear KW ka
                generalize wW.alloc (.cells #[.string ⟨A.toArray⟩, .string ((⟨A.toArray⟩ : ByteArray) ++ ⟨#[v]⟩ ++ ⟨R.toArray⟩), .string ((⟨A.toArray⟩ : ByteArray) ++ ⟨R.toArray⟩), .string ((⟨A.toArray⟩ : ByteArray) ++ ⟨#[v]⟩ ++ ⟨R2.toArray⟩)] 9) = wq at *
                generalize wW.heap.size = gq at *
                obtain ⟨s5, hs5, hs5l⟩ := pick4 A R R2 v 4000 (by omega) (by omega) hj1
                have cQ := blk_cell BQ j hs5
                have hj4 : (j : Int) < 4 := by omega
                repeat (refine wpMixT_free (fun K hK => ?_); go_simp; refine hK _ ?_; clear hK K)
                refine wpMixT_one (fun K hK => ?_)
                go_wp2_with fail
                refine hK _ _ (.inr trivial) ?_
                clear hK K BQ cQ hs5
                refine wpMixT_one (fun K hK => ?_)
                go_wp2_with fail
                have ka := (Keeps.refl Nothing wq).alloc (.cells #[.string ⟨s5.toArray⟩] 9)
                have KX := K'.trans ka (fun _ h _ => h)
                have BX := blk_new wq #[.string ⟨s5.toArray⟩] 9
                refine hK _ _ (.inr trivial) ?_
                clear hK K K' ka
                generalize wq.alloc (.cells #[.string ⟨s5.toArray⟩] 9) = wx at *
                generalize wq.heap.size = gx at *
                have RX := RA.keepsN KX
                obtain ⟨i9, hi9, hz90, hz91, hz92⟩ := info_parts3 info9
                have hsrc : Src Try.prog 1 37 (.slice (some ⟨gx, 0, none⟩) 1 1) 1 [.string ⟨s5.toArray⟩] wx := Src.ofSlice _ Try.underlying37 ⟨gx, 0, none⟩ 1 1 _ rfl (fun t u hu => by
                  rw [ad_mid, Nat.zero_add]
                  exact blk_cell BX t (by simpa using hu)) (by intro u hu; simp at hu; subst hu; rfl)
                refine wpMixT_one (fun K hK => ?_)
                refine wpList_append_row _ rfl (.tmp 74) (.tmp 116) 37 37 rfl 9 i9 (.string ⟨#[]⟩) 16 Try.underlying37 hi9 hz90 hz91 hz92 rfl (some ⟨gA, 0, none⟩) 2 2 _ rfl rfl RX _ 1 _ rfl hsrc (by unfold maxLen; omega) (by omega) ?_
                intro aL cL w9 HR _ k9 _
                have K9 : Keeps Nothing w w9 := (K8.trans KX (fun _ h _ => h)).trans k9 (fun i hi hlt => by have := Option.some.inj hi; simp only at this; omega)
                clear k9 RX hsrc BX KX
                go_wp2_with fail
                refine hK _ _ (.inr trivial) ?_
                clear hK K
                refine wpMixT_one (fun K hK => ?_)
                go_wp2_with fail
                refine hK _ _ (.inl trivial) ?_
                clear hK K
                refine wpMixT_done ?_
                go_wp2_with fail
                go_meet
                exact ⟨aL, cL, s5, rfl, HR, K9, hs5l⟩
          · go_wp2_with fail
            have ka := (Keeps.refl Nothing wW).alloc (.cells #[.int .u8 vz] 5)
            have K' := KW.trans ka (fun _ h _ => h)
            have B28 := blk_new wW #[.int .u8 vz] 5
            refine hK _ _ (.inr trivial) ?_
            clear hK K
            try replace B8 := blk_alloc B8 (.cells #[.int .u8 vz] 5)
            clear KW ka
            generalize wW.alloc (.cells #[.int .u8 vz] 5) = w' at *
            generalize wW.heap.size = g28 at *
            clear wW
            rename World => wW
            have KW := K'
            clear K'
            refine wpMixT_two (fun K hK => ?_) (fun K hK => ?_)
            · go_wp2_with fail
              have ka := (Keeps.refl Nothing wW).alloc (.cells #[.int .u8 vz] 5)
              have K' := KW.trans ka (fun _ h _ => h)
              have B8 := blk_new wW #[.int .u8 vz] 5
              refine hK _ _ (.inr trivial) ?_
              clear hK K
              try replace B28 := blk_alloc B28 (.cells #[.int .u8 vz] 5)
              clear KW ka
              generalize wW.alloc (.cells #[.int .u8 vz] 5) = w' at *
              generalize wW.heap.size = g8 at *
              clear wW
              rename World => wW
              have KW := K'
              clear K'
              refine wpMixT_two (fun K hK => ?_) (fun K hK => ?_)
              · have s9 := run_str (l := 1) wW 1 [v] rfl (bytes1 (by rw [← hv.out]; exact B8))
                go_wp2_with fail
                refine hK _ _ (.inr trivial) ?_
                clear hK K s9
                repeat (refine wpMixT_free (fun K hK => ?_); go_simp; refine hK _ ?_; clear hK K)
                refine wpMixT_one (fun K hK => ?_)
                have s9 := run_str (l := 1) wW 1 [v] rfl (bytes1 (by rw [← hv.out]; exact B28))
                go_wp2_with fail
                refine hK _ _ (.inr trivial) ?_
                clear hK K s9
                repeat (refine wpMixT_free (fun K hK => ?_); go_simp; refine hK _ ?_; clear hK K)
                refine wpMixT_one (fun K hK => ?_)
                go_wp2_with fail
                have ka := (Keeps.refl Nothing wW).alloc (.cells #[.string ⟨A.toArray⟩, .string ((⟨A.toArray⟩ : ByteArray) ++ ⟨#[v]⟩ ++ ⟨R.toArray⟩), .string ((⟨A.toArray⟩ : ByteArray) ++ ⟨R.toArray⟩), .string ((⟨A.toArray⟩ : ByteArray) ++ ⟨#[v]⟩ ++ ⟨R2.toArray⟩)] 9)
                have K' := KW.trans ka (fun _ h _ => h)
                have BQ := blk_new wW #[.string ⟨A.toArray⟩, .string ((⟨A.toArray⟩ : ByteArray) ++ ⟨#[v]⟩ ++ ⟨R.toArray⟩), .string ((⟨A.toArray⟩ : ByteArray) ++ ⟨R.toArray⟩), .string ((⟨A.toArray⟩ : ByteArray) ++ ⟨#[v]⟩ ++ ⟨R2.toArray⟩)] 9
                refine hK _ _ (.inr trivial) ?_
                clear hK K
                clear KW ka
                generalize wW.alloc (.cells #[.string ⟨A.toArray⟩, .string ((⟨A.toArray⟩ : ByteArray) ++ ⟨#[v]⟩ ++ ⟨R.toArray⟩), .string ((⟨A.toArray⟩ : ByteArray) ++ ⟨R.toArray⟩), .string ((⟨A.toArray⟩ : ByteArray) ++ ⟨#[v]⟩ ++ ⟨R2.toArray⟩)] 9) = wq at *
                generalize wW.heap.size = gq at *
                obtain ⟨s5, hs5, hs5l⟩ := pick4 A R R2 v 4000 (by omega) (by omega) hj1
                have cQ := blk_cell BQ j hs5
                have hj4 : (j : Int) < 4 := by omega
                repeat (refine wpMixT_free (fun K hK => ?_); go_simp; refine hK _ ?_; clear hK K)
                refine wpMixT_one (fun K hK => ?_)
                go_wp2_with fail
                refine hK _ _ (.inr trivial) ?_
                clear hK K BQ cQ hs5
                refine wpMixT_one (fun K hK => ?_)
                go_wp2_with fail
                have ka := (Keeps.refl Nothing wq).alloc (.cells #[.string ⟨s5.toArray⟩] 9)
                have KX := K'.trans ka (fun _ h _ => h)
                have BX := blk_new wq #[.string ⟨s5.toArray⟩] 9
                refine hK _ _ (.inr trivial) ?_
                clear hK K K' ka
                generalize wq.alloc (.cells #[.string ⟨s5.toArray⟩] 9) = wx at *
                generalize wq.heap.size = gx at *
                have RX := RA.keepsN KX
                obtain ⟨i9, hi9, hz90, hz91, hz92⟩ := info_parts3 info9
                have hsrc : Src Try.prog 1 37 (.slice (some ⟨gx, 0, none⟩) 1 1) 1 [.string ⟨s5.toArray⟩] wx := Src.ofSlice _ Try.underlying37 ⟨gx, 0, none⟩ 1 1 _ rfl (fun t u hu => by
                  rw [ad_mid, Nat.zero_add]
                  exact blk_cell BX t (by simpa using hu)) (by intro u hu; simp at hu; subst hu; rfl)
                refine wpMixT_one (fun K hK => ?_)
                refine wpList_append_row _ rfl (.tmp 74) (.tmp 116) 37 37 rfl 9 i9 (.string ⟨#[]⟩) 16 Try.underlying37 hi9 hz90 hz91 hz92 rfl (some ⟨gA, 0, none⟩) 2 2 _ rfl rfl RX _ 1 _ rfl hsrc (by unfold maxLen; omega) (by omega) ?_
                intro aL cL w9 HR _ k9 _
                have K9 : Keeps Nothing w w9 := (K8.trans KX (fun _ h _ => h)).trans k9 (fun i hi hlt => by have := Option.some.inj hi; simp only at this; omega)
                clear k9 RX hsrc BX KX
                go_wp2_with fail
                refine hK _ _ (.inr trivial) ?_
                clear hK K
                refine wpMixT_one (fun K hK => ?_)
                go_wp2_with fail
                refine hK _ _ (.inl trivial) ?_
                clear hK K
                refine wpMixT_done ?_
                go_wp2_with fail
                go_meet
                exact ⟨aL, cL, s5, rfl, HR, K9, hs5l⟩
              · have s9 := run_str (l := 1) wW 1 [v] rfl (bytes1 (by rw [← hv.out]; exact B28))
                go_wp2_with fail
                refine hK _ _ (.inr trivial) ?_
                clear hK K s9
                repeat (refine wpMixT_free (fun K hK => ?_); go_simp; refine hK _ ?_; clear hK K)
                refine wpMixT_one (fun K hK => ?_)
                have s9 := run_str (l := 1) wW 1 [v] rfl (bytes1 (by rw [← hv.out]; exact B8))
                go_wp2_with fail
                refine hK _ _ (.inr trivial) ?_
                clear hK K s9
                repeat (refine wpMixT_free (fun K hK => ?_); go_simp; refine hK _ ?_; clear hK K)
                refine wpMixT_one (fun K hK => ?_)
                go_wp2_with fail
                have ka := (Keeps.refl Nothing wW).alloc (.cells #[.string ⟨A.toArray⟩, .string ((⟨A.toArray⟩ : ByteArray) ++ ⟨#[v]⟩ ++ ⟨R.toArray⟩), .string ((⟨A.toArray⟩ : ByteArray) ++ ⟨R.toArray⟩), .string ((⟨A.toArray⟩ : ByteArray) ++ ⟨#[v]⟩ ++ ⟨R2.toArray⟩)] 9)
                have K' := KW.trans ka (fun _ h _ => h)
                have BQ := blk_new wW #[.string ⟨A.toArray⟩, .string ((⟨A.toArray⟩ : ByteArray) ++ ⟨#[v]⟩ ++ ⟨R.toArray⟩), .string ((⟨A.toArray⟩ : ByteArray) ++ ⟨R.toArray⟩), .string ((⟨A.toArray⟩ : ByteArray) ++ ⟨#[v]⟩ ++ ⟨R2.toArray⟩)] 9
                refine hK _ _ (.inr trivial) ?_
                clear hK K
                clear KW ka
                generalize wW.alloc (.cells #[.string ⟨A.toArray⟩, .string ((⟨A.toArray⟩ : ByteArray) ++ ⟨#[v]⟩ ++ ⟨R.toArray⟩), .string ((⟨A.toArray⟩ : ByteArray) ++ ⟨R.toArray⟩), .string ((⟨A.toArray⟩ : ByteArray) ++ ⟨#[v]⟩ ++ ⟨R2.toArray⟩)] 9) = wq at *
                generalize wW.heap.size = gq at *
                obtain ⟨s5, hs5, hs5l⟩ := pick4 A R R2 v 4000 (by omega) (by omega) hj1
                have cQ := blk_cell BQ j hs5
                have hj4 : (j : Int) < 4 := by omega
                repeat (refine wpMixT_free (fun K hK => ?_); go_simp; refine hK _ ?_; clear hK K)
                refine wpMixT_one (fun K hK => ?_)
                go_wp2_with fail
                refine hK _ _ (.inr trivial) ?_
                clear hK K BQ cQ hs5
                refine wpMixT_one (fun K hK => ?_)
                go_wp2_with fail
                have ka := (Keeps.refl Nothing wq).alloc (.cells #[.string ⟨s5.toArray⟩] 9)
                have KX := K'.trans ka (fun _ h _ => h)
                have BX := blk_new wq #[.string ⟨s5.toArray⟩] 9
                refine hK _ _ (.inr trivial) ?_
                clear hK K K' ka
                generalize wq.alloc (.cells #[.string ⟨s5.toArray⟩] 9) = wx at *
                generalize wq.heap.size = gx at *
                have RX := RA.keepsN KX
                obtain ⟨i9, hi9, hz90, hz91, hz92⟩ := info_parts3 info9
                have hsrc : Src Try.prog 1 37 (.slice (some ⟨gx, 0, none⟩) 1 1) 1 [.string ⟨s5.toArray⟩] wx := Src.ofSlice _ Try.underlying37 ⟨gx, 0, none⟩ 1 1 _ rfl (fun t u hu => by
                  rw [ad_mid, Nat.zero_add]
                  exact blk_cell BX t (by simpa using hu)) (by intro u hu; simp at hu; subst hu; rfl)
                refine wpMixT_one (fun K hK => ?_)
                refine wpList_append_row _ rfl (.tmp 74) (.tmp 116) 37 37 rfl 9 i9 (.string ⟨#[]⟩) 16 Try.underlying37 hi9 hz90 hz91 hz92 rfl (some ⟨gA, 0, none⟩) 2 2 _ rfl rfl RX _ 1 _ rfl hsrc (by unfold maxLen; omega) (by omega) ?_
                intro aL cL w9 HR _ k9 _
                have K9 : Keeps Nothing w w9 := (K8.trans KX (fun _ h _ => h)).trans k9 (fun i hi hlt => by have := Option.some.inj hi; simp only at this; omega)
                clear k9 RX hsrc BX KX
                go_wp2_with fail
                refine hK _ _ (.inr trivial) ?_
                clear hK K
                refine wpMixT_one (fun K hK => ?_)
                go_wp2_with fail
                refine hK _ _ (.inl trivial) ?_
                clear hK K
                refine wpMixT_done ?_
                go_wp2_with fail
                go_meet
                exact ⟨aL, cL, s5, rfl, HR, K9, hs5l⟩
            · have s9 := run_str (l := 1) wW 1 [v] rfl (bytes1 (by rw [← hv.out]; exact B28))
              go_wp2_with fail
              refine hK _ _ (.inr trivial) ?_
              clear hK K s9
              repeat (refine wpMixT_free (fun K hK => ?_); go_simp; refine hK _ ?_; clear hK K)
              refine wpMixT_one (fun K hK => ?_)
              go_wp2_with fail
              have ka := (Keeps.refl Nothing wW).alloc (.cells #[.int .u8 vz] 5)
              have K' := KW.trans ka (fun _ h _ => h)
              have B8 := blk_new wW #[.int .u8 vz] 5
              refine hK _ _ (.inr trivial) ?_
              clear hK K
              try replace B28 := blk_alloc B28 (.cells #[.int .u8 vz] 5)
              clear KW ka
              generalize wW.alloc (.cells #[.int .u8 vz] 5) = w' at *
              generalize wW.heap.size = g8 at *
              clear wW
              rename World => wW
              have KW := K'
              clear K'
              refine wpMixT_one (fun K hK => ?_)
              have s9 := run_str (l := 1) wW 1 [v] rfl (bytes1 (by rw [← hv.out]; exact B8))
              go_wp2_with fail
              refine hK _ _ (.inr trivial) ?_
              clear hK K s9
              repeat (refine wpMixT_free (fun K hK => ?_); go_simp; refine hK _ ?_; clear hK K)
              refine wpMixT_one (fun K hK => ?_)
              go_wp2_with fail
              have ka := (Keeps.refl Nothing wW).alloc (.cells #[.string ⟨A.toArray⟩, .string ((⟨A.toArray⟩ : ByteArray) ++ ⟨#[v]⟩ ++ ⟨R.toArray⟩), .string ((⟨A.toArray⟩ : ByteArray) ++ ⟨R.toArray⟩), .string ((⟨A.toArray⟩ : ByteArray) ++ ⟨#[v]⟩ ++ ⟨R2.toArray⟩)] 9)
              have K' := KW.trans ka (fun _ h _ => h)
              have BQ := blk_new wW #[.string ⟨A.toArray⟩, .string ((⟨A.toArray⟩ : ByteArray) ++ ⟨#[v]⟩ ++ ⟨R.toArray⟩), .string ((⟨A.toArray⟩ : ByteArray) ++ ⟨R.toArray⟩), .string ((⟨A.toArray⟩ : ByteArray) ++ ⟨#[v]⟩ ++ ⟨R2.toArray⟩)] 9
              refine hK _ _ (.inr trivial) ?_
              clear hK K
              clear KW ka
              generalize wW.alloc (.cells #[.string ⟨A.toArray⟩, .string ((⟨A.toArray⟩ : ByteArray) ++ ⟨#[v]⟩ ++ ⟨R.toArray⟩), .string ((⟨A.toArray⟩ : ByteArray) ++ ⟨R.toArray⟩), .string ((⟨A.toArray⟩ : ByteArray) ++ ⟨#[v]⟩ ++ ⟨R2.toArray⟩)] 9) = wq at *
              generalize wW.heap.size = gq at *
              obtain ⟨s5, hs5, hs5l⟩ := pick4 A R R2 v 4000 (by omega) (by omega) hj1
              have cQ := blk_cell BQ j hs5
              have hj4 : (j : Int) < 4 := by omega
              repeat (refine wpMixT_free (fun K hK => ?_); go_simp; refine hK _ ?_; clear hK K)
              refine wpMixT_one (fun K hK => ?_)
              go_wp2_with fail
              refine hK _ _ (.inr trivial) ?_
              clear hK K BQ cQ hs5
              refine wpMixT_one (fun K hK => ?_)
              go_wp2_with fail
              have ka := (Keeps.refl Nothing wq).alloc (.cells #[.string ⟨s5.toArray⟩] 9)
              have KX := K'.trans ka (fun _ h _ => h)
              have BX := blk_new wq #[.string ⟨s5.toArray⟩] 9
              refine hK _ _ (.inr trivial) ?_
              clear hK K K' ka
              generalize wq.alloc (.cells #[.string ⟨s5.toArray⟩] 9) = wx at *
              generalize wq.heap.size = gx at *
              have RX := RA.keepsN KX
              obtain ⟨i9, hi9, hz90, hz91, hz92⟩ := info_parts3 info9
              have hsrc : Src Try.prog 1 37 (.slice (some ⟨gx, 0, none⟩) 1 1) 1 [.string ⟨s5.toArray⟩] wx := Src.ofSlice _ Try.underlying37 ⟨gx, 0, none⟩ 1 1 _ rfl (fun t u hu => by
                rw [ad_mid, Nat.zero_add]
                exact blk_cell BX t (by simpa using hu)) (by intro u hu; simp at hu; subst hu; rfl)
              refine wpMixT_one (fun K hK => ?_)
              refine wpList_append_row _ rfl (.tmp 74) (.tmp 116) 37 37 rfl 9 i9 (.string ⟨#[]⟩) 16 Try.underlying37 hi9 hz90 hz91 hz92 rfl (some ⟨gA, 0, none⟩) 2 2 _ rfl rfl RX _ 1 _ rfl hsrc (by unfold maxLen; omega) (by omega) ?_
              intro aL cL w9 HR _ k9 _
              have K9 : Keeps Nothing w w9 := (K8.trans KX (fun _ h _ => h)).trans k9 (fun i hi hlt => by have := Option.some.inj hi; simp only at this; omega)
              clear k9 RX hsrc BX KX
              go_wp2_with fail
              refine hK _ _ (.inr trivial) ?_
              clear hK K
              refine wpMixT_one (fun K hK => ?_)
              go_wp2_with fail
              refine hK _ _ (.inl trivial) ?_
              clear hK K
              refine wpMixT_done ?_
              go_wp2_with fail
              go_meet
              exact ⟨aL, cL, s5, rfl, HR, K9, hs5l⟩
        case rest =>
          obtain ⟨aL, cL, s5, rfl, HR', K9, hs5l⟩ := hcut
          have hLL : ∀ l ∈ ([b, M, s5] : List (List UInt8)), l.length ≤ 5000 := by
            intro l hl'
            simp only [List.mem_cons, List.not_mem_nil, or_false] at hl'
            rcases hl' with rfl | rfl | rfl <;> omega
          rename World => w9
          obtain ⟨LL, hLe⟩ : ∃ LL : List (List UInt8), LL = [b, M, s5] := ⟨_, rfl⟩
          have hLn : LL.length = 3 := by rw [hLe]; rfl
          rw [← hLe] at hLL HR'
          clear hLe
          have HLN := shut hLn
          clear hLn
          go_wp2_with fail
          go_loopw [17] (fun s17 wx => ∃ i : Nat, s17 = .int .i64 i ∧ i ≤ 3 ∧ Keeps Nothing w9 wx) (fun s17 _ => 3 - (intOf s17).toNat)
          case atStart => exact ⟨0, rfl, by omega, Keeps.refl _ _⟩
          case round =>
            obtain ⟨i, rfl, hi, KR⟩ := hrel
            by_cases hlt : i < 3
            · have m1 : (i : Int) < 3 := by omega
              obtain ⟨l, hl⟩ : ∃ l, LL[i]? = some l := ⟨LL[i]'(by rw [HLN.out]; exact hlt), List.getElem?_eq_getElem (by rw [HLN.out]; exact hlt)⟩
              have hl5k := hLL l (List.mem_of_getElem? hl)
              obtain ⟨gX, oX, rfl⟩ := HR'.head (by intro h; have := congrArg List.length h; rw [List.length_map, HLN.out] at this; simp at this)
              have hcell : (LL.map sv)[i]? = some (.string ⟨l.toArray⟩) := by rw [List.getElem?_map, hl]; rfl
              have cX := (HR'.keepsN KR).cell hcell
              obtain ⟨cap2, w2', hrun, hat, K2, hs2⟩ := run_bytes wr ⟨l.toArray⟩
              have hbe : bytesOf ⟨l.toArray⟩ = l := by simp [bytesOf]
              rw [hbe] at hat
              have hsz : (⟨l.toArray⟩ : ByteArray).size = l.length := by show l.toArray.size = _; simp
              rw [hsz] at hrun
              have hget := get_any (c := cap2) hat hl5k
              have KR2 := KR.trans K2 (fun _ h _ => h)
              have hrg := fun W => rget_any (w := W) (bs := l) hl5k
              clear hs2 hat hsz hbe hl hl5k
              generalize wr.heap.size = gb at *
              generalize l.length = nl at *
              go_wp2_with fail
              refine hget.mono ?_
              rintro e wg hG
              clear hget hrun cX
              cases hgm : getM l with
              | none =>
                obtain ⟨ev, rfl, hE, kg⟩ := hG.2 hgm
                clear hG
                obtain ⟨be, rfl⟩ := isErr_yes hE (by decide)
                have hZc := zeroC_is
                obtain ⟨Z0, hZ0⟩ : ∃ Z, Z = zeroC := ⟨_, rfl⟩
                rw [← hZ0] at hZc ⊢
                have HZ0 := shut hZ0
                clear hZ0
                have zr := hZc.row
                have ka := (Keeps.refl Nothing wg).alloc (.cells Z0 26)
                have KG := (KR2.trans kg (fun _ h _ => h)).trans ka (fun _ h _ => h)
                have BZ := blk_new wg Z0 26
                have cX2 := (HR'.keepsN KG).cell hcell
                have hE2 := hE.keeps ka (fun _ h => h.elim)
                clear kg ka KR2 KR hE
                go_wp2_with fail
                refine (hrg _).mono ?_
                rintro e wh hG2
                obtain ⟨rfl, kh⟩ := hG2.2 hgm
                clear hG2 hrg cX2 hgm
                rw [← HZ0.out]
                have ka := (Keeps.refl Nothing wh).alloc (.cells Z0 26)
                have kh2 := kh.trans ka (fun _ h _ => h)
                have KH := KG.trans kh2 (fun _ h _ => h)
                have BQ := blk_new wh Z0 26
                obtain ⟨x1, x2⟩ := blk_mid (kh2.blk BZ (fun h => h)) hZc.size
                obtain ⟨y1, y2⟩ := blk_mid BQ hZc.size
                have hE3 := hE2.keeps kh2 (fun _ h => h.elim)
                have hsame := fun W => same_true (w := W) hZc hZc (m := zeroM) (msg3_at W (k := 0) (f := 0) (t := 0) (by decide) (by decide) (by decide)) (msg3_at W (k := 0) (f := 0) (t := 0) (by decide) (by decide) (by decide))
                clear kh kh2 ka KG BZ BQ hE2
                go_wp2_with fail
                refine (hsame _).mono ?_
                rintro e ws ⟨rfl, ks⟩
                have his := is_any (hE3.keeps ks (fun _ h => h.elim)) 4 0
                clear hsame x1 x2 y1 y2 hE3
                go_wp2_with fail
                refine his.mono ?_
                rintro e wt ⟨rfl, nt, rfl⟩
                have KT := (KH.trans ks (fun _ h _ => h)).drewN nt
                clear his ks KH
                go_wp2_with fail
                go_roundw
                case rel => exact ⟨i + 1, by go_num, by omega, KT⟩
                case measure => simp [intOf]; omega
              | some mz =>
                obtain ⟨Cz, az, cz, rfl, hCz, hMz, kg⟩ := hG.1 mz hgm
                clear hG
                have zr := hCz.row
                have ka := (Keeps.refl Nothing wg).alloc (.cells Cz 26)
                have KG := (KR2.trans kg (fun _ h _ => h)).trans ka (fun _ h _ => h)
                have BZ := blk_new wg Cz 26
                have cX2 := (HR'.keepsN KG).cell hcell
                have hMz1 := hMz.keepsN ka
                clear kg ka KR2 KR hMz
                go_wp2_with fail
                refine (hrg _).mono ?_
                rintro e wh hG2
                obtain ⟨C2, a2, c2, rfl, hC2, hM2, kh⟩ := hG2.1 mz hgm
                clear hG2 hrg cX2 hgm
                have zr2 := hC2.row
                have ka := (Keeps.refl Nothing wh).alloc (.cells C2 26)
                have kh2 := kh.trans ka (fun _ h _ => h)
                have KH := KG.trans kh2 (fun _ h _ => h)
                have BQ := blk_new wh C2 26
                obtain ⟨x1, x2⟩ := blk_mid (kh2.blk BZ (fun h => h)) hCz.size
                obtain ⟨y1, y2⟩ := blk_mid BQ hC2.size
                have hsame := same_true hCz hC2 (hMz1.keepsN kh2) (hM2.keepsN ka)
                clear kh kh2 ka KG BZ BQ hMz1 hM2
                go_wp2_with fail
                refine hsame.mono ?_
                rintro e ws ⟨rfl, ks⟩
                have his := is_any (w := ws) (isErr_nil 0 _) 0 0
                clear hsame x1 x2 y1 y2
                go_wp2_with fail
                refine his.mono ?_
                rintro e wt ⟨rfl, nt, rfl⟩
                have KT := (KH.trans ks (fun _ h _ => h)).drewN nt
                clear his ks KH
                go_wp2_with fail
                go_roundw
                case rel => exact ⟨i + 1, by go_num, by omega, KT⟩
                case measure => simp [intOf]; omega
            · obtain rfl : i = 3 := by omega
              have K10 := K9.trans KR (fun _ h _ => h)
              go_wp2_with fail
              refine (told29 _).mono ?_
              rintro e w9 ⟨rfl, k9⟩
              go_wp2_with fail
              go_ret
              exact ⟨rfl, K10.trans k9 (fun _ h _ => h)⟩
      · obtain ⟨ev, rfl, hE, k2⟩ := hP.2 hy
        clear hP
        obtain ⟨be, rfl⟩ := isErr_yes hE (by decide)
        rw [decide_eq_false hy] at hmay hrmay
        have K2 := K1.trans k2 (fun _ h _ => h)
        have B2 := k2.blk B1 (fun h => h)
        clear k2 K1 B1
        have hrp : rPut m = ([], 1) := by unfold rPut; rw [if_neg hy]
        have hput := rput_of (rmay_any hC) hC (hM.keepsN K2) hS
        rw [hrp] at hput
        obtain ⟨x1, x2⟩ := blk_mid B2 hC.size
        clear hrp
        go_wp2_with fail
        refine hput.mono ?_
        rintro e w3 ⟨rfl, k3⟩
        have K3 := K2.trans k3 (fun _ h _ => h)
        have B3 := k3.blk B2 (fun h => h)
        have hE3 := hE.keeps k3.drew (fun _ h => h.elim)
        have s1 := run_str (l := 0) w3.drew 0 [] rfl (bytesAt_nil none)
        clear x1 x2 hput K2 B2 k3 hE
        go_wp2_with fail
        refine wp_region_mix (fun V => Keeps Nothing w3 V) [(true, 0), (true, 2), (false, 1), (true, 3), (true, 4), (true, 5), (true, 6), (false, 7), (true, 8), (true, 9), (true, 10), (true, 11), (true, 13), (false, 12), (false, 14), (true, 15), (true, 16)] (by kernel_rfl) (by kernel_rfl) (Keeps.refl _ _).drew ?_
        simp only [mixItems, List.map_cons, List.map_nil, List.getD_cons_zero, List.getD_cons_succ]
        repeat (refine wpMix_free (fun K hK => ?_); go_simp; refine hK _ ?_; clear hK K)
        refine wpMix_one (fun K hK => ?_)
        go_wp2_with fail
        refine hK _ _ (Keeps.refl Nothing w3).drew ?_
        clear hK K s1
        repeat (refine wpMix_free (fun K hK => ?_); go_simp; refine hK _ ?_; clear hK K)
        refine wpMix_one (fun K hK => ?_)
        go_wp2_with fail
        refine (is_any (w := w3.drew) hE3 _ 0).mono ?_
        rintro e w4 ⟨rfl, n4, rfl⟩
        have K4 : Keeps Nothing w3 (w3.drew.drewN n4) := (Keeps.refl Nothing w3).drew.drewN n4
        generalize w3.drew.drewN n4 = w4 at *
        go_wp2_with fail
        refine hK _ _ K4 ?_
        clear hK K
        repeat (refine wpMix_free (fun K hK => ?_); go_simp; refine hK _ ?_; clear hK K)
        refine wpMix_yield (v := .agg C) (fun V hV => ?_) (fun K hK => ?_)
        · obtain ⟨y1, y2⟩ := blk_mid (hV.blk B3 (fun h => h)) hC.size
          go_simp
        go_simp
        refine hK _ ?_
        clear hK K
        repeat (refine wpMix_free (fun K hK => ?_); go_simp; refine hK _ ?_; clear hK K)
        refine wpMix_yield (v := .agg C) (fun V hV => ?_) (fun K hK => ?_)
        · obtain ⟨y1, y2⟩ := blk_mid (hV.blk B3 (fun h => h)) hC.size
          go_simp
        go_simp
        refine hK _ ?_
        clear hK K
        repeat (refine wpMix_free (fun K hK => ?_); go_simp; refine hK _ ?_; clear hK K)
        refine wpMix_one (fun K hK => ?_)
        go_wp2_with fail
        refine (hmay _).mono ?_
        rintro e w5 ⟨rfl, k5⟩
        have K5 := K4.trans k5 (fun _ h _ => h)
        go_wp2_with fail
        refine hK _ _ K5 ?_
        clear hK K K4 k5
        refine wpMix_one (fun K hK => ?_)
        go_wp2_with fail
        refine (hrmay _).mono ?_
        rintro e w6 ⟨rfl, k6⟩
        have K6 := K5.trans k6 (fun _ h _ => h)
        go_wp2_with fail
        refine hK _ _ K6 ?_
        clear hK K K5 k6
        repeat (refine wpMix_free (fun K hK => ?_); go_simp; refine hK _ ?_; clear hK K)
        refine wpMix_nil ?_
        have K7 := K3.trans K6 (fun _ h _ => h)
        have s2 := run_str w6 cb b hnb (hB.keeps K7 (fun _ _ h => h))
        clear K3 K6 B3 hmay hrmay hE3
        go_upto_region 11 with fail
        have BA := blk_new w6 #[.string ⟨b.toArray⟩, .string ⟨([] : List UInt8).toArray⟩] 9
        have HR' : RowR _ 9 (some ⟨w6.heap.size, 0, none⟩) 2 (([b, []] : List (List UInt8)).map sv) := rowR_blk (vs := [sv b, sv []]) BA rfl (by intro u hu; simp only [List.mem_cons, List.not_mem_nil, or_false] at hu; rcases hu with rfl | rfl <;> rfl) (by simp)
        have K9 := K7.trans ((Keeps.refl Nothing w6).alloc (.cells #[.string ⟨b.toArray⟩, .string ⟨([] : List UInt8).toArray⟩] 9)) (fun _ h _ => h)
        clear BA K7 s2
        have hLL : ∀ l ∈ ([b, []] : List (List UInt8)), l.length ≤ 5000 := by
          intro l hl'
          simp only [List.mem_cons, List.not_mem_nil, or_false] at hl'
          rcases hl' with rfl | rfl
          · omega
          · exact Nat.zero_le _
        obtain ⟨w9, hw9⟩ : ∃ W, w6.alloc (.cells #[.string ⟨b.toArray⟩, .string ⟨([] : List UInt8).toArray⟩] 9) = W := ⟨_, rfl⟩
        rw [hw9] at HR' K9
        have hw9' : w6.alloc (.cells #[.string ⟨b.toArray⟩, .string ⟨#[]⟩] 9) = w9 := hw9
        rw [hw9']
        clear hw9 hw9'
        obtain ⟨gA, hgA⟩ : ∃ g, w6.heap.size = g := ⟨_, rfl⟩
        rw [hgA] at HR' ⊢
        clear hgA
        obtain ⟨aL, haL⟩ : ∃ a : Option Addr, some ⟨gA, 0, none⟩ = a := ⟨_, rfl⟩
        rw [haL] at HR' ⊢
        clear haL
        obtain ⟨LL, hLe⟩ : ∃ LL : List (List UInt8), LL = [b, []] := ⟨_, rfl⟩
        have hLn : LL.length = 2 := by rw [hLe]; rfl
        rw [← hLe] at hLL HR'
        clear hLe
        have HLN := shut hLn
        clear hLn
        go_wp2_with fail
        go_loopw [17] (fun s17 wx => ∃ i : Nat, s17 = .int .i64 i ∧ i ≤ 2 ∧ Keeps Nothing w9 wx) (fun s17 _ => 2 - (intOf s17).toNat)
        case atStart => exact ⟨0, rfl, by omega, Keeps.refl _ _⟩
        case round =>
          obtain ⟨i, rfl, hi, KR⟩ := hrel
          by_cases hlt : i < 2
          · have m1 : (i : Int) < 2 := by omega
            obtain ⟨l, hl⟩ : ∃ l, LL[i]? = some l := ⟨LL[i]'(by rw [HLN.out]; exact hlt), List.getElem?_eq_getElem (by rw [HLN.out]; exact hlt)⟩
            have hl5k := hLL l (List.mem_of_getElem? hl)
            obtain ⟨gX, oX, rfl⟩ := HR'.head (by intro h; have := congrArg List.length h; rw [List.length_map, HLN.out] at this; simp at this)
            have hcell : (LL.map sv)[i]? = some (.string ⟨l.toArray⟩) := by rw [List.getElem?_map, hl]; rfl
            have cX := (HR'.keepsN KR).cell hcell
            obtain ⟨cap2, w2', hrun, hat, K2, hs2⟩ := run_bytes wr ⟨l.toArray⟩
            have hbe : bytesOf ⟨l.toArray⟩ = l := by simp [bytesOf]
            rw [hbe] at hat
            have hsz : (⟨l.toArray⟩ : ByteArray).size = l.length := by show l.toArray.size = _; simp
            rw [hsz] at hrun
            have hget := get_any (c := cap2) hat hl5k
            have KR2 := KR.trans K2 (fun _ h _ => h)
            have hrg := fun W => rget_any (w := W) (bs := l) hl5k
            clear hs2 hat hsz hbe hl hl5k
            generalize wr.heap.size = gb at *
            generalize l.length = nl at *
            go_wp2_with fail
            refine hget.mono ?_
            rintro e wg hG
            clear hget hrun cX
            cases hgm : getM l with
            | none =>
              obtain ⟨ev, rfl, hE, kg⟩ := hG.2 hgm
              clear hG
              obtain ⟨be, rfl⟩ := isErr_yes hE (by decide)
              have hZc := zeroC_is
              obtain ⟨Z0, hZ0⟩ : ∃ Z, Z = zeroC := ⟨_, rfl⟩
              rw [← hZ0] at hZc ⊢
              have HZ0 := shut hZ0
              clear hZ0
              have zr := hZc.row
              have ka := (Keeps.refl Nothing wg).alloc (.cells Z0 26)
              have KG := (KR2.trans kg (fun _ h _ => h)).trans ka (fun _ h _ => h)
              have BZ := blk_new wg Z0 26
              have cX2 := (HR'.keepsN KG).cell hcell
              have hE2 := hE.keeps ka (fun _ h => h.elim)
              clear kg ka KR2 KR hE
              go_wp2_with fail
              refine (hrg _).mono ?_
              rintro e wh hG2
              obtain ⟨rfl, kh⟩ := hG2.2 hgm
              clear hG2 hrg cX2 hgm
              rw [← HZ0.out]
              have ka := (Keeps.refl Nothing wh).alloc (.cells Z0 26)
              have kh2 := kh.trans ka (fun _ h _ => h)
              have KH := KG.trans kh2 (fun _ h _ => h)
              have BQ := blk_new wh Z0 26
              obtain ⟨x1, x2⟩ := blk_mid (kh2.blk BZ (fun h => h)) hZc.size
              obtain ⟨y1, y2⟩ := blk_mid BQ hZc.size
              have hE3 := hE2.keeps kh2 (fun _ h => h.elim)
              have hsame := fun W => same_true (w := W) hZc hZc (m := zeroM) (msg3_at W (k := 0) (f := 0) (t := 0) (by decide) (by decide) (by decide)) (msg3_at W (k := 0) (f := 0) (t := 0) (by decide) (by decide) (by decide))
              clear kh kh2 ka KG BZ BQ hE2
              go_wp2_with fail
              refine (hsame _).mono ?_
              rintro e ws ⟨rfl, ks⟩
              have his := is_any (hE3.keeps ks (fun _ h => h.elim)) 4 0
              clear hsame x1 x2 y1 y2 hE3
              go_wp2_with fail
              refine his.mono ?_
              rintro e wt ⟨rfl, nt, rfl⟩
              have KT := (KH.trans ks (fun _ h _ => h)).drewN nt
              clear his ks KH
              go_wp2_with fail
              go_roundw
              case rel => exact ⟨i + 1, by go_num, by omega, KT⟩
              case measure => simp [intOf]; omega
            | some mz =>
              obtain ⟨Cz, az, cz, rfl, hCz, hMz, kg⟩ := hG.1 mz hgm
              clear hG
              have zr := hCz.row
              have ka := (Keeps.refl Nothing wg).alloc (.cells Cz 26)
              have KG := (KR2.trans kg (fun _ h _ => h)).trans ka (fun _ h _ => h)
              have BZ := blk_new wg Cz 26
              have cX2 := (HR'.keepsN KG).cell hcell
              have hMz1 := hMz.keepsN ka
              clear kg ka KR2 KR hMz
              go_wp2_with fail
              refine (hrg _).mono ?_
              rintro e wh hG2
              obtain ⟨C2, a2, c2, rfl, hC2, hM2, kh⟩ := hG2.1 mz hgm
              clear hG2 hrg cX2 hgm
              have zr2 := hC2.row
              have ka := (Keeps.refl Nothing wh).alloc (.cells C2 26)
              have kh2 := kh.trans ka (fun _ h _ => h)
              have KH := KG.trans kh2 (fun _ h _ => h)
              have BQ := blk_new wh C2 26
              obtain ⟨x1, x2⟩ := blk_mid (kh2.blk BZ (fun h => h)) hCz.size
              obtain ⟨y1, y2⟩ := blk_mid BQ hC2.size
              have hsame := same_true hCz hC2 (hMz1.keepsN kh2) (hM2.keepsN ka)
              clear kh kh2 ka KG BZ BQ hMz1 hM2
              go_wp2_with fail
              refine hsame.mono ?_
              rintro e ws ⟨rfl, ks⟩
              have his := is_any (w := ws) (isErr_nil 0 _) 0 0
              clear hsame x1 x2 y1 y2
              go_wp2_with fail
              refine his.mono ?_
              rintro e wt ⟨rfl, nt, rfl⟩
              have KT := (KH.trans ks (fun _ h _ => h)).drewN nt
              clear his ks KH
              go_wp2_with fail
              go_roundw
              case rel => exact ⟨i + 1, by go_num, by omega, KT⟩
              case measure => simp [intOf]; omega
          · obtain rfl : i = 2 := by omega
            have K10 := K9.trans KR (fun _ h _ => h)
            go_wp2_with fail
            refine (told29 _).mono ?_
            rintro e w9 ⟨rfl, k9⟩
            go_wp2_with fail
            go_ret
            exact ⟨rfl, K10.trans k9 (fun _ h _ => h)⟩

set_option maxRecDepth 100000 in
theorem lifted (os : Os) (started : os.Started) (H : Type) (enc : TypeId × Value → H) :
    ReturnsInHanded {} Try.checked os 3 .any (Rows.netBytesSpec.pre6 enc Try.prog Try.f3 Rows.netBytesRow.domain false) (Rows.netBytesSpec.post enc Try.prog Try.f3 false true false false) := by
  refine returnsInHanded_of_change (C := Try.checked) own started (by kernel_rfl) Try.func3
    (ChangeSpec.witness6 (enc := enc) (C := Try.checked) false ⟨#[], #[.agg #[.int .i64 0, .int .i64 0, .int .i64 0, .int .i64 0, .int .i64 0, .string ⟨#[]⟩, .int .u8 0, .int .u8 0, .int .u8 0, .int .u8 0, .int .u8 0, .int .u8 0, .int .u8 0, .int .u8 0, .int .u8 0, .int .u8 0, .int .u8 0, .int .u8 0, .int .u8 0, .int .u8 0, .int .u8 0, .int .u8 0, .int .u8 0, .int .u8 0, .int .u8 0, .int .u8 0, .int .u8 0, .int .u8 0, .int .u8 0, .int .u8 0, .int .u8 0, .int .u8 0, .int .u8 0, .int .u8 0, .int .u8 0, .int .u8 0, .int .u8 0, .int .u8 0, .slice none 0 0, .string ⟨#[]⟩, .string ⟨#[]⟩], .slice none 0 0, .int .i64 0, .int .u8 0, .int .i64 0], []⟩ 8 (by kernel_rfl) (by kernel_rfl) (by kernel_rfl) (by kernel_rfl)) ?_
  intro W base args ds gs before hval0 hW hcnd _
  have hval : ∀ (j : Nat) t v, Try.f3.params[j]? = some t → args[j]? = some v → Value.okWide Try.prog W .any base t v := hval0
  have hW' := hW
  obtain ⟨p, q, hA0, hV, rfl, hfz, hnd⟩ := hW
  have hA : DataW.TrodAll enc Try.prog W 0 (fun _ => true) true Try.f3.params.toList args.toList ds p := hA0
  rw [Try.params3] at hA hval
  obtain ⟨v0, vs0, d0, ds0, p0, q0, hargs, rfl, rfl, h0, r0⟩ := trodAll_cons hA
  obtain ⟨v1, vs1, d1, ds1, p1, q1, rfl, rfl, rfl, h1, r1⟩ := trodAll_cons r0
  obtain ⟨v2, vs2, d2, ds2, p2, q2, rfl, rfl, rfl, h2, r2⟩ := trodAll_cons r1
  obtain ⟨v3, vs3, d3, ds3, p3, q3, rfl, rfl, rfl, h3, r3⟩ := trodAll_cons r2
  obtain ⟨v4, vs4, d4, ds4, p4, q4, rfl, rfl, rfl, h4, r4⟩ := trodAll_cons r3
  obtain ⟨rfl, rfl, rfl⟩ := trodAll_nil r4
  obtain rfl : args = #[v0, v1, v2, v3, v4] := by cases args; simp_all
  obtain ⟨rfl, rfl⟩ := trodVars_none hV
  have k0 := h0
  have lt0 : ∀ x ∈ p0, x.block < W.heap.size := by obtain ⟨m, hm⟩ := k0; exact DataW.trod_lt m _ _ _ hm
  have k1 := h1
  have lt1 : ∀ x ∈ p1, x.block < W.heap.size := by obtain ⟨m, hm⟩ := k1; exact DataW.trod_lt m _ _ _ hm
  have k2 := h2
  have lt2 : ∀ x ∈ p2, x.block < W.heap.size := by obtain ⟨m, hm⟩ := k2; exact DataW.trod_lt m _ _ _ hm
  have k3 := h3
  have lt3 : ∀ x ∈ p3, x.block < W.heap.size := by obtain ⟨m, hm⟩ := k3; exact DataW.trod_lt m _ _ _ hm
  have k4 := h4
  have lt4 : ∀ x ∈ p4, x.block < W.heap.size := by obtain ⟨m, hm⟩ := k4; exact DataW.trod_lt m _ _ _ hm
  have hv0 := hval 0 26 v0 rfl rfl
  obtain ⟨m, C, ao, cap, rfl, hC, hM, hs1, hs2, hs3⟩ := open_msg hv0 h0
  obtain ⟨ao1, len1, cap1, rfl⟩ := okWide_slice Try.underlying27 (hval 1 27 v1 rfl rfl)
  obtain ⟨fuel1, hf1⟩ := h1
  obtain ⟨bs1, hn1, hB1, hlc1, hcm1⟩ := open_bytes rfl hf1
  obtain ⟨a2, rfl, rfl, rfl, w2⟩ := open_int Try.underlying3 (hval 2 3 v2 rfl rfl) h2
  have b2 := bounds_i64 w2
  obtain ⟨a3, rfl, rfl, rfl, w3⟩ := open_int Try.underlying5 (hval 3 5 v3 rfl rfl) h3
  obtain ⟨a4, rfl, rfl, rfl, w4⟩ := open_int Try.underlying3 (hval 4 3 v4 rfl rfl) h4
  have b4 := bounds_i64 w4
  clear hA0 hval0
  refine (walk W hC hM hn1 hB1 a2 a3 (UInt8.ofNat a3.toNat) (u8_of w3) a4).mono fun e W' ⟨he, hk⟩ => ?_
  subst he
  have bel : Below W.heap.size W W' := hk.below (Nat.le_refl _) (fun _ h => h.elim)
  exact ⟨_, rfl, _, _, _, [], _, [], hW', trodAll_mk1 (shut_bool Try.underlying4 _), (trodAll_cons_mk (Below.trod laidOut (by kernel_rfl) (of_decide_eq_true (by kernel_rfl)) k0 bel lt0) (trodAll_cons_mk (Below.trod laidOut (by kernel_rfl) (of_decide_eq_true (by kernel_rfl)) k1 bel lt1) (trodAll_cons_mk (Below.trod laidOut (by kernel_rfl) (of_decide_eq_true (by kernel_rfl)) k2 bel lt2) (trodAll_cons_mk (Below.trod laidOut (by kernel_rfl) (of_decide_eq_true (by kernel_rfl)) k3 bel lt3) (trodAll_cons_mk (Below.trod laidOut (by kernel_rfl) (of_decide_eq_true (by kernel_rfl)) k4 bel lt4) trodAll_mk0))))), rfl, bel.frame _, fun h => by cases h⟩

/-- For every input the law returns true, and its arguments read as before. -/
theorem proved : Rows.NetBytesSaid :=
  OpenClaim.holds_of_wide 3 Try.f3 rfl rfl rfl rfl rfl rfl rfl ⟨rfl, rfl, rfl, rfl, rfl⟩ rfl rfl rfl rfl rfl (by kernel_rfl) Try.func3 (by kernel_rfl)
    (of_decide_eq_true (by kernel_rfl)) (by unfold Func.isWrapper; first | (rw [if_pos (by decide +kernel)]; kernel_rfl) | (rw [if_neg (by decide +kernel)]; exact ⟨rfl, rfl⟩))
    (fun os started H enc _ => lifted os started H enc)
#print axioms proved

end Go.Proofs.Yteifmkfkekglpaa.netBytes
