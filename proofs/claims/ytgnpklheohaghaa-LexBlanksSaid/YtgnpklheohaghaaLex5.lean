/- lex.Name, number, sign, next. -/
import Derived.Test.YtgnpklheohaghaaLex4
namespace Go.Proofs.Ytgnpklheohaghaa
open Go.RowKit

attribute [local go_sem ↓] exec_store_tok
attribute [local go_sem] rowOk_new World.setRow_alloc_new aggOk_tok

set_option maxHeartbeats 1000000 in
theorem lname_any (w : World) (s : List UInt8) (hs : s.length < 9223372036854775808) : Calls Try.prog 13 #[.string ⟨s.toArray⟩] w fun e w' => e = .returned (.bool (isName s)) ∧ w' = w := by
  have hsz0 : (ByteArray.mk s.toArray).size = s.length := rfl
  by_cases h0 : s = []
  · subst h0
    go_enter Try.func13, Try.ntmps13
    go_wp2_with fail
    go_ret
    exact ⟨rfl, rfl⟩
  · have hn0 : (s == []) = false := by simpa using h0
    by_cases h1 : s.length ≤ 32
    · have m1 : (s.length : Int) ≤ 32 := by omega
      obtain ⟨c, r, rfl⟩ : ∃ c r, s = c :: r := by cases s with | nil => exact absurd rfl h0 | cons c r => exact ⟨c, r, rfl⟩
      have hix := fun kk W => str_at (c :: r) (t := 0) (c := c) rfl kk W
      have hra := fun W => run_any W (c :: r) hs 0 (by omega)
      rw [List.drop_zero, Nat.zero_add] at hra
      have hisn : isName (c :: r) = ((begC c && decide (runN (c :: r) ≤ 32)) && (decide (runN (c :: r) = (c :: r).length) && !isWord (c :: r))) := by
        unfold isName
        rw [show decide ((c :: r) ≠ []) = true by simp, show decide ((c :: r).length ≤ 32) = true by simpa using h1]
        rfl
      have hrl := runN_le (c :: r)
      obtain ⟨n, hn⟩ : ∃ n, runN (c :: r) = n := ⟨_, rfl⟩
      obtain ⟨L, hL⟩ : ∃ L, (c :: r).length = L := ⟨_, rfl⟩
      rw [hn] at hra hisn hrl
      rw [hL] at hisn hrl h1 m1 hsz0
      have hw := fun W => word_any W (c :: r)
      have hix0 : ∀ kk W, (Instr.index 9 (.string ⟨(c :: r).toArray⟩) (.int kk 0)).run Try.prog W = .ok (.int .u8 (c.toNat : Int)) W := hix
      have hL0 : 0 < L := by rw [← hL]; simp
      have hL1 : (0 : Int) < L := by omega
      rw [hisn]
      obtain ⟨s2, hs2⟩ : ∃ s2, c :: r = s2 := ⟨_, rfl⟩
      rw [hs2] at hix0 hra hw hsz0 hn0 ⊢
      clear hix
      clear hs2 hisn hL hn h0 hs
      by_cases hb : begC c = true
      · have hn32 : decide (n ≤ 32) = true := decide_eq_true (by omega)
        rw [hb, hn32]
        by_cases hnl : n = L
        · have m2 : (n : Int) = L := by omega
          rw [show decide (n = L) = true from decide_eq_true hnl]
          subst hnl
          cases hwd : isWord s2
          · go_enter Try.func13, Try.ntmps13
            go_wp2_with fail
            refine (begins_any _ c).mono ?_
            rintro e w' ⟨rfl, rfl⟩
            rw [hb]
            go_wp2_with fail
            refine (hra _).mono ?_
            rintro e w' ⟨rfl, rfl⟩
            go_wp2_with fail
            refine (hw _).mono ?_
            rintro e w' ⟨rfl, rfl⟩
            rw [hwd]
            go_wp2_with fail
            go_ret
            exact ⟨rfl, rfl⟩
          · go_enter Try.func13, Try.ntmps13
            go_wp2_with fail
            refine (begins_any _ c).mono ?_
            rintro e w' ⟨rfl, rfl⟩
            rw [hb]
            go_wp2_with fail
            refine (hra _).mono ?_
            rintro e w' ⟨rfl, rfl⟩
            go_wp2_with fail
            refine (hw _).mono ?_
            rintro e w' ⟨rfl, rfl⟩
            rw [hwd]
            go_wp2_with fail
            go_ret
            exact ⟨rfl, rfl⟩
        · have m2 : ¬ (n : Int) = L := by omega
          have m3 : ((n : Int) == (L : Int)) = false := by rw [beq_eq_false_iff_ne]; exact m2
          rw [show decide (n = L) = false from decide_eq_false hnl]
          go_enter Try.func13, Try.ntmps13
          go_wp2_with fail
          refine (begins_any _ c).mono ?_
          rintro e w' ⟨rfl, rfl⟩
          rw [hb]
          go_wp2_with fail
          refine (hra _).mono ?_
          rintro e w' ⟨rfl, rfl⟩
          go_wp2_with fail
          go_ret
          exact ⟨rfl, rfl⟩
      · rw [Bool.not_eq_true] at hb
        rw [hb]
        go_enter Try.func13, Try.ntmps13
        go_wp2_with fail
        refine (begins_any _ c).mono ?_
        rintro e w' ⟨rfl, rfl⟩
        rw [hb]
        go_wp2_with fail
        go_ret
        exact ⟨rfl, rfl⟩
    · have m1 : ¬ (s.length : Int) ≤ 32 := by omega
      have e : isName s = false := by unfold isName; rw [show decide (s.length ≤ 32) = false from decide_eq_false h1]; simp
      rw [e]
      go_enter Try.func13, Try.ntmps13
      go_wp2_with fail
      go_ret
      exact ⟨rfl, rfl⟩

/-! ### numbers -/
theorem numV_snoc (t : List UInt8) (c : UInt8) : numV (t ++ [c]) = numV t * 10 + (c.toNat - 48) := by unfold numV; rw [List.foldl_append]; rfl
theorem numV_mono (t u : List UInt8) : numV t ≤ numV (t ++ u) := by
  unfold numV
  rw [List.foldl_append]
  generalize t.foldl _ 0 = a
  induction u generalizing a with
  | nil => exact Nat.le_refl _
  | cons c u ih => exact Nat.le_trans (by omega) (ih (a * 10 + (c.toNat - 48)))
theorem take_snoc {t : List UInt8} {m : Nat} {c : UInt8} (h : t[m]? = some c) : t.take (m + 1) = t.take m ++ [c] := by rw [List.take_add_one, h]; rfl
theorem num_bad {t : List UInt8} {m : Nat} {c : UInt8} (h : t[m]? = some c) (hd : digC c = false) : numOk t = false := by
  unfold numOk
  have : t.all digC = false := by
    rw [Bool.eq_false_iff]
    intro e
    rw [List.all_eq_true] at e
    have := e c (List.mem_of_getElem? h)
    rw [hd] at this
    cases this
  rw [this]; rfl
theorem num_big {t : List UInt8} {m : Nat} (h : 2147483647 < numV (t.take m)) : numOk t = false := by
  unfold numOk
  have := numV_mono (t.take m) (t.drop m)
  rw [List.take_append_drop] at this
  rw [show decide (numV t ≤ 2147483647) = false from decide_eq_false (by omega)]
  simp

def numR (l : List UInt8) : Option (Nat × List UInt8 × Nat) := if numOk (l.takeWhile goC) then some (4, l.takeWhile goC, runN l) else none

set_option maxHeartbeats 2000000 in
theorem number_any (w : World) (s : List UInt8) (hs : s.length < 9223372036854775807) (i : Nat) {c0 : UInt8} (hi : s[i]? = some c0) (hg0 : goC c0 = true) :
    Calls Try.prog 35 #[.string ⟨s.toArray⟩, .int .i64 (i : Int)] w (TokPost w i (numR (s.drop i))) := by
  have hil : i < s.length := by
    rcases Nat.lt_or_ge i s.length with h | h
    · exact h
    · rw [List.getElem?_eq_none h] at hi; cases hi
  have hrn := runN_le (s.drop i)
  rw [List.length_drop] at hrn
  have htw := tw_take (s.drop i)
  have hra := fun W => run_any W s (by omega) i (by omega)
  have hn1 : 1 ≤ runN (s.drop i) := by rw [run_cons hi hg0]; omega
  unfold numR
  rw [← htw]
  obtain ⟨n, hn⟩ : ∃ n, runN (s.drop i) = n := ⟨_, rfl⟩
  rw [hn] at hrn hra hn1 ⊢
  have hcut := fun W => str_cut s (i := i) (n := n) (j := i + n) rfl (by omega) W
  have hTl : ((s.drop i).take n).length = n := by rw [List.length_take, List.length_drop]; omega
  have hget : ∀ m, m < n → ((s.drop i).take n)[m]? = s[i + m]? := fun m hm => by rw [List.getElem?_take, if_pos hm, List.getElem?_drop]
  obtain ⟨j, hj⟩ : ∃ j, i + n = j := ⟨_, rfl⟩
  rw [hj] at hra hcut
  have hjl : j ≤ s.length := by omega
  have HJ := shut hj
  generalize (s.drop i).take n = T at *
  have HTL := shut hTl
  have HGET := shut hget
  have hix0 := fun kk W => str_at s hi kk W
  have HI := shut hi
  clear hTl htw hn hj hget hi
  obtain ⟨R, hR⟩ : ∃ R, (if numOk T = true then some (4, T, n) else none : Option (Nat × List UInt8 × Nat)) = R := ⟨_, rfl⟩
  rw [hR]
  have HR := shut hR
  clear hR
  go_enter Try.func35, Try.ntmps35
  go_wp2_with fail
  refine (hra _).mono ?_
  rintro e w' ⟨rfl, rfl⟩
  go_wp2_with fail
  have B1 := blk_new w (tokA 0 [] 0) 29
  have KW := (Keeps.refl Nothing w).alloc (.cells (tokA 0 [] 0) 29)
  rw [show (#[.int .i64 0, .string ⟨#[]⟩, .int .i64 0] : Array Value) = tokA 0 [] 0 from rfl]
  generalize w.alloc (.cells (tokA 0 [] 0) 29) = W1 at *
  generalize hg : w.heap.size = g at *
  have HG := shut hg
  clear hg
  go_loopw [7, 8] (fun s7 s8 wx => ∃ m v : Nat, s8 = .int .i64 ((i + m : Nat) : Int) ∧ s7 = .int .i64 v ∧ m ≤ n ∧ v ≤ 2147483647 ∧ Shut (v = numV (T.take m)) ∧ Shut ((T.take m).all digC = true) ∧ wx = W1) (fun _ s8 _ => i + n - (intOf s8).toNat)
  case atStart => exact ⟨0, 0, rfl, rfl, Nat.zero_le _, by omega, shut rfl, shut rfl, rfl⟩
  case round =>
    obtain ⟨m, v, rfl, rfl, hm, hv, HV, HA, rfl⟩ := hrel
    have r1 := rowOk_blk B1 (show (tokA 0 [] 0).size = 3 from rfl)
    have hag : aggOk 3 (.agg (tokA 0 [] 0)) = true := aggOk_tok _ _ _
    obtain ⟨k, hk⟩ : ∃ k, i + m = k := ⟨_, rfl⟩
    rw [hk]
    by_cases hlt : m < n
    · obtain ⟨c, hc⟩ : ∃ c, s[k]? = some c := ⟨_, List.getElem?_eq_getElem (by omega)⟩
      have hTm : T[m]? = some c := by rw [HGET.out m hlt, hk]; exact hc
      have hix := fun kk W => str_at s hc kk W
      have hcl := c.toNat_lt
      have m1 : (k : Int) < j := by have := HJ.out; omega
      have HK := shut hk
      have HT := shut hTm
      clear hc hk hTm
      by_cases h1 : 48 ≤ c.toNat ∧ c.toNat ≤ 57
      · have hd : digC c = true := by simp [digC, h1]
        have n1 : ¬ (c.toNat : Int) < 48 := by omega
        have n2 : ¬ (57 : Int) < c.toNat := by omega
        have hnv : numV (T.take (m + 1)) = v * 10 + (c.toNat - 48) := by rw [take_snoc HT.out, numV_snoc, ← HV.out]
        obtain ⟨d, hd2⟩ : ∃ d, c.toNat - 48 = d := ⟨_, rfl⟩
        rw [hd2] at hnv
        have n3 : (c.toNat : Int) - 48 = (d : Int) := by omega
        have hd9 : d ≤ 9 := by omega
        have HNV := shut hnv
        have HA2 : Shut ((T.take (m + 1)).all digC = true) := shut (by rw [take_snoc HT.out, List.all_append, HA.out]; simp [hd])
        clear hnv hd2 h1
        by_cases hbig : 2147483647 < v * 10 + d
        · have hbad : numOk T = false := num_big (m := m + 1) (by rw [HNV.out]; exact hbig)
          have n4 : (2147483647 : Int) < (v : Int) * 10 + d := by omega
          have hRv : Shut (R = none) := shut (by rw [← HR.out, hbad]; rfl)
          go_wp2_with fail
          refine bodyPost_ret (v := .tuple #[.agg (tokA 0 [] 0), .int .i64 0]) (results_row_tmp rfl _ _ g (tokA 0 [] 0) _ rfl rfl (loadVar_tok _ _ _ _ (blk_setRow (cs := tokA 0 [] 0) B1) rfl)) rfl ?_
          exact ⟨by rw [hRv.out]; rfl, KW.setRow (fun h => by have := HG.out; omega) _⟩
        · have n4 : ¬ (2147483647 : Int) < (v : Int) * 10 + d := by omega
          go_wp2_with fail
          go_roundw
          case rel => exact ⟨m + 1, v * 10 + d, by have := HK.out; go_num, by go_num, by omega, by omega, shut HNV.out.symm, HA2, by first | rfl | trivial⟩
          case measure => have := HK.out; simp [intOf]; omega
      · have hd : digC c = false := by unfold digC; rw [Bool.eq_false_iff]; intro e; simp at e; exact h1 e
        have hbad := num_bad HT.out hd
        have hRv : Shut (R = none) := shut (by rw [← HR.out, hbad]; rfl)
        by_cases n1 : (c.toNat : Int) < 48
        · go_wp2_with fail
          refine bodyPost_ret (v := .tuple #[.agg (tokA 0 [] 0), .int .i64 0]) (results_row_tmp rfl _ _ g (tokA 0 [] 0) _ rfl rfl (loadVar_tok _ _ _ _ (blk_setRow (cs := tokA 0 [] 0) B1) rfl)) rfl ?_
          exact ⟨by rw [hRv.out]; rfl, KW.setRow (fun h => by have := HG.out; omega) _⟩
        · have n2 : (57 : Int) < c.toNat := by omega
          go_wp2_with fail
          refine bodyPost_ret (v := .tuple #[.agg (tokA 0 [] 0), .int .i64 0]) (results_row_tmp rfl _ _ g (tokA 0 [] 0) _ rfl rfl (loadVar_tok _ _ _ _ (blk_setRow (cs := tokA 0 [] 0) B1) rfl)) rfl ?_
          exact ⟨by rw [hRv.out]; rfl, KW.setRow (fun h => by have := HG.out; omega) _⟩
    · have hmn : m = n := by omega
      have hTf : T.take m = T := List.take_of_length_le (by rw [HTL.out]; omega)
      rw [hTf] at HV HA
      have hkj : k = j := by rw [← hk, hmn]; exact HJ.out
      have m1 : ¬ (k : Int) < j := by omega
      have e1 : IntKind.i64.wrap ((j : Int) - (i : Int)) = (n : Int) := by rw [IntKind.wrap_i64]; have := HJ.out; omega
      have e2 : wrap64 ((j : Int) - (i : Int)) = (n : Int) := by unfold wrap64; have := HJ.out; omega
      have e3 : (j : Int) - (i : Int) = (n : Int) := by have := HJ.out; omega
      have hT0 : T.head? = some c0 := by
        rw [List.head?_eq_getElem?, HGET.out 0 (by omega), Nat.add_zero]; exact HI.out
      have hok : numOk T = (decide (n ≤ 1) || decide (c0.toNat ≠ 48)) := by
        unfold numOk
        rw [HA.out, ← HV.out, HTL.out, hT0, show decide (v ≤ 2147483647) = true from decide_eq_true hv]
        simp only [Bool.true_and]
        congr 1
        rw [decide_eq_decide]
        constructor
        · intro h e
          exact h (by rw [show c0 = 48 from UInt8.toNat_inj.mp (by rw [e]; rfl)])
        · intro h e
          exact h (by rw [Option.some.inj e]; rfl)
      have HOK := shut hok
      have hc0 := c0.toNat_lt
      clear hk hT0 hok hTf
      by_cases h48 : c0.toNat = 48
      · have p1 : (c0.toNat : Int) = 48 := by omega
        have p2 : ((c0.toNat : Int) == 48) = true := by rw [beq_iff_eq]; exact p1
        by_cases hn2 : n ≤ 1
        · have hRv : Shut (R = some (4, T, n)) := shut (by rw [← HR.out, HOK.out, show decide (n ≤ 1) = true from decide_eq_true hn2]; rfl)
          have p3 : ¬ (1 : Int) < n := by omega
          have hag2 : aggOk 3 (.agg (tokA 4 T i)) = true := aggOk_tok _ _ _
          go_wp2_with fail
          refine bodyPost_ret (v := .tuple #[.agg (tokA 4 T i), .int .i64 j]) (results_row_tmp rfl _ _ g (tokA 4 T i) _ rfl rfl (loadVar_tok _ _ _ _ (blk_setRow (cs := tokA 4 T i) B1) rfl)) rfl ?_
          exact ⟨by rw [hRv.out, ← HJ.out]; rfl, KW.setRow (fun h => by have := HG.out; omega) _⟩
        · have hRv : Shut (R = none) := shut (by rw [← HR.out, HOK.out, show decide (n ≤ 1) = false from decide_eq_false hn2, show decide (c0.toNat ≠ 48) = false by simp [h48]]; rfl)
          have p3 : (1 : Int) < n := by omega
          go_wp2_with fail
          refine bodyPost_ret (v := .tuple #[.agg (tokA 0 [] 0), .int .i64 0]) (results_row_tmp rfl _ _ g (tokA 0 [] 0) _ rfl rfl (loadVar_tok _ _ _ _ (blk_setRow (cs := tokA 0 [] 0) B1) rfl)) rfl ?_
          exact ⟨by rw [hRv.out]; rfl, KW.setRow (fun h => by have := HG.out; omega) _⟩
      · have p1 : ¬ (c0.toNat : Int) = 48 := by omega
        have p2 : ((c0.toNat : Int) == 48) = false := by rw [beq_eq_false_iff_ne]; exact p1
        have hRv : Shut (R = some (4, T, n)) := shut (by rw [← HR.out, HOK.out, show decide (c0.toNat ≠ 48) = true from decide_eq_true h48, Bool.or_true]; rfl)
        go_wp2_with fail
        refine bodyPost_ret (v := .tuple #[.agg (tokA 4 T i), .int .i64 j]) (results_row_tmp rfl _ _ g (tokA 4 T i) _ rfl rfl (loadVar_tok _ _ _ _ (blk_setRow (cs := tokA 4 T i) B1) rfl)) rfl ?_
        exact ⟨by rw [hRv.out, ← HJ.out]; rfl, KW.setRow (fun h => by have := HG.out; omega) _⟩

end Go.Proofs.Ytgnpklheohaghaa
