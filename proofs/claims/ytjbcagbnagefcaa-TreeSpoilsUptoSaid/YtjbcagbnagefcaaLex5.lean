/- lex.Name, number, sign, next. -/
import Derived.Test.YtjbcagbnagefcaaLex4
namespace Go.Proofs.Ytjbcagbnagefcaa
open Go.RowKit

attribute [local go_sem] rowOk_new World.setRow_alloc_new aggOk_tok

set_option maxHeartbeats 1000000 in
theorem lname_any (w : World) (s : List UInt8) (hs : s.length < 9223372036854775808) : Calls Try.prog 44 #[.string ⟨s.toArray⟩] w fun e w' => e = .returned (.bool (isName s)) ∧ w' = w := by
  have hsz0 : (ByteArray.mk s.toArray).size = s.length := rfl
  by_cases h0 : s = []
  · subst h0
    go_enter Try.func44, Try.ntmps44
    go_wp2_with fail
    go_ret
    exact ⟨rfl, rfl⟩
  · have hn0 : (s == []) = false := by simpa using h0
    by_cases h1 : s.length ≤ 32
    · have m1 : (s.length : Int) ≤ 32 := by omega
      obtain ⟨c, r, rfl⟩ : ∃ c r, s = c :: r := by cases s with | nil => exact absurd rfl h0 | cons c r => exact ⟨c, r, rfl⟩
      have hix := fun kk W => str_at (c :: r) (t := 0) (c := c) rfl kk W
      have hra := fun W => run_any W (c :: r) hs 0 (by omega)
      rw [List.drop_zero, Nat.zero_add] at hra
      have hisn : isName (c :: r) = ((begC c && decide (runN (c :: r) ≤ 32)) && (decide (runN (c :: r) = (c :: r).length) && !isWord (c :: r))) := by
        unfold isName
        rw [show decide ((c :: r) ≠ []) = true by simp, show decide ((c :: r).length ≤ 32) = true by simpa using h1]
        rfl
      have hrl := runN_le (c :: r)
      obtain ⟨n, hn⟩ : ∃ n, runN (c :: r) = n := ⟨_, rfl⟩
      obtain ⟨L, hL⟩ : ∃ L, (c :: r).length = L := ⟨_, rfl⟩
      rw [hn] at hra hisn hrl
      rw [hL] at hisn hrl h1 m1 hsz0
      have hw := fun W => word_any W (c :: r)
      have hix0 : ∀ kk W, (Instr.index 9 (.string ⟨(c :: r).toArray⟩) (.int kk 0)).run Try.prog W = .ok (.int .u8 (c.toNat : Int)) W := hix
      have hL0 : 0 < L := by rw [← hL]; simp
      have hL1 : (0 : Int) < L := by omega
      rw [hisn]
      obtain ⟨s2, hs2⟩ : ∃ s2, c :: r = s2 := ⟨_, rfl⟩
      rw [hs2] at hix0 hra hw hsz0 hn0 ⊢
      clear hix
      clear hs2 hisn hL hn h0 hs
      by_cases hb : begC c = true
      · have hn32 : decide (n ≤ 32) = true := decide_eq_true (by omega)
        rw [hb, hn32]
        by_cases hnl : n = L
        · have m2 : (n : Int) = L := by omega
          rw [show decide (n = L) = true from decide_eq_true hnl]
          subst hnl
          cases hwd : isWord s2
          · go_enter Try.func44, Try.ntmps44
            go_wp2_with fail
            refine (begins_any _ c).mono ?_
            rintro e w' ⟨rfl, rfl⟩
            rw [hb]
            go_wp2_with fail
            refine (hra _).mono ?_
            rintro e w' ⟨rfl, rfl⟩
            go_wp2_with fail
            refine (hw _).mono ?_
            rintro e w' ⟨rfl, rfl⟩
            rw [hwd]
            go_wp2_with fail
            go_ret
            exact ⟨rfl, rfl⟩
          · go_enter Try.func44, Try.ntmps44
            go_wp2_with fail
            refine (begins_any _ c).mono ?_
            rintro e w' ⟨rfl, rfl⟩
            rw [hb]
            go_wp2_with fail
            refine (hra _).mono ?_
            rintro e w' ⟨rfl, rfl⟩
            go_wp2_with fail
            refine (hw _).mono ?_
            rintro e w' ⟨rfl, rfl⟩
            rw [hwd]
            go_wp2_with fail
            go_ret
            exact ⟨rfl, rfl⟩
        · have m2 : ¬ (n : Int) = L := by omega
          have m3 : ((n : Int) == (L : Int)) = false := by rw [beq_eq_false_iff_ne]; exact m2
          rw [show decide (n = L) = false from decide_eq_false hnl]
          go_enter Try.func44, Try.ntmps44
          go_wp2_with fail
          refine (begins_any _ c).mono ?_
          rintro e w' ⟨rfl, rfl⟩
          rw [hb]
          go_wp2_with fail
          refine (hra _).mono ?_
          rintro e w' ⟨rfl, rfl⟩
          go_wp2_with fail
          go_ret
          exact ⟨rfl, rfl⟩
      · rw [Bool.not_eq_true] at hb
        rw [hb]
        go_enter Try.func44, Try.ntmps44
        go_wp2_with fail
        refine (begins_any _ c).mono ?_
        rintro e w' ⟨rfl, rfl⟩
        rw [hb]
        go_wp2_with fail
        go_ret
        exact ⟨rfl, rfl⟩
    · have m1 : ¬ (s.length : Int) ≤ 32 := by omega
      have e : isName s = false := by unfold isName; rw [show decide (s.length ≤ 32) = false from decide_eq_false h1]; simp
      rw [e]
      go_enter Try.func44, Try.ntmps44
      go_wp2_with fail
      go_ret
      exact ⟨rfl, rfl⟩

/-! ### numbers -/
theorem numV_snoc (t : List UInt8) (c : UInt8) : numV (t ++ [c]) = numV t * 10 + (c.toNat - 48) := by unfold numV; rw [List.foldl_append]; rfl
theorem numV_mono (t u : List UInt8) : numV t ≤ numV (t ++ u) := by
  unfold numV
  rw [List.foldl_append]
  generalize t.foldl _ 0 = a
  induction u generalizing a with
  | nil => exact Nat.le_refl _
  | cons c u ih => exact Nat.le_trans (by omega) (ih (a * 10 + (c.toNat - 48)))
theorem take_snoc {t : List UInt8} {m : Nat} {c : UInt8} (h : t[m]? = some c) : t.take (m + 1) = t.take m ++ [c] := by rw [List.take_add_one, h]; rfl
theorem num_bad {t : List UInt8} {m : Nat} {c : UInt8} (h : t[m]? = some c) (hd : digC c = false) : numOk t = false := by
  unfold numOk
  have : t.all digC = false := by
    rw [Bool.eq_false_iff]
    intro e
    rw [List.all_eq_true] at e
    have := e c (List.mem_of_getElem? h)
    rw [hd] at this
    cases this
  rw [this]; rfl
theorem num_big {t : List UInt8} {m : Nat} (h : 2147483647 < numV (t.take m)) : numOk t = false := by
  unfold numOk
  have := numV_mono (t.take m) (t.drop m)
  rw [List.take_append_drop] at this
  rw [show decide (numV t ≤ 2147483647) = false from decide_eq_false (by omega)]
  simp

def numR (l : List UInt8) : Option (Nat × List UInt8 × Nat) := if numOk (l.takeWhile goC) then some (4, l.takeWhile goC, runN l) else none

end Go.Proofs.Ytjbcagbnagefcaa
