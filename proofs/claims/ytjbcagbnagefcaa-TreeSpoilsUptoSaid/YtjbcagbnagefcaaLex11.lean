/- usufructref6: letter, digit, run, Life, Word, Name. -/
import Derived.Test.YtjbcagbnagefcaaLex10
namespace Go.Proofs.Ytjbcagbnagefcaa
open Go.RowKit

set_option maxHeartbeats 1000000 in
theorem letter_any (w : World) (c : UInt8) : Calls Try.prog 66 #[.int .u8 (c.toNat : Int)] w fun e w' => e = .returned (.bool (begC c)) ∧ w' = w := by
  have hc := c.toNat_lt
  by_cases h1 : 97 ≤ c.toNat ∧ c.toNat ≤ 122
  · have e : begC c = true := by simp [begC, h1]
    have m1 : (97 : Int) ≤ c.toNat := by omega
    have m2 : (c.toNat : Int) ≤ 122 := by omega
    rw [e]
    go_enter Try.func66, Try.ntmps66
    go_wp2_with fail
    go_ret
    first | exact ⟨rfl, rfl⟩ | exact ⟨ret_bool (by simp; omega), rfl⟩
  · by_cases h2 : 65 ≤ c.toNat ∧ c.toNat ≤ 90
    · have e : begC c = true := by simp [begC, h2]
      have m1 : ¬ (97 : Int) ≤ c.toNat := by omega
      have m2 : (65 : Int) ≤ c.toNat := by omega
      have m3 : (c.toNat : Int) ≤ 90 := by omega
      rw [e]
      go_enter Try.func66, Try.ntmps66
      go_wp2_with fail
      go_ret
      first | exact ⟨rfl, rfl⟩ | exact ⟨ret_bool (by simp; omega), rfl⟩
    · have e : begC c = decide (c.toNat = 95) := by
        unfold begC
        rw [show (decide (97 ≤ c.toNat) && decide (c.toNat ≤ 122)) = false by rw [Bool.eq_false_iff]; intro e; simp at e; exact h1 e, show (decide (65 ≤ c.toNat) && decide (c.toNat ≤ 90)) = false by rw [Bool.eq_false_iff]; intro e; simp at e; exact h2 e]
        simp
      have m9 : ((c.toNat : Int) == 95) = decide (c.toNat = 95) := by rw [Bool.eq_iff_iff]; simp; omega
      rw [e]
      obtain ⟨d, hd⟩ : ∃ d, decide (c.toNat = 95) = d := ⟨_, rfl⟩
      rw [hd] at m9 ⊢
      clear hd e
      by_cases m2 : (97 : Int) ≤ c.toNat
      · have m3 : ¬ (c.toNat : Int) ≤ 122 := by omega
        have m4 : (65 : Int) ≤ c.toNat := by omega
        have m5 : ¬ (c.toNat : Int) ≤ 90 := by omega
        go_enter Try.func66, Try.ntmps66
        go_wp2_with fail
        go_ret
        exact ⟨rfl, rfl⟩
      · by_cases m4 : (65 : Int) ≤ c.toNat
        · have m5 : ¬ (c.toNat : Int) ≤ 90 := by omega
          go_enter Try.func66, Try.ntmps66
          go_wp2_with fail
          go_ret
          exact ⟨rfl, rfl⟩
        · go_enter Try.func66, Try.ntmps66
          go_wp2_with fail
          go_ret
          exact ⟨rfl, rfl⟩
theorem rdigit_any (w : World) (c : UInt8) : Calls Try.prog 89 #[.int .u8 (c.toNat : Int)] w fun e w' => e = .returned (.bool (digC c)) ∧ w' = w := by
  have hc := c.toNat_lt
  by_cases h2 : 48 ≤ c.toNat
  · have m2 : (48 : Int) ≤ c.toNat := by omega
    by_cases h3 : c.toNat ≤ 57
    · have m3 : (c.toNat : Int) ≤ 57 := by omega
      rw [show digC c = true by simp [digC, h2, h3]]
      go_enter Try.func89, Try.ntmps89
      go_wp2_with fail
      go_ret
      first | exact ⟨rfl, rfl⟩ | exact ⟨ret_bool (by simp; omega), rfl⟩
    · have m3 : ¬ (c.toNat : Int) ≤ 57 := by omega
      rw [show digC c = false by simp [digC, h3]]
      go_enter Try.func89, Try.ntmps89
      go_wp2_with fail
      go_ret
      first | exact ⟨rfl, rfl⟩ | exact ⟨ret_bool (by simp; omega), rfl⟩
  · have m2 : ¬ (48 : Int) ≤ c.toNat := by omega
    rw [show digC c = false by simp [digC, h2]]
    go_enter Try.func89, Try.ntmps89
    go_wp2_with fail
    go_ret
    first | exact ⟨rfl, rfl⟩ | exact ⟨ret_bool (by simp; omega), rfl⟩

set_option maxHeartbeats 1000000 in
theorem rrun_any (w : World) (s : List UInt8) (hs : s.length < 9223372036854775808) (i : Nat) (hi : i ≤ s.length) : Calls Try.prog 67 #[.string ⟨s.toArray⟩, .int .i64 (i : Int)] w fun e w' => e = .returned (.int .i64 ((i + runN (s.drop i) : Nat) : Int)) ∧ w' = w := by
  have hsz : (ByteArray.mk s.toArray).size = s.length := rfl
  go_enter Try.func67, Try.ntmps67
  go_wp2_with fail
  go_loopw [1] (fun s1 wx => ∃ k : Nat, s1 = .int .i64 k ∧ k ≤ s.length ∧ Shut (k + runN (s.drop k) = i + runN (s.drop i)) ∧ wx = w) (fun s1 _ => s.length - (intOf s1).toNat)
  case atStart => exact ⟨i, rfl, hi, shut rfl, rfl⟩
  case round =>
    obtain ⟨k, rfl, hk, HR, rfl⟩ := hrel
    by_cases hlt : k < s.length
    · obtain ⟨c, hc⟩ : ∃ c, s[k]? = some c := ⟨_, List.getElem?_eq_getElem hlt⟩
      have hix := fun kk W => str_at s hc kk W
      have HC := shut hc
      clear hc
      have m1 : (k : Int) < s.length := by omega
      go_wp2_with fail
      refine (letter_any _ c).mono ?_
      rintro e w' ⟨rfl, rfl⟩
      by_cases hb : begC c = true
      · have hg : goC c = true := by unfold goC; rw [hb]; rfl
        have HR2 := shut (show k + 1 + runN (s.drop (k + 1)) = i + runN (s.drop i) by rw [← HR.out, run_cons HC.out hg]; omega)
        rw [hb]
        go_wp2_with fail
        go_roundw
        case rel => exact ⟨k + 1, by go_num, by omega, HR2, by first | rfl | trivial⟩
        case measure => simp [intOf]; omega
      · rw [Bool.not_eq_true] at hb
        rw [hb]
        go_wp2_with fail
        refine (rdigit_any _ c).mono ?_
        rintro e w' ⟨rfl, rfl⟩
        by_cases hd : digC c = true
        · have hg : goC c = true := by unfold goC; rw [hd]; simp
          have HR2 := shut (show k + 1 + runN (s.drop (k + 1)) = i + runN (s.drop i) by rw [← HR.out, run_cons HC.out hg]; omega)
          rw [hd]
          go_wp2_with fail
          go_roundw
          case rel => exact ⟨k + 1, by go_num, by omega, HR2, by first | rfl | trivial⟩
          case measure => simp [intOf]; omega
        · have hg : ¬ goC c = true := by unfold goC; rw [hb]; simpa using hd
          have HF := shut (show k = i + runN (s.drop i) by rw [← HR.out, run_stop HC.out hg]; rfl)
          rw [Bool.not_eq_true] at hd
          rw [hd]
          go_wp2_with fail
          go_ret
          exact ⟨by rw [← HF.out]; rfl, rfl⟩
    · have HF := shut (show k = i + runN (s.drop i) by rw [← HR.out, List.drop_of_length_le (by omega : s.length ≤ k)]; rfl)
      go_wp2_with fail
      go_ret
      exact ⟨by rw [← HF.out]; rfl, rfl⟩

def isLife (t : List UInt8) : Bool := decide (t ≠ []) && (decide (t.length ≤ 32) && (lifeOk t && decide (runN t = t.length)))
theorem isName_life (t : List UInt8) : isName t = (isLife t && !isWord t) := by
  unfold isName isLife
  rw [Bool.and_assoc, Bool.and_assoc, Bool.and_assoc]

set_option maxHeartbeats 1000000 in
theorem rlife_any (w : World) (s : List UInt8) (hs : s.length < 9223372036854775808) : Calls Try.prog 39 #[.string ⟨s.toArray⟩] w fun e w' => e = .returned (.bool (isLife s)) ∧ w' = w := by
  have hsz0 : (ByteArray.mk s.toArray).size = s.length := rfl
  by_cases h0 : s = []
  · subst h0
    go_enter Try.func39, Try.ntmps39
    go_wp2_with fail
    go_ret
    exact ⟨rfl, rfl⟩
  · by_cases h1 : s.length ≤ 32
    · have m1 : (s.length : Int) ≤ 32 := by omega
      obtain ⟨c, r, rfl⟩ : ∃ c r, s = c :: r := by cases s with | nil => exact absurd rfl h0 | cons c r => exact ⟨c, r, rfl⟩
      have hix0 : ∀ kk W, (Instr.index 9 (.string ⟨(c :: r).toArray⟩) (.int kk 0)).run Try.prog W = .ok (.int .u8 (c.toNat : Int)) W := fun kk W => str_at (c :: r) (t := 0) (c := c) rfl kk W
      have hra := fun W => rrun_any W (c :: r) hs 0 (by omega)
      rw [List.drop_zero, Nat.zero_add] at hra
      have hisn : isLife (c :: r) = ((begC c && decide (runN (c :: r) ≤ 32)) && decide (runN (c :: r) = (c :: r).length)) := by
        unfold isLife
        rw [show decide ((c :: r) ≠ []) = true by simp, show decide ((c :: r).length ≤ 32) = true by simpa using h1]
        rfl
      have hrl := runN_le (c :: r)
      obtain ⟨n, hn⟩ : ∃ n, runN (c :: r) = n := ⟨_, rfl⟩
      obtain ⟨L, hL⟩ : ∃ L, (c :: r).length = L := ⟨_, rfl⟩
      have hL0 : 0 < L := by rw [← hL]; simp
      have hL1 : (1 : Int) ≤ L := by omega
      have hL2 : (0 : Int) < L := by omega
      rw [hn] at hra hisn hrl
      rw [hL] at hisn hrl h1 m1 hsz0
      rw [hisn]
      obtain ⟨s2, hs2⟩ : ∃ s2, c :: r = s2 := ⟨_, rfl⟩
      rw [hs2] at hix0 hra hsz0 ⊢
      clear hs2 hisn hL hn h0 hs
      by_cases hb : begC c = true
      · have hn32 : decide (n ≤ 32) = true := decide_eq_true (by omega)
        rw [hb, hn32]
        have m3 : ((n : Int) == (L : Int)) = decide (n = L) := by rw [Bool.eq_iff_iff]; simp; omega
        obtain ⟨d, hd⟩ : ∃ d, decide (n = L) = d := ⟨_, rfl⟩
        rw [hd] at m3 ⊢
        clear hd
        go_enter Try.func39, Try.ntmps39
        go_wp2_with fail
        refine (letter_any _ c).mono ?_
        rintro e w' ⟨rfl, rfl⟩
        rw [hb]
        go_wp2_with fail
        refine (hra _).mono ?_
        rintro e w' ⟨rfl, rfl⟩
        go_wp2_with fail
        go_ret
        exact ⟨rfl, rfl⟩
      · rw [Bool.not_eq_true] at hb
        rw [hb]
        go_enter Try.func39, Try.ntmps39
        go_wp2_with fail
        refine (letter_any _ c).mono ?_
        rintro e w' ⟨rfl, rfl⟩
        rw [hb]
        go_wp2_with fail
        go_ret
        exact ⟨rfl, rfl⟩
    · have m1 : ¬ (s.length : Int) ≤ 32 := by omega
      have e : isLife s = false := by unfold isLife; rw [show decide (s.length ≤ 32) = false from decide_eq_false h1]; simp
      have m2 : (1 : Int) ≤ s.length := by omega
      rw [e]
      go_enter Try.func39, Try.ntmps39
      go_wp2_with fail
      go_ret
      exact ⟨rfl, rfl⟩

def wordV (l : List UInt8) : Value := .string ⟨l.toArray⟩
theorem words_lit : (wordsL.map wordV).toArray = #[.string ⟨#[102, 110]⟩, .string ⟨#[115, 116, 114, 117, 99, 116]⟩, .string ⟨#[112, 117, 98]⟩, .string ⟨#[108, 101, 116]⟩, .string ⟨#[109, 117, 116]⟩, .string ⟨#[105, 102]⟩, .string ⟨#[101, 108, 115, 101]⟩, .string ⟨#[119, 104, 105, 108, 101]⟩, .string ⟨#[108, 111, 111, 112]⟩, .string ⟨#[98, 114, 101, 97, 107]⟩, .string ⟨#[99, 111, 110, 116, 105, 110, 117, 101]⟩, .string ⟨#[114, 101, 116, 117, 114, 110]⟩, .string ⟨#[100, 114, 111, 112]⟩, .string ⟨#[116, 114, 117, 101]⟩, .string ⟨#[102, 97, 108, 115, 101]⟩, .string ⟨#[105, 110, 116]⟩, .string ⟨#[98, 111, 111, 108]⟩] := rfl
set_option maxRecDepth 100000 in
set_option maxHeartbeats 1000000 in
theorem rword_any (w : World) (s : List UInt8) : Calls Try.prog 40 #[.string ⟨s.toArray⟩] w fun e w' => e = .returned (.bool (isWord s)) ∧ Keeps Nothing w w' := by
  go_enter Try.func40, Try.ntmps40
  go_wp2_with fail
  rw [← words_lit]
  have BL := blk_new w (wordsL.map wordV).toArray 9
  have KW := (Keeps.refl Nothing w).alloc (.cells (wordsL.map wordV).toArray 9)
  generalize w.alloc (.cells (wordsL.map wordV).toArray 9) = W1 at *
  generalize w.heap.size = g at *
  have hcell : ∀ t p, wordsL[t]? = some p → W1.cell? ⟨g, t, none⟩ = some (.string ⟨p.toArray⟩) := fun t p h => blk_cell BL t (by rw [List.getElem?_toArray, List.getElem?_map, h]; rfl)
  have HCELL := shut hcell
  clear hcell BL
  go_loopw [4] (fun s4 wx => ∃ t : Nat, s4 = .int .i64 t ∧ t ≤ 17 ∧ Shut (∀ k, k < t → ∀ p, wordsL[k]? = some p → p ≠ s) ∧ wx = W1) (fun s4 _ => 17 - (intOf s4).toNat)
  case atStart => exact ⟨0, rfl, Nat.zero_le _, shut (fun k hk => by omega), rfl⟩
  case round =>
    obtain ⟨t, rfl, ht, HN, rfl⟩ := hrel
    by_cases hlt : t < 17
    · obtain ⟨p, hp⟩ : ∃ p, wordsL[t]? = some p := ⟨_, List.getElem?_eq_getElem (show t < wordsL.length from hlt)⟩
      have hc := HCELL.out t p hp
      have HP := shut hp
      have m0 : (0 : Int) ≤ t := by omega
      have m1 : (t : Int) < 17 := by omega
      clear hp
      by_cases he : p = s
      · have hR1 : isWord s = true := by unfold isWord; rw [List.contains_iff_mem, ← he]; exact List.mem_of_getElem? HP.out
        have hb : (p == s) = true := by simpa using he
        go_wp2_with fail
        go_ret
        exact ⟨by rw [hR1]; rfl, KW⟩
      · have hb : (p == s) = false := by simpa using he
        have HN2 : Shut (∀ k, k < t + 1 → ∀ p, wordsL[k]? = some p → p ≠ s) := shut (fun k hk x hx => by
          rcases Nat.lt_or_ge k t with h | h
          · exact HN.out k h x hx
          · obtain rfl : k = t := by omega
            rw [HP.out] at hx
            obtain rfl := Option.some.inj hx
            exact he)
        go_wp2_with fail
        go_roundw
        case rel => exact ⟨t + 1, by go_num, by omega, HN2, by first | rfl | trivial⟩
        case measure => simp [intOf]; omega
    · have hR1 : isWord s = false := by
        unfold isWord
        rw [Bool.eq_false_iff, Ne, List.contains_iff_mem]
        intro hm
        obtain ⟨k, hk⟩ := List.getElem?_of_mem hm
        have hk17 : k < 17 := by
          rcases Nat.lt_or_ge k 17 with h | h
          · exact h
          · rw [List.getElem?_eq_none (show wordsL.length ≤ k from h)] at hk; cases hk
        exact HN.out k (by omega) _ hk rfl
      go_wp2_with fail
      go_ret
      exact ⟨by rw [hR1]; rfl, KW⟩

set_option maxHeartbeats 1000000 in
theorem rname_any (w : World) (s : List UInt8) (hs : s.length < 9223372036854775808) : Calls Try.prog 18 #[.string ⟨s.toArray⟩] w fun e w' => e = .returned (.bool (isName s)) ∧ Keeps Nothing w w' := by
  rw [isName_life]
  cases hl : isLife s with
  | false =>
    go_enter Try.func18, Try.ntmps18
    go_wp2_with fail
    refine (rlife_any w s hs).mono ?_
    rintro e w1 ⟨rfl, rfl⟩
    rw [hl]
    go_wp2_with fail
    go_ret
    exact ⟨rfl, Keeps.refl _ _⟩
  | true =>
    obtain ⟨R, hR⟩ : ∃ R, isWord s = R := ⟨_, rfl⟩
    have hw := fun W => rword_any W s
    rw [hR] at hw ⊢
    go_enter Try.func18, Try.ntmps18
    go_wp2_with fail
    refine (rlife_any w s hs).mono ?_
    rintro e w1 ⟨rfl, rfl⟩
    rw [hl]
    go_wp2_with fail
    refine (hw _).mono ?_
    rintro e w2 ⟨rfl, k2⟩
    go_wp2_with fail
    go_ret
    exact ⟨by simp, k2⟩

end Go.Proofs.Ytjbcagbnagefcaa
