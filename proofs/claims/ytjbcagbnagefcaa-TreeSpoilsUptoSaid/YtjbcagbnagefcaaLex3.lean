/- lex.begins, goes, run, Word, Name; strings.HasPrefix, strings.IndexByte. -/
import Derived.Test.YtjbcagbnagefcaaLex2
import Derived.Lib.Strings
import Derived.Lib.Slices
import Derived.Lib.Walk
import Derived.Lib.Bytealg
import Derived.Laws.Strings2
import Derived.IntWalk
namespace Go.Proofs.Ytjbcagbnagefcaa
open Go.RowKit

set_option maxHeartbeats 1000000 in
theorem begins_any (w : World) (c : UInt8) : Calls Try.prog 72 #[.int .u8 (c.toNat : Int)] w fun e w' => e = .returned (.bool (begC c)) ∧ w' = w := by
  have hc := c.toNat_lt
  go_enter Try.func72, Try.ntmps72
  by_cases h1 : 97 ≤ c.toNat ∧ c.toNat ≤ 122
  · have e : begC c = true := by simp [begC, h1]
    have m1 : (97 : Int) ≤ c.toNat := by omega
    have m2 : (c.toNat : Int) ≤ 122 := by omega
    rw [e]
    go_wp2_with fail
    go_ret
    exact ⟨rfl, rfl⟩
  · by_cases h2 : 65 ≤ c.toNat ∧ c.toNat ≤ 90
    · have e : begC c = true := by simp [begC, h2]
      have m1 : ¬ (97 : Int) ≤ c.toNat := by omega
      have m2 : (65 : Int) ≤ c.toNat := by omega
      have m3 : (c.toNat : Int) ≤ 90 := by omega
      rw [e]
      go_wp2_with fail
      go_ret
      exact ⟨rfl, rfl⟩
    · by_cases h3 : c.toNat = 95
      · have e : begC c = true := by simp [begC, h3]
        have m1 : (c.toNat : Int) = 95 := by omega
        rw [e]
        clear h1 h2
        rw [m1]
        go_wp2_with fail
        go_ret
        exact ⟨rfl, rfl⟩
      · have e : begC c = false := by simp [begC, h3]; omega
        have m1 : ¬ (c.toNat : Int) = 95 := by omega
        rw [e]
        by_cases m2 : (97 : Int) ≤ c.toNat
        · have m3 : ¬ (c.toNat : Int) ≤ 122 := by omega
          have m4 : (65 : Int) ≤ c.toNat := by omega
          have m5 : ¬ (c.toNat : Int) ≤ 90 := by omega
          go_wp2_with fail
          go_ret
          exact ⟨rfl, rfl⟩
        · by_cases m4 : (65 : Int) ≤ c.toNat
          · have m5 : ¬ (c.toNat : Int) ≤ 90 := by omega
            go_wp2_with fail
            go_ret
            exact ⟨rfl, rfl⟩
          · go_wp2_with fail
            go_ret
            exact ⟨rfl, rfl⟩

set_option maxHeartbeats 400000 in
theorem goes_any (w : World) (c : UInt8) : Calls Try.prog 91 #[.int .u8 (c.toNat : Int)] w fun e w' => e = .returned (.bool (goC c)) ∧ w' = w := by
  have hc := c.toNat_lt
  by_cases h1 : begC c = true
  · have e : goC c = true := by unfold goC; rw [h1]; rfl
    rw [e]
    go_enter Try.func91, Try.ntmps91
    go_wp2_with fail
    refine (begins_any w c).mono ?_
    rintro e w' ⟨rfl, rfl⟩
    rw [h1]
    go_wp2_with fail
    go_ret
    exact ⟨rfl, rfl⟩
  · rw [Bool.not_eq_true] at h1
    have e : goC c = digC c := by unfold goC; rw [h1]; rfl
    by_cases h2 : 48 ≤ c.toNat
    · have m2 : (48 : Int) ≤ c.toNat := by omega
      by_cases h3 : c.toNat ≤ 57
      · have m3 : (c.toNat : Int) ≤ 57 := by omega
        rw [e, show digC c = true by simp [digC, h2, h3]]
        go_enter Try.func91, Try.ntmps91
        go_wp2_with fail
        refine (begins_any w c).mono ?_
        rintro e w' ⟨rfl, rfl⟩
        rw [h1]
        go_wp2_with fail
        go_ret
        exact ⟨rfl, rfl⟩
      · have m3 : ¬ (c.toNat : Int) ≤ 57 := by omega
        rw [e, show digC c = false by simp [digC, h3]]
        go_enter Try.func91, Try.ntmps91
        go_wp2_with fail
        refine (begins_any w c).mono ?_
        rintro e w' ⟨rfl, rfl⟩
        rw [h1]
        go_wp2_with fail
        go_ret
        exact ⟨ret_bool (by simp; omega), rfl⟩
    · have m2 : ¬ (48 : Int) ≤ c.toNat := by omega
      rw [e, show digC c = false by simp [digC, h2]]
      go_enter Try.func91, Try.ntmps91
      go_wp2_with fail
      refine (begins_any w c).mono ?_
      rintro e w' ⟨rfl, rfl⟩
      rw [h1]
      go_wp2_with fail
      go_ret
      exact ⟨rfl, rfl⟩

theorem str_at (s : List UInt8) {t : Nat} {c : UInt8} (hc : s[t]? = some c) (k : IntKind) (W : World) : (Instr.index 9 (.string ⟨s.toArray⟩) (.int k (t : Int))).run Try.prog W = .ok (.int .u8 (c.toNat : Int)) W := by
  obtain ⟨h1, h2⟩ := List.getElem?_eq_some_iff.1 hc
  rw [run_index_string W _ _ _ _ Try.underlying9, dif_pos ⟨by omega, by show (t : Int) < s.length; omega⟩]
  subst h2
  rfl
theorem str_cut (s : List UInt8) {i n j : Nat} (hj : i + n = j) (h : j ≤ s.length) (W : World) : (Instr.slice 9 (.string ⟨s.toArray⟩) (some (.int .i64 (i : Int))) (some (.int .i64 (j : Int))) none).run Try.prog W = .ok (.string ⟨((s.drop i).take n).toArray⟩) W := by
  subst hj
  rw [run_slice_string W 9 ⟨s.toArray⟩ .i64 .i64 i ((i + n : Nat) : Int) Try.underlying9 (by omega) (by omega) (by show ((i + n : Nat) : Int) ≤ s.length; omega), Int.toNat_natCast, Int.toNat_natCast, extract_eq]
theorem str_from (s : List UInt8) {i : Nat} (h : i ≤ s.length) (W : World) : (Instr.slice 9 (.string ⟨s.toArray⟩) (some (.int .i64 (i : Int))) none none).run Try.prog W = .ok (.string ⟨(s.drop i).toArray⟩) W := by
  rw [run_slice_string_l W 9 ⟨s.toArray⟩ Try.underlying9 .i64 i (by omega) (by show (i : Int) ≤ s.length; omega)]
  have e : ((⟨s.toArray⟩ : ByteArray).size) = i + (s.length - i) := by show s.length = _; omega
  rw [Int.toNat_natCast, e, extract_eq, List.take_of_length_le (by rw [List.length_drop]; omega)]
theorem run_cons {l : List UInt8} {k : Nat} {c : UInt8} (h : l[k]? = some c) (hg : goC c = true) : runN (l.drop k) = runN (l.drop (k + 1)) + 1 := by
  unfold runN
  rw [drop_cons h, List.takeWhile_cons, if_pos hg]
  rfl
theorem run_stop {l : List UInt8} {k : Nat} {c : UInt8} (h : l[k]? = some c) (hg : ¬ goC c = true) : runN (l.drop k) = 0 := by
  unfold runN
  rw [drop_cons h, List.takeWhile_cons, if_neg hg]
  rfl

set_option maxHeartbeats 400000 in
theorem run_any (w : World) (s : List UInt8) (hs : s.length < 9223372036854775808) (i : Nat) (hi : i ≤ s.length) : Calls Try.prog 73 #[.string ⟨s.toArray⟩, .int .i64 (i : Int)] w fun e w' => e = .returned (.int .i64 ((i + runN (s.drop i) : Nat) : Int)) ∧ w' = w := by
  have hsz : (ByteArray.mk s.toArray).size = s.length := rfl
  go_enter Try.func73, Try.ntmps73
  go_wp2_with fail
  go_loopw [1] (fun s1 wx => ∃ k : Nat, s1 = .int .i64 k ∧ k ≤ s.length ∧ Shut (k + runN (s.drop k) = i + runN (s.drop i)) ∧ wx = w) (fun s1 _ => s.length - (intOf s1).toNat)
  case atStart => exact ⟨i, rfl, hi, shut rfl, rfl⟩
  case round =>
    obtain ⟨k, rfl, hk, HR, rfl⟩ := hrel
    by_cases hlt : k < s.length
    · obtain ⟨c, hc⟩ : ∃ c, s[k]? = some c := ⟨_, List.getElem?_eq_getElem hlt⟩
      have hix := fun kk W => str_at s hc kk W
      have HC := shut hc
      clear hc
      have m1 : (k : Int) < s.length := by omega
      go_wp2_with fail
      refine (goes_any _ c).mono ?_
      rintro e w' ⟨rfl, rfl⟩
      by_cases hg : goC c = true
      · have HR2 := shut (show k + 1 + runN (s.drop (k + 1)) = i + runN (s.drop i) by rw [← HR.out, run_cons HC.out hg]; omega)
        rw [hg]
        go_wp2_with fail
        go_roundw
        case rel => exact ⟨k + 1, by go_num, by omega, HR2, by first | rfl | trivial⟩
        case measure => simp [intOf]; omega
      · have HF := shut (show k = i + runN (s.drop i) by rw [← HR.out, run_stop HC.out hg]; rfl)
        rw [Bool.not_eq_true] at hg
        rw [hg]
        go_wp2_with fail
        go_ret
        exact ⟨by rw [← HF.out]; rfl, rfl⟩
    · have HF := shut (show k = i + runN (s.drop i) by rw [← HR.out, List.drop_of_length_le (by omega : s.length ≤ k)]; rfl)
      go_wp2_with fail
      go_ret
      exact ⟨by rw [← HF.out]; rfl, rfl⟩

set_option maxHeartbeats 1000000 in
set_option maxRecDepth 100000 in
theorem indexByte_lite (s : ByteArray) (c : Int) (w : World) :
    Calls Try.prog 105 #[.string s, .int .u8 c] w fun e w' => e = .returned (.int .i64 (Lib.indexByte s.data.toList c.toNat.toUInt8)) ∧ w' = w := by
  go_enter Try.func105, Try.ntmps105
  go_wp2
  rw [run_callFunc_extern Try.func110 (by kernel_rfl) (by kernel_rfl) (by kernel_rfl) (e := Extern.BytealgIndexByte.indexByte) (by kernel_rfl), Lib.run_indexByteString]
  simp only [Result.andThen]
  rw [Oper.upon_value]
  go_wp2
  go_ret
  exact ⟨rfl, rfl⟩
set_option maxHeartbeats 4000000 in
theorem word_any (w : World) (s : List UInt8) : Calls Try.prog 74 #[.string ⟨s.toArray⟩] w fun e w' => e = .returned (.bool (isWord s)) ∧ w' = w := by
  by_cases h : s ∈ wordsL
  · have e : isWord s = true := by unfold isWord; rw [List.contains_iff_mem]; exact h
    rw [e]
    simp only [wordsL, List.mem_cons, List.not_mem_nil, or_false] at h
    rcases h with rfl | rfl | rfl | rfl | rfl | rfl | rfl | rfl | rfl | rfl | rfl | rfl | rfl | rfl | rfl | rfl | rfl
    all_goals
      go_enter Try.func74, Try.ntmps74
      go_wp2_with fail
      go_ret
      exact ⟨rfl, rfl⟩
  · have e : isWord s = false := by unfold isWord; rw [Bool.eq_false_iff, Ne, List.contains_iff_mem]; exact h
    rw [e]
    simp only [wordsL, List.mem_cons, List.not_mem_nil, or_false, not_or] at h
    obtain ⟨h0, h1, h2, h3, h4, h5, h6, h7, h8, h9, h10, h11, h12, h13, h14, h15, h16⟩ := h
    have n0 : (s == [102, 110]) = false := by simpa using h0
    have n1 : (s == [115, 116, 114, 117, 99, 116]) = false := by simpa using h1
    have n2 : (s == [112, 117, 98]) = false := by simpa using h2
    have n3 : (s == [108, 101, 116]) = false := by simpa using h3
    have n4 : (s == [109, 117, 116]) = false := by simpa using h4
    have n5 : (s == [105, 102]) = false := by simpa using h5
    have n6 : (s == [101, 108, 115, 101]) = false := by simpa using h6
    have n7 : (s == [119, 104, 105, 108, 101]) = false := by simpa using h7
    have n8 : (s == [108, 111, 111, 112]) = false := by simpa using h8
    have n9 : (s == [98, 114, 101, 97, 107]) = false := by simpa using h9
    have n10 : (s == [99, 111, 110, 116, 105, 110, 117, 101]) = false := by simpa using h10
    have n11 : (s == [114, 101, 116, 117, 114, 110]) = false := by simpa using h11
    have n12 : (s == [100, 114, 111, 112]) = false := by simpa using h12
    have n13 : (s == [116, 114, 117, 101]) = false := by simpa using h13
    have n14 : (s == [102, 97, 108, 115, 101]) = false := by simpa using h14
    have n15 : (s == [105, 110, 116]) = false := by simpa using h15
    have n16 : (s == [98, 111, 111, 108]) = false := by simpa using h16
    clear h0 h1 h2 h3 h4 h5 h6 h7 h8 h9 h10 h11 h12 h13 h14 h15 h16 e
    go_enter Try.func74, Try.ntmps74
    go_wp2_with fail
    go_ret
    exact ⟨rfl, rfl⟩

end Go.Proofs.Ytjbcagbnagefcaa
