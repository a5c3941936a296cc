/- usufructref6.skip. -/
import Derived.Test.YtgnpklheohaghaaLex11
namespace Go.Proofs.Ytgnpklheohaghaa
open Go.RowKit

set_option maxHeartbeats 2000000 in
theorem rskip_any (w : World) (s : List UInt8) (hs : s.length < 9223372036854775806) (i : Nat) (hi : i ≤ s.length) :
    Calls Try.prog 24 #[.string ⟨s.toArray⟩, .int .i64 (i : Int)] w fun e w' => e = .returned (.int .i64 ((s.length - (skipL (s.drop i)).length : Nat) : Int)) ∧ w' = w := by
  have hsz0 : (ByteArray.mk s.toArray).size = s.length := rfl
  go_enter Try.func24, Try.ntmps24
  go_wp2_with fail
  go_loopw [1] (fun s1 wx => ∃ k : Nat, s1 = .int .i64 k ∧ k ≤ s.length ∧ Shut (skipL (s.drop k) = skipL (s.drop i)) ∧ wx = w) (fun s1 _ => s.length - (intOf s1).toNat)
  case atStart => exact ⟨i, rfl, hi, shut rfl, rfl⟩
  case round =>
    obtain ⟨k, rfl, hk, HR, hww⟩ := hrel
    subst wr
    by_cases hlt : k < s.length
    · obtain ⟨c, hc⟩ : ∃ c, s[k]? = some c := ⟨_, List.getElem?_eq_getElem hlt⟩
      have hdc := drop_cons hc
      have hcl := c.toNat_lt
      have hix := fun kk W => str_at s hc kk W
      have m1 : (k : Int) < s.length := by omega
      have HDC := shut hdc
      have HC := shut hc
      have hbl : blankC c = true ↔ (c.toNat = 32 ∨ c.toNat = 9 ∨ c.toNat = 10) := by simp [blankC]
      clear hc hdc
      by_cases hb : blankC c = true
      · have HR2 := shut (show skipL (s.drop (k + 1)) = skipL (s.drop i) by rw [← HR.out, HDC.out, skipL_blank hb])
        rcases hbl.1 hb with h | h | h
        · have p1 : ((c.toNat : Int) == 32) = true := by rw [beq_iff_eq]; omega
          have p2 : (c.toNat : Int) = 32 := by omega
          clear hb hbl h
          go_wp2_with fail
          go_roundw
          case rel => exact ⟨k + 1, by go_num, by omega, HR2, by first | rfl | trivial⟩
          case measure => simp [intOf]; omega
        · have p1 : ((c.toNat : Int) == 32) = false := by rw [beq_eq_false_iff_ne]; omega
          have p2 : ((c.toNat : Int) == 9) = true := by rw [beq_iff_eq]; omega
          have p3 : ¬ (c.toNat : Int) = 32 := by omega
          have p4 : (c.toNat : Int) = 9 := by omega
          clear hb hbl h
          go_wp2_with fail
          go_roundw
          case rel => exact ⟨k + 1, by go_num, by omega, HR2, by first | rfl | trivial⟩
          case measure => simp [intOf]; omega
        · have p1 : ((c.toNat : Int) == 32) = false := by rw [beq_eq_false_iff_ne]; omega
          have p2 : ((c.toNat : Int) == 9) = false := by rw [beq_eq_false_iff_ne]; omega
          have p3 : ¬ (c.toNat : Int) = 32 := by omega
          have p4 : ¬ (c.toNat : Int) = 9 := by omega
          have p5 : (c.toNat : Int) = 10 := by omega
          have p6 : ((c.toNat : Int) == 10) = true := by rw [beq_iff_eq]; omega
          clear hb hbl h
          go_wp2_with fail
          go_roundw
          case rel => exact ⟨k + 1, by go_num, by omega, HR2, by first | rfl | trivial⟩
          case measure => simp [intOf]; omega
      · have hn : ¬ (c.toNat = 32 ∨ c.toNat = 9 ∨ c.toNat = 10) := fun e => hb (hbl.2 e)
        have p1 : ((c.toNat : Int) == 32) = false := by rw [beq_eq_false_iff_ne]; omega
        have p2 : ((c.toNat : Int) == 9) = false := by rw [beq_eq_false_iff_ne]; omega
        have p3 : ¬ (c.toNat : Int) = 32 := by omega
        have p4 : ¬ (c.toNat : Int) = 9 := by omega
        have p5 : ¬ (c.toNat : Int) = 10 := by omega
        have p6 : ((c.toNat : Int) == 10) = false := by rw [beq_eq_false_iff_ne]; omega
        have HB := shut hb
        have H10 := shut (show c.toNat ≠ 10 by omega)
        clear hb hbl hn
        by_cases h2 : k + 2 ≤ s.length
        · have hcut := fun W => str_cut s (i := k) (n := 2) (j := k + 2) rfl h2 W
          obtain ⟨k2, hk2⟩ : ∃ k2, k + 2 = k2 := ⟨_, rfl⟩
          rw [hk2] at hcut
          have m2 : (2 : Int) ≤ (s.length : Int) - (k : Int) := by omega
          have m3 : (k : Int) + 2 = (k2 : Int) := by omega
          obtain ⟨X, hX⟩ : ∃ X, (s.drop k).take 2 = X := ⟨_, rfl⟩
          rw [hX] at hcut
          by_cases hpre : X = [47, 47]
          · subst hpre
            have hsk : skipL (s.drop k) = skipL ((s.drop k).dropWhile (fun b => decide (b.toNat ≠ 10))) := by
              have h1 : s.drop k = c :: s.drop (k + 1) := HDC.out
              rw [h1] at hX ⊢
              exact skipL_rem HB.out hX
            have HSK := shut hsk
            clear hX hk2 hsk
            go_wp2_with fail
            go_loopw [1] (fun s1 wx => ∃ q : Nat, s1 = .int .i64 q ∧ k ≤ q ∧ q ≤ s.length ∧ Shut ((s.drop q).dropWhile (fun b => decide (b.toNat ≠ 10)) = (s.drop k).dropWhile (fun b => decide (b.toNat ≠ 10))) ∧ wx = w) (fun s1 _ => s.length - (intOf s1).toNat)
            case atStart => exact ⟨k, rfl, Nat.le_refl _, hk, shut rfl, rfl⟩
            case round =>
              obtain ⟨q, rfl, hkq, hq, HQ, hww⟩ := hrel
              subst wr
              clear hcut m2 m3 h2 p1 p2 p3 p4 p5 p6 hix m1
              by_cases hlq : q < s.length
              · obtain ⟨d, hd⟩ : ∃ d, s[q]? = some d := ⟨_, List.getElem?_eq_getElem hlq⟩
                have hix := fun kk W => str_at s hd kk W
                have m1 : (q : Int) < s.length := by omega
                have HDD := shut (drop_cons hd)
                have HD := shut hd
                have hdl := d.toNat_lt
                clear hd
                by_cases h10 : d.toNat = 10
                · have HE := shut (show skipL (s.drop q) = skipL (s.drop i) by
                    rw [← HR.out, HSK.out, ← HQ.out, HDD.out, List.dropWhile_cons, if_neg (by simp [h10])])
                  have hne : q ≠ k := by
                    intro e
                    rw [e, HC.out] at HD
                    have := Option.some.inj HD.out
                    rw [← this] at h10
                    exact H10.out h10
                  have q1 : (d.toNat : Int) = 10 := by omega
                  have q2 : ((d.toNat : Int) == 10) = true := by rw [beq_iff_eq]; exact q1
                  clear h10
                  go_wp2_with fail
                  go_roundw
                  case rel => exact ⟨q, rfl, by omega, HE, by first | rfl | trivial⟩
                  case measure => simp [intOf]; omega
                · have HE := shut (show (s.drop (q + 1)).dropWhile (fun b => decide (b.toNat ≠ 10)) = (s.drop k).dropWhile (fun b => decide (b.toNat ≠ 10)) by
                    rw [← HQ.out, HDD.out, List.dropWhile_cons, if_pos (by simp [h10])])
                  have q1 : ¬ (d.toNat : Int) = 10 := by omega
                  have q2 : ((d.toNat : Int) == 10) = false := by rw [beq_eq_false_iff_ne]; exact q1
                  clear h10
                  go_wp2_with fail
                  go_roundw
                  case rel => exact ⟨q + 1, by go_num, by omega, by omega, HE, by first | rfl | trivial⟩
                  case measure => simp [intOf]; omega
              · have hd : s.drop q = [] := List.drop_of_length_le (by omega)
                have HE := shut (show skipL (s.drop q) = skipL (s.drop i) by
                  rw [← HR.out, HSK.out, ← HQ.out, hd]; rfl)
                have m1 : ¬ (q : Int) < s.length := by omega
                clear hd
                go_wp2_with fail
                go_roundw
                case rel => exact ⟨q, rfl, by omega, HE, by first | rfl | trivial⟩
                case measure => simp [intOf]; omega
          · have hfin : s.length - (skipL (s.drop i)).length = k := by
              have h1 : s.drop k = c :: s.drop (k + 1) := HDC.out
              rw [← HR.out]
              have h2 : skipL (s.drop k) = s.drop k := by rw [← hX, h1] at hpre; rw [h1]; exact skipL_stop HB.out hpre
              rw [h2, List.length_drop]
              omega
            have HF := shut hfin
            have hxb : (X == [47, 47]) = false := by simpa using hpre
            clear hfin hX hk2 hpre
            go_wp2_with fail
            go_ret
            exact ⟨by rw [HF.out]; rfl, rfl⟩
        · have hfin : s.length - (skipL (s.drop i)).length = k := by
            have h1 : s.drop k = c :: s.drop (k + 1) := HDC.out
            rw [← HR.out]
            have h2 : skipL (s.drop k) = s.drop k := by
              rw [h1]
              refine skipL_stop HB.out fun e => ?_
              have := congrArg List.length e
              rw [← h1, List.length_take, List.length_drop] at this
              simp at this
              omega
            rw [h2, List.length_drop]
            omega
          have HF := shut hfin
          have m2 : ¬ (2 : Int) ≤ (s.length : Int) - (k : Int) := by omega
          clear hfin
          go_wp2_with fail
          go_ret
          exact ⟨by rw [HF.out]; rfl, rfl⟩
    · have hfin : s.length - (skipL (s.drop i)).length = k := by
        rw [← HR.out, List.drop_of_length_le (by omega : s.length ≤ k), skipL_nil]
        show s.length - 0 = k
        omega
      have HF := shut hfin
      clear hfin
      go_wp2_with fail
      go_ret
      exact ⟨by rw [HF.out]; rfl, rfl⟩

end Go.Proofs.Ytgnpklheohaghaa
