/- usufructref6.number. -/
import Derived.Test.YtgnpklheohaghaaLex11
namespace Go.Proofs.Ytgnpklheohaghaa
open Go.RowKit

def numF (v : Nat) (t : List UInt8) : Nat := t.foldl (fun v c => v * 10 + (c.toNat - 48)) v
theorem numF_ge : ∀ (t : List UInt8) (v : Nat), v * 10 ^ t.length ≤ numF v t := by
  intro t
  induction t with
  | nil => intro v; simp [numF]
  | cons c t ih =>
    intro v
    have h := ih (v * 10 + (c.toNat - 48))
    have h2 : v * 10 ^ (c :: t).length ≤ (v * 10 + (c.toNat - 48)) * 10 ^ t.length := by
      rw [List.length_cons, Nat.pow_succ, Nat.add_mul, Nat.mul_comm (10 ^ t.length) 10, ← Nat.mul_assoc]
      exact Nat.le_add_right _ _
    exact Nat.le_trans h2 h
theorem numF_lt : ∀ (t : List UInt8) (v : Nat), t.all digC = true → numF v t < (v + 1) * 10 ^ t.length := by
  intro t
  induction t with
  | nil => intro v _; simp [numF]
  | cons c t ih =>
    intro v h
    rw [List.all_cons, Bool.and_eq_true] at h
    have h3 : c.toNat ≤ 57 := by have h2 := h.1; simp [digC] at h2; exact h2.2
    have h4 := ih (v * 10 + (c.toNat - 48)) h.2
    refine Nat.lt_of_lt_of_le h4 ?_
    rw [List.length_cons, Nat.pow_succ, Nat.mul_comm (10 ^ t.length) 10, ← Nat.mul_assoc]
    exact Nat.mul_le_mul_right _ (by omega)
theorem numV_lt (t : List UInt8) (h : t.all digC = true) : numV t < 10 ^ t.length := by
  have := numF_lt t 0 h
  rw [Nat.zero_add, Nat.one_mul] at this
  exact this
/-- Eleven digits or more that do not begin with 0 are too great. -/
theorem num_long {t : List UInt8} (h : 10 < t.length) : numOk t = false := by
  cases t with
  | nil => simp at h
  | cons c r =>
    rw [Bool.eq_false_iff]
    intro hok
    simp only [numOk, Bool.and_eq_true, Bool.or_eq_true, decide_eq_true_eq] at hok
    obtain ⟨h1, h2, h3⟩ := hok
    have hd : digC c = true := by simp at h1; exact h1.1
    have hc : 48 ≤ c.toNat := by simp [digC] at hd; exact hd.1
    have hne : c ≠ 48 := by
      rcases h3 with h3 | h3
      · omega
      · intro e; exact h3 (by rw [e]; rfl)
    have hn : c.toNat ≠ 48 := fun e => hne (UInt8.toNat_inj.mp (by rw [e]; rfl))
    have hv : numV (c :: r) = numF (0 * 10 + (c.toNat - 48)) r := rfl
    have hge := numF_ge r (0 * 10 + (c.toNat - 48))
    rw [← hv] at hge
    have hp : 10 ^ 10 ≤ 10 ^ r.length := Nat.pow_le_pow_right (by decide) (by simp at h; omega)
    have h4 : 1 * 10 ^ r.length ≤ (0 * 10 + (c.toNat - 48)) * 10 ^ r.length := Nat.mul_le_mul_right _ (by omega)
    omega

set_option maxHeartbeats 2000000 in
theorem rnumber_any (w : World) (s : List UInt8) (h0 : s ≠ []) (hs : s.length < 9223372036854775806) :
    Calls Try.prog 29 #[.string ⟨s.toArray⟩] w fun e w' => e = .returned (.bool (numOk s)) ∧ w' = w := by
  have hsz0 : (ByteArray.mk s.toArray).size = s.length := rfl
  have hl1 : 1 ≤ s.length := by cases s with | nil => exact absurd rfl h0 | cons c r => simp
  obtain ⟨c0, hc0⟩ : ∃ c, s[0]? = some c := ⟨_, List.getElem?_eq_getElem (by omega)⟩
  have hix0 : ∀ kk W, (Instr.index 9 (.string ⟨s.toArray⟩) (.int kk 0)).run Try.prog W = .ok (.int .u8 (c0.toNat : Int)) W := fun kk W => str_at s (t := 0) hc0 kk W
  have hh : s.head? = some c0 := by rw [List.head?_eq_getElem?]; exact hc0
  have e0 : ((s.length : Int) == 0) = false := by rw [beq_eq_false_iff_ne]; omega
  have e00 : ¬ (s.length : Int) = 0 := by omega
  obtain ⟨R, hR⟩ : ∃ R, numOk s = R := ⟨_, rfl⟩
  rw [hR]
  have HR := shut hR
  have HH := shut hh
  clear hR hh hc0 h0
  by_cases h10 : 10 < s.length
  · have m1 : (10 : Int) < s.length := by omega
    have hRv := shut (show R = false by rw [← HR.out, num_long h10])
    go_enter Try.func29, Try.ntmps29
    go_wp2_with fail
    go_ret
    exact ⟨by rw [hRv.out]; rfl, rfl⟩
  · have m1 : ¬ (10 : Int) < s.length := by omega
    by_cases hz : 1 < s.length ∧ c0.toNat = 48
    · obtain ⟨hz1, hz2⟩ := hz
      have m2 : (1 : Int) < s.length := by omega
      have m3 : (c0.toNat : Int) = 48 := by omega
      have m4 : ((c0.toNat : Int) == 48) = true := by rw [beq_iff_eq]; exact m3
      have hRv := shut (show R = false by
        rw [← HR.out]
        unfold numOk
        rw [HH.out, show decide (s.length ≤ 1) = false from decide_eq_false (by omega), show c0 = 48 from UInt8.toNat_inj.mp (by rw [hz2]; rfl)]
        simp)
      clear hz2 hz1
      go_enter Try.func29, Try.ntmps29
      go_wp2_with fail
      go_ret
      exact ⟨by rw [hRv.out]; rfl, rfl⟩
    · have hok : R = (s.all digC && decide (numV s ≤ 2147483647)) := by
        rw [← HR.out]
        unfold numOk
        rw [HH.out, show (decide (s.length ≤ 1) || decide (some c0 ≠ some 48)) = true by
          rw [Bool.or_eq_true, decide_eq_true_eq, decide_eq_true_eq]
          rcases Nat.lt_or_ge 1 s.length with h | h
          · right
            intro e
            exact hz ⟨h, by rw [Option.some.inj e]; rfl⟩
          · left; exact h, Bool.and_true]
      have HOK := shut hok
      clear hok HR HH
      have hcase : (¬ (1 : Int) < s.length) ∨ ((1 : Int) < s.length ∧ ¬ (c0.toNat : Int) = 48) := by omega
      clear hz
      rcases hcase with m2 | ⟨m2, m3⟩
      · go_enter Try.func29, Try.ntmps29
        go_wp2_with fail
        clear hix0 e0 e00
        go_loopw [3, 4] (fun s3 s4 wx => ∃ v m : Nat, s3 = .int .i64 v ∧ s4 = .int .i64 m ∧ m ≤ s.length ∧ Shut (v = numV (s.take m)) ∧ Shut ((s.take m).all digC = true) ∧ wx = w) (fun _ s4 _ => s.length - (intOf s4).toNat)
        case atStart => exact ⟨0, 0, rfl, rfl, Nat.zero_le _, shut rfl, shut rfl, rfl⟩
        case round =>
          obtain ⟨v, m, rfl, rfl, hm, HV, HA, rfl⟩ := hrel
          by_cases hlt : m < s.length
          · obtain ⟨c, hc⟩ : ∃ c, s[m]? = some c := ⟨_, List.getElem?_eq_getElem hlt⟩
            have hix := fun kk W => str_at s hc kk W
            have hcl := c.toNat_lt
            have HC := shut hc
            have n1 : (m : Int) < s.length := by omega
            clear hc
            go_wp2_with fail
            refine (rdigit_any _ c).mono ?_
            rintro e w' ⟨rfl, hw⟩
            subst w'
            by_cases hd : digC c = true
            · have h48 : 48 ≤ c.toNat ∧ c.toNat ≤ 57 := by simp [digC] at hd; exact hd
              have hvb : v < 10 ^ 10 := by
                have h1 := numV_lt (s.take m) HA.out
                rw [← HV.out, List.length_take, Nat.min_eq_left hm] at h1
                exact Nat.lt_of_lt_of_le h1 (Nat.pow_le_pow_right (by decide) (by omega))
              have hvb2 : v < 10000000000 := hvb
              obtain ⟨d, hd2⟩ : ∃ d, c.toNat - 48 = d := ⟨_, rfl⟩
              have HNV := shut (show v * 10 + d = numV (s.take (m + 1)) by rw [take_snoc HC.out, numV_snoc, ← HV.out, hd2])
              have HA2 : Shut ((s.take (m + 1)).all digC = true) := shut (by rw [take_snoc HC.out, List.all_append, HA.out]; simp [hd])
              have n3 : (c.toNat : Int) - 48 = (d : Int) := by omega
              have hd9 : d ≤ 9 := by omega
              have n4 : (48 : Int) ≤ c.toNat := by omega
              rw [hd]
              clear hd hd2 h48 hvb
              go_wp2_with fail
              go_roundw
              case rel => exact ⟨v * 10 + d, m + 1, by first | go_num | (simp; omega), by go_num, by omega, HNV, HA2, by first | rfl | trivial⟩
              case measure => simp [intOf]; omega
            · have hRv := shut (show R = false by
                rw [HOK.out, show s.all digC = false by
                  rw [Bool.eq_false_iff]
                  intro h
                  exact hd (List.all_eq_true.1 h c (List.mem_of_getElem? HC.out))]
                rfl)
              rw [Bool.not_eq_true] at hd
              rw [hd]
              go_wp2_with fail
              go_ret
              exact ⟨by rw [hRv.out]; rfl, rfl⟩
          · have hT : s.take m = s := List.take_of_length_le (by omega)
            rw [hT] at HV HA
            have n1 : ¬ (m : Int) < s.length := by omega
            have hRv := shut (show R = decide ((v : Int) ≤ 2147483647) by
              rw [HOK.out, HA.out, ← HV.out, Bool.true_and, decide_eq_decide]
              omega)
            clear hT
            go_wp2_with fail
            go_ret
            exact ⟨by rw [hRv.out]; rfl, rfl⟩
      · have m4 : ((c0.toNat : Int) == 48) = false := by rw [beq_eq_false_iff_ne]; exact m3
        go_enter Try.func29, Try.ntmps29
        go_wp2_with fail
        clear hix0 e0 e00
        go_loopw [3, 4] (fun s3 s4 wx => ∃ v m : Nat, s3 = .int .i64 v ∧ s4 = .int .i64 m ∧ m ≤ s.length ∧ Shut (v = numV (s.take m)) ∧ Shut ((s.take m).all digC = true) ∧ wx = w) (fun _ s4 _ => s.length - (intOf s4).toNat)
        case atStart => exact ⟨0, 0, rfl, rfl, Nat.zero_le _, shut rfl, shut rfl, rfl⟩
        case round =>
          obtain ⟨v, m, rfl, rfl, hm, HV, HA, rfl⟩ := hrel
          by_cases hlt : m < s.length
          · obtain ⟨c, hc⟩ : ∃ c, s[m]? = some c := ⟨_, List.getElem?_eq_getElem hlt⟩
            have hix := fun kk W => str_at s hc kk W
            have hcl := c.toNat_lt
            have HC := shut hc
            have n1 : (m : Int) < s.length := by omega
            clear hc
            go_wp2_with fail
            refine (rdigit_any _ c).mono ?_
            rintro e w' ⟨rfl, hw⟩
            subst w'
            by_cases hd : digC c = true
            · have h48 : 48 ≤ c.toNat ∧ c.toNat ≤ 57 := by simp [digC] at hd; exact hd
              have hvb : v < 10 ^ 10 := by
                have h1 := numV_lt (s.take m) HA.out
                rw [← HV.out, List.length_take, Nat.min_eq_left hm] at h1
                exact Nat.lt_of_lt_of_le h1 (Nat.pow_le_pow_right (by decide) (by omega))
              have hvb2 : v < 10000000000 := hvb
              obtain ⟨d, hd2⟩ : ∃ d, c.toNat - 48 = d := ⟨_, rfl⟩
              have HNV := shut (show v * 10 + d = numV (s.take (m + 1)) by rw [take_snoc HC.out, numV_snoc, ← HV.out, hd2])
              have HA2 : Shut ((s.take (m + 1)).all digC = true) := shut (by rw [take_snoc HC.out, List.all_append, HA.out]; simp [hd])
              have n3 : (c.toNat : Int) - 48 = (d : Int) := by omega
              have hd9 : d ≤ 9 := by omega
              have n4 : (48 : Int) ≤ c.toNat := by omega
              rw [hd]
              clear hd hd2 h48 hvb
              go_wp2_with fail
              go_roundw
              case rel => exact ⟨v * 10 + d, m + 1, by first | go_num | (simp; omega), by go_num, by omega, HNV, HA2, by first | rfl | trivial⟩
              case measure => simp [intOf]; omega
            · have hRv := shut (show R = false by
                rw [HOK.out, show s.all digC = false by
                  rw [Bool.eq_false_iff]
                  intro h
                  exact hd (List.all_eq_true.1 h c (List.mem_of_getElem? HC.out))]
                rfl)
              rw [Bool.not_eq_true] at hd
              rw [hd]
              go_wp2_with fail
              go_ret
              exact ⟨by rw [hRv.out]; rfl, rfl⟩
          · have hT : s.take m = s := List.take_of_length_le (by omega)
            rw [hT] at HV HA
            have n1 : ¬ (m : Int) < s.length := by omega
            have hRv := shut (show R = decide ((v : Int) ≤ 2147483647) by
              rw [HOK.out, HA.out, ← HV.out, Bool.true_and, decide_eq_decide]
              omega)
            clear hT
            go_wp2_with fail
            go_ret
            exact ⟨by rw [hRv.out]; rfl, rfl⟩

end Go.Proofs.Ytgnpklheohaghaa
