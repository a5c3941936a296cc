/- Plain: a thing has one form alone: what was read is written as just these bytes. -/
import Derived.Test.YteifmkfkekglpaaDoorBackP2
namespace Go.Proofs.YteifmkfkekglpaaDoor
open Go.RowKit

theorem decGo_canon : ∀ (l : List UInt8) (i a v n : Nat), decGo i a l = (0, v, n) → ∃ x, v = a + x * 128 ^ i ∧ i ≤ n ∧ encU x = l.take (n - i) ∧ (0 < i → 0 < x)
  | [], _, _, _, _, h => by simp [decGo] at h
  | c :: r, i, a, v, n, h => by
    rw [decGo] at h
    by_cases h1 : (i = 9 ∧ 1 < c.toNat) ∨ (0 < i ∧ c.toNat = 0)
    · rw [if_pos h1] at h; simp at h
    · rw [if_neg h1] at h
      by_cases h2 : c.toNat < 128
      · rw [if_pos h2] at h
        simp only [Prod.mk.injEq, true_and] at h
        obtain ⟨rfl, rfl⟩ := h
        refine ⟨c.toNat, by rw [Nat.mod_eq_of_lt h2], by omega, ?_, by omega⟩
        rw [encU_lt h2, show i + 1 - i = 1 by omega, UInt8.ofNat_toNat]; rfl
      · rw [if_neg h2] at h
        obtain ⟨x, hv, hn, he, hx⟩ := decGo_canon r (i + 1) _ v n h
        have hx := hx (by omega)
        have hc : c.toNat < 256 := c.toNat_lt
        refine ⟨c.toNat % 128 + 128 * x, ?_, by omega, ?_, by omega⟩
        · rw [hv, Nat.pow_succ, Nat.add_mul]
          have : x * (128 ^ i * 128) = 128 * x * 128 ^ i := by rw [Nat.mul_comm (128 ^ i) 128, ← Nat.mul_assoc, Nat.mul_comm x 128]
          rw [this]; omega
        · rw [encU_ge (by omega)]
          rw [show (c.toNat % 128 + 128 * x) % 128 + 128 = c.toNat by omega, show (c.toNat % 128 + 128 * x) / 128 = x by omega, he, UInt8.ofNat_toNat]
          rw [show n - i = (n - (i + 1)) + 1 by omega, List.take_succ_cons]

theorem decU_canon {l : List UInt8} {v n : Nat} (h : decU l = (0, v, n)) : encU v = l.take n := by
  obtain ⟨x, hv, _, he, _⟩ := decGo_canon l 0 0 v n h
  simp at hv
  subst hv
  simpa using he

/-- What a reading left: an error and nothing was read, or just the bytes that this thing is written as. -/
def Canon (l : List UInt8) (c n : Nat) (V : List UInt8) : Prop := (c ≠ 0 ∧ n = 0) ∨ (c = 0 ∧ n ≤ l.length ∧ 0 < n ∧ V = l.take n)

theorem decU_bd (l : List UInt8) : (decU l).2.1 < 18446744073709551616 := by
  have h := decU_ok l (c := (decU l).1) (v := (decU l).2.1) (n := (decU l).2.2) rfl
  by_cases hc : (decU l).1 = 0
  · exact (h.1 hc).1
  · rw [(h.2 hc).1]; omega

theorem canonU (l : List UInt8) : Canon l (decU l).1 (decU l).2.2 (encU (decU l).2.1) := by
  have h := decU_ok l (c := (decU l).1) (v := (decU l).2.1) (n := (decU l).2.2) rfl
  by_cases hc : (decU l).1 = 0
  · refine .inr ⟨hc, (h.1 hc).2.1, (h.1 hc).2.2, decU_canon ?_⟩
    rw [← hc]
  · exact .inl ⟨hc, (h.2 hc).2.1⟩

theorem zig_unzig (z : Nat) : zig (if z % 2 = 1 then -(z / 2 : Nat) - 1 else (z / 2 : Nat)) = z := by
  unfold zig
  by_cases h : z % 2 = 1
  · rw [if_pos h, if_pos (by omega)]; omega
  · rw [if_neg h, if_neg (by omega)]; omega

theorem decI_bd (l : List UInt8) : -9223372036854775808 ≤ (decI l).2.1 ∧ (decI l).2.1 < 9223372036854775808 := by
  have := decU_bd l
  unfold decI
  show -9223372036854775808 ≤ (if (decU l).2.1 % 2 = 1 then -((decU l).2.1 / 2 : Nat) - 1 else ((decU l).2.1 / 2 : Nat) : Int) ∧ (if (decU l).2.1 % 2 = 1 then -((decU l).2.1 / 2 : Nat) - 1 else ((decU l).2.1 / 2 : Nat) : Int) < 9223372036854775808
  split <;> omega

theorem canonI (l : List UInt8) : Canon l (decI l).1 (decI l).2.2 (encI (decI l).2.1) := by
  unfold encI decI
  show Canon l (decU l).1 (decU l).2.2 (encU (zig (if (decU l).2.1 % 2 = 1 then -((decU l).2.1 / 2 : Nat) - 1 else ((decU l).2.1 / 2 : Nat))))
  rw [zig_unzig]
  exact canonU l

theorem canonB (l : List UInt8) : Canon l (decBool l).1 (decBool l).2.2 (encB (decBool l).2.1) := by
  cases l with
  | nil => exact .inl ⟨by simp [decBool], rfl⟩
  | cons c r =>
    by_cases h : 1 < c.toNat
    · have e : decBool (c :: r) = (4, false, 0) := by rw [decBool, if_pos h]
      rw [e]; exact .inl ⟨by simp, rfl⟩
    · have e : decBool (c :: r) = (0, c.toNat == 1, 1) := by rw [decBool, if_neg h]
      rw [e]
      refine .inr ⟨rfl, by simp, by simp, ?_⟩
      show encB (c.toNat == 1) = [c]
      have hc : c.toNat = 0 ∨ c.toNat = 1 := by omega
      rcases hc with h0 | h1
      · obtain rfl : c = 0 := UInt8.toNat_inj.1 h0
        rfl
      · obtain rfl : c = 1 := UInt8.toNat_inj.1 h1
        rfl

theorem decText_bd (most : Int) (l : List UInt8) : (decText most l).2.1.length ≤ l.length := by
  unfold decText
  split
  · simp
  · split
    · simp
    · split
      · simp
      · show ((l.drop _).take _).length ≤ _
        rw [List.length_take, List.length_drop]; omega

theorem canonS (most : Int) (l : List UInt8) : Canon l (decText most l).1 (decText most l).2.2 (encS (decText most l).2.1) := by
  have hU := canonU l
  unfold decText
  by_cases hc : (decU l).1 = 0
  · rcases hU with ⟨h, _⟩ | ⟨_, hn, hp, he⟩
    · exact absurd hc h
    · rw [if_neg (by simp [hc])]
      by_cases hm : most < 0 ∨ most < ((decU l).2.1 : Int)
      · rw [if_pos hm]; exact .inl ⟨by simp, rfl⟩
      · rw [if_neg hm]
        by_cases hs : (l.drop (decU l).2.2).length < (decU l).2.1
        · rw [if_pos hs]; exact .inl ⟨by simp, rfl⟩
        · rw [if_neg hs]
          have hs' := hs
          rw [List.length_drop] at hs'
          refine .inr ⟨rfl, by show _ + _ ≤ _; omega, by show 0 < _ + _; omega, ?_⟩
          show encS ((l.drop (decU l).2.2).take (decU l).2.1) = l.take ((decU l).2.2 + (decU l).2.1)
          unfold encS
          rw [List.length_take, Nat.min_eq_left (by omega), he, List.take_add]
  · rw [if_pos hc]
    exact .inl ⟨hc, rfl⟩

theorem decHash_bd (l : List UInt8) : (decHash l).2.1.length = 32 := by
  unfold decHash
  split
  · simp
  · show (l.take 32).length = 32
    rw [List.length_take]; omega

theorem canonH (l : List UInt8) : Canon l (decHash l).1 (decHash l).2.2 (decHash l).2.1 := by
  unfold decHash
  by_cases h : l.length < 32
  · rw [if_pos h]; exact .inl ⟨by simp, rfl⟩
  · rw [if_neg h]
    exact .inr ⟨rfl, by show 32 ≤ _; omega, by show 0 < 32; omega, rfl⟩

end Go.Proofs.YteifmkfkekglpaaDoor
