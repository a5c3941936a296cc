/- Plain laws: what was written is read back; strings as bytes. -/
import Derived.Test.YteifmkfkekglpaaDoorRef2
namespace Go.Proofs.YteifmkfkekglpaaDoor
open Go.RowKit

theorem decGo_enc : ∀ (x i a : Nat) (rest : List UInt8), x * 128 ^ i < 18446744073709551616 → (i = 0 ∨ 0 < x) → decGo i a (encU x ++ rest) = (0, a + x * 128 ^ i, i + (encU x).length) := by
  intro x
  induction x using Nat.strongRecOn with
  | ind x ih =>
    intro i a rest hx hi
    have hp : 0 < 128 ^ i := Nat.pow_pos (by omega)
    by_cases hlt : x < 128
    · rw [encU_lt hlt]
      have ht : (UInt8.ofNat x).toNat = x := UInt8.toNat_ofNat_of_lt' (show x < UInt8.size by show x < 256; omega)
      have hc : ¬ ((i = 9 ∧ 1 < (UInt8.ofNat x).toNat) ∨ (0 < i ∧ (UInt8.ofNat x).toNat = 0)) := by
        rw [ht]
        rintro (⟨rfl, h⟩ | ⟨h, h0⟩)
        · have : 2 * 128 ^ 9 ≤ x * 128 ^ 9 := Nat.mul_le_mul_right _ (by omega)
          have h2 : (18446744073709551616 : Nat) ≤ 2 * 128 ^ 9 := by decide +kernel
          omega
        · omega
      show decGo i a (UInt8.ofNat x :: ([] ++ rest)) = _
      rw [decGo, if_neg hc, ht, if_pos hlt, Nat.mod_eq_of_lt hlt]
      rfl
    · rw [encU_ge hlt]
      have ht : (UInt8.ofNat (x % 128 + 128)).toNat = x % 128 + 128 := UInt8.toNat_ofNat_of_lt' (show x % 128 + 128 < UInt8.size by show _ < 256; omega)
      have h9 : i ≠ 9 := by
        rintro rfl
        have : 128 * 128 ^ 9 ≤ x * 128 ^ 9 := Nat.mul_le_mul_right _ (by omega)
        have h2 : (18446744073709551616 : Nat) ≤ 128 * 128 ^ 9 := by decide +kernel
        omega
      have hc : ¬ ((i = 9 ∧ 1 < (UInt8.ofNat (x % 128 + 128)).toNat) ∨ (0 < i ∧ (UInt8.ofNat (x % 128 + 128)).toNat = 0)) := by
        rw [ht]; omega
      show decGo i a (UInt8.ofNat (x % 128 + 128) :: (encU (x / 128) ++ rest)) = _
      have hdm := Nat.div_add_mod x 128
      have hmul : x * 128 ^ i = x / 128 * 128 ^ (i + 1) + x % 128 * 128 ^ i := by
        rw [Nat.pow_succ]
        have : x * 128 ^ i = (128 * (x / 128) + x % 128) * 128 ^ i := by rw [hdm]
        rw [this, Nat.add_mul, Nat.mul_comm 128 (x / 128), Nat.mul_assoc, Nat.mul_comm 128 (128 ^ i)]
      rw [decGo, if_neg hc, ht, if_neg (by omega), ih (x / 128) (by omega) (i + 1) _ rest (by omega) (by right; omega)]
      have hm : (x % 128 + 128) % 128 = x % 128 := by omega
      rw [hm, hmul, List.length_cons]
      simp only [Prod.mk.injEq, true_and]
      omega

theorem decU_enc (x : Nat) (hx : x < 18446744073709551616) (rest : List UInt8) : decU (encU x ++ rest) = (0, x, (encU x).length) := by
  unfold decU
  rw [decGo_enc x 0 0 rest (by simpa using hx) (.inl rfl)]
  simp

theorem encU_pos (x : Nat) : 0 < (encU x).length := by
  by_cases h : x < 128
  · rw [encU_lt h]; simp
  · rw [encU_ge h]; simp

theorem unzig (x : Int) : (if zig x % 2 = 1 then -((zig x / 2 : Nat) : Int) - 1 else ((zig x / 2 : Nat) : Int)) = x := by
  unfold zig
  by_cases h : x < 0
  · rw [if_pos h]
    have h1 : (-(x + 1) * 2 + 1).toNat % 2 = 1 := by omega
    rw [if_pos h1]; omega
  · rw [if_neg h]
    have h1 : ¬ (x * 2).toNat % 2 = 1 := by omega
    rw [if_neg h1]; omega

theorem decI_enc (x : Int) (h0 : -9223372036854775808 ≤ x) (hx : x < 9223372036854775808) (rest : List UInt8) : decI (encI x ++ rest) = (0, x, (encI x).length) := by
  unfold decI encI
  rw [decU_enc _ (zig_lt x h0 hx)]
  simp only [Prod.mk.injEq, true_and, and_true]
  exact unzig x

theorem decBool_enc (b : Bool) (rest : List UInt8) : decBool ([if b then 1 else 0] ++ rest) = (0, b, 1) := by
  cases b <;> rfl

theorem decText_enc (s : List UInt8) (most : Int) (hs : s.length < 18446744073709551616) (hm : (s.length : Int) ≤ most) (rest : List UInt8) : decText most (encS s ++ rest) = (0, s, (encS s).length) := by
  unfold decText encS
  rw [List.append_assoc, decU_enc _ hs]
  have hd : (encU s.length ++ (s ++ rest)).drop (encU s.length).length = s ++ rest := List.drop_left
  simp only [ne_eq, not_true_eq_false, if_false, hd]
  rw [if_neg (by omega), if_neg (by rw [List.length_append]; omega), List.take_left, List.length_append]

theorem decHash_enc (h : List UInt8) (hh : h.length = 32) (rest : List UInt8) : decHash (h ++ rest) = (0, h, 32) := by
  rw [decHash_eq, if_neg (by rw [List.length_append]; omega)]
  rw [show (h ++ rest).take 32 = h by rw [← hh]; exact List.take_left]

/-- '[]byte(s)': new memory that holds the text's bytes. -/
theorem run_bytes (w : World) (s : ByteArray) : ∃ cap w', (convert 9 25 (.string s)).run Tryd.prog w = .ok (.slice (some ⟨w.heap.size, 0, none⟩) s.size cap) w' ∧
    BytesAt w' (some ⟨w.heap.size, 0, none⟩) (bytesOf s) ∧ Keeps Nothing w w' ∧ w'.heap.size = w.heap.size + 1 := by
  refine ⟨_, _, run_bytes_of_string (P := Tryd.prog) w 9 25 5 s Tryd.underlying9 Tryd.underlying25 Tryd.underlying5, ⟨fun e => by simp at e, fun a e j c hj => ?_⟩, (Keeps.refl _ w).drew.alloc _, by simp⟩
  obtain rfl := Option.some.inj e
  rw [Addr.add_lit, Nat.zero_add]
  have hb := World.cell?_alloc_mark w.drew (bytesRow s (grownCap w s.size 0 5)) 5 ((bytesRow s (grownCap w s.size 0 5)).size, (bytesRow s (grownCap w s.size 0 5)).size + 1) j
  refine hb.trans ?_
  obtain ⟨hlt, hc⟩ := List.getElem?_eq_some_iff.1 hj
  have hlt' : j < s.data.size := by simpa [bytesOf] using hlt
  rw [bytesRow_at s _ j hlt']
  rw [← hc]
  rfl

end Go.Proofs.YteifmkfkekglpaaDoor
