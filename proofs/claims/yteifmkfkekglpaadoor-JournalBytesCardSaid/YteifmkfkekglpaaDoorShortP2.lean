/- Plain: a beginning of what was written is too short. -/
import Derived.Test.YteifmkfkekglpaaDoorRead2
namespace Go.Proofs.YteifmkfkekglpaaDoor
open Go.RowKit

theorem decGo_short : ∀ (x i a n : Nat), x * 128 ^ i < 18446744073709551616 → n < (encU x).length → decGo i a ((encU x).take n) = (3, 0, 0) := by
  intro x
  induction x using Nat.strongRecOn with
  | ind x ih =>
    intro i a n hx hn
    have hp : 0 < 128 ^ i := Nat.pow_pos (by omega)
    by_cases hlt : x < 128
    · rw [encU_lt hlt] at hn ⊢
      have : n = 0 := by simp at hn; omega
      subst this
      rfl
    · rw [encU_ge hlt] at hn ⊢
      have ht : (UInt8.ofNat (x % 128 + 128)).toNat = x % 128 + 128 := UInt8.toNat_ofNat_of_lt' (show x % 128 + 128 < UInt8.size by show _ < 256; omega)
      have h9 : i ≠ 9 := by
        rintro rfl
        have : 128 * 128 ^ 9 ≤ x * 128 ^ 9 := Nat.mul_le_mul_right _ (by omega)
        have h2 : (18446744073709551616 : Nat) ≤ 128 * 128 ^ 9 := by decide +kernel
        omega
      have hc : ¬ ((i = 9 ∧ 1 < (UInt8.ofNat (x % 128 + 128)).toNat) ∨ (0 < i ∧ (UInt8.ofNat (x % 128 + 128)).toNat = 0)) := by
        rw [ht]; omega
      cases n with
      | zero => rfl
      | succ n =>
        rw [List.take_succ_cons, decGo, if_neg hc, ht, if_neg (by omega)]
        rw [List.length_cons] at hn
        refine ih (x / 128) (by omega) (i + 1) _ n ?_ (by omega)
        rw [Nat.pow_succ]
        have h1 : x / 128 * (128 ^ i * 128) = 128 * (x / 128) * 128 ^ i := by rw [Nat.mul_comm (128 ^ i) 128, ← Nat.mul_assoc, Nat.mul_comm (x / 128) 128]
        rw [h1]
        exact Nat.lt_of_le_of_lt (Nat.mul_le_mul_right _ (Nat.mul_div_le x 128)) hx

theorem decU_short (x n : Nat) (hx : x < 18446744073709551616) (hn : n < (encU x).length) : decU ((encU x).take n) = (3, 0, 0) := decGo_short x 0 0 n (by simpa using hx) hn
theorem decI_short (x : Int) (n : Nat) (h0 : -9223372036854775808 ≤ x) (hx : x < 9223372036854775808) (hn : n < (encI x).length) : (decI ((encI x).take n)).1 = 3 ∧ (decI ((encI x).take n)).2.2 = 0 := by
  unfold decI encI
  rw [decU_short _ n (zig_lt x h0 hx) hn]
  exact ⟨rfl, rfl⟩
theorem decB_short (b : Bool) (n : Nat) (hn : n < (encB b).length) : decBool ((encB b).take n) = (3, false, 0) := by
  have : n = 0 := by simp [encB] at hn; omega
  subst this
  rfl
theorem decH_short (h : List UInt8) (n : Nat) (hh : h.length = 32) (hn : n < h.length) : decHash (h.take n) = (3, zeros32, 0) := by
  rw [decHash_eq, if_pos (by rw [List.length_take]; omega)]
theorem decS_short (s : List UInt8) (n : Nat) (most : Int) (hs : s.length < 18446744073709551616) (hm : (s.length : Int) ≤ most) (hn : n < (encS s).length) : decText most ((encS s).take n) = (3, [], 0) := by
  unfold encS at hn ⊢
  rw [List.length_append] at hn
  unfold decText
  by_cases h : n < (encU s.length).length
  · rw [List.take_append_of_le_length (by omega), decU_short _ n hs h]
    rfl
  · have e : (encU s.length ++ s).take n = encU s.length ++ s.take (n - (encU s.length).length) := by
      rw [List.take_append, List.take_of_length_le (by omega)]
    rw [e, decU_enc _ hs]
    rw [if_neg (by simp), if_neg (by show ¬ (most < 0 ∨ most < (s.length : Int)); omega)]
    rw [if_pos]
    show ((encU s.length ++ s.take (n - (encU s.length).length)).drop (encU s.length).length).length < s.length
    rw [List.drop_left, List.length_take]; omega

theorem newReader_len {w : World} {ao : Option Addr} (c : Nat) {bs : List UInt8} {n : Nat} (hn : bs.length = n) (h : BytesAt w ao bs) (hl : bs.length ≤ 1000000) :
    Calls Tryd.prog 51 #[.slice ao n c] w (NewRd w bs) := by
  subst hn; exact newReader_any c h hl

theorem encOp_pos (o : OpD) (ho : o.Fit) : 0 < (encOp o).length := by
  have h32 := ho.h32
  unfold encOp
  split
  · exact encU_pos _
  · split
    · exact encU_pos _
    · split
      · simp [encB]
      · split
        · unfold encS; rw [List.length_append]; have := encU_pos (bytesOf o.s).length; omega
        · omega

theorem encOp_len (o : OpD) (ho : o.Fit) (hs : o.s.size ≤ 500) : (encOp o).length ≤ 510 := by
  have h32 := ho.h32
  have hv := ho.v1
  unfold encOp
  split
  · have := encU_len10 hv; omega
  · split
    · have : (encI o.n).length ≤ 10 := encU_len10 (zig_lt o.n ho.n0 ho.n1); omega
    · split
      · simp [encB]
      · split
        · unfold encS
          rw [List.length_append, bytesOf_length]
          have := encU_len10 (show o.s.size < 18446744073709551616 by omega)
          omega
        · omega

end Go.Proofs.YteifmkfkekglpaaDoor
