/- lex.blanks, Lex. -/
import Derived.Test.YtjbcagbnagefcaaLex6
import Derived.Deep.LoopGhost
namespace Go.Proofs.Ytjbcagbnagefcaa
open Go.RowKit

theorem idx10 (l : List UInt8) : (Lib.indexByte l 10 = -1 ∧ l.dropWhile (fun b => decide (b.toNat ≠ 10)) = []) ∨ ∃ o : Nat, Lib.indexByte l 10 = o ∧ o ≤ l.length ∧ l.dropWhile (fun b => decide (b.toNat ≠ 10)) = l.drop o := by
  induction l with
  | nil => exact .inl ⟨rfl, rfl⟩
  | cons b l ih =>
    rw [Lib.indexByte, List.dropWhile_cons]
    by_cases hb : b = 10
    · subst hb
      exact .inr ⟨0, rfl, Nat.zero_le _, rfl⟩
    · have h1 : (b == 10) = false := by simpa using hb
      have h2 : decide (b.toNat ≠ 10) = true := decide_eq_true (fun e => hb (UInt8.toNat_inj.mp (by rw [e]; rfl)))
      rw [h1, if_pos h2, if_neg (by decide)]
      rcases ih with ⟨i1, i2⟩ | ⟨o, i1, i2, i3⟩
      · rw [i1]; exact .inl ⟨rfl, i2⟩
      · rw [i1]
        refine .inr ⟨o + 1, ?_, by simp only [List.length_cons]; omega, i3⟩
        rw [if_neg (by simp <;> omega)]
        omega

/-! ### a row of tokens -/
theorem add_mid7 (b o i : Nat) : (⟨b, o, none⟩ : Addr).add i = ⟨b, o + i, none⟩ := by
  unfold Addr.add
  split
  · rename_i h; subst h; rfl
  · rfl
def tokC (t : Tok) : List Value := [.int .i64 t.kind, .string ⟨t.text.toArray⟩, .int .i64 t.pos]
theorem tokC_one (ts : List Tok) : ∀ u ∈ ts.flatMap tokC, u.oneCell' = true := by
  intro u hu
  obtain ⟨t, _, h⟩ := List.mem_flatMap.1 hu
  simp [tokC] at h
  rcases h with rfl | rfl | rfl <;> rfl
end Go.Proofs.Ytjbcagbnagefcaa
