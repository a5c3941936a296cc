/- lex.sign, next, blanks. -/
import Derived.Test.YtjbcagbnagefcaaLex5
namespace Go.Proofs.Ytjbcagbnagefcaa
open Go.RowKit

attribute [local go_sem] rowOk_new World.setRow_alloc_new aggOk_tok

def signR : List UInt8 → Option (Nat × List UInt8 × Nat)
  | [] => none
  | c :: r => if twosL.contains ((c :: r).take 2) then some (5, (c :: r).take 2, 2) else if signsL.contains c then some (5, [c], 1) else none
theorem pre_two {a b : UInt8} {l : List UInt8} : ([a, b] : List UInt8).isPrefixOf l = decide (l.take 2 = [a, b]) := by
  cases l with
  | nil => simp [List.isPrefixOf]
  | cons x l =>
    cases l with
    | nil => simp [List.isPrefixOf]
    | cons y l =>
      rw [Bool.eq_iff_iff]
      simp [List.isPrefixOf]
      constructor
      · rintro ⟨rfl, rfl⟩; exact ⟨rfl, rfl⟩
      · rintro ⟨rfl, rfl⟩; exact ⟨rfl, rfl⟩
theorem index_sign (c : UInt8) : decide (Lib.indexByte signsL c < 0) = !signsL.contains c := by
  have h : ∀ n : Nat, n < 256 → decide (Lib.indexByte signsL (UInt8.ofNat n) < 0) = !signsL.contains (UInt8.ofNat n) := by decide +kernel
  have := h c.toNat c.toNat_lt
  rwa [UInt8.ofNat_toNat] at this

/-! ### next -/
theorem next_eq (c : UInt8) (r : List UInt8) : nextL (c :: r) = if begC c then nameR (c :: r) else if digC c then numR (c :: r) else if c = 39 then lifeR r else signR (c :: r) := by
  rw [nextL_cons]
  rfl
theorem outT_agg (i : Nat) (R : Option (Nat × List UInt8 × Nat)) : ∃ (k : Nat) (t : List UInt8) (p e : Nat), outT i R = .tuple #[.agg (tokA k t p), .int .i64 (e : Int)] ∧ ((R = none ∧ k = 0 ∧ t = [] ∧ p = 0 ∧ e = 0) ∨ ∃ m, R = some (k, t, m) ∧ p = i ∧ e = i + m) := by
  cases R with
  | none => exact ⟨0, [], 0, 0, rfl, .inl ⟨rfl, rfl, rfl, rfl, rfl⟩⟩
  | some x => obtain ⟨k, t, m⟩ := x; exact ⟨k, t, i, i + m, rfl, .inr ⟨m, rfl, rfl, rfl⟩⟩

end Go.Proofs.Ytjbcagbnagefcaa
