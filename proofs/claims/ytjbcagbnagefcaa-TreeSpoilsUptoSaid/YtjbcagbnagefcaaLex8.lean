/- lex.Lex. -/
import Derived.Test.YtjbcagbnagefcaaLex7
namespace Go.Proofs.Ytjbcagbnagefcaa
open Go.RowKit

def lexRes (s : List UInt8) : List Tok × Nat × Nat := if 1048576 < s.length then ([], 5, 0) else match (lexL s).2 with | none => ((lexL s).1, 0, 0) | some p => ([], 20, p)
theorem lexF_step (N n : Nat) (c : UInt8) (r : List UInt8) : lexF N (n + 1) (c :: r) = match nextL (c :: r) with | none => ([], some (N - (c :: r).length)) | some (k, t, m) => (⟨k, t, N - (c :: r).length⟩ :: (lexF N n (skipL ((c :: r).drop m))).1, (lexF N n (skipL ((c :: r).drop m))).2) := rfl
theorem skip_suffix (s : List UInt8) : ∀ (n : Nat) (l : List UInt8) (k : Nat), s.drop k = l → k ≤ s.length → s.drop (s.length - (skipF n l).length) = skipF n l := by
  intro n
  induction n with
  | zero =>
    intro l k h hk
    subst h
    show s.drop (s.length - (s.drop k).length) = s.drop k
    rw [List.length_drop, show s.length - (s.length - k) = k by omega]
  | succ n ih =>
    intro l k h hk
    cases l with
    | nil =>
      show s.drop (s.length - 0) = []
      rw [Nat.sub_zero, List.drop_of_length_le (Nat.le_refl _)]
    | cons c r =>
      have hlen := congrArg List.length h
      rw [List.length_drop, List.length_cons] at hlen
      have hr : s.drop (k + 1) = r := by rw [← List.drop_drop, h]; rfl
      rw [skipF]
      split
      · exact ih r (k + 1) hr (by omega)
      · split
        · have hd := dw_len (fun b => decide (b.toNat ≠ 10)) (c :: r)
          have hsuf : (c :: r).dropWhile (fun b => decide (b.toNat ≠ 10)) = s.drop (s.length - ((c :: r).dropWhile (fun b => decide (b.toNat ≠ 10))).length) := by
            exact List.suffix_iff_eq_drop.1 ((List.dropWhile_suffix _).trans (h ▸ List.drop_suffix k s))
          exact ih _ _ hsuf.symm (by omega)
        · rw [← h, List.length_drop, show s.length - (s.length - k) = k by omega]

end Go.Proofs.Ytjbcagbnagefcaa
