/- What Lex returns, for short texts. -/
import Derived.Test.YtjbcagbnagefcaaLex9
namespace Go.Proofs.Ytjbcagbnagefcaa
open Go.RowKit

theorem next_text {l : List UInt8} {k m : Nat} {t : List UInt8} (h : nextL l = some (k, t, m)) : t.length ≤ m := by
  cases l with
  | nil => cases h
  | cons c r =>
    rw [nextL_cons] at h
    split at h
    · split at h
      · simp only [Option.some.injEq, Prod.mk.injEq] at h
        obtain ⟨_, rfl, rfl⟩ := h
        exact Nat.le_refl _
      · split at h
        · simp only [Option.some.injEq, Prod.mk.injEq] at h
          obtain ⟨_, rfl, rfl⟩ := h
          exact Nat.le_refl _
        · cases h
    · split at h
      · split at h
        · simp only [Option.some.injEq, Prod.mk.injEq] at h
          obtain ⟨_, rfl, rfl⟩ := h
          exact Nat.le_refl _
        · cases h
      · split at h
        · split at h
          · simp only [Option.some.injEq, Prod.mk.injEq] at h
            obtain ⟨_, rfl, rfl⟩ := h
            exact Nat.le_succ _
          · cases h
        · split at h
          · simp only [Option.some.injEq, Prod.mk.injEq] at h
            obtain ⟨_, rfl, rfl⟩ := h
            exact List.length_take_le _ _
          · split at h
            · simp only [Option.some.injEq, Prod.mk.injEq] at h
              obtain ⟨_, rfl, rfl⟩ := h
              exact Nat.le_refl _
            · cases h
theorem lexRes_small {s : List UInt8} (h : s.length ≤ 1048576) : lexRes s = match (lexL s).2 with | none => ((lexL s).1, 0, 0) | some p => ([], 20, p) := by unfold lexRes; rw [if_neg (by omega)]; cases (lexL s).2 <;> rfl
theorem lexF_ne (N : Nat) (n : Nat) (l : List UInt8) (hn : l.length < n) (h : (lexF N n l).2 = none) : (lexF N n l).1 ≠ [] := by
  cases n with
  | zero => omega
  | succ n =>
    cases l with
    | nil => simp [lexF]
    | cons c r =>
      rw [lexF_step] at h ⊢
      cases hx : nextL (c :: r) with
      | none => rw [hx] at h; cases h
      | some x => obtain ⟨k, t, q⟩ := x; simp
theorem lexL_ne {s : List UInt8} (h : (lexL s).2 = none) : (lexL s).1 ≠ [] := lexF_ne _ _ _ (by have := skipL_len s; omega) h
theorem lexF_bd (N : Nat) : ∀ (n : Nat) (l : List UInt8), (lexF N n l).1.length ≤ l.length + 1 ∧ ∀ t ∈ (lexF N n l).1, t.pos ≤ N ∧ t.text.length ≤ l.length := by
  intro n
  induction n with
  | zero => intro l; exact ⟨Nat.zero_le _, fun t h => by cases h⟩
  | succ n ih =>
    intro l
    cases l with
    | nil => exact ⟨Nat.le_refl _, fun t h => by simp [lexF] at h; subst h; exact ⟨Nat.le_refl _, Nat.le_refl _⟩⟩
    | cons c r =>
      rw [lexF_step]
      cases hx : nextL (c :: r) with
      | none => exact ⟨Nat.zero_le _, fun t h => by cases h⟩
      | some x =>
        obtain ⟨k, t, q⟩ := x
        obtain ⟨q1, q2⟩ := next_bd hx
        have h3 := skipL_len ((c :: r).drop q)
        rw [List.length_drop] at h3
        obtain ⟨i1, i2⟩ := ih (skipL ((c :: r).drop q))
        have ht := next_text hx
        dsimp only
        refine ⟨by rw [List.length_cons]; omega, fun u hu => ?_⟩
        rcases List.mem_cons.1 hu with rfl | hu
        · exact ⟨Nat.sub_le _ _, by show t.length ≤ _; omega⟩
        · obtain ⟨j1, j2⟩ := i2 u hu
          exact ⟨j1, by omega⟩
theorem lexL_bd (s : List UInt8) : (lexL s).1.length ≤ s.length + 1 ∧ ∀ t ∈ (lexL s).1, t.pos ≤ s.length ∧ t.text.length ≤ s.length := by
  obtain ⟨h1, h2⟩ := lexF_bd s.length (s.length + 1) (skipL s)
  have := skipL_len s
  refine ⟨by unfold lexL; omega, fun t ht => ?_⟩
  obtain ⟨j1, j2⟩ := h2 t ht
  exact ⟨j1, by omega⟩
theorem w64 {x n : Int} (h : x = n) (h1 : -9223372036854775808 ≤ n) (h2 : n ≤ 9223372036854775807) : wrap64 x = n := by subst h; unfold wrap64; omega
theorem cat3 (a b : List UInt8) : Value.string (⟨a.toArray⟩ ++ ⟨#[10]⟩ ++ ⟨b.toArray⟩) = .string ⟨(a ++ 10 :: b).toArray⟩ := by
  rw [show a ++ 10 :: b = a ++ [10] ++ b by simp, ByteArray.mk_append_mk, ByteArray.mk_append_mk]

end Go.Proofs.Ytjbcagbnagefcaa
