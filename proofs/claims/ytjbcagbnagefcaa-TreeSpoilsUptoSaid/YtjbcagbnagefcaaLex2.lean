/- The plain lexer: a text behind a line's end; a text further on. -/
import Derived.Test.YtjbcagbnagefcaaLex1
namespace Go.Proofs.Ytjbcagbnagefcaa
open Go.RowKit

theorem tw_app (d : UInt8) (hd : goC d = false) (l rest : List UInt8) : (l ++ d :: rest).takeWhile goC = l.takeWhile goC := by
  induction l with
  | nil => rw [List.nil_append, List.takeWhile_cons, hd]; rfl
  | cons c l ih =>
    rw [List.cons_append, List.takeWhile_cons, List.takeWhile_cons, ih]
theorem run_app (d : UInt8) (hd : goC d = false) (l rest : List UInt8) : runN (l ++ d :: rest) = runN l := by unfold runN; rw [tw_app d hd]
theorem life_app (d : UInt8) (hd : goC d = false) (l rest : List UInt8) : lifeOk (l ++ d :: rest) = lifeOk l := by
  cases l with
  | nil =>
    have hb : begC d = false := by unfold goC at hd; rw [Bool.or_eq_false_iff] at hd; exact hd.1
    show (begC d && _) = false
    rw [hb]; rfl
  | cons c l =>
    have := run_app d hd (c :: l) rest
    show (begC c && decide (runN (c :: (l ++ d :: rest)) ≤ 32)) = (begC c && decide (runN (c :: l) ≤ 32))
    rw [← List.cons_append, this]
theorem twos_mem (c d : UInt8) : twosL.contains [c, d] = true → d = 58 ∨ d = 62 ∨ d = 61 := by
  intro h
  simp [twosL] at h
  rcases h with h | h | h
  · exact .inl h.2
  · exact .inr (.inl h.2)
  · exact .inr (.inr h.2)
/-- What stands behind a byte that no token goes on with does not matter. -/
theorem next_app (d : UInt8) (hd : goC d = false) (h1 : d ≠ 58) (h2 : d ≠ 62) (h3 : d ≠ 61) {c : UInt8} {r : List UInt8} (rest : List UInt8) : nextL ((c :: r) ++ d :: rest) = nextL (c :: r) := by
  show nextL (c :: (r ++ d :: rest)) = _
  rw [nextL_cons, nextL_cons]
  have e1 := tw_app d hd (c :: r) rest
  have e2 := run_app d hd (c :: r) rest
  have e3 := tw_app d hd r rest
  have e4 := run_app d hd r rest
  have e5 := life_app d hd r rest
  rw [List.cons_append] at e1 e2
  rw [e1, e2, e3, e4, e5]
  have e6 : twosL.contains ((c :: (r ++ d :: rest)).take 2) = twosL.contains ((c :: r).take 2) := by
    cases r with
    | nil =>
      show twosL.contains [c, d] = twosL.contains [c]
      have a : twosL.contains [c] = false := by simp [twosL]
      rw [a, Bool.eq_false_iff]
      intro h
      rcases twos_mem c d h with h | h | h
      · exact h1 h
      · exact h2 h
      · exact h3 h
    | cons b r => rfl
  have e7 : twosL.contains ((c :: (r ++ d :: rest)).take 2) = true → (c :: (r ++ d :: rest)).take 2 = (c :: r).take 2 := by
    intro h
    cases r with
    | nil =>
      rcases twos_mem c d h with h | h | h
      · exact absurd h h1
      · exact absurd h h2
      · exact absurd h h3
    | cons b r => rfl
  by_cases h7 : twosL.contains ((c :: (r ++ d :: rest)).take 2) = true
  · rw [e7 h7]
  · have h8 : ¬ twosL.contains ((c :: r).take 2) = true := by rw [← e6]; exact h7
    rw [if_neg h7, if_neg h8]

theorem dw_app (l rest : List UInt8) : (l ++ 10 :: rest).dropWhile (fun b => decide (b.toNat ≠ 10)) = l.dropWhile (fun b => decide (b.toNat ≠ 10)) ++ 10 :: rest := by
  induction l with
  | nil => rfl
  | cons c l ih =>
    rw [List.cons_append, List.dropWhile_cons, List.dropWhile_cons, ih]
    split <;> rfl
theorem skip_line (l : List UInt8) : skipL (10 :: l) = skipL l := skipL_blank rfl
theorem skip_app : ∀ (n : Nat) (l rest : List UInt8), l.length ≤ n → skipL (l ++ 10 :: rest) = if skipL l = [] then skipL rest else skipL l ++ 10 :: rest := by
  intro n
  induction n with
  | zero =>
    intro l rest h
    have : l = [] := List.eq_nil_of_length_eq_zero (by omega)
    subst this
    rw [List.nil_append, skip_line, skipL_nil, if_pos rfl]
  | succ n ih =>
    intro l rest h
    cases l with
    | nil => rw [List.nil_append, skip_line, skipL_nil, if_pos rfl]
    | cons c r =>
      simp only [List.length_cons] at h
      rw [List.cons_append]
      by_cases hb : blankC c = true
      · rw [skipL_blank hb, skipL_blank hb]; exact ih r rest (by omega)
      · by_cases hr : (c :: r).take 2 = [47, 47]
        · have hr2 : (c :: (r ++ 10 :: rest)).take 2 = [47, 47] := by cases r with | nil => simp at hr | cons b r => exact hr
          have hc : c = 47 := by cases r with | nil => simp at hr | cons b r => simp at hr; exact hr.1
          rw [skipL_rem hb hr, skipL_rem hb hr2, ← List.cons_append, dw_app]
          have hd : (c :: r).dropWhile (fun b => decide (b.toNat ≠ 10)) = r.dropWhile (fun b => decide (b.toNat ≠ 10)) := by rw [List.dropWhile_cons, if_pos (by subst hc; decide)]
          rw [hd]
          have := dw_len (fun b => decide (b.toNat ≠ 10)) r
          exact ih _ rest (by omega)
        · have hr2 : ¬ (c :: (r ++ 10 :: rest)).take 2 = [47, 47] := by
            cases r with
            | nil => intro e; simp at e
            | cons b r => exact hr
          rw [skipL_stop hb hr, skipL_stop hb hr2, if_neg (by simp)]
          rfl

/-- So much further. -/
def Tok.shift (d : Nat) (t : Tok) : Tok := ⟨t.kind, t.text, t.pos + d⟩
theorem lexF_shift (N d : Nat) : ∀ (n : Nat) (l : List UInt8), l.length ≤ N → l.length < n → (lexF N n l).2 = none → lexF (N + d) n l = ((lexF N n l).1.map (Tok.shift d), none) := by
  intro n
  induction n with
  | zero => intro l _ h; omega
  | succ n ih =>
    intro l hN hn h
    cases l with
    | nil => rfl
    | cons c r =>
      unfold lexF at h ⊢
      cases hx : nextL (c :: r) with
      | none => rw [hx] at h; cases h
      | some x =>
        obtain ⟨k, t, q⟩ := x
        obtain ⟨q1, q2⟩ := next_bd hx
        have h3 := skipL_len ((c :: r).drop q)
        rw [List.length_drop] at h3
        rw [hx] at h
        dsimp only at h ⊢
        rw [ih _ (by omega) (by omega) h]
        simp only [List.map_cons, Tok.shift, Prod.mk.injEq, List.cons.injEq, Tok.mk.injEq, and_true, true_and]
        omega

/-- The tokens of a text, a line's end, and another text. -/
theorem lexF_join (N : Nat) (b : List UInt8) : ∀ (n m : Nat) (l : List UInt8), l.length ≤ N → l.length < n → l.length + 1 + b.length < m → (lexF N n l).2 = none →
    ((lexF N n l).1 ≠ []) ∧ lexF (N + 1 + b.length) m (if l = [] then skipL b else l ++ 10 :: b) = ((lexF N n l).1.dropLast ++ (lexF (N + 1 + b.length) (b.length + 1) (skipL b)).1, (lexF (N + 1 + b.length) (b.length + 1) (skipL b)).2) := by
  intro n
  induction n with
  | zero => intro m l _ h; omega
  | succ n ih =>
    intro m l hN hn hm h
    cases l with
    | nil =>
      refine ⟨by simp [lexF], ?_⟩
      rw [if_pos rfl]
      have hb := skipL_len b
      simp only [List.length_nil] at hm
      rw [lexF_more (N + 1 + b.length) m (b.length + 1) (skipL b) (by omega) (by omega)]
      simp [lexF]
    | cons c r =>
      rw [if_neg (by simp)]
      obtain ⟨m, rfl⟩ : ∃ m', m = m' + 1 := ⟨m - 1, by omega⟩
      have hnx := next_app 10 rfl (by decide) (by decide) (by decide) (c := c) (r := r) b
      rw [List.cons_append] at hnx ⊢
      rw [lexF, lexF, hnx]
      rw [lexF] at h
      cases hx : nextL (c :: r) with
      | none => rw [hx] at h; cases h
      | some x =>
        obtain ⟨k, t, q⟩ := x
        obtain ⟨q1, q2⟩ := next_bd hx
        rw [hx] at h
        dsimp only at h ⊢
        have h3 := skipL_len ((c :: r).drop q)
        rw [List.length_drop] at h3
        have hdr : (c :: (r ++ 10 :: b)).drop q = (c :: r).drop q ++ 10 :: b := by rw [← List.cons_append, List.drop_append_of_le_length q2]
        rw [hdr, skip_app _ _ b (Nat.le_refl _)]
        obtain ⟨i1, i2⟩ := ih m (skipL ((c :: r).drop q)) (by omega) (by omega) (by omega) h
        refine ⟨by simp, ?_⟩
        rw [i2]
        have hp : N + 1 + b.length - (c :: (r ++ 10 :: b)).length = N - (c :: r).length := by simp; omega
        rw [hp]
        simp only [Prod.mk.injEq, and_true]
        rw [List.dropLast_cons_of_ne_nil i1]
        rfl
theorem lexL_join (a b : List UInt8) (ha : (lexL a).2 = none) (hb : (lexL b).2 = none) :
    lexL (a ++ 10 :: b) = ((lexL a).1.dropLast ++ (lexL b).1.map (Tok.shift (a.length + 1)), none) := by
  unfold lexL at *
  have h1 := skipL_len a
  have h2 := skipL_len b
  have hl : (a ++ 10 :: b).length = a.length + 1 + b.length := by simp; omega
  rw [hl, skip_app _ _ b (Nat.le_refl _)]
  obtain ⟨_, e⟩ := lexF_join a.length b (a.length + 1) (a.length + 1 + b.length + 1) (skipL a) h1 (by omega) (by omega) ha
  rw [e]
  have e2 := lexF_shift b.length (a.length + 1) (b.length + 1) (skipL b) h2 (by omega) hb
  rw [show a.length + 1 + b.length = b.length + (a.length + 1) by omega, e2]

end Go.Proofs.Ytjbcagbnagefcaa
