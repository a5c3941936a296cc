/- Plain laws: where tokens stand. -/
import Derived.Test.YtgnpklheohaghaaLex11
namespace Go.Proofs.Ytgnpklheohaghaa
open Go.RowKit

theorem tw_pre (l : List UInt8) : l.takeWhile goC = l.take (l.takeWhile goC).length := by
  have := tw_take l
  unfold runN at this
  exact this.symm
/-- How a token stands. -/
theorem next_shape {l : List UInt8} {k m : Nat} {t : List UInt8} (h : nextL l = some (k, t, m)) : k ≠ 0 ∧ ((k = 3 ∧ m = t.length + 1 ∧ t = (l.drop 1).take t.length) ∨ (k ≠ 3 ∧ m = t.length ∧ t = l.take t.length)) := by
  cases l with
  | nil => cases h
  | cons c r =>
    rw [nextL_cons] at h
    split at h
    · split at h
      · simp only [Option.some.injEq, Prod.mk.injEq] at h
        obtain ⟨rfl, rfl, rfl⟩ := h
        exact ⟨by decide, .inr ⟨by decide, rfl, tw_pre _⟩⟩
      · split at h
        · simp only [Option.some.injEq, Prod.mk.injEq] at h
          obtain ⟨rfl, rfl, rfl⟩ := h
          exact ⟨by decide, .inr ⟨by decide, rfl, tw_pre _⟩⟩
        · cases h
    · split at h
      · split at h
        · simp only [Option.some.injEq, Prod.mk.injEq] at h
          obtain ⟨rfl, rfl, rfl⟩ := h
          exact ⟨by decide, .inr ⟨by decide, rfl, tw_pre _⟩⟩
        · cases h
      · split at h
        · split at h
          · simp only [Option.some.injEq, Prod.mk.injEq] at h
            obtain ⟨rfl, rfl, rfl⟩ := h
            exact ⟨by decide, .inl ⟨rfl, rfl, tw_pre r⟩⟩
          · cases h
        · split at h
          · rename_i h4
            simp only [Option.some.injEq, Prod.mk.injEq] at h
            obtain ⟨rfl, rfl, rfl⟩ := h
            have h2 : ((c :: r).take 2).length = 2 := by
              cases r with
              | nil => simp [twosL] at h4
              | cons b r => rfl
            exact ⟨by decide, .inr ⟨by decide, h2.symm, by rw [h2]⟩⟩
          · split at h
            · simp only [Option.some.injEq, Prod.mk.injEq] at h
              obtain ⟨rfl, rfl, rfl⟩ := h
              exact ⟨by decide, .inr ⟨by decide, rfl, rfl⟩⟩
            · cases h

/-- What stands from e on: the rest of the tokens, the first of them at k. -/
structure Chain (s : List UInt8) (e k : Nat) (ts : List Tok) : Prop where
  ek : e ≤ k
  kn : k ≤ s.length
  sk : s.drop k = skipL (s.drop e)
  toks : lexF s.length (s.length - k + 1) (s.drop k) = (ts, none)
theorem chain_of (s : List UInt8) (e : Nat) (he : e ≤ s.length) : ∃ k, e ≤ k ∧ k ≤ s.length ∧ s.drop k = skipL (s.drop e) := by
  have h := skipL_len (s.drop e)
  rw [List.length_drop] at h
  exact ⟨s.length - (skipL (s.drop e)).length, by omega, by omega, skip_suffix s _ (s.drop e) e rfl he⟩
theorem chain_start {s : List UInt8} (h : (lexL s).2 = none) : ∃ k, Chain s 0 k (lexL s).1 := by
  obtain ⟨k, h1, h2, h3⟩ := chain_of s 0 (Nat.zero_le _)
  rw [List.drop_zero] at h3
  refine ⟨k, h1, h2, by rw [List.drop_zero]; exact h3, ?_⟩
  have hl := congrArg List.length h3
  rw [List.length_drop] at hl
  have := skipL_len s
  rw [h3, ← lexF_more s.length (s.length + 1) (s.length - k + 1) (skipL s) (by omega) (by omega)]
  show lexL s = ((lexL s).1, none)
  rw [← h]
theorem chain_step {s : List UInt8} {e k : Nat} {ts : List Tok} (h : Chain s e k ts) :
    (k = s.length ∧ ts = [⟨0, [], s.length⟩]) ∨ ∃ (kk m : Nat) (t : List UInt8) (ts' : List Tok) (k' : Nat), ts = ⟨kk, t, k⟩ :: ts' ∧ ts' ≠ [] ∧ Chain s (k + m) k' ts' ∧ k + m ≤ s.length ∧ t.length ≤ m ∧ kk ≠ 0 ∧ t = (s.drop (k + m - t.length)).take t.length ∧ ((kk = 3 ∧ m = t.length + 1) ∨ (kk ≠ 3 ∧ m = t.length)) := by
  have ht := h.toks
  have hll : (s.drop k).length = s.length - k := List.length_drop
  cases hl : s.drop k with
  | nil =>
    rw [hl] at ht hll
    have hk := h.kn
    simp only [List.length_nil] at hll
    refine .inl ⟨by omega, ?_⟩
    have : ([⟨0, [], s.length⟩], none) = (ts, (none : Option Nat)) := by rw [← ht]; rfl
    exact (Prod.mk.inj this).1.symm
  | cons c r =>
    rw [hl] at ht hll
    rw [lexF_step] at ht
    cases hx : nextL (c :: r) with
    | none => rw [hx] at ht; simp at ht
    | some x =>
      obtain ⟨kk, t, m⟩ := x
      obtain ⟨q1, q2⟩ := next_bd hx
      obtain ⟨z0, z⟩ := next_shape hx
      rw [hx] at ht
      dsimp only at ht
      simp only [Prod.mk.injEq] at ht
      obtain ⟨t1, t2⟩ := ht
      rw [hll, show s.length - (s.length - k) = k by have := h.kn; omega] at t1
      rw [hll] at q2
      have hd : (c :: r).drop m = s.drop (k + m) := by rw [← hl, List.drop_drop]
      rw [hd] at t1 t2
      have hkm : k + m ≤ s.length := by have := h.kn; omega
      obtain ⟨k', h1, h2, h3⟩ := chain_of s (k + m) hkm
      have hk'l : (skipL (s.drop (k + m))).length = s.length - k' := by rw [← h3, List.length_drop]
      have hmore := lexF_more s.length (s.length - k) (s.length - k' + 1) (skipL (s.drop (k + m))) (by omega) (by omega)
      rw [hmore] at t1 t2
      have hne := lexF_ne s.length (s.length - k' + 1) (skipL (s.drop (k + m))) (by omega) t2
      refine .inr ⟨kk, m, t, _, k', t1.symm, hne, ⟨h1, h2, h3, ?_⟩, hkm, next_text hx, z0, ?_, ?_⟩
      · rw [h3]
        exact Prod.ext rfl t2
      · rcases z with ⟨_, z1, z2⟩ | ⟨_, z1, z2⟩
        · rw [show k + m - t.length = k + 1 by omega, ← List.drop_drop, hl]
          exact z2
        · rw [show k + m - t.length = k by omega, hl]
          exact z2
      · rcases z with ⟨z0, z1, _⟩ | ⟨z0, z1, _⟩
        · exact .inl ⟨z0, z1⟩
        · exact .inr ⟨z0, z1⟩

/-- Within blanks and remarks: outside a remark, or inside one. -/
def Gap (s : List UInt8) (to j : Nat) (mark : Bool) : Prop := if mark then skipL ((s.drop j).dropWhile (fun b => decide (b.toNat ≠ 10))) = s.drop to else skipL (s.drop j) = s.drop to
/-- One byte on. -/
theorem gap_step {s : List UInt8} {to j : Nat} {mark : Bool} {c : UInt8} (h : Gap s to j mark) (hj : j < to) (hto : to ≤ s.length) (hc : s[j]? = some c) :
    (mark = true ∧ c.toNat = 10 ∧ Gap s to (j + 1) false) ∨ (mark = true ∧ c.toNat ≠ 10 ∧ Gap s to (j + 1) true) ∨ (mark = false ∧ (c.toNat = 32 ∨ c.toNat = 9 ∨ c.toNat = 10) ∧ Gap s to (j + 1) false) ∨
      (mark = false ∧ c.toNat = 47 ∧ j + 1 < to ∧ s[j + 1]? = some 47 ∧ Gap s to (j + 1) true) := by
  have hd := drop_cons hc
  unfold Gap at *
  cases mark with
  | true =>
    simp only [if_true] at h
    rw [hd, List.dropWhile_cons] at h
    by_cases h10 : c.toNat = 10
    · have hc10 : c = 10 := UInt8.toNat_inj.mp (by rw [h10]; rfl)
      rw [if_neg (by simp [h10]), hc10, skip_line] at h
      exact .inl ⟨rfl, h10, by simpa using h⟩
    · rw [if_pos (by simpa using h10)] at h
      exact .inr (.inl ⟨rfl, h10, by simpa using h⟩)
  | false =>
    simp only [Bool.false_eq_true, if_false] at h
    rw [hd] at h
    by_cases hb : blankC c = true
    · rw [skipL_blank hb] at h
      exact .inr (.inr (.inl ⟨rfl, by simpa [blankC] using hb, by simpa using h⟩))
    · by_cases hr : (c :: s.drop (j + 1)).take 2 = [47, 47]
      · rw [skipL_rem hb hr] at h
        have hc47 : c = 47 := by cases hq : s.drop (j + 1) with | nil => rw [hq] at hr; simp at hr | cons b r => rw [hq] at hr; simp at hr; exact hr.1
        have hb47 : s[j + 1]? = some 47 := by
          have e : (s.drop (j + 1))[0]? = some 47 := by
            cases hq : s.drop (j + 1) with
            | nil => rw [hq] at hr; simp at hr
            | cons b r => rw [hq] at hr; simp at hr; simp [hr.2]
          rwa [List.getElem?_drop, Nat.add_zero] at e
        have hdw : (c :: s.drop (j + 1)).dropWhile (fun b => decide (b.toNat ≠ 10)) = (s.drop (j + 1)).dropWhile (fun b => decide (b.toNat ≠ 10)) := by rw [List.dropWhile_cons, if_pos (by subst hc47; decide)]
        rw [hdw] at h
        have hlen := congrArg List.length h
        have l1 := skipL_len ((s.drop (j + 1)).dropWhile (fun b => decide (b.toNat ≠ 10)))
        have l2 : ((s.drop (j + 1)).dropWhile (fun b => decide (b.toNat ≠ 10))).length ≤ s.length - (j + 2) := by
          rw [drop_cons hb47, List.dropWhile_cons, if_pos (by decide)]
          have := dw_len (fun b => decide (b.toNat ≠ 10)) (s.drop (j + 1 + 1))
          rw [List.length_drop] at this
          omega
        have hj1 : j + 1 < s.length := by
          rcases Nat.lt_or_ge (j + 1) s.length with q | q
          · exact q
          · rw [List.getElem?_eq_none q] at hb47; cases hb47
        rw [List.length_drop] at hlen
        exact .inr (.inr (.inr ⟨rfl, by rw [hc47]; rfl, by omega, hb47, by simpa using h⟩))
      · rw [skipL_stop hb hr, ← hd] at h
        have hlen := congrArg List.length h
        rw [List.length_drop, List.length_drop] at hlen
        omega

end Go.Proofs.Ytgnpklheohaghaa
