/- A workspace's text, in plain words: blanks, heads, lines, what it says. -/
import Derived.Test.YtiliajnijjkcdaaDoorLex4
import Derived.Lib.Split
import Derived.Lib.Strings
namespace Go.Proofs.YtiliajnijjkcdaaDoor
open Go.RowKit

structure SrcD where
  name : List UInt8
  deps : List (List UInt8)
  text : List UInt8

/-! ### words between single blanks -/
def blanksL : List UInt8 → List (List UInt8)
  | [] => [[]]
  | b :: r => if b = 32 then [] :: blanksL r else match blanksL r with
    | [] => [[b]]
    | x :: l => (b :: x) :: l
theorem blanks_ne : ∀ s, ∃ x l, blanksL s = x :: l
  | [] => ⟨[], [], rfl⟩
  | b :: r => by
    unfold blanksL
    by_cases h : b = 32
    · exact ⟨_, _, if_pos h⟩
    · rw [if_neg h]
      obtain ⟨x, l, e⟩ := blanks_ne r
      rw [e]
      exact ⟨_, _, rfl⟩
theorem blanks_blank (r : List UInt8) : blanksL (32 :: r) = [] :: blanksL r := by rw [blanksL, if_pos rfl]
theorem blanks_other {b : UInt8} (h : b ≠ 32) {r : List UInt8} {x : List UInt8} {l : List (List UInt8)} (e : blanksL r = x :: l) : blanksL (b :: r) = (b :: x) :: l := by
  rw [blanksL, if_neg h, e]
theorem blanks_word : ∀ {a : List UInt8}, (32 : UInt8) ∉ a → blanksL a = [a]
  | [], _ => rfl
  | b :: r, h => by
    have e := blanks_word (a := r) (fun q => h (List.mem_cons_of_mem _ q))
    exact blanks_other (fun q => h (by rw [q]; exact List.mem_cons_self ..)) e
theorem blanks_app : ∀ {a : List UInt8} (r : List UInt8), (32 : UInt8) ∉ a → blanksL (a ++ 32 :: r) = a :: blanksL r
  | [], r, _ => blanks_blank r
  | b :: a, r, h => by
    have e := blanks_app (a := a) r (fun q => h (List.mem_cons_of_mem _ q))
    exact blanks_other (fun q => h (by rw [q]; exact List.mem_cons_self ..)) e
/-- The first word, and what is behind it. -/
theorem blanks_first : ∀ (s : List UInt8) {x : List UInt8} {l : List (List UInt8)}, blanksL s = x :: l → (32 : UInt8) ∉ x ∧ ((l = [] ∧ s = x) ∨ ∃ r, s = x ++ 32 :: r ∧ blanksL r = l)
  | [], x, l, h => by
    unfold blanksL at h
    injection h with h1 h2
    subst h1
    exact ⟨by simp, .inl ⟨h2.symm, rfl⟩⟩
  | b :: r, x, l, h => by
    unfold blanksL at h
    by_cases hb : b = 32
    · rw [if_pos hb] at h
      injection h with h1 h2
      subst h1
      exact ⟨by simp, .inr ⟨r, by rw [hb]; rfl, h2⟩⟩
    · rw [if_neg hb] at h
      obtain ⟨y, m, e⟩ := blanks_ne r
      rw [e] at h
      injection h with h1 h2
      subst h1 h2
      obtain ⟨i1, i2⟩ := blanks_first r e
      refine ⟨fun q => ?_, ?_⟩
      · rcases List.mem_cons.1 q with q | q
        · exact hb q.symm
        · exact i1 q
      · rcases i2 with ⟨j1, j2⟩ | ⟨t, j1, j2⟩
        · exact .inl ⟨j1, by rw [j2]⟩
        · exact .inr ⟨t, by rw [j1]; rfl, j2⟩
theorem blanks_sub : ∀ (s : List UInt8) {x : List UInt8}, x ∈ blanksL s → (∀ c ∈ x, c ∈ s) ∧ x.length ≤ s.length
  | [], x, h => by
    unfold blanksL at h
    rw [List.mem_singleton] at h
    subst h
    exact ⟨fun c hc => (by cases hc), Nat.le_refl _⟩
  | b :: r, x, h => by
    unfold blanksL at h
    by_cases hb : b = 32
    · rw [if_pos hb] at h
      rcases List.mem_cons.1 h with rfl | h
      · exact ⟨fun c hc => (by cases hc), Nat.zero_le _⟩
      · obtain ⟨i1, i2⟩ := blanks_sub r h
        exact ⟨fun c hc => List.mem_cons_of_mem _ (i1 c hc), Nat.le_succ_of_le i2⟩
    · rw [if_neg hb] at h
      obtain ⟨y, m, e⟩ := blanks_ne r
      rw [e] at h
      rcases List.mem_cons.1 h with rfl | h
      · obtain ⟨i1, i2⟩ := blanks_sub r (x := y) (by rw [e]; exact List.mem_cons_self ..)
        refine ⟨fun c hc => ?_, by simp only [List.length_cons]; omega⟩
        rcases List.mem_cons.1 hc with rfl | hc
        · exact List.mem_cons_self ..
        · exact List.mem_cons_of_mem _ (i1 c hc)
      · obtain ⟨i1, i2⟩ := blanks_sub r (x := x) (by rw [e]; exact List.mem_cons_of_mem _ h)
        exact ⟨fun c hc => List.mem_cons_of_mem _ (i1 c hc), Nat.le_succ_of_le i2⟩
theorem blanks_len : ∀ s : List UInt8, (blanksL s).length ≤ s.length + 1
  | [] => Nat.le_refl _
  | b :: r => by
    have ih := blanks_len r
    unfold blanksL
    by_cases hb : b = 32
    · rw [if_pos hb]; simp only [List.length_cons]; omega
    · rw [if_neg hb]
      obtain ⟨y, m, e⟩ := blanks_ne r
      rw [e] at ih ⊢
      simp only [List.length_cons] at ih ⊢
      omega

/-! ### the library's words -/
theorem occ_here {a : List UInt8} {sep : List UInt8} (r : List UInt8) : Lib.occAt (a ++ (sep ++ r)) sep a.length = true := by
  unfold Lib.occAt
  rw [List.drop_left]
  simp
theorem occ_split {s sep : List UInt8} {i : Nat} (h : Lib.occAt s sep i = true) : s = s.take i ++ (sep ++ s.drop (i + sep.length)) := by
  unfold Lib.occAt at h
  rw [List.isPrefixOf_iff_prefix] at h
  obtain ⟨t, ht⟩ := h
  have e : s.drop (i + sep.length) = t := by rw [← List.drop_drop, ← ht, List.drop_left]
  rw [e, ht, List.take_append_drop]
/-- Where blanks are not, there is one word; else the first one ends at the first blank. -/
theorem split_blanks : ∀ (k : Nat) (s : List UInt8), (blanksL s).length ≤ k + 1 → Lib.splitK [32] 0 k s = blanksL s := by
  intro k
  induction k with
  | zero =>
    intro s h
    obtain ⟨x, l, e⟩ := blanks_ne s
    rw [e] at h ⊢
    have hl : l = [] := List.eq_nil_of_length_eq_zero (by simpa using h)
    obtain ⟨_, h2⟩ := blanks_first s e
    rcases h2 with ⟨_, h2⟩ | ⟨r, _, h2⟩
    · rw [hl, h2]; rfl
    · obtain ⟨y, m, e2⟩ := blanks_ne r
      rw [h2, hl] at e2
      cases e2
  | succ k ih =>
    intro s h
    obtain ⟨x, l, e⟩ := blanks_ne s
    obtain ⟨hx, h2⟩ := blanks_first s e
    unfold Lib.splitK
    rcases Lib.index_spec s [32] with ⟨g1, g2⟩ | ⟨i, g1, g2, g3, g4⟩
    · rw [g1, if_pos (by rfl)]
      rcases h2 with ⟨j1, j2⟩ | ⟨r, j1, j2⟩
      · rw [e, j1, j2]
      · have := g2 x.length (by rw [j1]; simp)
        rw [j1, show x ++ 32 :: r = x ++ ([32] ++ r) from rfl, occ_here] at this
        cases this
    · have hne : ¬ (((i : Int)) == -1) = true := fun q => by have := beq_iff_eq.1 q; omega
      rw [g1, if_neg hne]
      rcases h2 with ⟨j1, j2⟩ | ⟨r, j1, j2⟩
      · exfalso
        have hsp := occ_split g3
        apply hx
        rw [← j2, hsp]
        simp
      · have hi : i = x.length := by
          rcases Nat.lt_trichotomy i x.length with q | q | q
          · exfalso
            have hsp := occ_split g3
            apply hx
            have hd : s.drop i = [32] ++ s.drop (i + 1) := by
              have := congrArg (List.drop i) hsp
              rw [List.drop_left' (by rw [List.length_take]; omega)] at this
              exact this
            have hxd : x.drop i ++ 32 :: r = 32 :: s.drop (i + 1) := by
              rw [← List.drop_append_of_le_length (by omega), ← j1]
              exact hd
            cases hq : x.drop i with
            | nil => have := congrArg List.length hq; rw [List.length_drop] at this; simp at this; omega
            | cons c t =>
              rw [hq] at hxd
              injection hxd with q1 _
              have : c ∈ x.drop i := by rw [hq]; exact List.mem_cons_self ..
              rw [← q1]
              exact List.mem_of_mem_drop this
          · exact q
          · have := g4 x.length q
            rw [j1, show x ++ 32 :: r = x ++ ([32] ++ r) from rfl, occ_here] at this
            cases this
        rw [hi]
        have e3 : ((x.length : Int)).toNat = x.length := by omega
        rw [e3, Nat.add_zero, j1, List.take_left, show x.length + ([32] : List UInt8).length = x.length + 1 from rfl]
        have e4 : (x ++ 32 :: r).drop (x.length + 1) = r := by rw [← List.drop_drop, List.drop_left]; rfl
        rw [e4, ih r (by rw [e] at h; rw [j2]; simpa using h), ← j1, e, j2]

theorem isName_ne {t : List UInt8} (h : isName t = true) : t ≠ [] := by unfold isName at h; simp at h; exact h.1
theorem isName_len {t : List UInt8} (h : isName t = true) : t.length ≤ 32 := by unfold isName at h; simp at h; exact h.2.1
theorem tw_all : ∀ (t : List UInt8) (c : UInt8), c ∈ t.takeWhile goC → goC c = true
  | [], c, h => by cases h
  | b :: r, c, h => by
    rw [List.takeWhile_cons] at h
    by_cases hb : goC b = true
    · rw [if_pos hb] at h
      rcases List.mem_cons.1 h with rfl | h
      · exact hb
      · exact tw_all r c h
    · rw [if_neg hb] at h
      cases h
theorem isName_goes {t : List UInt8} (h : isName t = true) : ∀ c ∈ t, goC c = true := by
  unfold isName at h
  simp at h
  have h4 := h.2.2.2.1
  have h5 : t.takeWhile goC = t := by
    rw [← tw_take, h4, List.take_length]
  intro c hc
  rw [← h5] at hc
  exact tw_all t c hc

end Go.Proofs.YtiliajnijjkcdaaDoor
