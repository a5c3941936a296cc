/- Workspaces as texts, in plain words: what was read is printed as a text that is read as the same. How great what was read is, in plain words. -/
import Derived.Test.YtiliajnijjkcdaaDoorMan20
namespace Go.Proofs.YtiliajnijjkcdaaDoor
open Go.RowKit

def depsT : List (List UInt8) → List UInt8
  | [] => []
  | d :: r => 32 :: (d ++ depsT r)
/-- A head's line. -/
def headT (d : SrcD) : List UInt8 := 61 :: 61 :: 32 :: (d.name ++ if d.deps = [] then [] else 32 :: 58 :: depsT d.deps)
/-- Crates as a text. -/
def textL : List SrcD → List UInt8
  | [] => []
  | d :: r => headT d ++ 10 :: (d.text ++ textL r)
theorem textL_app : ∀ (a b : List SrcD), textL (a ++ b) = textL a ++ textL b
  | [], b => rfl
  | d :: a, b => by
    rw [List.cons_append, textL, textL, textL_app a b]
    simp
theorem textL_add (out : List SrcD) (h : out ≠ []) (t : List UInt8) : textL (addText out t) = textL out ++ t := by
  obtain ⟨r, x, rfl⟩ : ∃ r x, out = r ++ [x] := ⟨out.dropLast, out.getLast h, (List.dropLast_concat_getLast h).symm⟩
  rw [addText_app, textL_app, textL_app]
  simp [textL, headT]
/-- Words put together again. -/
def joinB : List (List UInt8) → List UInt8
  | [] => []
  | [x] => x
  | x :: y :: r => x ++ 32 :: joinB (y :: r)
theorem join_blanks : ∀ s : List UInt8, joinB (blanksL s) = s
  | [] => rfl
  | b :: r => by
    have ih := join_blanks r
    obtain ⟨x, l, e⟩ := blanks_ne r
    by_cases h : b = 32
    · subst h
      rw [blanks_blank, e]
      rw [e] at ih
      show [] ++ 32 :: joinB (x :: l) = _
      rw [ih]
      rfl
    · rw [blanks_other h e]
      rw [e] at ih
      cases l with
      | nil =>
        show b :: x = b :: r
        rw [show x = r from ih]
      | cons y l =>
        show (b :: x) ++ 32 :: joinB (y :: l) = b :: r
        rw [← ih]
        rfl
theorem join_deps : ∀ (d : List UInt8) (ds : List (List UInt8)), 32 :: joinB (d :: ds) = depsT (d :: ds)
  | d, [] => by simp [joinB, depsT]
  | d, e :: ds => by
    show 32 :: (d ++ 32 :: joinB (e :: ds)) = 32 :: (d ++ depsT (e :: ds))
    rw [join_deps e ds]
/-- A head's line is told by what it says. -/
theorem head_text {s nm : List UInt8} {deps : List (List UInt8)} (h : headL s = some (nm, deps)) (t : List UInt8) : bareL s = headT ⟨nm, deps, t⟩ := by
  unfold headL at h
  have hj := join_blanks (bareL s)
  generalize blanksL (bareL s) = l at h hj
  match l, h, hj with
  | [], h, _ => cases h
  | [e], h, _ => cases h
  | [e, n], h, hj =>
    rw [headW_two] at h
    by_cases hc : e = [61, 61] ∧ isName n = true
    · rw [if_pos hc] at h
      injection h with h
      injection h with h1 h2
      subst h1 h2
      rw [← hj, hc.1]
      simp [joinB, headT]
    · rw [if_neg hc] at h; cases h
  | [e, n, c], h, _ => cases h
  | e :: n :: c :: d :: ds, h, hj =>
    rw [headW_many] at h
    by_cases hc : e = [61, 61] ∧ isName n = true ∧ c = [58] ∧ (d :: ds).all isName = true
    · rw [if_pos hc] at h
      injection h with h
      injection h with h1 h2
      subst h1 h2
      rw [← hj, hc.1, hc.2.2.1]
      show [61, 61] ++ 32 :: (n ++ 32 :: ([58] ++ 32 :: joinB (d :: ds))) = _
      rw [join_deps]
      simp [headT]
    · rw [if_neg hc] at h; cases h
theorem bareN_zero {s : List UInt8} (hne : s ≠ []) (h : bareN s = 0) : ∃ r, s = 10 :: r := by
  cases s with
  | nil => exact absurd rfl hne
  | cons b r =>
    unfold bareN at h
    by_cases hb : b = 10
    · exact ⟨r, by rw [hb]⟩
    · rw [if_neg hb] at h; omega
/-- What was read, printed, is read as the same. -/
theorem parse_text : ∀ (n p : Nat) (s : List UInt8) (out y : List SrcD) (q : Nat), s.length ≤ n → parseR p s out = (0, q, y) → ∃ t, textL y = textL out ++ t ∧ t.length ≤ s.length + 1 ∧ ∀ p', parseR p' t out = (0, 0, y) := by
  intro n
  induction n with
  | zero =>
    intro p s out y q hs h
    obtain rfl : s = [] := List.eq_nil_of_length_eq_zero (by omega)
    rw [parse_nil] at h
    injection h with _ h
    injection h with _ h
    exact ⟨[], by rw [h]; simp, by simp, fun p' => by rw [parse_nil, h]⟩
  | succ n ih =>
    intro p s out y q hs h
    by_cases hne : s = []
    · subst hne
      rw [parse_nil] at h
      injection h with _ h
      injection h with _ h
      exact ⟨[], by rw [h]; simp, by simp, fun p' => by rw [parse_nil, h]⟩
    have hlp := line_pos hne
    rw [parse_step hne] at h
    by_cases hz : (stepM out s).1 = 0
    rotate_left
    · rw [if_neg hz] at h
      injection h with h _
      exact absurd h hz
    rw [if_pos hz] at h
    have hdl : (s.drop (lineN s)).length ≤ n := by rw [List.length_drop]; omega
    by_cases hh : isHead s = true
    · have e1 : ∀ s', isHead s' = true → stepM out s' = (wrongL out (headL s'), addHead out (headL s')) := fun s' h' => by unfold stepM; rw [if_pos h']
      have hz2 := hz
      rw [e1 s hh] at hz2
      obtain ⟨h1, nm, deps, h2, h3, h4⟩ := wrong_bound hz2
      have hst : stepM out s = (0, out ++ [⟨nm, deps, []⟩]) := by
        rw [e1 s hh] at hz ⊢
        rw [show addHead out (headL s) = out ++ [⟨nm, deps, []⟩] by rw [h2]; rfl]
        exact Prod.ext hz rfl
      have hbt := head_text h2 []
      have htx : textL (out ++ [⟨nm, deps, []⟩]) = textL out ++ (headT ⟨nm, deps, []⟩ ++ [10]) := by rw [textL_app]; simp [textL]
      rw [hst] at h
      simp only at h
      rcases line_cases s with h5 | ⟨l, r, h5, h6⟩
      · rw [lineN_all h5, List.drop_length, parse_nil] at h
        injection h with _ h
        injection h with _ h
        have hsl : headT ⟨nm, deps, []⟩ = s := by rw [← hbt, bareL_all h5]
        refine ⟨s ++ [10], by rw [← h, htx, hsl], by simp, fun p' => ?_⟩
        have hst2 : stepM out (s ++ 10 :: []) = (0, out ++ [⟨nm, deps, []⟩]) := by
          rw [e1 _ (by rw [isHead_app]; exact hh)]
          rw [e1 s hh] at hst
          unfold headL at hst ⊢
          rw [bareL_app _ h5]
          rw [bareL_all h5] at hst
          exact hst
        rw [parse_step (by simp), hst2, if_pos rfl, lineN_app _ h5, drop_line, parse_nil, h]
      · subst h6
        have hsl : headT ⟨nm, deps, []⟩ = l := by rw [← hbt, bareL_app _ h5]
        rw [lineN_app _ h5, drop_line] at h hdl
        obtain ⟨t, i1, i2, i3⟩ := ih _ _ _ _ _ hdl h
        refine ⟨l ++ 10 :: t, by rw [i1, htx, hsl]; simp, by simp only [List.length_append, List.length_cons]; omega, fun p' => ?_⟩
        rw [parse_step (by simp), step_line h5 out t r, hst, if_pos rfl, lineN_app _ h5, drop_line]
        exact i3 _
    · have e1 : ∀ s', ¬ isHead s' = true → stepM out s' = if out.isEmpty = true then (if bareN s' = 0 then 0 else 40, out) else (0, addText out (s'.take (lineN s'))) := fun s' h' => by unfold stepM; rw [if_neg h']
      by_cases he : out = []
      · subst he
        have hb0 : bareN s = 0 := by
          rw [e1 s hh, if_pos (by rfl)] at hz
          by_cases hb : bareN s = 0
          · exact hb
          · rw [if_neg hb] at hz; cases hz
        obtain ⟨r, rfl⟩ := bareN_zero hne hb0
        have hst : stepM [] (10 :: r) = (0, []) := by rw [e1 _ hh, if_pos (by rfl), if_pos hb0]
        rw [hst] at h
        simp only at h
        obtain ⟨t, i1, i2, i3⟩ := ih _ _ _ _ _ hdl h
        exact ⟨t, i1, by rw [List.length_drop] at i2; omega, i3⟩
      · have he2 : ¬ out.isEmpty = true := by simpa using he
        have hst : stepM out s = (0, addText out (s.take (lineN s))) := by rw [e1 _ hh, if_neg he2]
        rw [hst] at h
        simp only at h
        rcases line_cases s with h5 | ⟨l, r, h5, h6⟩
        · rw [lineN_all h5, List.drop_length, parse_nil, List.take_length] at h
          injection h with _ h
          injection h with _ h
          refine ⟨s, by rw [← h, textL_add out he], by omega, fun p' => ?_⟩
          rw [parse_step hne, hst, if_pos rfl, lineN_all h5, List.drop_length, parse_nil, List.take_length, h]
        · subst h6
          have htk : (l ++ 10 :: r).take (l.length + 1) = l ++ [10] := by
            rw [show l ++ 10 :: r = (l ++ [10]) ++ r by simp]
            exact List.take_left' (by simp)
          rw [lineN_app _ h5, drop_line, htk] at h
          rw [lineN_app _ h5, drop_line] at hdl
          rw [lineN_app _ h5, htk] at hst
          obtain ⟨t, i1, i2, i3⟩ := ih _ _ _ _ _ hdl h
          refine ⟨l ++ 10 :: t, by rw [i1, textL_add out he]; simp, by simp only [List.length_append, List.length_cons]; omega, fun p' => ?_⟩
          rw [parse_step (by simp), step_line h5 out t r, hst, if_pos rfl, lineN_app _ h5, drop_line]
          exact i3 _
/-- 10.4: what was read is printed as a text that means the same. -/
theorem parseL_text {s : List UInt8} {q : Nat} {y : List SrcD} (h : parseL s = (0, q, y)) (hs : s.length ≤ 4000000) : parseL (textL y) = (0, 0, y) ∧ (textL y).length ≤ s.length + 1 := by
  have e1 : parseR 0 s [] = (0, q, y) ∧ y ≠ [] := by
    unfold parseL at h
    split at h
    · injection h with h _; cases h
    · exact parseE_ok h
  obtain ⟨t, h1, h2, h3⟩ := parse_text _ _ _ _ _ _ (Nat.le_refl _) e1.1
  have h4 : textL y = t := h1
  refine ⟨?_, by rw [h4]; exact h2⟩
  rw [h4]
  unfold parseL
  rw [if_neg (by omega), h3]
  unfold parseE
  simp only
  rw [if_neg]
  rintro ⟨_, q⟩
  exact e1.2 (List.isEmpty_iff.1 q)

end Go.Proofs.YtiliajnijjkcdaaDoor

namespace Go.Proofs.YtiliajnijjkcdaaDoor
open Go.RowKit

/-- At most 64 crates, of at most 64 needs each, that are texts of at most so many bytes. -/
def Bnd64 (out : List SrcD) : Prop := out.length ≤ 64 ∧ ∀ d ∈ out, d.deps.length ≤ 64
theorem addText_deps : ∀ (l : List SrcD) (t : List UInt8) (d : SrcD), d ∈ addText l t → ∃ e ∈ l, d.deps = e.deps
  | [], t, d, h => by cases h
  | [x], t, d, h => by
    simp [addText] at h
    exact ⟨x, by simp, by rw [h]⟩
  | x :: y :: r, t, d, h => by
    unfold addText at h
    rcases List.mem_cons.1 h with rfl | h
    · exact ⟨d, by simp, rfl⟩
    · obtain ⟨e, h1, h2⟩ := addText_deps (y :: r) t d h
      exact ⟨e, List.mem_cons_of_mem _ h1, h2⟩
theorem bnd64_step {out : List SrcD} {s : List UInt8} (h : Bnd64 out) (hc : (stepM out s).1 = 0) : Bnd64 (stepM out s).2 := by
  unfold stepM at hc ⊢
  by_cases hh : isHead s = true
  · rw [if_pos hh] at hc ⊢
    obtain ⟨h1, nm, deps, h2, h3, _⟩ := wrong_bound hc
    rw [h2]
    refine ⟨by unfold addHead; simp; omega, fun d hd => ?_⟩
    unfold addHead at hd
    rcases List.mem_append.1 hd with hd | hd
    · exact h.2 d hd
    · simp at hd; subst hd; exact h3
  · rw [if_neg hh] at hc ⊢
    by_cases he : out.isEmpty = true
    · rw [if_pos he] at hc ⊢
      exact h
    · rw [if_neg he] at hc ⊢
      refine ⟨by rw [addText_len]; exact h.1, fun d hd => ?_⟩
      obtain ⟨e, h1, h2⟩ := addText_deps _ _ _ hd
      rw [h2]
      exact h.2 e h1
theorem parse_bnd : ∀ (n p : Nat) (s : List UInt8) (o y : List SrcD) (q : Nat), s.length ≤ n → Bnd64 o → parseR p s o = (0, q, y) → Bnd64 y := by
  intro n
  induction n with
  | zero =>
    intro p s o y q hs hb h
    obtain rfl : s = [] := List.eq_nil_of_length_eq_zero (by omega)
    rw [parse_nil] at h
    injection h with _ h
    injection h with _ h
    rw [← h]
    exact hb
  | succ n ih =>
    intro p s o y q hs hb h
    by_cases hne : s = []
    · subst hne
      rw [parse_nil] at h
      injection h with _ h
      injection h with _ h
      rw [← h]
      exact hb
    · rw [parse_step hne] at h
      by_cases hz : (stepM o s).1 = 0
      · rw [if_pos hz] at h
        have hl := line_pos hne
        exact ih _ _ _ _ _ (by rw [List.length_drop]; omega) (bnd64_step hb hz) h
      · rw [if_neg hz] at h
        injection h with h _
        exact absurd h hz
theorem parseL_bnd {s : List UInt8} {q : Nat} {y : List SrcD} (h : parseL s = (0, q, y)) : Bnd64 y := by
  unfold parseL at h
  split at h
  · injection h with h _; cases h
  · exact parse_bnd _ _ _ _ _ _ (Nat.le_refl _) ⟨Nat.zero_le _, fun d hd => by cases hd⟩ (parseE_ok h).1
theorem idxAll_bnd (l : List SrcD) : ∀ (m : List SrcD) (i : Nat) (q : Nat) (R : List (List Int)), idxAll l i m = (0, q, R) → R.length = m.length ∧ ∀ x ∈ R, ∃ d ∈ m, x.length = d.deps.length
  | [], i, q, R, h => by
    unfold idxAll at h
    injection h with _ h
    injection h with _ h
    subst h
    exact ⟨rfl, fun x hx => by cases hx⟩
  | e :: m, i, q, R, h => by
    rw [idxAll_cons] at h
    cases he : idxRow l e.deps with
    | none => rw [he] at h; injection h with h _; cases h
    | some row =>
      rw [he] at h
      simp only at h
      by_cases hz : (idxAll l (i + 1) m).1 = 0
      · rw [if_pos hz] at h
        injection h with _ h
        injection h with _ h
        obtain ⟨h1, h2⟩ := idxAll_bnd l m (i + 1) (idxAll l (i + 1) m).2.1 (idxAll l (i + 1) m).2.2 (Prod.ext hz rfl)
        subst h
        refine ⟨by rw [List.length_cons, h1]; rfl, fun x hx => ?_⟩
        rcases List.mem_cons.1 hx with rfl | hx
        · exact ⟨e, by simp, idxRow_len l _ _ he⟩
        · obtain ⟨d, h3, h4⟩ := h2 x hx
          exact ⟨d, List.mem_cons_of_mem _ h3, h4⟩
      · rw [if_neg hz] at h
        injection h with h _
        exact absurd h hz
theorem idxL_bnd {l : List SrcD} (hb : Bnd64 l) {R : List (List Int)} {q : Nat} (h : idxL l = (0, q, R)) : R.length ≤ 1000000000 ∧ ∀ x ∈ R, x.length ≤ 1000000000 := by
  obtain ⟨h1, h2⟩ := idxAll_bnd l l 0 q R h
  have h64 := hb.1
  refine ⟨by omega, fun x hx => ?_⟩
  obtain ⟨d, h3, h4⟩ := h2 x hx
  have := hb.2 d h3
  omega

end Go.Proofs.YtiliajnijjkcdaaDoor
