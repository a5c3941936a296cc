/- Tokens put together again with blanks and remarks between. -/
import Derived.Test.YtgnpklheohaghaaLex12
namespace Go.Proofs.Ytgnpklheohaghaa
open Go.RowKit

/-- A token as it stands in a text. -/
def rawT (t : Tok) : List UInt8 := if t.kind = 3 then 39 :: t.text else t.text
def Good (t : Tok) : Prop := nextL (rawT t) = some (t.kind, t.text, (rawT t).length)
theorem tw_tw (l : List UInt8) : (l.takeWhile goC).takeWhile goC = l.takeWhile goC := by
  induction l with
  | nil => rfl
  | cons c l ih =>
    rw [List.takeWhile_cons]
    split
    · rename_i h
      rw [List.takeWhile_cons, if_pos h, ih]
    · rfl
theorem lifeOk_tw {r : List UInt8} (h : lifeOk r = true) : lifeOk (r.takeWhile goC) = true := by
  cases r with
  | nil => exact h
  | cons b r =>
    have hb : (begC b && decide (runN (b :: r) ≤ 32)) = true := h
    rw [Bool.and_eq_true] at hb
    have hg : goC b = true := by unfold goC; rw [hb.1]; rfl
    have hh : (b :: r).takeWhile goC = b :: r.takeWhile goC := by rw [List.takeWhile_cons, if_pos hg]
    have h2 : runN ((b :: r).takeWhile goC) = runN (b :: r) := by unfold runN; rw [tw_tw]
    rw [hh] at h2 ⊢
    show (begC b && decide (runN (b :: r.takeWhile goC) ≤ 32)) = true
    rw [h2, Bool.and_eq_true]
    exact hb
theorem twos_len2 {x : List UInt8} (h : x ∈ twosL) : x.length = 2 := by
  simp only [twosL, List.mem_cons, List.not_mem_nil, or_false] at h
  rcases h with rfl | rfl | rfl <;> rfl
/-- A token's own bytes are the token. -/
theorem next_self {l : List UInt8} {k m : Nat} {t : List UInt8} (h : nextL l = some (k, t, m)) (p : Nat) : Good ⟨k, t, p⟩ := by
  cases l with
  | nil => cases h
  | cons c r =>
    rw [nextL_cons] at h
    have hrun : ∀ x : List UInt8, x = (c :: r).takeWhile goC → runN x = x.length := fun x hx => by
      unfold runN; rw [hx, tw_tw]
    by_cases h1 : begC c = true
    · have hg : goC c = true := by unfold goC; rw [h1]; rfl
      have hh : (c :: r).takeWhile goC = c :: r.takeWhile goC := by rw [List.takeWhile_cons, if_pos hg]
      have hx := tw_tw (c :: r)
      have hr := hrun _ rfl
      rw [if_pos h1] at h
      rw [hh] at h hx hr
      by_cases h2 : isWord (c :: r.takeWhile goC) = true
      · rw [if_pos h2] at h
        simp only [Option.some.injEq, Prod.mk.injEq] at h
        obtain ⟨rfl, rfl, rfl⟩ := h
        show nextL (c :: r.takeWhile goC) = _
        rw [nextL_cons, if_pos h1, hx, if_pos h2, hr]
        rfl
      · rw [if_neg h2] at h
        by_cases h3 : runN (c :: r) ≤ 32
        · rw [if_pos h3] at h
          simp only [Option.some.injEq, Prod.mk.injEq] at h
          obtain ⟨rfl, rfl, rfl⟩ := h
          have h4 : runN (c :: r) = (c :: r.takeWhile goC).length := by unfold runN; rw [hh]
          show nextL (c :: r.takeWhile goC) = _
          rw [nextL_cons, if_pos h1, hx, if_neg h2, hr, if_pos (by rw [← h4]; exact h3)]
          rfl
        · rw [if_neg h3] at h; cases h
    · rw [if_neg h1] at h
      by_cases h2 : digC c = true
      · have hg : goC c = true := by unfold goC; rw [h2]; simp
        have hh : (c :: r).takeWhile goC = c :: r.takeWhile goC := by rw [List.takeWhile_cons, if_pos hg]
        have hx := tw_tw (c :: r)
        have hr := hrun _ rfl
        rw [if_pos h2] at h
        rw [hh] at h hx hr
        by_cases h3 : numOk (c :: r.takeWhile goC) = true
        · rw [if_pos h3] at h
          simp only [Option.some.injEq, Prod.mk.injEq] at h
          obtain ⟨rfl, rfl, rfl⟩ := h
          show nextL (c :: r.takeWhile goC) = _
          rw [nextL_cons, if_neg h1, if_pos h2, hx, if_pos h3, hr]
          rfl
        · rw [if_neg h3] at h; cases h
      · rw [if_neg h2] at h
        by_cases h3 : c = 39
        · rw [if_pos h3] at h
          by_cases h4 : lifeOk r = true
          · rw [if_pos h4] at h
            simp only [Option.some.injEq, Prod.mk.injEq] at h
            obtain ⟨rfl, rfl, rfl⟩ := h
            show nextL (39 :: r.takeWhile goC) = _
            rw [nextL_cons, if_neg (by decide), if_neg (by decide), if_pos rfl, if_pos (lifeOk_tw h4), tw_tw]
            have : runN (r.takeWhile goC) = (r.takeWhile goC).length := by unfold runN; rw [tw_tw]
            rw [this]
            rfl
          · rw [if_neg h4] at h; cases h
        · rw [if_neg h3] at h
          by_cases h4 : twosL.contains ((c :: r).take 2) = true
          · have hlen := twos_len2 (List.contains_iff_mem.1 h4)
            rw [if_pos h4] at h
            simp only [Option.some.injEq, Prod.mk.injEq] at h
            obtain ⟨rfl, rfl, rfl⟩ := h
            cases r with
            | nil => simp at hlen
            | cons d r =>
              have h5 : twosL.contains [c, d] = true := h4
              show nextL [c, d] = some (5, [c, d], 2)
              rw [nextL_cons, if_neg h1, if_neg h2, if_neg h3]
              show (if twosL.contains [c, d] then some (5, [c, d], 2) else _) = _
              rw [if_pos h5]
          · rw [if_neg h4] at h
            by_cases h5 : signsL.contains c = true
            · rw [if_pos h5] at h
              simp only [Option.some.injEq, Prod.mk.injEq] at h
              obtain ⟨rfl, rfl, rfl⟩ := h
              show nextL [c] = some (5, [c], 1)
              rw [nextL_cons, if_neg h1, if_neg h2, if_neg h3, if_neg (by
                rw [List.contains_iff_mem]
                intro hm
                have := twos_len2 hm
                simp at this), if_pos h5]
            · rw [if_neg h5] at h; cases h
theorem next_none {c : UInt8} (hc : c = 32 ∨ c = 9 ∨ c = 10 ∨ c = 47) (r : List UInt8) : nextL (c :: r) = none := by
  rw [nextL_cons]
  have ht : ∀ d : UInt8, d ≠ 58 → d ≠ 45 → d ≠ 61 → ¬ twosL.contains ((d :: r).take 2) = true := fun d h1 h2 h3 hm => by
    rw [List.contains_iff_mem] at hm
    cases r with
    | nil => have := twos_len2 hm; simp at this
    | cons e r =>
      simp [twosL] at hm
      rcases hm with h | h | h
      · exact h1 h.1
      · exact h2 h.1
      · exact h3 h.1
  rcases hc with rfl | rfl | rfl | rfl
  all_goals
    rw [if_neg (by decide), if_neg (by decide), if_neg (by decide), if_neg (ht _ (by decide) (by decide) (by decide)), if_neg (by decide)]
theorem good_head {t : Tok} (h : Good t) : ∃ c r, rawT t = c :: r ∧ blankC c = false ∧ c ≠ 47 := by
  unfold Good at h
  cases hr : rawT t with
  | nil => rw [hr] at h; cases h
  | cons c r =>
    rw [hr] at h
    have hn : ¬ (c = 32 ∨ c = 9 ∨ c = 10 ∨ c = 47) := fun hc => by rw [next_none hc] at h; cases h
    refine ⟨c, r, rfl, ?_, fun e => hn (.inr (.inr (.inr e)))⟩
    rw [Bool.eq_false_iff]
    intro hb
    have hbl : c.toNat = 32 ∨ c.toNat = 9 ∨ c.toNat = 10 := by simpa [blankC] using hb
    have hu : ∀ x : UInt8, c.toNat = x.toNat → c = x := fun x e => UInt8.toNat_inj.mp e
    rcases hbl with e | e | e
    · exact hn (.inl (hu 32 e))
    · exact hn (.inr (.inl (hu 9 e)))
    · exact hn (.inr (.inr (.inl (hu 10 e))))
theorem skip_good {t : Tok} (h : Good t) (y : List UInt8) : skipL (rawT t ++ y) = rawT t ++ y := by
  obtain ⟨c, r, hr, hb, h47⟩ := good_head h
  rw [hr]
  refine skipL_stop (r := r ++ y) (by rw [hb]; decide) fun e => ?_
  have : ((c :: (r ++ y)).take 2).head? = some 47 := by rw [e]; rfl
  simp at this
  exact h47 this
theorem next_good {t : Tok} (h : Good t) {d : UInt8} (hd : goC d = false) (h1 : d ≠ 58) (h2 : d ≠ 62) (h3 : d ≠ 61) (rest : List UInt8) : nextL (rawT t ++ d :: rest) = some (t.kind, t.text, (rawT t).length) := by
  obtain ⟨c, r, hr, _, _⟩ := good_head h
  unfold Good at h
  rw [hr] at h ⊢
  rw [next_app d hd h1 h2 h3 rest, h]

/-! ### between the tokens -/
def sepsL : List (List UInt8) := [[32], [10], [9, 32], [32, 47, 47, 32, 97, 32, 39, 98, 10], [47, 47, 10, 47, 47, 10]]
def SepOk (x : List UInt8) : Prop := (∃ d x', x = d :: x' ∧ goC d = false ∧ d ≠ 58 ∧ d ≠ 62 ∧ d ≠ 61) ∧ (∀ y, skipL (x ++ y) = skipL y) ∧ x.length ≤ 9
theorem seps_ok : ∀ x ∈ sepsL, SepOk x := by
  intro x hx
  simp only [sepsL, List.mem_cons, List.not_mem_nil, or_false] at hx
  have hrem : ∀ y, skipL (47 :: 47 :: 10 :: y) = skipL y := fun y => by
    rw [skipL_rem (by decide) rfl]
    show skipL (10 :: y) = _
    exact skipL_blank rfl
  rcases hx with rfl | rfl | rfl | rfl | rfl
  · exact ⟨⟨32, [], rfl, by decide, by decide, by decide, by decide⟩, fun y => skipL_blank rfl, by decide⟩
  · exact ⟨⟨10, [], rfl, by decide, by decide, by decide, by decide⟩, fun y => skipL_blank rfl, by decide⟩
  · exact ⟨⟨9, [32], rfl, by decide, by decide, by decide, by decide⟩, fun y => (skipL_blank (c := 9) (r := 32 :: y) rfl).trans (skipL_blank rfl), by decide⟩
  · refine ⟨⟨32, _, rfl, by decide, by decide, by decide, by decide⟩, fun y => ?_, by decide⟩
    show skipL (32 :: 47 :: 47 :: 32 :: 97 :: 32 :: 39 :: 98 :: 10 :: y) = _
    rw [skipL_blank rfl, skipL_rem (by decide) rfl]
    show skipL (10 :: y) = _
    exact skipL_blank rfl
  · refine ⟨⟨47, _, rfl, by decide, by decide, by decide, by decide⟩, fun y => ?_, by decide⟩
    show skipL (47 :: 47 :: 10 :: 47 :: 47 :: 10 :: y) = _
    rw [hrem, hrem]
def build (sep : Nat → List UInt8) : Nat → List Tok → List UInt8
  | _, [] => []
  | i, t :: ts => sep i ++ (rawT t ++ build sep (i + 1) ts)
theorem build_snoc (sep : Nat → List UInt8) : ∀ (ts : List Tok) (i : Nat) (t : Tok), build sep i (ts ++ [t]) = build sep i ts ++ (sep (i + ts.length) ++ rawT t) := by
  intro ts
  induction ts with
  | nil => intro i t; simp [build]
  | cons x ts ih =>
    intro i t
    show sep i ++ (rawT x ++ build sep (i + 1) (ts ++ [t])) = sep i ++ (rawT x ++ build sep (i + 1) ts) ++ _
    rw [ih (i + 1) t, List.length_cons, show i + 1 + ts.length = i + (ts.length + 1) by omega]
    simp
theorem build_len (sep : Nat → List UInt8) (hsep : ∀ i, SepOk (sep i)) (B : Nat) : ∀ (ts : List Tok) (i : Nat), (∀ t ∈ ts, t.text.length ≤ B) → (build sep i ts).length ≤ ts.length * (B + 10) := by
  intro ts
  induction ts with
  | nil => intro i _; simp [build]
  | cons x ts ih =>
    intro i h
    have h1 := ih (i + 1) (fun t ht => h t (List.mem_cons_of_mem _ ht))
    have h2 := (hsep i).2.2
    have h3 : (rawT x).length ≤ B + 1 := by
      have := h x List.mem_cons_self
      unfold rawT
      split <;> simp <;> omega
    show (sep i ++ (rawT x ++ build sep (i + 1) ts)).length ≤ (ts.length + 1) * (B + 10)
    rw [List.length_append, List.length_append, Nat.add_mul]
    omega
def ktT (t : Tok) : Nat × List UInt8 := (t.kind, t.text)
/-- The tokens of what was put together. -/
theorem lex_build (sep : Nat → List UInt8) (hsep : ∀ i, SepOk (sep i)) (N : Nat) : ∀ (ts : List Tok), (∀ t ∈ ts, Good t) → ∀ (i n : Nat), (build sep i ts ++ [10]).length < n →
    (lexF N n (skipL (build sep i ts ++ [10]))).2 = none ∧ (lexF N n (skipL (build sep i ts ++ [10]))).1.map ktT = ts.map ktT ++ [(0, [])] := by
  intro ts
  induction ts with
  | nil =>
    intro _ i n hn
    cases n with
    | zero => omega
    | succ n => exact ⟨rfl, rfl⟩
  | cons t ts ih =>
    intro hg i n hn
    have hgt := hg t List.mem_cons_self
    obtain ⟨B, hB⟩ : ∃ B, build sep (i + 1) ts ++ [10] = B := ⟨_, rfl⟩
    have e1 : build sep i (t :: ts) ++ [10] = sep i ++ (rawT t ++ B) := by
      rw [← hB]
      show sep i ++ (rawT t ++ build sep (i + 1) ts) ++ [10] = _
      simp
    obtain ⟨c, r, hr, _, _⟩ := good_head hgt
    have hBd : ∃ d rest, B = d :: rest ∧ goC d = false ∧ d ≠ 58 ∧ d ≠ 62 ∧ d ≠ 61 := by
      cases ts with
      | nil => exact ⟨10, [], by rw [← hB]; rfl, by decide, by decide, by decide, by decide⟩
      | cons u us =>
        obtain ⟨⟨d, x', hx, h1, h2, h3, h4⟩, _⟩ := hsep (i + 1)
        exact ⟨d, x' ++ (rawT u ++ build sep (i + 1 + 1) us) ++ [10], by rw [← hB]; show sep (i + 1) ++ (rawT u ++ build sep (i + 1 + 1) us) ++ [10] = _; rw [hx]; rfl, h1, h2, h3, h4⟩
    obtain ⟨d, rest, hBr, d1, d2, d3, d4⟩ := hBd
    have hnx := next_good hgt d1 d2 d3 d4 rest
    rw [← hBr] at hnx
    rw [e1] at hn ⊢
    rw [(hsep i).2.1, skip_good hgt]
    cases n with
    | zero => omega
    | succ n =>
      have hlen : B.length < n := by
        have h1 : 1 ≤ (rawT t).length := by rw [hr]; simp
        rw [List.length_append, List.length_append] at hn
        omega
      have hih := ih (fun u hu => hg u (List.mem_cons_of_mem _ hu)) (i + 1) n (by rw [hB]; exact hlen)
      rw [hB] at hih
      have hst : lexF N (n + 1) (rawT t ++ B) = (⟨t.kind, t.text, N - (rawT t ++ B).length⟩ :: (lexF N n (skipL B)).1, (lexF N n (skipL B)).2) := by
        rw [hr] at hnx ⊢
        show lexF N (n + 1) (c :: (r ++ B)) = _
        rw [lexF_step]
        have hnx2 : nextL (c :: (r ++ B)) = some (t.kind, t.text, (c :: r).length) := hnx
        rw [hnx2]
        have hdr : (c :: (r ++ B)).drop (c :: r).length = B := by
          show ((c :: r) ++ B).drop (c :: r).length = B
          rw [List.drop_left]
        dsimp only
        rw [hdr]
        rfl
      rw [hst]
      exact ⟨hih.1, by simp only [List.map_cons, hih.2]; rfl⟩
theorem lexF_good (N : Nat) : ∀ (n : Nat) (l : List UInt8), l.length < n → (lexF N n l).2 = none → ∃ ts, (lexF N n l).1 = ts ++ [⟨0, [], N⟩] ∧ ∀ t ∈ ts, Good t := by
  intro n
  induction n with
  | zero => intro l h; omega
  | succ n ih =>
    intro l hl h
    cases l with
    | nil => exact ⟨[], rfl, fun t ht => by cases ht⟩
    | cons c r =>
      rw [lexF_step] at h ⊢
      cases hx : nextL (c :: r) with
      | none => rw [hx] at h; cases h
      | some x =>
        obtain ⟨k, t, q⟩ := x
        rw [hx] at h
        obtain ⟨q1, q2⟩ := next_bd hx
        have h3 := skipL_len ((c :: r).drop q)
        rw [List.length_drop] at h3
        obtain ⟨ts, h4, h5⟩ := ih (skipL ((c :: r).drop q)) (by simp only [List.length_cons] at hl h3 q2; omega) h
        refine ⟨⟨k, t, N - (c :: r).length⟩ :: ts, ?_, fun u hu => ?_⟩
        · dsimp only
          rw [h4]
          rfl
        · rcases List.mem_cons.1 hu with rfl | hu
          · exact next_self hx _
          · exact h5 u hu
/-- A text's tokens, put together with blanks and remarks, are the tokens but for the places. -/
theorem lexL_build {s : List UInt8} (h : (lexL s).2 = none) (sep : Nat → List UInt8) (hsep : ∀ i, SepOk (sep i)) :
    ∃ ts, (lexL s).1 = ts ++ [⟨0, [], s.length⟩] ∧ (lexL (build sep 0 ts ++ [10])).2 = none ∧ (lexL (build sep 0 ts ++ [10])).1.map ktT = (lexL s).1.map ktT := by
  obtain ⟨ts, h1, h2⟩ := lexF_good s.length (s.length + 1) (skipL s) (by have := skipL_len s; omega) h
  have h3 := lex_build sep hsep (build sep 0 ts ++ [10]).length ts h2 0 ((build sep 0 ts ++ [10]).length + 1) (by omega)
  refine ⟨ts, h1, h3.1, ?_⟩
  show (lexF _ _ (skipL (build sep 0 ts ++ [10]))).1.map ktT = _
  rw [h3.2]
  show _ = ((lexF s.length (s.length + 1) (skipL s)).1).map ktT
  rw [h1]
  simp [ktT]

end Go.Proofs.Ytgnpklheohaghaa
