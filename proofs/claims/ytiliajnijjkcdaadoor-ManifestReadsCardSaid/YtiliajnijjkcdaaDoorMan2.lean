/- A workspace's text, in plain words: its heads. -/
import Derived.Test.YtiliajnijjkcdaaDoorMan1
namespace Go.Proofs.YtiliajnijjkcdaaDoor
open Go.RowKit

theorem goC_ne {c : UInt8} (h : goC c = true) : c ≠ 32 ∧ c ≠ 58 ∧ c ≠ 10 ∧ c ≠ 61 := by
  refine ⟨?_, ?_, ?_, ?_⟩ <;> (rintro rfl; revert h; decide)
theorem isName_blank {t : List UInt8} (h : isName t = true) : (32 : UInt8) ∉ t := fun q => (goC_ne (isName_goes h _ q)).1 rfl
theorem isName_colon {t : List UInt8} (h : isName t = true) : (58 : UInt8) ∉ t := fun q => (goC_ne (isName_goes h _ q)).2.1 rfl
theorem isName_end {t : List UInt8} (h : isName t = true) : (10 : UInt8) ∉ t := fun q => (goC_ne (isName_goes h _ q)).2.2.1 rfl

abbrev HeadD := Option (List UInt8 × List (List UInt8))
/-- A head's words: its name, and what it needs. -/
def headW : List (List UInt8) → HeadD
  | e :: nm :: [] => if e = [61, 61] ∧ isName nm = true then some (nm, []) else none
  | e :: nm :: c :: d :: ds => if e = [61, 61] ∧ isName nm = true ∧ c = [58] ∧ (d :: ds).all isName = true then some (nm, d :: ds) else none
  | _ => none
theorem headW_two (e nm : List UInt8) : headW [e, nm] = if e = [61, 61] ∧ isName nm = true then some (nm, []) else none := rfl
theorem headW_many (e nm c d : List UInt8) (ds : List (List UInt8)) : headW (e :: nm :: c :: d :: ds) = if e = [61, 61] ∧ isName nm = true ∧ c = [58] ∧ (d :: ds).all isName = true then some (nm, d :: ds) else none := rfl
/-- The program's way. -/
def headP (b : List UInt8) : HeadD :=
  if Lib.hasPrefix b [61, 61, 32] = true then
    if isName (Lib.cut (b.drop 3) [32, 58]).1 = true then
      if (Lib.cut (b.drop 3) [32, 58]).2.2 = true then
        match blanksL (Lib.cut (b.drop 3) [32, 58]).2.1 with
        | x :: d :: ds => if x = [] ∧ (d :: ds).all isName = true then some ((Lib.cut (b.drop 3) [32, 58]).1, d :: ds) else none
        | _ => none
      else some ((Lib.cut (b.drop 3) [32, 58]).1, [])
    else none
  else none

theorem headW_none {l : List (List UInt8)} {e nm : List UInt8} {r : List (List UInt8)} (hl : l = e :: nm :: r) (h : isName nm = false) : headW l = none := by
  subst hl
  cases r with
  | nil => (first | rw [headW_two] | rw [headW_many]); rw [if_neg (by rw [h]; simp)]
  | cons c r =>
    cases r with
    | nil => rfl
    | cons d ds => (first | rw [headW_two] | rw [headW_many]); rw [if_neg (by rw [h]; simp)]
/-- What cut finds. -/
theorem cut_spec (s : List UInt8) : (∃ a d, s = a ++ 32 :: 58 :: d ∧ Lib.cut s [32, 58] = (a, d, true) ∧ ∀ p t, s = p ++ 32 :: 58 :: t → a.length ≤ p.length) ∨ (Lib.cut s [32, 58] = (s, [], false) ∧ ∀ p t, s ≠ p ++ 32 :: 58 :: t) := by
  rcases Lib.index_spec s [32, 58] with ⟨g1, g2⟩ | ⟨i, g1, g2, g3, g4⟩
  · refine .inr ⟨?_, fun p t e => ?_⟩
    · unfold Lib.cut
      rw [g1, if_neg (by omega)]
    · have := g2 p.length (by rw [e]; simp)
      rw [e, show p ++ 32 :: 58 :: t = p ++ ([32, 58] ++ t) from rfl, occ_here] at this
      cases this
  · refine .inl ⟨s.take i, s.drop (i + 2), ?_, ?_, fun p t e => ?_⟩
    · exact occ_split g3
    · unfold Lib.cut
      rw [g1, if_pos (by omega)]
      rfl
    · rw [List.length_take]
      rcases Nat.lt_or_ge p.length i with q | q
      · have := g4 p.length q
        rw [e, show p ++ 32 :: 58 :: t = p ++ ([32, 58] ++ t) from rfl, occ_here] at this
        cases this
      · omega
/-- The program reads a head as the document. -/
theorem head_eq (b : List UInt8) : headP b = headW (blanksL b) := by
  obtain ⟨e, l, hb⟩ := blanks_ne b
  obtain ⟨he, h2⟩ := blanks_first b hb
  unfold headP
  by_cases hp : Lib.hasPrefix b [61, 61, 32] = true
  rotate_left
  · rw [if_neg hp, hb]
    rcases h2 with ⟨rfl, _⟩ | ⟨r, h3, h4⟩
    · rfl
    · have hne : e ≠ [61, 61] := by
        rintro rfl
        apply hp
        rw [h3]
        rfl
      cases l with
      | nil => rfl
      | cons nm l =>
        cases l with
        | nil => (first | rw [headW_two] | rw [headW_many]); rw [if_neg (fun q => hne q.1)]
        | cons c l =>
          cases l with
          | nil => rfl
          | cons d ds => (first | rw [headW_two] | rw [headW_many]); rw [if_neg (fun q => hne q.1)]
  rw [if_pos hp]
  have hbr : b = 61 :: 61 :: 32 :: b.drop 3 := by
    unfold Lib.hasPrefix at hp
    rw [List.isPrefixOf_iff_prefix] at hp
    obtain ⟨t, rfl⟩ := hp
    rfl
  obtain ⟨rest, hrest⟩ : ∃ r, b.drop 3 = r := ⟨_, rfl⟩
  rw [hrest] at hbr ⊢
  have hbl : blanksL b = [61, 61] :: blanksL rest := by
    rw [hbr]
    exact blanks_app (a := [61, 61]) rest (by decide)
  rw [hbl]
  obtain ⟨nm, m, hn⟩ := blanks_ne rest
  obtain ⟨hnb, hn2⟩ := blanks_first rest hn
  rw [hn]
  rcases cut_spec rest with ⟨a, d, c1, c2, c3⟩ | ⟨c1, c2⟩
  · rw [c2]
    simp only [if_true]
    by_cases ha : isName a = true
    · rw [if_pos ha]
      have hab := isName_blank ha
      have hre : blanksL rest = a :: blanksL (58 :: d) := by rw [c1]; exact blanks_app (58 :: d) hab
      rw [hn] at hre
      injection hre with q1 q2
      subst q1
      obtain ⟨x, k, hd⟩ := blanks_ne d
      have hd2 := blanks_other (b := 58) (by decide) hd
      rw [hd2] at q2
      subst q2
      rw [hd]
      cases k with
      | nil => rfl
      | cons y k =>
        simp only
        rw [headW_many]
        by_cases hx : x = []
        · subst hx
          by_cases hall : (y :: k).all isName = true
          · rw [if_pos ⟨rfl, hall⟩, if_pos ⟨rfl, ha, rfl, hall⟩]
          · rw [if_neg (fun q => hall q.2), if_neg (fun q => hall q.2.2.2)]
        · rw [if_neg (fun q => hx q.1), if_neg (fun q => hx (by have := q.2.2.1; injection this))]
    · rw [if_neg ha]
      symm
      by_cases hab : (32 : UInt8) ∈ a
      · -- the first word ends ahead of a's end
        rcases hn2 with ⟨rfl, h5⟩ | ⟨r, h5, h6⟩
        · exfalso
          apply hnb
          rw [← h5, c1]
          simp
        · have hlt : nm.length < a.length := by
            rcases Nat.lt_or_ge nm.length a.length with q | q
            · exact q
            · exfalso
              have : a <+: nm := by
                apply List.prefix_of_prefix_length_le (l₃ := rest)
                · rw [c1]; exact ⟨_, rfl⟩
                · rw [h5]; exact ⟨_, rfl⟩
                · exact q
              exact hnb (this.subset hab)
          cases m with
          | nil => obtain ⟨y, k, e3⟩ := blanks_ne r; rw [h6] at e3; cases e3
          | cons c m =>
            cases m with
            | nil => rfl
            | cons d' ds =>
              rw [headW_many]
              refine if_neg (fun q => ?_)
              obtain ⟨-, -, rfl, -⟩ := q
              obtain ⟨-, h7⟩ := blanks_first r h6
              rcases h7 with ⟨h7, _⟩ | ⟨t, h7, _⟩
              · cases h7
              · have := c3 nm (32 :: t) (by rw [h5, h7]; rfl)
                omega
      · have hre : blanksL rest = a :: blanksL (58 :: d) := by rw [c1]; exact blanks_app (58 :: d) hab
        rw [hn] at hre
        injection hre with q1 q2
        subst q1
        exact headW_none rfl (by simpa using ha)
  · rw [c1]
    simp only [Bool.false_eq_true, if_false]
    by_cases ha : isName rest = true
    · rw [if_pos ha]
      have hre := blanks_word (isName_blank ha)
      rw [hn] at hre
      injection hre with q1 q2
      subst q1 q2
      rw [headW_two, if_pos ⟨rfl, ha⟩]
    · rw [if_neg ha]
      symm
      rcases hn2 with ⟨rfl, h5⟩ | ⟨r, h5, h6⟩
      · subst h5
        exact headW_none rfl (by simpa using ha)
      · cases m with
        | nil => obtain ⟨y, k, e3⟩ := blanks_ne r; rw [h6] at e3; cases e3
        | cons c m =>
          cases m with
          | nil => rfl
          | cons d' ds =>
            rw [headW_many]
            refine if_neg (fun q => ?_)
            obtain ⟨-, -, rfl, -⟩ := q
            obtain ⟨-, h7⟩ := blanks_first r h6
            rcases h7 with ⟨h7, _⟩ | ⟨t, h7, _⟩
            · cases h7
            · exact c2 nm (32 :: t) (by rw [h5, h7]; rfl)

/-! ### lines -/
/-- A line's length, its byte 10 with it. -/
def lineN : List UInt8 → Nat
  | [] => 0
  | b :: r => if b = 10 then 1 else lineN r + 1
def bareN : List UInt8 → Nat
  | [] => 0
  | b :: r => if b = 10 then 0 else bareN r + 1
theorem line_pos {s : List UInt8} (h : s ≠ []) : 1 ≤ lineN s := by
  cases s with
  | nil => exact absurd rfl h
  | cons b r => unfold lineN; split <;> omega
theorem line_le : ∀ s : List UInt8, lineN s ≤ s.length
  | [] => Nat.le_refl _
  | b :: r => by
    have := line_le r
    unfold lineN
    split <;> simp only [List.length_cons] <;> omega
theorem bare_le : ∀ s : List UInt8, bareN s ≤ s.length
  | [] => Nat.le_refl _
  | b :: r => by
    have := bare_le r
    unfold bareN
    split <;> simp only [List.length_cons] <;> omega
/-- A line's end is a byte 10, or the text's end. -/
theorem bare_line : ∀ s : List UInt8, (bareN s = s.length ∧ lineN s = s.length) ∨ (s[bareN s]? = some 10 ∧ lineN s = bareN s + 1)
  | [] => .inl ⟨rfl, rfl⟩
  | b :: r => by
    unfold bareN lineN
    by_cases h : b = 10
    · rw [if_pos h, if_pos h]; subst h; exact .inr ⟨rfl, rfl⟩
    · rw [if_neg h, if_neg h]
      rcases bare_line r with ⟨h1, h2⟩ | ⟨h1, h2⟩
      · exact .inl ⟨by rw [h1]; rfl, by rw [h2]; rfl⟩
      · exact .inr ⟨by simpa using h1, by rw [h2]⟩
theorem bare_none : ∀ (s : List UInt8) (j : Nat) (c : UInt8), j < bareN s → s[j]? = some c → c ≠ 10
  | [], j, c, h, _ => by unfold bareN at h; omega
  | b :: r, j, c, h, hc => by
    unfold bareN at h
    by_cases hb : b = 10
    · rw [if_pos hb] at h; omega
    · rw [if_neg hb] at h
      cases j with
      | zero => rw [List.getElem?_cons_zero] at hc; injection hc with hc; rw [← hc]; exact hb
      | succ j => exact bare_none r j c (by omega) (by simpa using hc)
/-- The line without its byte 10. -/
def bareL (s : List UInt8) : List UInt8 := s.take (bareN s)
theorem bareL_no (s : List UInt8) : (10 : UInt8) ∉ bareL s := by
  intro h
  unfold bareL at h
  obtain ⟨j, hj⟩ := List.mem_iff_getElem?.1 h
  have hlt : j < bareN s := by
    have := (List.getElem?_eq_some_iff.1 hj).1
    rw [List.length_take] at this
    omega
  rw [List.getElem?_take_of_lt hlt] at hj
  exact bare_none s j 10 hlt hj rfl

end Go.Proofs.YtiliajnijjkcdaaDoor
