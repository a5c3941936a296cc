/- The lexer as plain functions on lists of bytes. -/
import Derived.Test.YtjbcagbnagefcaaBytes
namespace Go.Proofs.Ytjbcagbnagefcaa
open Go.RowKit

/-- A token: its kind, its text, its place. -/
structure Tok where
  (kind : Nat)
  (text : List UInt8)
  (pos : Nat)
deriving DecidableEq
def begC (c : UInt8) : Bool := (decide (97 ≤ c.toNat) && decide (c.toNat ≤ 122)) || ((decide (65 ≤ c.toNat) && decide (c.toNat ≤ 90)) || decide (c.toNat = 95))
def digC (c : UInt8) : Bool := decide (48 ≤ c.toNat) && decide (c.toNat ≤ 57)
def goC (c : UInt8) : Bool := begC c || digC c
def blankC (c : UInt8) : Bool := decide (c.toNat = 32) || (decide (c.toNat = 9) || decide (c.toNat = 10))
def wordsL : List (List UInt8) := [[102, 110], [115, 116, 114, 117, 99, 116], [112, 117, 98], [108, 101, 116], [109, 117, 116], [105, 102], [101, 108, 115, 101], [119, 104, 105, 108, 101], [108, 111, 111, 112], [98, 114, 101, 97, 107], [99, 111, 110, 116, 105, 110, 117, 101],
  [114, 101, 116, 117, 114, 110], [100, 114, 111, 112], [116, 114, 117, 101], [102, 97, 108, 115, 101], [105, 110, 116], [98, 111, 111, 108]]
def isWord (t : List UInt8) : Bool := wordsL.contains t
def signsL : List UInt8 := [40, 41, 123, 125, 60, 62, 44, 59, 58, 46, 42, 38, 43, 45, 61, 33]
def twosL : List (List UInt8) := [[58, 58], [45, 62], [61, 61]]
/-- What digits stand for. -/
def numV (t : List UInt8) : Nat := t.foldl (fun v c => v * 10 + (c.toNat - 48)) 0
def numOk (t : List UInt8) : Bool := t.all digC && (decide (numV t ≤ 2147483647) && (decide (t.length ≤ 1) || decide (t.head? ≠ some 48)))
/-- How far a row of bytes that go on with a name reaches. -/
def runN (l : List UInt8) : Nat := (l.takeWhile goC).length
/-- May a lifetime's name stand here? -/
def lifeOk : List UInt8 → Bool
  | [] => false
  | b :: r => begC b && decide (runN (b :: r) ≤ 32)
/-- The token at the front: its kind, its text, how many bytes it takes; none: there is none. -/
def nextL : List UInt8 → Option (Nat × List UInt8 × Nat)
  | [] => none
  | c :: r =>
    if begC c then
      if isWord ((c :: r).takeWhile goC) then some (2, (c :: r).takeWhile goC, runN (c :: r)) else if runN (c :: r) ≤ 32 then some (1, (c :: r).takeWhile goC, runN (c :: r)) else none
    else if digC c then
      if numOk ((c :: r).takeWhile goC) then some (4, (c :: r).takeWhile goC, runN (c :: r)) else none
    else if c = 39 then
      if lifeOk r then some (3, r.takeWhile goC, runN r + 1) else none
    else if twosL.contains ((c :: r).take 2) then some (5, (c :: r).take 2, 2)
    else if signsL.contains c then some (5, [c], 1) else none
theorem nextL_cons (c : UInt8) (r : List UInt8) : nextL (c :: r) =
    if begC c then
      if isWord ((c :: r).takeWhile goC) then some (2, (c :: r).takeWhile goC, runN (c :: r)) else if runN (c :: r) ≤ 32 then some (1, (c :: r).takeWhile goC, runN (c :: r)) else none
    else if digC c then
      if numOk ((c :: r).takeWhile goC) then some (4, (c :: r).takeWhile goC, runN (c :: r)) else none
    else if c = 39 then
      if lifeOk r then some (3, r.takeWhile goC, runN r + 1) else none
    else if twosL.contains ((c :: r).take 2) then some (5, (c :: r).take 2, 2)
    else if signsL.contains c then some (5, [c], 1) else none := rfl
/-- Behind blanks and remarks; the number bounds the rounds. -/
def skipF : Nat → List UInt8 → List UInt8
  | 0, l => l
  | _ + 1, [] => []
  | n + 1, c :: r => if blankC c then skipF n r else if (c :: r).take 2 = [47, 47] then skipF n ((c :: r).dropWhile (fun b => b.toNat ≠ 10)) else c :: r
def skipL (l : List UInt8) : List UInt8 := skipF (l.length + 1) l
/-- The tokens of a rest; none at the place of bytes that are no token. -/
def lexF (N : Nat) : Nat → List UInt8 → List Tok × Option Nat
  | 0, _ => ([], some 0)
  | _ + 1, [] => ([⟨0, [], N⟩], none)
  | n + 1, c :: r =>
    match nextL (c :: r) with
    | none => ([], some (N - (c :: r).length))
    | some (k, t, m) => let x := lexF N n (skipL ((c :: r).drop m)); (⟨k, t, N - (c :: r).length⟩ :: x.1, x.2)
def lexL (s : List UInt8) : List Tok × Option Nat := lexF s.length (s.length + 1) (skipL s)

theorem tw_len (l : List UInt8) : (l.takeWhile goC).length ≤ l.length := by
  induction l with
  | nil => exact Nat.le_refl _
  | cons c l ih =>
    rw [List.takeWhile_cons]
    split
    · simp; exact ih
    · simp
theorem next_bd {l : List UInt8} {k m : Nat} {t : List UInt8} (h : nextL l = some (k, t, m)) : 1 ≤ m ∧ m ≤ l.length := by
  cases l with
  | nil => cases h
  | cons c r =>
    have hr := tw_len r
    have hl := tw_len (c :: r)
    have hpos : goC c = true → 1 ≤ runN (c :: r) := fun hg => by unfold runN; rw [List.takeWhile_cons, if_pos hg]; simp
    change (if begC c = true then _ else _) = _ at h
    by_cases h1 : begC c = true
    · have := hpos (by unfold goC; rw [h1]; rfl)
      rw [if_pos h1] at h
      split at h
      · simp only [Option.some.injEq, Prod.mk.injEq] at h
        obtain ⟨_, _, rfl⟩ := h
        exact ⟨this, hl⟩
      · split at h
        · simp only [Option.some.injEq, Prod.mk.injEq] at h
          obtain ⟨_, _, rfl⟩ := h
          exact ⟨this, hl⟩
        · cases h
    · rw [if_neg h1] at h
      by_cases h2 : digC c = true
      · have := hpos (by unfold goC; rw [h2]; simp)
        rw [if_pos h2] at h
        split at h
        · simp only [Option.some.injEq, Prod.mk.injEq] at h
          obtain ⟨_, _, rfl⟩ := h
          exact ⟨this, hl⟩
        · cases h
      · rw [if_neg h2] at h
        split at h
        · split at h
          · simp only [Option.some.injEq, Prod.mk.injEq] at h
            obtain ⟨_, _, rfl⟩ := h
            refine ⟨by omega, ?_⟩
            show (r.takeWhile goC).length + 1 ≤ r.length + 1
            omega
          · cases h
        · split at h
          · rename_i h4
            simp only [Option.some.injEq, Prod.mk.injEq] at h
            obtain ⟨_, _, rfl⟩ := h
            cases r with
            | nil => simp [twosL] at h4
            | cons b r => simp
          · split at h
            · simp only [Option.some.injEq, Prod.mk.injEq] at h
              obtain ⟨_, _, rfl⟩ := h
              simp
            · cases h
theorem dw_len (p : UInt8 → Bool) (l : List UInt8) : (l.dropWhile p).length ≤ l.length := by
  induction l with
  | nil => exact Nat.le_refl _
  | cons c l ih =>
    rw [List.dropWhile_cons]
    split
    · simp; omega
    · simp
/-- More rounds than bytes change nothing. -/
theorem skipF_more : ∀ (n m : Nat) (l : List UInt8), l.length < n → l.length < m → skipF n l = skipF m l
  | 0, _, l, h, _ => by omega
  | _, 0, l, _, h => by omega
  | n + 1, m + 1, [], _, _ => rfl
  | n + 1, m + 1, c :: r, h1, h2 => by
    simp only [List.length_cons] at h1 h2
    unfold skipF
    by_cases hb : blankC c = true
    · rw [if_pos hb, if_pos hb]; exact skipF_more n m r (by omega) (by omega)
    · rw [if_neg hb, if_neg hb]
      by_cases hr : (c :: r).take 2 = [47, 47]
      · rw [if_pos hr, if_pos hr]
        have hc : c = 47 := by cases r with | nil => simp at hr | cons b r => simp at hr; exact hr.1
        have hd : (c :: r).dropWhile (fun b => decide (b.toNat ≠ 10)) = r.dropWhile (fun b => decide (b.toNat ≠ 10)) := by rw [List.dropWhile_cons, if_pos (by subst hc; decide)]
        rw [hd]
        have := dw_len (fun b => decide (b.toNat ≠ 10)) r
        exact skipF_more n m _ (by omega) (by omega)
      · rw [if_neg hr, if_neg hr]
theorem skipL_nil : skipL [] = [] := rfl
theorem skipL_blank {c : UInt8} {r : List UInt8} (h : blankC c = true) : skipL (c :: r) = skipL r := by
  show skipF (r.length + 1 + 1) (c :: r) = skipF (r.length + 1) r
  rw [skipF, if_pos h]
theorem skipL_rem {c : UInt8} {r : List UInt8} (hb : ¬ blankC c = true) (h : (c :: r).take 2 = [47, 47]) : skipL (c :: r) = skipL ((c :: r).dropWhile (fun b => decide (b.toNat ≠ 10))) := by
  have hc : c = 47 := by cases r with | nil => simp at h | cons b r => simp at h; exact h.1
  have hd : (c :: r).dropWhile (fun b => decide (b.toNat ≠ 10)) = r.dropWhile (fun b => decide (b.toNat ≠ 10)) := by rw [List.dropWhile_cons, if_pos (by subst hc; decide)]
  have := dw_len (fun b => decide (b.toNat ≠ 10)) r
  show skipF (r.length + 1 + 1) (c :: r) = _
  rw [skipF, if_neg hb, if_pos h, hd]
  exact skipF_more _ _ _ (by omega) (by omega)
theorem skipL_stop {c : UInt8} {r : List UInt8} (hb : ¬ blankC c = true) (h : ¬ (c :: r).take 2 = [47, 47]) : skipL (c :: r) = c :: r := by
  show skipF (r.length + 1 + 1) (c :: r) = _
  rw [skipF, if_neg hb, if_neg h]
theorem skipF_len : ∀ (n : Nat) (l : List UInt8), (skipF n l).length ≤ l.length
  | 0, _ => Nat.le_refl _
  | _ + 1, [] => Nat.le_refl _
  | n + 1, c :: r => by
    unfold skipF
    split
    · have := skipF_len n r; simp; omega
    · split
      · have := skipF_len n ((c :: r).dropWhile (fun b => decide (b.toNat ≠ 10)))
        have h2 := dw_len (fun b => decide (b.toNat ≠ 10)) (c :: r)
        omega
      · exact Nat.le_refl _
theorem skipL_len (l : List UInt8) : (skipL l).length ≤ l.length := skipF_len _ l
/-- More rounds than bytes change nothing. -/
theorem lexF_more (N : Nat) : ∀ (n m : Nat) (l : List UInt8), l.length < n → l.length < m → lexF N n l = lexF N m l
  | 0, _, l, h, _ => by omega
  | _, 0, l, _, h => by omega
  | n + 1, m + 1, [], _, _ => rfl
  | n + 1, m + 1, c :: r, h1, h2 => by
    unfold lexF
    cases h : nextL (c :: r) with
    | none => rfl
    | some x =>
      obtain ⟨k, t, q⟩ := x
      obtain ⟨q1, q2⟩ := next_bd h
      have h3 := skipL_len ((c :: r).drop q)
      rw [List.length_drop] at h3
      simp only [List.length_cons] at h1 h2 h3 q2
      dsimp only
      rw [lexF_more N n m (skipL ((c :: r).drop q)) (by omega) (by omega)]

end Go.Proofs.Ytjbcagbnagefcaa
