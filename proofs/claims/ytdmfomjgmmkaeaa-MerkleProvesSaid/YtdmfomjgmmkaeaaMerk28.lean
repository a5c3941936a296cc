/- Two texts with one sum: the plain law. -/
import Derived.Test.YtdmfomjgmmkaeaaMerkQ
namespace Go.Proofs.Ytdmfomjgmmkaeaa
open Go.RowKit

/-- The first two that differ. -/
def diffL : List (List UInt8) → List (List UInt8) → Option (List UInt8 × List UInt8)
  | x :: xs, y :: ys => if x = y then diffL xs ys else some (x, y)
  | _, _ => none
def extractL (rows : List (List UInt8)) (b : List UInt8) (ix ct : Int) (path : List (List UInt8)) : Option (List UInt8 × List UInt8) :=
  if (0 ≤ ix ∧ ix < rows.length) ∧ checkL (rootL rows) b ix ct path = true then diffL (madeL b ix ct path) (madeL (rows.getD ix.toNat []) ix rows.length (pathL rows ix.toNat)) else none

theorem upL_path : ∀ (N : Nat) (l : List (List UInt8)) (i : Nat) (x : List UInt8), l.length ≤ N → l[i]? = some x → (upL x i l.length (pathL l i)).2.1 = treeL l ∧ (upL x i l.length (pathL l i)).2.2 = true := by
  intro N
  induction N with
  | zero =>
    intro l i x h hx
    have := (List.getElem?_eq_some_iff.1 hx).1
    omega
  | succ N ih =>
    intro l i x h hx
    have hil := (List.getElem?_eq_some_iff.1 hx).1
    by_cases h1 : l.length = 1
    · obtain ⟨y, rfl⟩ : ∃ y, l = [y] := by
        match l, h1 with
        | [y], _ => exact ⟨y, rfl⟩
      have hi0 : i = 0 := by simpa using hil
      subst hi0
      obtain rfl : y = x := by simpa using hx
      rw [pathL_one (by simp)]
      exact ⟨rfl, rfl⟩
    · obtain ⟨s0, s1⟩ := splitN_lt (n := l.length) (by omega)
      rw [pathL_step (by omega), treeL_node (l := l) (by omega)]
      have hl1 : (l.take (splitN l.length)).length = splitN l.length := by rw [List.length_take]; omega
      have hl2 : (l.drop (splitN l.length)).length = l.length - splitN l.length := by rw [List.length_drop]
      by_cases hik : i < splitN l.length
      · rw [if_pos hik, upL_left x h1 hik]
        have hi := ih (l.take (splitN l.length)) i x (by omega) (by rw [List.getElem?_take, if_pos hik]; exact hx)
        rw [hl1] at hi
        exact ⟨by show shaOf _ = _; rw [hi.1], hi.2⟩
      · rw [if_neg hik, upL_right x h1 hik]
        have hi := ih (l.drop (splitN l.length)) (i - splitN l.length) x (by omega) (by rw [List.getElem?_drop, show splitN l.length + (i - splitN l.length) = i by omega]; exact hx)
        rw [hl2] at hi
        exact ⟨by show shaOf _ = _; rw [hi.1], hi.2⟩
/-- Each leaf's proof is right. -/
theorem checkL_path {l : List (List UInt8)} {i n : Nat} {x : List UInt8} (hn : l.length = n) (hx : l[i]? = some x) : checkL (rootL l) x (i : Int) (n : Int) (pathL l i) = true := by
  subst hn
  have hil := (List.getElem?_eq_some_iff.1 hx).1
  obtain ⟨h1, h2⟩ := upL_path l.length l i x (Nat.le_refl _) hx
  unfold checkL madeL
  rw [if_pos (by omega), Int.toNat_natCast, Int.toNat_natCast, if_pos h2, h1]
  show (shaOf (topB l.length (treeL l)) == rootL l) = true
  unfold rootL
  rw [if_neg (by omega)]
  simp

theorem nodeB_inj {a b c d : List UInt8} (ha : a.length = c.length) (h : nodeB a b = nodeB c d) : a = c ∧ b = d := by
  unfold nodeB at h
  injection h with _ h
  exact List.append_inj h ha
theorem chainL_ne (b : List UInt8) (s : List Bool) (p : List (List UInt8)) : chainL b s p ≠ [] := by
  unfold chainL
  generalize s.zip p = l
  suffices h : ∀ (l : List (Bool × List UInt8)) (out : List (List UInt8)), out ≠ [] → l.foldl stepC out ≠ [] from h l _ (by simp)
  intro l
  induction l with
  | nil => intro out h; exact h
  | cons e l ih => intro out _; exact ih _ (by unfold stepC; simp)
theorem chain_diff (b1 b2 : List UInt8) : ∀ (m : Nat) (s : List Bool) (p1 p2 : List (List UInt8)), s.length = m → p1.length = m → p2.length = m → (∀ x ∈ p1, x.length = 32) → (∀ x ∈ p2, x.length = 32) → shaOf ((chainL b1 s p1).getLastD []) = shaOf ((chainL b2 s p2).getLastD []) →
    (∃ u v, diffL (chainL b1 s p1).reverse (chainL b2 s p2).reverse = some (u, v) ∧ u ≠ v ∧ shaOf u = shaOf v) ∨ b1 = b2 := by
  intro m
  induction m with
  | zero =>
    intro s p1 p2 hs h1 h2 _ _ h
    obtain rfl : s = [] := List.eq_nil_of_length_eq_zero hs
    have h' : shaOf (leafB b1) = shaOf (leafB b2) := h
    by_cases hb : b1 = b2
    · exact .inr hb
    · refine .inl ⟨leafB b1, leafB b2, ?_, ?_, h'⟩
      · show (if leafB b1 = leafB b2 then _ else _) = _
        rw [if_neg (fun e => hb (by unfold leafB at e; injection e))]
      · exact fun e => hb (by unfold leafB at e; injection e)
  | succ m ih =>
    intro s p1 p2 hs h1 h2 h31 h32 h
    obtain ⟨s', d, rfl⟩ : ∃ q x, s = q ++ [x] := ⟨s.dropLast, s.getLast (by rintro rfl; simp at hs), (List.dropLast_concat_getLast _).symm⟩
    obtain ⟨q1, x1, rfl⟩ : ∃ q x, p1 = q ++ [x] := ⟨p1.dropLast, p1.getLast (by rintro rfl; simp at h1), (List.dropLast_concat_getLast _).symm⟩
    obtain ⟨q2, x2, rfl⟩ : ∃ q x, p2 = q ++ [x] := ⟨p2.dropLast, p2.getLast (by rintro rfl; simp at h2), (List.dropLast_concat_getLast _).symm⟩
    have hs' : s'.length = m := by simp at hs; exact hs
    have hq1 : q1.length = m := by simp at h1; exact h1
    have hq2 : q2.length = m := by simp at h2; exact h2
    rw [chainL_snoc _ _ _ _ _ (by rw [hs', hq1]), chainL_snoc _ _ _ _ _ (by rw [hs', hq2])] at h ⊢
    unfold stepC at h ⊢
    rw [List.getLastD_concat, List.getLastD_concat] at h
    rw [List.reverse_append, List.reverse_append]
    generalize ht1 : (if (d, x1).1 = true then nodeB (shaOf ((chainL b1 s' q1).getLastD [])) (d, x1).2 else nodeB (d, x1).2 (shaOf ((chainL b1 s' q1).getLastD []))) = t1 at h ⊢
    generalize ht2 : (if (d, x2).1 = true then nodeB (shaOf ((chainL b2 s' q2).getLastD [])) (d, x2).2 else nodeB (d, x2).2 (shaOf ((chainL b2 s' q2).getLastD []))) = t2 at h ⊢
    show (∃ u v, (if t1 = t2 then diffL (chainL b1 s' q1).reverse (chainL b2 s' q2).reverse else some (t1, t2)) = some (u, v) ∧ u ≠ v ∧ shaOf u = shaOf v) ∨ b1 = b2
    by_cases ht : t1 = t2
    · rw [if_pos ht]
      rw [← ht1, ← ht2] at ht
      have hh : shaOf ((chainL b1 s' q1).getLastD []) = shaOf ((chainL b2 s' q2).getLastD []) := by
        have e1 := h31 x1 (by simp)
        have e2 := h32 x2 (by simp)
        cases d with
        | true => exact (nodeB_inj (by rw [sha_len, sha_len]) ht).1
        | false => exact (nodeB_inj (by show x1.length = x2.length; rw [e1, e2]) ht).2
      exact ih s' q1 q2 hs' hq1 hq2 (fun x hx => h31 x (by simp [hx])) (fun x hx => h32 x (by simp [hx])) hh
    · rw [if_neg ht]
      exact .inl ⟨t1, t2, rfl, ht, h⟩
theorem topB_inj {n : Nat} {a b : List UInt8} (h : topB n a = topB n b) : a = b := by
  unfold topB at h
  injection h with _ h
  exact List.append_cancel_left h

/-- Who shows other bytes with a proof that is right shows two unlike texts with one sum. -/
theorem made_diff {rows : List (List UInt8)} {i n : Nat} {x b : List UInt8} {p : List (List UInt8)} (hn : rows.length = n) (hx : rows[i]? = some x) (hb : b ≠ x) (h32 : ∀ y ∈ p, y.length = 32) (hc : checkL (rootL rows) b (i : Int) (n : Int) p = true) :
    ∃ u v, diffL (madeL b (i : Int) (n : Int) p) (madeL x (i : Int) (n : Int) (pathL rows i)) = some (u, v) ∧ u ≠ v ∧ shaOf u = shaOf v := by
  have hil : i < n := by rw [← hn]; exact (List.getElem?_eq_some_iff.1 hx).1
  have hc2 := checkL_path hn hx
  have hp32 : ∀ y ∈ pathL rows i, y.length = 32 := pathL_32 rows.length rows i (Nat.le_refl _)
  have hpl : (pathL rows i).length = pathLen n i := by rw [pathL_length, hn]
  have hl : p.length = pathLen n i := by
    rcases Nat.decEq p.length (pathLen n i) with h | h
    · rw [checkL_rmade, rmadeL_bad b (.inr (by rw [Int.toNat_natCast, Int.toNat_natCast]; exact h))] at hc
      cases hc
    · exact h
  rw [checkL_rmade, rmadeL_good b hil hl] at hc
  rw [checkL_rmade, rmadeL_good x hil hpl] at hc2
  rw [madeL_rmade, madeL_rmade, rmadeL_good b hil hl, rmadeL_good x hil hpl]
  simp only [Bool.true_and, List.getLastD_concat, beq_iff_eq] at hc hc2
  rw [List.reverse_append, List.reverse_append]
  generalize ht1 : topB n (shaOf ((chainL b (sidesL n i) p).getLastD [])) = t1 at hc ⊢
  generalize ht2 : topB n (shaOf ((chainL x (sidesL n i) (pathL rows i)).getLastD [])) = t2 at hc2 ⊢
  show ∃ u v, (if t1 = t2 then diffL (chainL b (sidesL n i) p).reverse (chainL x (sidesL n i) (pathL rows i)).reverse else some (t1, t2)) = some (u, v) ∧ u ≠ v ∧ shaOf u = shaOf v
  by_cases ht : t1 = t2
  · rw [if_pos ht]
    rw [← ht1, ← ht2] at ht
    have hh := topB_inj ht
    rcases chain_diff b x (pathLen n i) (sidesL n i) p (pathL rows i) (sidesL_len _ _ _ (Nat.le_refl _)) hl hpl h32 hp32 hh with h | h
    · exact h
    · exact absurd h hb
  · rw [if_neg ht]
    exact ⟨t1, t2, rfl, ht, by rw [hc, hc2]⟩
theorem extract_iff {rows : List (List UInt8)} {i n : Nat} {x b : List UInt8} {p : List (List UInt8)} (hn : rows.length = n) (hx : rows[i]? = some x) (hb : b ≠ x) (h32 : ∀ y ∈ p, y.length = 32) :
    (extractL rows b (i : Int) (n : Int) p).isSome = checkL (rootL rows) b (i : Int) (n : Int) p ∧ ∀ u v, extractL rows b (i : Int) (n : Int) p = some (u, v) → u ≠ v ∧ shaOf u = shaOf v := by
  have hil : i < n := by rw [← hn]; exact (List.getElem?_eq_some_iff.1 hx).1
  unfold extractL
  by_cases hc : checkL (rootL rows) b (i : Int) (n : Int) p = true
  · rw [if_pos ⟨⟨by omega, by omega⟩, hc⟩, hc, Int.toNat_natCast, hn]
    have hg : rows.getD i [] = x := by simp [List.getD, hx]
    rw [hg]
    obtain ⟨u, v, h1, h2, h3⟩ := made_diff hn hx hb h32 hc
    rw [h1]
    exact ⟨rfl, fun u' v' e => by
      simp only [Option.some.injEq, Prod.mk.injEq] at e
      obtain ⟨rfl, rfl⟩ := e
      exact ⟨h2, h3⟩⟩
  · rw [if_neg (fun q => hc q.2)]
    have hc' : checkL (rootL rows) b (i : Int) (n : Int) p = false := by simpa using hc
    exact ⟨hc'.symm, fun u v e => by cases e⟩

end Go.Proofs.Ytdmfomjgmmkaeaa
