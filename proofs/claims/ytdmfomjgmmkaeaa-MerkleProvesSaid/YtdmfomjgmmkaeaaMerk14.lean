/- usufructlaw5.few; ways of a proof's length: the plain law of wrong forms. -/
import Derived.Test.YtdmfomjgmmkaeaaMerk13
namespace Go.Proofs.Ytdmfomjgmmkaeaa
open Go.RowKit

/-- What few tells: few are at most 20, of at most 100 bytes each. -/
def FewPost (w : World) (rows : List (List UInt8)) (e : Ending) (w' : World) : Prop :=
  ∃ r : Bool, e = .returned (.bool r) ∧ (r = true → rows.length ≤ 20 ∧ ∀ x ∈ rows, x.length ≤ 100) ∧ Keeps Nothing w w'

set_option maxRecDepth 100000 in
theorem few_any {w : World} {ao : Option Addr} {n c : Nat} {rows : List (List UInt8)} (hn : rows.length = n) (hR : RowsAt w ao rows) :
    Calls Try.prog 23 #[.slice ao n c] w (FewPost w rows) := by
  go_enter Try.func23, Try.ntmps23
  go_wp2_with fail
  go_loopw [3] (fun s3 wx => ∃ i : Nat, s3 = .int .i64 i ∧ i ≤ n ∧ i ≤ 21 ∧ Shut (∀ j x, j < i → rows[j]? = some x → x.length ≤ 100) ∧ Keeps Nothing w wx) (fun s3 _ => n - (intOf s3).toNat)
  case atStart => exact ⟨0, rfl, Nat.zero_le _, by omega, shut (fun j x h => by omega), Keeps.refl _ _⟩
  case round =>
    obtain ⟨i, rfl, hi, hi2, HA, K⟩ := hrel
    by_cases h1 : i < n
    · have m1 : (i : Int) < n := by omega
      by_cases h2 : i < 21
      · have m2 : (i : Int) < 21 := by omega
        obtain ⟨x, hx⟩ : ∃ x, rows[i]? = some x := ⟨rows[i]'(by omega), by rw [List.getElem?_eq_getElem (by omega)]⟩
        obtain ⟨b, o, rfl⟩ := hR.head (by omega)
        obtain ⟨_, ao', cap', hc, _, hl1, hl2⟩ := (hR.keepsN K).2 _ rfl i x hx
        rw [Addr.add_mid'] at hc
        by_cases h3 : x.length ≤ 100
        · have m3 : ¬ (100 : Int) < x.length := by omega
          go_wp2_with fail
          go_roundw
          case rel =>
            refine ⟨i + 1, by go_num, by omega, by omega, shut (fun j y hj hy => ?_), K⟩
            rcases Nat.lt_or_ge j i with q | q
            · exact HA.out j y q hy
            · obtain rfl : j = i := by omega
              rw [hx] at hy
              obtain rfl := Option.some.inj hy
              exact h3
          case measure => simp [intOf]; omega
        · have m3 : (100 : Int) < x.length := by omega
          go_wp2_with fail
          go_ret
          exact ⟨false, rfl, (fun h => by cases h), K⟩
      · have m2 : ¬ (i : Int) < 21 := by omega
        have m3 : ¬ (n : Int) ≤ 20 := by omega
        go_wp2_with fail
        go_ret
        exact ⟨_, rfl, (fun h => by first | (simp at h; done) | (simp at h; omega)), K⟩
    · have m1 : ¬ (i : Int) < n := by omega
      go_wp2_with fail
      go_ret
      refine ⟨_, rfl, (fun h => ⟨?_, fun x hx => ?_⟩), K⟩
      · simp at h; omega
      · obtain ⟨j, hj, e⟩ := List.getElem_of_mem hx
        exact HA.out j x (by omega) (by rw [List.getElem?_eq_getElem hj, e])

/-- The place (i % n + n) % n. -/
theorem place_ex (i : Int) {n : Nat} (hn : n ≠ 0) : ∃ (x : Int) (k : Nat), Int.tmod i n = x ∧ x < n ∧ -(n : Int) < x ∧ Int.tmod (x + n) n = (k : Int) ∧ k < n := by
  have p1 := Int.tmod_lt_of_pos i (show (0 : Int) < n by omega)
  have p2 : -(n : Int) < Int.tmod i n := by
    rcases Int.le_total 0 i with q | q
    · rw [Int.tmod_eq_emod_of_nonneg q]
      have := Int.emod_nonneg i (show (n : Int) ≠ 0 by omega)
      omega
    · obtain ⟨j, rfl⟩ : ∃ j, i = -j := ⟨-i, by omega⟩
      rw [Int.neg_tmod, Int.tmod_eq_emod_of_nonneg (by omega)]
      have := Int.emod_lt_of_pos j (show (0 : Int) < n by omega)
      omega
  generalize Int.tmod i n = x at *
  refine ⟨x, ((x + n) % n).toNat, rfl, p1, p2, ?_, ?_⟩
  · rw [Int.tmod_eq_emod_of_nonneg (by omega), Int.toNat_of_nonneg (Int.emod_nonneg _ (by omega))]
  · have := Int.emod_lt_of_pos (x + n) (show (0 : Int) < n by omega)
    have := Int.emod_nonneg (x + n) (show (n : Int) ≠ 0 by omega)
    omega

/-! ### how long a way is, and a proof's right form -/
def lenF : Nat → Nat → Nat → Nat
  | 0, _, _ => 0
  | f + 1, n, i => if n ≤ 1 then 0 else if i < splitN n then lenF f (splitN n) i + 1 else lenF f (n - splitN n) (i - splitN n) + 1
def pathLen (n i : Nat) : Nat := lenF n n i
theorem pathF_length : ∀ (f : Nat) (l : List (List UInt8)) (i : Nat), (pathF f l i).length = lenF f l.length i := by
  intro f
  induction f with
  | zero => intro l i; rfl
  | succ f ih =>
    intro l i
    show (if l.length ≤ 1 then ([] : List (List UInt8)) else _).length = if l.length ≤ 1 then 0 else _
    by_cases h : l.length ≤ 1
    · rw [if_pos h, if_pos h]; rfl
    · obtain ⟨s0, s1⟩ := splitN_lt (n := l.length) (by omega)
      rw [if_neg h, if_neg h]
      split
      · rw [List.length_append, ih, List.length_take, Nat.min_eq_left (by omega)]; rfl
      · rw [List.length_append, ih, List.length_drop]; rfl
theorem pathL_length (l : List (List UInt8)) (i : Nat) : (pathL l i).length = pathLen l.length i := pathF_length ..
theorem lenF_more : ∀ (f g n i : Nat), n ≤ f → n ≤ g → lenF f n i = lenF g n i := by
  intro f
  induction f with
  | zero =>
    intro g n i h1 h2
    obtain rfl : n = 0 := by omega
    cases g <;> rfl
  | succ f ih =>
    intro g n i h1 h2
    cases g with
    | zero =>
      obtain rfl : n = 0 := by omega
      rfl
    | succ g =>
      show (if n ≤ 1 then 0 else _) = if n ≤ 1 then 0 else _
      by_cases h : n ≤ 1
      · rw [if_pos h, if_pos h]
      · obtain ⟨s0, s1⟩ := splitN_lt (n := n) (by omega)
        rw [if_neg h, if_neg h, ih g (splitN n) i (by omega) (by omega), ih g (n - splitN n) (i - splitN n) (by omega) (by omega)]
theorem pathLen_one {n i : Nat} (h : n ≤ 1) : pathLen n i = 0 := by
  unfold pathLen
  cases n with
  | zero => rfl
  | succ n => exact if_pos h
theorem pathLen_step {n i : Nat} (h : 2 ≤ n) : pathLen n i = if i < splitN n then pathLen (splitN n) i + 1 else pathLen (n - splitN n) (i - splitN n) + 1 := by
  obtain ⟨s0, s1⟩ := splitN_lt h
  obtain ⟨f, rfl⟩ : ∃ f, n = f + 1 := ⟨n - 1, by omega⟩
  unfold pathLen
  rw [show lenF (f + 1) (f + 1) i = if i < splitN (f + 1) then lenF f (splitN (f + 1)) i + 1 else lenF f (f + 1 - splitN (f + 1)) (i - splitN (f + 1)) + 1 from if_neg (by omega)]
  rw [lenF_more f (splitN (f + 1)) _ i (by omega) (Nat.le_refl _), lenF_more f (f + 1 - splitN (f + 1)) _ _ (by omega) (Nat.le_refl _)]
/-- A way is right just if it is as long as it must be. -/
theorem upL_ok (b : List UInt8) : ∀ (m i n : Nat) (p : List (List UInt8)), p.length = m → 1 ≤ n → (upL b i n p).2.2 = decide (m = pathLen n i) := by
  intro m
  induction m with
  | zero =>
    intro i n p hp h1
    obtain rfl : p = [] := List.eq_nil_of_length_eq_zero hp
    by_cases h : n = 1
    · subst h
      rw [upL_one, pathLen_one (by omega)]; rfl
    · rw [upL_nil b i n h, pathLen_step (by omega)]
      symm
      rw [decide_eq_false_iff_not]
      split <;> omega
  | succ m ih =>
    intro i n p hp h1
    obtain ⟨q, x, rfl⟩ : ∃ q x, p = q ++ [x] := ⟨p.dropLast, p.getLast (by rintro rfl; simp at hp), (List.dropLast_concat_getLast _).symm⟩
    have hq : q.length = m := by simp at hp; exact hp
    by_cases h : n = 1
    · subst h
      rw [upL_one, pathLen_one (by omega)]
      simp
    · obtain ⟨s0, s1⟩ := splitN_lt (n := n) (by omega)
      by_cases hi : i < splitN n
      · rw [upL_left b h hi, pathLen_step (by omega), if_pos hi]
        show (upL b i (splitN n) q).2.2 = _
        rw [ih i (splitN n) q hq (by omega)]
        simp
      · rw [upL_right b h hi, pathLen_step (by omega), if_neg hi]
        show (upL b (i - splitN n) (n - splitN n) q).2.2 = _
        rw [ih (i - splitN n) (n - splitN n) q hq (by omega)]
        simp
/-- A proof of another form is not right. -/
theorem checkL_form (root b : List UInt8) {ix ct : Int} {p : List (List UInt8)} (h : ¬ (0 ≤ ix ∧ ix < ct) ∨ p.length ≠ pathLen ct.toNat ix.toNat) : checkL root b ix ct p = false := by
  unfold checkL madeL
  by_cases hi : 0 ≤ ix ∧ ix < ct
  · rw [if_pos hi, upL_ok b _ _ _ p rfl (by omega)]
    have h2 := h.resolve_left (fun q => q hi)
    rw [show decide (p.length = pathLen ct.toNat ix.toNat) = false from decide_eq_false h2]
    rfl
  · rw [if_neg hi]

end Go.Proofs.Ytdmfomjgmmkaeaa
