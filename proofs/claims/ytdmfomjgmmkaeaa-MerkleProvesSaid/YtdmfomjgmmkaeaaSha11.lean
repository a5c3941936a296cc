/- Plain laws of the sums' texts. -/
import Derived.Test.YtdmfomjgmmkaeaaSha10
namespace Go.Proofs.Ytdmfomjgmmkaeaa
open Go.RowKit

theorem digF_hexD (n : Nat) (h : n < 16) : digF (hexD n) = some (UInt8.ofNat n) := by
  have k : ∀ n : Nat, n < 16 → digF (hexD n) = some (UInt8.ofNat n) := by decide +kernel
  exact k n h
theorem hexD_digF (c : UInt8) (h : (digF c).isSome = true) : hexD ((digF c).getD 0).toNat = c := by
  have k : ∀ n : Nat, n < 256 → (digF (UInt8.ofNat n)).isSome = true → hexD ((digF (UInt8.ofNat n)).getD 0).toNat = UInt8.ofNat n := by decide +kernel
  have := k c.toNat c.toNat_lt
  rw [UInt8.ofNat_toNat] at this
  exact this h
theorem hexOf_even (l : List UInt8) : ∀ (i : Nat) (c : UInt8), l[i]? = some c → (hexOf l)[2 * i]? = some (hexD (c.toNat / 16)) ∧ (hexOf l)[2 * i + 1]? = some (hexD (c.toNat % 16)) := by
  induction l with
  | nil => intro i c h; simp at h
  | cons x l ih =>
    intro i c h
    have e : hexOf (x :: l) = hexD (x.toNat / 16) :: hexD (x.toNat % 16) :: hexOf l := rfl
    rw [e]
    cases i with
    | zero => simp at h; subst h; exact ⟨rfl, rfl⟩
    | succ i =>
      have := ih i c (by simpa using h)
      rw [show 2 * (i + 1) = 2 * i + 1 + 1 by omega, show 2 * i + 1 + 1 + 1 = (2 * i + 1) + 1 + 1 by omega]
      exact this
theorem badAt_none (l : List UInt8) : ∀ t, (∀ c ∈ l, (digF c).isSome = true) → badAt t l = none := by
  induction l with
  | nil => intro t _; rfl
  | cons c l ih => intro t h; rw [badAt, if_pos (h c List.mem_cons_self)]; exact ih _ (fun d hd => h d (List.mem_cons_of_mem _ hd))
theorem none_badAt (l : List UInt8) : ∀ t, badAt t l = none → ∀ c ∈ l, (digF c).isSome = true := by
  induction l with
  | nil => intro t _ c hc; cases hc
  | cons c l ih =>
    intro t h d hd
    rw [badAt] at h
    by_cases hc : (digF c).isSome = true
    · rw [if_pos hc] at h
      rcases List.mem_cons.1 hd with rfl | hd
      · exact hc
      · exact ih _ h d hd
    · rw [if_neg hc] at h; cases h
theorem hexOf_dig (l : List UInt8) : ∀ c ∈ hexOf l, (digF c).isSome = true := by
  intro c hc
  unfold hexOf at hc
  obtain ⟨x, _, hx⟩ := List.mem_flatMap.1 hc
  have hx2 := x.toNat_lt
  simp only [hexC, List.mem_cons, List.not_mem_nil, or_false] at hx
  rcases hx with rfl | rfl
  · rw [digF_hexD _ (by omega)]; rfl
  · rw [digF_hexD _ (by omega)]; rfl

theorem dv_hexD {s : List UInt8} {j n : Nat} (h : s[j]? = some (hexD n)) (hn : n < 16) : dv s j = n := by
  unfold dv
  rw [List.getD_eq_getElem?_getD, h, Option.getD_some, digF_hexD n hn, Option.getD_some, UInt8.toNat_ofNat_of_lt' (show n < UInt8.size by unfold UInt8.size; omega)]
theorem pack_hex {a : List UInt8} (ha : a.length = 32) : packTo (hexOf a) 64 = a := by
  apply List.ext_getElem?
  intro i
  unfold packTo
  rw [List.getElem?_map]
  by_cases hi : i < 32
  · obtain ⟨c, hc⟩ : ∃ c, a[i]? = some c := ⟨_, List.getElem?_eq_getElem (by omega)⟩
    obtain ⟨h1, h2⟩ := hexOf_even a i c hc
    have hlt := c.toNat_lt
    rw [List.getElem?_range hi, Option.map_some, if_pos (by omega), dv_hexD h1 (by omega), dv_hexD h2 (by omega), hc, show c.toNat / 16 * 16 + c.toNat % 16 = c.toNat by omega, UInt8.ofNat_toNat]
  · rw [List.getElem?_eq_none (by simp; omega), List.getElem?_eq_none (by omega)]
    rfl
/-- What Hex says is read back. -/
theorem parse_hex {a : List UInt8} (ha : a.length = 32) : parseF (hexOf a) = (0, 0, a) := by
  have hl : (hexOf a).length = 64 := by rw [hexOf_len, ha]
  unfold parseF
  rw [List.take_of_length_le (by omega), badAt_none _ 0 (hexOf_dig a)]
  dsimp only
  rw [if_pos hl, pack_hex ha]
/-- What was read is said back. -/
theorem hex_pack {s : List UInt8} (hl : s.length = 64) (hd : ∀ c ∈ s, (digF c).isSome = true) : hexOf (packTo s 64) = s := by
  have hp : (packTo s 64).length = 32 := by unfold packTo; simp
  have hdig : ∀ j c, s[j]? = some c → hexD (dv s j) = c := fun j c hc => by
    unfold dv
    rw [List.getD_eq_getElem?_getD, hc, Option.getD_some]
    exact hexD_digF c (hd c (List.mem_of_getElem? hc))
  apply List.ext_getElem?
  intro j
  by_cases hj : j < 64
  · obtain ⟨c, hc⟩ : ∃ c, s[j]? = some c := ⟨_, List.getElem?_eq_getElem (by omega)⟩
    have hx := dv_lt s (2 * (j / 2))
    have hy := dv_lt s (2 * (j / 2) + 1)
    have hpi : (packTo s 64)[j / 2]? = some (UInt8.ofNat (dv s (2 * (j / 2)) * 16 + dv s (2 * (j / 2) + 1))) := by
      unfold packTo
      rw [List.getElem?_map, List.getElem?_range (by omega), Option.map_some, if_pos (by omega)]
    obtain ⟨h1, h2⟩ := hexOf_even _ _ _ hpi
    rw [UInt8.toNat_ofNat_of_lt' (show _ < UInt8.size by unfold UInt8.size; omega)] at h1 h2
    rw [show (dv s (2 * (j / 2)) * 16 + dv s (2 * (j / 2) + 1)) / 16 = dv s (2 * (j / 2)) by omega] at h1
    rw [show (dv s (2 * (j / 2)) * 16 + dv s (2 * (j / 2) + 1)) % 16 = dv s (2 * (j / 2) + 1) by omega] at h2
    rw [hc, ← hdig j c hc]
    by_cases he : j % 2 = 0
    · rw [show 2 * (j / 2) = j by omega] at h1
      exact h1
    · rw [show 2 * (j / 2) + 1 = j by omega] at h2
      exact h2
  · rw [List.getElem?_eq_none (by rw [hexOf_len, hp]; omega), List.getElem?_eq_none (by omega)]
theorem hex_parse {s h : List UInt8} {p : Nat} (hp : parseF s = (0, p, h)) : hexOf h = s := by
  unfold parseF at hp
  cases hb : badAt 0 (s.take 64) with
  | some i => rw [hb] at hp; simp at hp
  | none =>
    rw [hb] at hp
    dsimp only at hp
    by_cases h64 : s.length = 64
    · rw [if_pos h64] at hp
      rw [List.take_of_length_le (by omega)] at hb
      simp only [Prod.mk.injEq] at hp
      rw [← hp.2.2]
      exact hex_pack h64 (none_badAt s 0 hb)
    · rw [if_neg h64] at hp
      simp at hp
theorem parse_fail {s : List UInt8} (hp : (parseF s).1 ≠ 0) : (parseF s).2.2 = zeros32 := by
  unfold parseF at hp ⊢
  split
  · rfl
  · rename_i h
    rw [h] at hp
    dsimp only at hp
    split
    · rename_i h64; rw [if_pos h64] at hp; exact absurd rfl hp
    · rfl

theorem ltL_irrefl : ∀ a : List UInt8, ltL a a = false
  | [] => rfl
  | x :: l => by rw [ltL, if_pos rfl]; exact ltL_irrefl l
theorem ltL_asymm : ∀ a b : List UInt8, ltL a b = true → ltL b a = false
  | [], _, h => by simp [ltL] at h
  | _ :: _, [], h => by simp [ltL] at h
  | x :: l, y :: m, h => by
    rw [ltL] at h ⊢
    by_cases e : x = y
    · rw [if_pos e] at h; rw [if_pos e.symm]; exact ltL_asymm l m h
    · rw [if_neg e] at h
      rw [if_neg (fun q => e q.symm)]
      have := of_decide_eq_true h
      exact decide_eq_false (by omega)
theorem ltL_total : ∀ a b : List UInt8, a.length = b.length → a ≠ b → ltL a b = true ∨ ltL b a = true
  | [], [], _, h => absurd rfl h
  | [], _ :: _, h, _ => by simp at h
  | _ :: _, [], h, _ => by simp at h
  | x :: l, y :: m, h, hn => by
    rw [ltL, ltL]
    by_cases e : x = y
    · rw [if_pos e, if_pos e.symm]
      exact ltL_total l m (by simpa using h) (fun q => hn (by rw [e, q]))
    · rw [if_neg e, if_neg (fun q => e q.symm)]
      have : x.toNat ≠ y.toNat := fun q => e (UInt8.toNat_inj.mp q)
      rcases Nat.lt_or_gt_of_ne this with h1 | h1
      · exact .inl (decide_eq_true h1)
      · exact .inr (decide_eq_true h1)
theorem ltL_or (a b : List UInt8) (h : a.length = b.length) : (ltL a b || ltL b a) = decide (a ≠ b) := by
  by_cases e : a = b
  · subst e; rw [ltL_irrefl]; simp
  · rcases ltL_total a b h e with k | k
    · rw [k]; simp [e]
    · rw [k]; simp [e]
theorem ltL_and (a b : List UInt8) : (ltL a b && ltL b a) = false := by
  cases h : ltL a b
  · rfl
  · rw [ltL_asymm a b h]; rfl
/-- The order of the texts. -/
theorem hexD_lt {m n : Nat} (hm : m < 16) (hn : n < 16) : (hexD m).toNat < (hexD n).toNat ↔ m < n := by
  have k : ∀ m : Nat, m < 16 → ∀ n : Nat, n < 16 → ((hexD m).toNat < (hexD n).toNat ↔ m < n) := by decide +kernel
  exact k m hm n hn
theorem ltL_hex : ∀ a b : List UInt8, ltL (hexOf a) (hexOf b) = ltL a b
  | [], [] => rfl
  | [], _ :: _ => rfl
  | _ :: _, [] => rfl
  | x :: l, y :: m => by
    have hx := x.toNat_lt
    have hy := y.toNat_lt
    show ltL (hexD (x.toNat / 16) :: hexD (x.toNat % 16) :: hexOf l) (hexD (y.toNat / 16) :: hexD (y.toNat % 16) :: hexOf m) = _
    have a1 := hexD_lt (m := x.toNat / 16) (n := y.toNat / 16) (by omega) (by omega)
    have a2 := hexD_lt (m := y.toNat / 16) (n := x.toNat / 16) (by omega) (by omega)
    have a3 := hexD_lt (m := x.toNat % 16) (n := y.toNat % 16) (by omega) (by omega)
    have a4 := hexD_lt (m := y.toNat % 16) (n := x.toNat % 16) (by omega) (by omega)
    rw [ltL, ltL, ltL, ltL_hex l m]
    by_cases e : x = y
    · subst e; simp
    · have hne : x.toNat ≠ y.toNat := fun q => e (UInt8.toNat_inj.mp q)
      rw [if_neg e]
      by_cases h1 : hexD (x.toNat / 16) = hexD (y.toNat / 16)
      · rw [if_pos h1]
        rw [h1] at a1 a2
        have h2 : ¬ hexD (x.toNat % 16) = hexD (y.toNat % 16) := fun q => by rw [q] at a3 a4; omega
        rw [if_neg h2]
        exact decide_eq_decide.2 (a3.trans (by omega))
      · rw [if_neg h1]
        have h3 : x.toNat / 16 ≠ y.toNat / 16 := fun q => h1 (by rw [q])
        exact decide_eq_decide.2 (a1.trans (by omega))

end Go.Proofs.Ytdmfomjgmmkaeaa
