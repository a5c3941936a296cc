/- The document's reader behind an error; both states in one. -/
import Derived.Test.YteifmkfkekglpaaDoorRefA
import Derived.Test.YteifmkfkekglpaaDoorCanon2
import Derived.Deep.Cut
import Derived.Deep.CutBlock
namespace Go.Proofs.YteifmkfkekglpaaDoor
open Go.RowKit

/-- st = some k: no error yet, it stands at k. -/
def Rs (w : World) (x : Nat) (bs : List UInt8) (st : Option Nat) : Prop := (∃ k, st = some k ∧ k ≤ bs.length ∧ RefR w x bs k 0 0) ∨ (st = none ∧ ∃ k c a : Int, (c != 0) = true ∧ RefR w x bs k c a)
/-- Behind one reading: which state comes. -/
def nextR (st : Option Nat) (f : Nat → Nat × Nat) : Option Nat := st.bind fun k => if (f k).1 = 0 then some (k + (f k).2) else none
theorem Rs.keeps {S : Nat → Prop} {w w' : World} {x : Nat} {bs : List UInt8} {st : Option Nat} (h : Rs w x bs st) (k : Keeps S w w') (hx : ¬ S x) : Rs w' x bs st := by
  rcases h with ⟨j, h1, h2, h3⟩ | ⟨h1, j, c, a, h2, h3⟩
  · exact .inl ⟨j, h1, h2, k.blk h3 hx⟩
  · exact .inr ⟨h1, j, c, a, h2, k.blk h3 hx⟩
theorem Rs.of {w : World} {x : Nat} {bs : List UInt8} {k : Nat} {c n : Nat} {p : Int} (h : RefR w x bs (k + n : Nat) c p) (hp : p = posOf c k) (hn : c = 0 → k + n ≤ bs.length) (f : Nat → Nat × Nat) (hf : f k = (c, n)) : Rs w x bs (nextR (some k) f) := by
  unfold nextR
  simp only [Option.bind_some, hf]
  by_cases hc : c = 0
  · subst hc
    rw [if_pos rfl]
    have : p = 0 := by rw [hp]; rfl
    subst this
    exact .inl ⟨_, rfl, hn rfl, h⟩
  · rw [if_neg hc]
    exact .inr ⟨rfl, _, _, _, by simp only [bne_iff_ne, ne_eq]; omega, h⟩

section
variable {w : World} {x : Nat} {bs : List UInt8} {k c a : Int}
theorem uint_e (h : RefR w x bs k c a) (hc : (c != 0) = true) : Calls Tryd.prog 54 #[.pointer (some ⟨x, 0, none⟩)] w fun e w' => e = .returned (.int .u64 0) ∧ w' = w := by
  have g2 := h.c2
  go_enter Tryd.func54, Tryd.ntmps54
  go_wp2_with fail
  go_ret
  exact ⟨rfl, rfl⟩
theorem int_e (h : RefR w x bs k c a) (hc : (c != 0) = true) : Calls Tryd.prog 39 #[.pointer (some ⟨x, 0, none⟩)] w fun e w' => e = .returned (.int .i64 0) ∧ w' = w := by
  have hU := uint_e h hc
  go_enter Tryd.func39, Tryd.ntmps39
  go_wp2_with fail
  refine hU.mono ?_
  rintro e w' ⟨rfl, rfl⟩
  go_wp2_with fail
  go_ret
  exact ⟨rfl, rfl⟩
theorem text_e (h : RefR w x bs k c a) (hc : (c != 0) = true) (most : Int) : Calls Tryd.prog 40 #[.pointer (some ⟨x, 0, none⟩), .int .i64 most] w fun e w' => e = .returned (.string ⟨#[]⟩) ∧ w' = w := by
  have hU := uint_e h hc
  have g2 := h.c2
  have g1 := h.c1
  go_enter Tryd.func40, Tryd.ntmps40
  go_wp2_with fail
  refine hU.mono ?_
  rintro e w' ⟨rfl, rfl⟩
  go_wp2_with fail
  go_ret
  exact ⟨rfl, rfl⟩
end
attribute [local go_sem ↓] exec_load_hash exec_store_hash

theorem Canon.le {l : List UInt8} {c n : Nat} {b : List UInt8} (h : Canon l c n b) (hc : c = 0) : n ≤ l.length := by
  rcases h with ⟨h, _⟩ | ⟨_, h, _⟩
  · exact absurd hc h
  · exact h
theorem decSmall_len (most : Int) (l : List UInt8) : (decSmall most l).2.2 ≤ l.length := by
  unfold decSmall
  split
  · exact Nat.zero_le _
  · rename_i h0
    split
    · exact Nat.zero_le _
    · exact (canonU l).le (by simpa using h0)

theorem r_int {w : World} {x : Nat} {bs : List UInt8} {st : Option Nat} (h : Rs w x bs st) (hl : bs.length ≤ 1000000) :
    Calls Tryd.prog 39 #[.pointer (some ⟨x, 0, none⟩)] w fun e w' => ∃ z : Int, e = .returned (.int .i64 z) ∧ -9223372036854775808 ≤ z ∧ z < 9223372036854775808 ∧ Rs w' x bs (nextR st fun k => ((decI (bs.drop k)).1, (decI (bs.drop k)).2.2)) ∧ Keeps (fun i => i = x) w w' ∧
      ∀ k, st = some k → z = (decI (bs.drop k)).2.1 := by
  rcases h with ⟨k, rfl, hk, hR⟩ | ⟨rfl, k, c, a, hc, hR⟩
  · refine (ref_int hR hl hk).mono fun e w' ⟨he, hR', k'⟩ => ⟨_, he, (decI_bd _).1, (decI_bd _).2, Rs.of hR' rfl (fun h0 => ?_) _ rfl, k', fun j hj => by obtain rfl := Option.some.inj hj; rfl⟩
    have := (canonI (bs.drop k)).le h0
    rw [List.length_drop] at this
    omega
  · exact (int_e hR hc).mono fun e w' ⟨he, hw⟩ => ⟨0, he, by decide, by decide, by rw [hw]; exact .inr ⟨rfl, k, c, a, hc, hR⟩, by rw [hw]; exact Keeps.refl _ _, fun j hj => by cases hj⟩
theorem r_text {w : World} {x : Nat} {bs : List UInt8} {st : Option Nat} (h : Rs w x bs st) (hl : bs.length ≤ 1000000) (most : Int) (hm : most < 9223372036854775808) :
    Calls Tryd.prog 40 #[.pointer (some ⟨x, 0, none⟩), .int .i64 most] w fun e w' => ∃ z : List UInt8, e = .returned (.string ⟨z.toArray⟩) ∧ z.length ≤ bs.length ∧ Rs w' x bs (nextR st fun k => ((decText most (bs.drop k)).1, (decText most (bs.drop k)).2.2)) ∧ Keeps (fun i => i = x) w w' ∧
      ∀ k, st = some k → z = (decText most (bs.drop k)).2.1 := by
  rcases h with ⟨k, rfl, hk, hR⟩ | ⟨rfl, k, c, a, hc, hR⟩
  · refine (ref_text hR hl hk most hm).mono fun e w' ⟨he, hR', k'⟩ => ⟨_, he, ?_, Rs.of hR' rfl (fun h0 => ?_) _ rfl, k', fun j hj => by obtain rfl := Option.some.inj hj; rfl⟩
    · have := decText_bd most (bs.drop k)
      rw [List.length_drop] at this
      omega
    · have := (canonS most (bs.drop k)).le h0
      rw [List.length_drop] at this
      omega
  · exact (text_e hR hc most).mono fun e w' ⟨he, hw⟩ => ⟨[], he, Nat.zero_le _, by rw [hw]; exact .inr ⟨rfl, k, c, a, hc, hR⟩, by rw [hw]; exact Keeps.refl _ _, fun j hj => by cases hj⟩
end Go.Proofs.YteifmkfkekglpaaDoor
