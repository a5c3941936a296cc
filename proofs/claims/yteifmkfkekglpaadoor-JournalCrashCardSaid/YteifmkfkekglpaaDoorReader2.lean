/- wire.Reader: the other contracts. -/
import Derived.Test.YteifmkfkekglpaaDoorReader
namespace Go.Proofs.YteifmkfkekglpaaDoor
open Go.RowKit

theorem decGo_ok : ∀ (l : List UInt8) (i v : Nat), i ≤ 9 → v < 128 ^ i →
    ((decGo i v l).1 = 0 → (decGo i v l).2.1 < 18446744073709551616 ∧ (decGo i v l).2.2 ≤ i + l.length ∧ i < (decGo i v l).2.2) ∧
    ((decGo i v l).1 ≠ 0 → (decGo i v l).2.1 = 0 ∧ (decGo i v l).2.2 = 0 ∧ ((decGo i v l).1 = 3 ∨ (decGo i v l).1 = 4))
  | [], i, v, hi, hv => by simp [decGo]
  | c :: r, i, v, hi, hv => by
    rw [decGo]
    split
    · simp
    · rename_i h1
      split
      · rename_i h2
        refine ⟨fun _ => ?_, fun h => absurd rfl h⟩
        have hm : c.toNat % 128 = c.toNat := Nat.mod_eq_of_lt h2
        have h9 : i = 9 → c.toNat ≤ 1 := fun h => by omega
        have := step_lt (m := c.toNat) hv
        refine ⟨?_, by simp, by simp⟩
        show v + c.toNat % 128 * 128 ^ i < _
        by_cases h : i = 9
        · subst h
          have h1 := h9 rfl
          have h2 : c.toNat % 128 * 128 ^ 9 ≤ 1 * 128 ^ 9 := Nat.mul_le_mul_right _ (by omega)
          have h3 : (128 : Nat) ^ 9 + 1 * 128 ^ 9 ≤ 18446744073709551616 := by decide +kernel
          omega
        · have h8 : 128 ^ (i + 1) ≤ 128 ^ 9 := Nat.pow_le_pow_right (by omega) (by omega)
          have h3 : (128 : Nat) ^ 9 < 18446744073709551616 := by decide +kernel
          omega
      · rename_i h2
        by_cases h : i = 9
        · exfalso
          apply h1
          exact .inl ⟨h, by omega⟩
        · have := decGo_ok r (i + 1) (v + c.toNat % 128 * 128 ^ i) (by omega) (step_lt hv)
          refine ⟨fun h0 => ?_, this.2⟩
          have h := this.1 h0
          simp only [List.length_cons]
          exact ⟨h.1, by omega, by omega⟩

theorem decU_ok (l : List UInt8) {c v n : Nat} (h : decU l = (c, v, n)) : (c = 0 → v < 18446744073709551616 ∧ n ≤ l.length ∧ 0 < n) ∧ (c ≠ 0 → v = 0 ∧ n = 0 ∧ (c = 3 ∨ c = 4)) := by
  have := decGo_ok l 0 0 (by omega) (by decide)
  rw [show decGo 0 0 l = (c, v, n) from h] at this
  simpa using this

def decI (l : List UInt8) : Nat × Int × Nat := ((decU l).1, if (decU l).2.1 % 2 = 1 then -((decU l).2.1 / 2 : Nat) - 1 else ((decU l).2.1 / 2 : Nat), (decU l).2.2)
def decSmall (most : Int) (l : List UInt8) : Nat × Nat × Nat :=
  if (decU l).1 ≠ 0 then ((decU l).1, 0, 0) else if most < 0 ∨ most < ((decU l).2.1 : Int) then (2, 0, 0) else decU l
def decText (most : Int) (l : List UInt8) : Nat × List UInt8 × Nat :=
  if (decU l).1 ≠ 0 then ((decU l).1, [], 0) else if most < 0 ∨ most < ((decU l).2.1 : Int) then (5, [], 0)
  else if (l.drop (decU l).2.2).length < (decU l).2.1 then (3, [], 0) else (0, (l.drop (decU l).2.2).take (decU l).2.1, (decU l).2.2 + (decU l).2.1)
def decBool : List UInt8 → Nat × Bool × Nat
  | [] => (3, false, 0)
  | c :: _ => if 1 < c.toNat then (4, false, 0) else (0, c.toNat == 1, 1)
def decHash (l : List UInt8) : Nat × List UInt8 × Nat := if l.length < 32 then (3, List.replicate 32 0, 0) else (0, l.take 32, 32)

theorem rAt_any {w : World} {p : Nat} {ao : Option Addr} {cap : Nat} {bs : List UInt8} {k : Nat} (h : Rd w p ao cap bs k) :
    Calls Tryd.prog 60 #[.pointer (some ⟨p, 0, none⟩)] w fun e w' => e = .returned (.int .i64 k) ∧ w' = w := by
  have h1 : w.cell? ⟨p, 1, none⟩ = some (.int .i64 k) := blk_cell h.blk 1 rfl
  go_enter Tryd.func60, Tryd.ntmps60
  go_wp2
  go_ret
  exact ⟨rfl, rfl⟩

/-- The code of End. -/
def endOf (bs : List UInt8) (k : Nat) : Nat := if k < bs.length then 4 else 0

theorem Rd.keepsN {w w' : World} {p : Nat} {ao : Option Addr} {cap : Nat} {bs : List UInt8} {k : Nat} (h : Rd w p ao cap bs k) (hK : Keeps Nothing w w') : Rd w' p ao cap bs k :=
  ⟨hK.blk h.blk (fun h => h), hK.own h.own (fun _ _ h => h), h.le⟩

theorem and1 (v : Nat) (hv : v < 18446744073709551616) : bits .and .u64 (v : Int) 1 = ((v % 2 : Nat) : Int) := by
  have := u64_and_nat v 1 hv (by omega)
  rwa [nat_mask1] at this

set_option maxHeartbeats 400000 in
theorem rInt_any {w : World} {p : Nat} {ao : Option Addr} {cap : Nat} {bs : List UInt8} {k : Nat} (h : Rd w p ao cap bs k) (hl : bs.length ≤ 1000000) :
    Calls Tryd.prog 52 #[.pointer (some ⟨p, 0, none⟩)] w
      (RdPost w p ao cap bs (.int .i64 (decI (bs.drop k)).2.1) (decI (bs.drop k)).1 (posOf (decI (bs.drop k)).1 k) (k + (decI (bs.drop k)).2.2)) := by
  have hU := rUint h hl
  unfold decI
  obtain ⟨⟨c, v, n⟩, hD⟩ : ∃ x, decU (bs.drop k) = x := ⟨_, rfl⟩
  have hok := decU_ok _ hD
  rw [hD] at hU ⊢
  clear hD
  by_cases hc : c = 0
  · subst hc
    have hv := (hok.1 rfl).1
    have ha := and1 v hv
    clear hok
    by_cases hpar : v % 2 = 1
    · simp only [hpar, if_true]
      go_enter Tryd.func52, Tryd.ntmps52
      go_wp2_with fail
      refine hU.mono ?_
      rintro e w' ⟨ev, rfl, hev, hR, hK⟩
      obtain rfl := isErr_no hev
      clear hev
      go_wp2_with fail
      go_ret2
      exact ⟨.nilIface, rfl, isErr_nil _ _, hR, hK⟩
    · simp only [hpar, if_false]
      go_enter Tryd.func52, Tryd.ntmps52
      go_wp2_with fail
      refine hU.mono ?_
      rintro e w' ⟨ev, rfl, hev, hR, hK⟩
      obtain rfl := isErr_no hev
      clear hev
      go_wp2_with fail
      go_ret2
      exact ⟨.nilIface, rfl, isErr_nil _ _, hR, hK⟩
  · obtain ⟨rfl, rfl, _⟩ := hok.2 hc
    clear hok
    simp only [Nat.zero_mod, Nat.zero_div, Nat.zero_ne_one, if_false]
    go_enter Tryd.func52, Tryd.ntmps52
    go_wp2_with fail
    refine hU.mono ?_
    rintro e w' ⟨ev, rfl, hev, hR, hK⟩
    obtain ⟨b, rfl⟩ := isErr_yes hev (by omega)
    go_wp2_with fail
    go_ret2
    exact ⟨_, rfl, hev, hR, hK⟩

/-- The reader put back, or on. -/
theorem Rd.put {w : World} {p : Nat} {ao : Option Addr} {cap : Nat} {bs : List UInt8} {k : Nat} (h : Rd w p ao cap bs k) {z : Int} (j : Nat) (hz : z = j) (hj : j ≤ bs.length) : Rd (w.setCell ⟨p, 1, none⟩ (.int .i64 z)) p ao cap bs j := by
  subst hz
  exact ⟨blk_set h.blk 1 _, ownsRow_setCell_other h.own (own_ne h.own h.blk (by decide)) _, hj⟩

theorem rd_done {w : World} {p : Nat} {ao : Option Addr} {cap : Nat} {bs : List UInt8} {k : Nat} (h : Rd w p ao cap bs k) (n m : Nat) {x y : Value} {z : Int} (j : Nat) (hz : z = j) (hj : j ≤ bs.length) (hx : x = y) {e : Ending} (he : e = .returned (.tuple #[x, .nilIface])) :
    RdPost w p ao cap bs y 0 (posOf 0 k) j e (((w.drewN n).setCell ⟨p, 1, none⟩ (.int .i64 z)).drewN m) := by
  subst hx; subst he
  exact ⟨.nilIface, rfl, isErr_nil _ _, ((h.drewN n).put j hz hj).drewN m, (Keeps.put (S := fun i => i = p) ((Keeps.refl _ w).drewN n) rfl 1 _).drewN m⟩

end Go.Proofs.YteifmkfkekglpaaDoor
