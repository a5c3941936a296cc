/- wire.Reader: contracts. wire.Reader: the other contracts. wire.Reader: Text and Hash. wire.Reader: Hash. -/
import Derived.Test.YteifmkfkekglpaaDoorWriter
import Derived.Test.YteifmkfkekglpaaDoorHash
namespace Go.Proofs.YteifmkfkekglpaaDoor
open Go.RowKit

/-- Groups of seven bits, read from the i-th one on: (code, number, how many bytes). -/
def decGo : Nat → Nat → List UInt8 → Nat × Nat × Nat
  | _, _, [] => (3, 0, 0)
  | i, v, c :: r =>
    if (i = 9 ∧ 1 < c.toNat) ∨ (0 < i ∧ c.toNat = 0) then (4, 0, 0)
    else if c.toNat < 128 then (0, v + c.toNat % 128 * 128 ^ i, i + 1) else decGo (i + 1) (v + c.toNat % 128 * 128 ^ i) r
def decU (l : List UInt8) : Nat × Nat × Nat := decGo 0 0 l

structure Rd (w : World) (p : Nat) (ao : Option Addr) (cap : Nat) (bs : List UInt8) (k : Nat) : Prop where
  blk : Blk w p #[.slice ao bs.length cap, .int .i64 k] 111
  own : Own8 w 5 ao cap bs
  le : k ≤ bs.length

theorem Rd.drewN {w : World} {p : Nat} {ao : Option Addr} {cap : Nat} {bs : List UInt8} {k : Nat} (h : Rd w p ao cap bs k) (n : Nat) : Rd (w.drewN n) p ao cap bs k := ⟨h.blk, h.own, h.le⟩

/-- The end of a read: a value, an error (none: 0, 0), and where the reader stands. -/
def RdPost (w : World) (p : Nat) (ao : Option Addr) (cap : Nat) (bs : List UInt8) (val : Value) (code pos : Int) (k : Nat) (e : Ending) (w' : World) : Prop :=
  ∃ ev, e = .returned (.tuple #[val, ev]) ∧ IsErr w.heap.size w' ev code pos ∧ Rd w' p ao cap bs k ∧ Keeps (fun i => i = p) w w'

theorem bad_any {w : World} {p : Nat} {ao : Option Addr} {cap : Nat} {bs : List UInt8} {k : Nat} (h : Rd w p ao cap bs k) (c : Int) (hc : (c == 0) = false) :
    Calls Tryd.prog 61 #[.pointer (some ⟨p, 0, none⟩), .int .i64 c] w (ErrPost w c k) := by
  have h1 : w.cell? ⟨p, 1, none⟩ = some (.int .i64 k) := blk_cell h.blk 1 rfl
  go_enter Tryd.func61, Tryd.ntmps61
  go_wp2_with fail
  refine (new_err c _ w hc).mono ?_
  rintro e w' ⟨rfl, rfl⟩
  go_wp2_with fail
  go_ret
  exact ⟨_, rfl, isErr_new w c k hc, (Keeps.refl _ _).alloc _⟩

theorem step_bad {bs : List UInt8} {k i v m : Nat} {c : UInt8} {r : Nat × Nat × Nat} (hr : decGo i v (bs.drop (k + i)) = r) (h : bs[k + i]? = some c) (hm : c.toNat = m) (hb : (i = 9 ∧ 1 < m) ∨ (0 < i ∧ m = 0)) : r = (4, 0, 0) := by
  rw [← hr, drop_cons h, decGo, hm, if_pos hb]
theorem step_last {bs : List UInt8} {k i v m : Nat} {c : UInt8} {r : Nat × Nat × Nat} (hr : decGo i v (bs.drop (k + i)) = r) (h : bs[k + i]? = some c) (hm : c.toNat = m) (hb : ¬ ((i = 9 ∧ 1 < m) ∨ (0 < i ∧ m = 0))) (hl : m < 128) :
    r = (0, v + m % 128 * 128 ^ i, i + 1) := by
  rw [← hr, drop_cons h, decGo, hm, if_neg hb, if_pos hl]
theorem step_more {bs : List UInt8} {k i v m : Nat} {c : UInt8} {r : Nat × Nat × Nat} (hr : decGo i v (bs.drop (k + i)) = r) (h : bs[k + i]? = some c) (hm : c.toNat = m) (hb : ¬ ((i = 9 ∧ 1 < m) ∨ (0 < i ∧ m = 0))) (hl : ¬ m < 128) :
    decGo (i + 1) (v + m % 128 * 128 ^ i) (bs.drop (k + (i + 1))) = r := by
  rw [← hr, drop_cons h, decGo, hm, if_neg hb, if_neg hl, Nat.add_assoc]
theorem step_short {bs : List UInt8} {k i v : Nat} {r : Nat × Nat × Nat} (hr : decGo i v (bs.drop (k + i)) = r) (h : ¬ k + i < bs.length) : r = (3, 0, 0) := by
  rw [← hr, List.drop_of_length_le (by omega)]; rfl
theorem step_num {v m i : Nat} (hv : v < 128 ^ i) (hi : i ≤ 9) (hm : m < 256) (h9 : i = 9 → m ≤ 1) :
    bits .or .u64 (v : Int) (IntKind.u64.wrap (IntKind.u64.wrap (bits .and .u8 (m : Int) 127) * 2 ^ (7 * i))) = ((v + m % 128 * 128 ^ i : Nat) : Int) := by
  have e1 : bits .and .u8 (m : Int) 127 = ((m % 128 : Nat) : Int) := by
    have := u8_and_nat m 127 hm (by omega)
    rw [Nat.and_two_pow_sub_one_eq_mod m 7] at this
    exact this
  have hp : (2 : Int) ^ (7 * i) = ((128 ^ i : Nat) : Int) := by
    rw [Int.pow_mul]; simp
  have hpw : 128 ^ i ≤ 128 ^ 9 := Nat.pow_le_pow_right (by omega) hi
  have hb : m % 128 * 128 ^ i < 18446744073709551616 := by
    by_cases h : i = 9
    · subst h; have := h9 rfl; have : m % 128 ≤ 1 := by omega
      have h2 : m % 128 * 128 ^ 9 ≤ 1 * 128 ^ 9 := Nat.mul_le_mul_right _ this
      exact Nat.lt_of_le_of_lt h2 (by decide +kernel)
    · have h8 : 128 ^ i ≤ 128 ^ 8 := Nat.pow_le_pow_right (by omega) (by omega)
      have h2 : m % 128 * 128 ^ i ≤ 127 * 128 ^ 8 := Nat.mul_le_mul (by omega) h8
      exact Nat.lt_of_le_of_lt h2 (by decide +kernel)
  have hv' : v < 18446744073709551616 := by
    have : (128 : Nat) ^ 9 < 18446744073709551616 := by decide +kernel
    omega
  have e2 : IntKind.u64.wrap (IntKind.u64.wrap (bits .and .u8 (m : Int) 127) * 2 ^ (7 * i)) = ((m % 128 * 128 ^ i : Nat) : Int) := by
    rw [e1, hp, IntKind.wrap_u64, IntKind.wrap_u64]
    have : ((m % 128 : Nat) : Int) % 18446744073709551616 = ((m % 128 : Nat) : Int) := by omega
    rw [this, ← Int.natCast_mul]
    omega
  rw [e2, u64_or_nat _ _ hv' hb]
  congr 1
  have hpow : 128 ^ i = 2 ^ (7 * i) := by rw [Nat.pow_mul]
  rw [Nat.or_comm, nat_join (7 * i) _ _ (by rw [← hpow]; exact Nat.mul_mod_left _ _) (by rw [← hpow]; exact hv), Nat.add_comm]
theorem step_lt {v m i : Nat} (hv : v < 128 ^ i) : v + m % 128 * 128 ^ i < 128 ^ (i + 1) := by
  rw [Nat.pow_succ]
  have : m % 128 * 128 ^ i ≤ 127 * 128 ^ i := Nat.mul_le_mul_right _ (by omega)
  omega

theorem beq0 {m : Nat} (h : ((m : Int) == 0) = true) : m = 0 := by simp at h; omega
theorem bne0 {m : Nat} (h : ((m : Int) == 0) = false) : m ≠ 0 := by simp at h; omega

theorem decU_nil : decU [] = (3, 0, 0) := rfl

theorem rd_last {w : World} {p : Nat} {ao : Option Addr} {cap : Nat} {bs : List UInt8} {k i : Nat} (h : Rd w p ao cap bs k) (n : Nat) {x y : Value} {z : Int} (hlt : k + i < bs.length) (hx : x = y) (hz : z = ((k : Int) + i + 1)) {e : Ending} (he : e = .returned (.tuple #[x, .nilIface]))  :
    RdPost w p ao cap bs y 0 (posOf 0 k) (k + (i + 1)) e ((w.drewN n).setCell ⟨p, 1, none⟩ (.int .i64 z)) := by
  subst hx; subst he
  have hz' : z = ((k + (i + 1) : Nat) : Int) := by omega
  subst hz'
  exact ⟨.nilIface, rfl, isErr_nil _ _, ⟨blk_set (w := w.drewN _) h.blk 1 _, ownsRow_setCell_other (w := w.drewN _) h.own (own_ne h.own h.blk (by decide)) _, by omega⟩, Keeps.setCell (S := fun i => i = p) (p := ⟨p, 1, none⟩) ((Keeps.refl _ w).drewN _) (fun _ => rfl) _⟩

set_option maxRecDepth 100000 in
set_option maxHeartbeats 400000 in
theorem rUint_short {w : World} {p : Nat} {ao : Option Addr} {cap : Nat} {bs : List UInt8} {k : Nat} (h : Rd w p ao cap bs k) (hl : bs.length ≤ 1000000) (hs : bs.length = k) :
    Calls Tryd.prog 59 #[.pointer (some ⟨p, 0, none⟩)] w (RdPost w p ao cap bs (.int .u64 0) 3 k k) := by
  have h0 : w.cell? ⟨p, 0, none⟩ = some (.slice ao bs.length cap) := blk_cell h.blk 0 rfl
  have h1 : w.cell? ⟨p, 1, none⟩ = some (.int .i64 k) := blk_cell h.blk 1 rfl
  subst hs
  go_enter Tryd.func59, Tryd.ntmps59
  go_wp2_with fail
  refine wp_loop_rounds 1 ?_
  rw [rounds_succ]
  go_wp2_with fail
  go_quiet (fail)
  go_wp2_with fail
  refine (bad_any (h.drewN _) 3 rfl).mono ?_
  rintro e w' ⟨ev, rfl, hev, hK⟩
  go_wp2_with fail
  go_ret2
  exact ⟨ev, rfl, hev, ⟨hK.blk (a := w.drewN _) h.blk (fun h => h), hK.own (a := w.drewN _) h.own (fun _ _ h => h), h.le⟩, ((Keeps.refl _ w).drewN _).trans hK (fun _ h _ => h.elim)⟩

set_option maxRecDepth 100000 in
set_option maxHeartbeats 2000000 in
theorem rUint_any {w : World} {p : Nat} {g : Nat} {cap : Nat} {bs : List UInt8} {k : Nat} (h : Rd w p (some ⟨g, 0, none⟩) cap bs k) (hl : bs.length ≤ 1000000) :
    Calls Tryd.prog 59 #[.pointer (some ⟨p, 0, none⟩)] w
      (RdPost w p (some ⟨g, 0, none⟩) cap bs (.int .u64 (decU (bs.drop k)).2.1) (decU (bs.drop k)).1 (posOf (decU (bs.drop k)).1 k) (k + (decU (bs.drop k)).2.2)) := by
  have hk := h.le
  have h0 : w.cell? ⟨p, 0, none⟩ = some (.slice (some ⟨g, 0, none⟩) bs.length cap) := blk_cell h.blk 0 rfl
  have h1 : w.cell? ⟨p, 1, none⟩ = some (.int .i64 k) := blk_cell h.blk 1 rfl
  have hf1 := blk_free h.blk 1
  go_enter Tryd.func59, Tryd.ntmps59
  go_wp2_with fail
  go_loopw [4, 5] (fun s t wr => ∃ (i v n : Nat), s = .int .u64 v ∧ t = .int .i64 i ∧ i ≤ 9 ∧ v < 128 ^ i ∧ wr = w.drewN n ∧ k + i ≤ bs.length ∧ decGo i v (bs.drop (k + i)) = decU (bs.drop k))
    (fun _ t _ => 10 - (intOf t).toNat)
  case atStart => exact ⟨0, 0, 0, rfl, rfl, by omega, by decide, rfl, hk, rfl⟩
  case round =>
    obtain ⟨i, v, n, rfl, rfl, hi, hv, rfl, hki, hD⟩ := hrel
    have HD := Lib.hid hD
    clear hD
    by_cases hlt : k + i < bs.length
    · obtain ⟨c, hc⟩ : ∃ c, bs[k + i]? = some c := ⟨_, List.getElem?_eq_getElem hlt⟩
      have hcell := own8_cell h.own hc
      have hc256 : c.toNat < 256 := c.toNat_lt
      have HC := Lib.hid hc
      clear hc
      generalize hcm : c.toNat = m at *
      have HM := Lib.hid hcm
      clear hcm
      go_wp2_with fail
      go_quiet (fail)
      go_wp2_with fail
      go_quiet (fail)
      go_wp2_with fail
      all_goals first
        | (have hcond : (i = 9 ∧ 1 < m) ∨ (0 < i ∧ m = 0) := by
             first
               | exact .inl ⟨by omega, by omega⟩
               | exact .inr ⟨by omega, beq0 (by assumption)⟩
           have E := step_bad HD.out HC.out HM.out hcond
           refine (bad_any (h.drewN _) 4 rfl).mono ?_
           rintro e w' ⟨ev, rfl, hev, hK⟩
           go_wp2_with fail
           go_ret2
           rw [E]
           exact ⟨ev, rfl, hev, ⟨hK.blk (a := w.drewN _) h.blk (fun h => h), hK.own (a := w.drewN _) h.own (fun _ _ h => h), h.le⟩, ((Keeps.refl _ w).drewN _).trans hK (fun _ h _ => h.elim)⟩)
        | skip
      all_goals
        have hcond : ¬ ((i = 9 ∧ 1 < m) ∨ (0 < i ∧ m = 0)) := by
          first
            | (have h1 := bne0 (by assumption : ((m : Int) == 0) = false)
               omega)
            | omega
        have hnum := step_num hv hi hc256 (fun h9 => by omega)
      · obtain rfl : i = 9 := by omega
        have E := step_last HD.out HC.out HM.out hcond (by omega)
        have hnum9 : bits .or .u64 (v : Int) (IntKind.u64.wrap (IntKind.u64.wrap (bits .and .u8 (m : Int) 127) * 9223372036854775808)) = ((v + m % 128 * 128 ^ 9 : Nat) : Int) := hnum
        go_ret2
        rw [E]
        exact rd_last h _ (by omega) (congrArg (Value.int .u64) hnum9) rfl rfl
      · have E := step_last HD.out HC.out HM.out hcond (by omega)
        go_ret2
        rw [E]
        exact rd_last h _ (by omega) (congrArg (Value.int .u64) hnum) rfl rfl
      · have E := step_more HD.out HC.out HM.out hcond (by omega)
        go_roundw
        case rel => exact ⟨i + 1, v + m % 128 * 128 ^ i, _, by rw [hnum], by go_num, by omega, step_lt hv, rfl, by omega, E⟩
        case measure => simp [intOf]; omega
      · have E := step_last HD.out HC.out HM.out hcond (by omega)
        go_ret2
        rw [E]
        exact rd_last h _ (by omega) (congrArg (Value.int .u64) hnum) rfl rfl
      · have E := step_more HD.out HC.out HM.out hcond (by omega)
        go_roundw
        case rel => exact ⟨i + 1, v + m % 128 * 128 ^ i, _, by rw [hnum], by go_num, by omega, step_lt hv, rfl, by omega, E⟩
        case measure => simp [intOf]; omega
    · have E := step_short HD.out hlt
      go_wp2_with fail
      go_quiet (fail)
      go_wp2_with fail
      refine (bad_any (h.drewN _) 3 rfl).mono ?_
      rintro e w' ⟨ev, rfl, hev, hK⟩
      go_wp2_with fail
      go_ret2
      rw [E]
      exact ⟨ev, rfl, hev, ⟨hK.blk (a := w.drewN _) h.blk (fun h => h), hK.own (a := w.drewN _) h.own (fun _ _ h => h), h.le⟩, ((Keeps.refl _ w).drewN _).trans hK (fun _ h _ => h.elim)⟩

theorem rUint {w : World} {p : Nat} {ao : Option Addr} {cap : Nat} {bs : List UInt8} {k : Nat} (h : Rd w p ao cap bs k) (hl : bs.length ≤ 1000000) :
    Calls Tryd.prog 59 #[.pointer (some ⟨p, 0, none⟩)] w
      (RdPost w p ao cap bs (.int .u64 (decU (bs.drop k)).2.1) (decU (bs.drop k)).1 (posOf (decU (bs.drop k)).1 k) (k + (decU (bs.drop k)).2.2)) := by
  by_cases hn : bs = []
  · have hk := h.le
    have hk0 : bs.length = k := by subst hn; simp at hk ⊢; omega
    rw [show bs.drop k = [] from List.drop_of_length_le (by omega)]
    exact rUint_short h hl hk0
  · obtain ⟨g, rfl⟩ := own8_head h.own hn
    exact rUint_any h hl

end Go.Proofs.YteifmkfkekglpaaDoor

namespace Go.Proofs.YteifmkfkekglpaaDoor
open Go.RowKit

theorem decGo_ok : ∀ (l : List UInt8) (i v : Nat), i ≤ 9 → v < 128 ^ i →
    ((decGo i v l).1 = 0 → (decGo i v l).2.1 < 18446744073709551616 ∧ (decGo i v l).2.2 ≤ i + l.length ∧ i < (decGo i v l).2.2) ∧
    ((decGo i v l).1 ≠ 0 → (decGo i v l).2.1 = 0 ∧ (decGo i v l).2.2 = 0 ∧ ((decGo i v l).1 = 3 ∨ (decGo i v l).1 = 4))
  | [], i, v, hi, hv => by simp [decGo]
  | c :: r, i, v, hi, hv => by
    rw [decGo]
    split
    · simp
    · rename_i h1
      split
      · rename_i h2
        refine ⟨fun _ => ?_, fun h => absurd rfl h⟩
        have hm : c.toNat % 128 = c.toNat := Nat.mod_eq_of_lt h2
        have h9 : i = 9 → c.toNat ≤ 1 := fun h => by omega
        have := step_lt (m := c.toNat) hv
        refine ⟨?_, by simp, by simp⟩
        show v + c.toNat % 128 * 128 ^ i < _
        by_cases h : i = 9
        · subst h
          have h1 := h9 rfl
          have h2 : c.toNat % 128 * 128 ^ 9 ≤ 1 * 128 ^ 9 := Nat.mul_le_mul_right _ (by omega)
          have h3 : (128 : Nat) ^ 9 + 1 * 128 ^ 9 ≤ 18446744073709551616 := by decide +kernel
          omega
        · have h8 : 128 ^ (i + 1) ≤ 128 ^ 9 := Nat.pow_le_pow_right (by omega) (by omega)
          have h3 : (128 : Nat) ^ 9 < 18446744073709551616 := by decide +kernel
          omega
      · rename_i h2
        by_cases h : i = 9
        · exfalso
          apply h1
          exact .inl ⟨h, by omega⟩
        · have := decGo_ok r (i + 1) (v + c.toNat % 128 * 128 ^ i) (by omega) (step_lt hv)
          refine ⟨fun h0 => ?_, this.2⟩
          have h := this.1 h0
          simp only [List.length_cons]
          exact ⟨h.1, by omega, by omega⟩

theorem decU_ok (l : List UInt8) {c v n : Nat} (h : decU l = (c, v, n)) : (c = 0 → v < 18446744073709551616 ∧ n ≤ l.length ∧ 0 < n) ∧ (c ≠ 0 → v = 0 ∧ n = 0 ∧ (c = 3 ∨ c = 4)) := by
  have := decGo_ok l 0 0 (by omega) (by decide)
  rw [show decGo 0 0 l = (c, v, n) from h] at this
  simpa using this

def decI (l : List UInt8) : Nat × Int × Nat := ((decU l).1, if (decU l).2.1 % 2 = 1 then -((decU l).2.1 / 2 : Nat) - 1 else ((decU l).2.1 / 2 : Nat), (decU l).2.2)
def decSmall (most : Int) (l : List UInt8) : Nat × Nat × Nat :=
  if (decU l).1 ≠ 0 then ((decU l).1, 0, 0) else if most < 0 ∨ most < ((decU l).2.1 : Int) then (2, 0, 0) else decU l
def decText (most : Int) (l : List UInt8) : Nat × List UInt8 × Nat :=
  if (decU l).1 ≠ 0 then ((decU l).1, [], 0) else if most < 0 ∨ most < ((decU l).2.1 : Int) then (5, [], 0)
  else if (l.drop (decU l).2.2).length < (decU l).2.1 then (3, [], 0) else (0, (l.drop (decU l).2.2).take (decU l).2.1, (decU l).2.2 + (decU l).2.1)
def decBool : List UInt8 → Nat × Bool × Nat
  | [] => (3, false, 0)
  | c :: _ => if 1 < c.toNat then (4, false, 0) else (0, c.toNat == 1, 1)
def decHash (l : List UInt8) : Nat × List UInt8 × Nat := if l.length < 32 then (3, List.replicate 32 0, 0) else (0, l.take 32, 32)

theorem rAt_any {w : World} {p : Nat} {ao : Option Addr} {cap : Nat} {bs : List UInt8} {k : Nat} (h : Rd w p ao cap bs k) :
    Calls Tryd.prog 60 #[.pointer (some ⟨p, 0, none⟩)] w fun e w' => e = .returned (.int .i64 k) ∧ w' = w := by
  have h1 : w.cell? ⟨p, 1, none⟩ = some (.int .i64 k) := blk_cell h.blk 1 rfl
  go_enter Tryd.func60, Tryd.ntmps60
  go_wp2
  go_ret
  exact ⟨rfl, rfl⟩

/-- The code of End. -/
def endOf (bs : List UInt8) (k : Nat) : Nat := if k < bs.length then 4 else 0

theorem Rd.keepsN {w w' : World} {p : Nat} {ao : Option Addr} {cap : Nat} {bs : List UInt8} {k : Nat} (h : Rd w p ao cap bs k) (hK : Keeps Nothing w w') : Rd w' p ao cap bs k :=
  ⟨hK.blk h.blk (fun h => h), hK.own h.own (fun _ _ h => h), h.le⟩

theorem and1 (v : Nat) (hv : v < 18446744073709551616) : bits .and .u64 (v : Int) 1 = ((v % 2 : Nat) : Int) := by
  have := u64_and_nat v 1 hv (by omega)
  rwa [nat_mask1] at this

set_option maxHeartbeats 400000 in
theorem rInt_any {w : World} {p : Nat} {ao : Option Addr} {cap : Nat} {bs : List UInt8} {k : Nat} (h : Rd w p ao cap bs k) (hl : bs.length ≤ 1000000) :
    Calls Tryd.prog 52 #[.pointer (some ⟨p, 0, none⟩)] w
      (RdPost w p ao cap bs (.int .i64 (decI (bs.drop k)).2.1) (decI (bs.drop k)).1 (posOf (decI (bs.drop k)).1 k) (k + (decI (bs.drop k)).2.2)) := by
  have hU := rUint h hl
  unfold decI
  obtain ⟨⟨c, v, n⟩, hD⟩ : ∃ x, decU (bs.drop k) = x := ⟨_, rfl⟩
  have hok := decU_ok _ hD
  rw [hD] at hU ⊢
  clear hD
  by_cases hc : c = 0
  · subst hc
    have hv := (hok.1 rfl).1
    have ha := and1 v hv
    clear hok
    by_cases hpar : v % 2 = 1
    · simp only [hpar, if_true]
      go_enter Tryd.func52, Tryd.ntmps52
      go_wp2_with fail
      refine hU.mono ?_
      rintro e w' ⟨ev, rfl, hev, hR, hK⟩
      obtain rfl := isErr_no hev
      clear hev
      go_wp2_with fail
      go_ret2
      exact ⟨.nilIface, rfl, isErr_nil _ _, hR, hK⟩
    · simp only [hpar, if_false]
      go_enter Tryd.func52, Tryd.ntmps52
      go_wp2_with fail
      refine hU.mono ?_
      rintro e w' ⟨ev, rfl, hev, hR, hK⟩
      obtain rfl := isErr_no hev
      clear hev
      go_wp2_with fail
      go_ret2
      exact ⟨.nilIface, rfl, isErr_nil _ _, hR, hK⟩
  · obtain ⟨rfl, rfl, _⟩ := hok.2 hc
    clear hok
    simp only [Nat.zero_mod, Nat.zero_div, Nat.zero_ne_one, if_false]
    go_enter Tryd.func52, Tryd.ntmps52
    go_wp2_with fail
    refine hU.mono ?_
    rintro e w' ⟨ev, rfl, hev, hR, hK⟩
    obtain ⟨b, rfl⟩ := isErr_yes hev (by omega)
    go_wp2_with fail
    go_ret2
    exact ⟨_, rfl, hev, hR, hK⟩

/-- The reader put back, or on. -/
theorem Rd.put {w : World} {p : Nat} {ao : Option Addr} {cap : Nat} {bs : List UInt8} {k : Nat} (h : Rd w p ao cap bs k) {z : Int} (j : Nat) (hz : z = j) (hj : j ≤ bs.length) : Rd (w.setCell ⟨p, 1, none⟩ (.int .i64 z)) p ao cap bs j := by
  subst hz
  exact ⟨blk_set h.blk 1 _, ownsRow_setCell_other h.own (own_ne h.own h.blk (by decide)) _, hj⟩

theorem rd_done {w : World} {p : Nat} {ao : Option Addr} {cap : Nat} {bs : List UInt8} {k : Nat} (h : Rd w p ao cap bs k) (n m : Nat) {x y : Value} {z : Int} (j : Nat) (hz : z = j) (hj : j ≤ bs.length) (hx : x = y) {e : Ending} (he : e = .returned (.tuple #[x, .nilIface])) :
    RdPost w p ao cap bs y 0 (posOf 0 k) j e (((w.drewN n).setCell ⟨p, 1, none⟩ (.int .i64 z)).drewN m) := by
  subst hx; subst he
  exact ⟨.nilIface, rfl, isErr_nil _ _, ((h.drewN n).put j hz hj).drewN m, (Keeps.put (S := fun i => i = p) ((Keeps.refl _ w).drewN n) rfl 1 _).drewN m⟩

end Go.Proofs.YteifmkfkekglpaaDoor

namespace Go.Proofs.YteifmkfkekglpaaDoor
open Go.RowKit

set_option maxRecDepth 100000 in
set_option maxHeartbeats 1000000 in
theorem rText_any {w : World} {p : Nat} {ao : Option Addr} {cap : Nat} {bs : List UInt8} {k : Nat} (h : Rd w p ao cap bs k) (hl : bs.length ≤ 1000000) (most : Int) (hm : most < 9223372036854775808) :
    Calls Tryd.prog 53 #[.pointer (some ⟨p, 0, none⟩), .int .i64 most] w
      (RdPost w p ao cap bs (.string ⟨(decText most (bs.drop k)).2.1.toArray⟩) (decText most (bs.drop k)).1 (posOf (decText most (bs.drop k)).1 k) (k + (decText most (bs.drop k)).2.2)) := by
  have hU := rUint h hl
  have hle := h.le
  unfold decText
  obtain ⟨⟨c, v, n⟩, hD⟩ : ∃ x, decU (bs.drop k) = x := ⟨_, rfl⟩
  have hok := decU_ok _ hD
  rw [hD] at hU ⊢
  clear hD
  simp only [List.length_drop, List.drop_drop]
  by_cases hc : c = 0
  · subst hc
    have hv := (hok.1 rfl).1
    have hn := (hok.1 rfl).2.1
    have hn0 := (hok.1 rfl).2.2
    rw [List.length_drop] at hn
    clear hok
    by_cases hb : most < 0 ∨ most < (v : Int)
    · simp only [ne_eq, not_true_eq_false, if_false, hb, if_true]
      have hcase : most < 0 ∨ (¬ most < 0 ∧ most < (v : Int)) := by omega
      clear hb
      rcases hcase with hneg | ⟨hneg, hgt⟩
      all_goals
        go_enter Tryd.func53, Tryd.ntmps53
        go_wp2_with fail
        refine (rAt_any h).mono ?_
        rintro e w0 ⟨rfl, rfl⟩
        go_wp2_with fail
        refine hU.mono ?_
        rintro e w' ⟨ev, rfl, hev, hR, hK⟩
        obtain rfl := isErr_no hev
        clear hev
        have h1 : w'.cell? ⟨p, 1, none⟩ = some (.int .i64 ((k + n : Nat) : Int)) := blk_cell hR.blk 1 rfl
        have hf := blk_free hR.blk 1
        go_wp2_with fail
        refine (bad_any (hR.put k rfl hle) 5 rfl).mono ?_
        rintro e w2 ⟨ev, rfl, hev, hK2⟩
        go_wp2_with fail
        go_ret2
        refine ⟨_, rfl, hev.mono (by simpa using hK.size), (hR.put k rfl hle).keepsN hK2, ?_⟩
        exact (hK.put rfl 1 _).trans hK2 (fun _ h _ => h.elim)
    · simp only [ne_eq, not_true_eq_false, if_false, hb]
      have hneg : ¬ most < 0 := fun h => hb (.inl h)
      have hvm : ¬ most < (v : Int) := fun h => hb (.inr h)
      clear hb
      by_cases hs : bs.length - (k + n) < v
      · simp only [hs, if_true]
        go_enter Tryd.func53, Tryd.ntmps53
        go_wp2_with fail
        refine (rAt_any h).mono ?_
        rintro e w0 ⟨rfl, rfl⟩
        go_wp2_with fail
        refine hU.mono ?_
        rintro e w' ⟨ev, rfl, hev, hR, hK⟩
        obtain rfl := isErr_no hev
        clear hev
        have h0 : w'.cell? ⟨p, 0, none⟩ = some (.slice ao bs.length cap) := blk_cell hR.blk 0 rfl
        have h1 : w'.cell? ⟨p, 1, none⟩ = some (.int .i64 ((k + n : Nat) : Int)) := blk_cell hR.blk 1 rfl
        have hf := blk_free hR.blk 1
        go_wp2_with fail
        refine (bad_any (hR.put k rfl hle) 3 rfl).mono ?_
        rintro e w2 ⟨ev, rfl, hev, hK2⟩
        go_wp2_with fail
        go_ret2
        refine ⟨_, rfl, hev.mono (by simpa using hK.size), (hR.put k rfl hle).keepsN hK2, ?_⟩
        exact (hK.put rfl 1 _).trans hK2 (fun _ h _ => h.elim)
      · simp only [hs, if_false]
        have hne : bs ≠ [] := fun e => by rw [e] at hn hle; simp only [List.length_nil] at hn hle; omega
        obtain ⟨g, rfl⟩ := own8_head h.own hne
        have hcp := own8_cap h.own
        by_cases hcap : cap = k + n
        · obtain rfl : v = 0 := by omega
          subst hcap
          rw [show (bs.drop (k + n)).take 0 = [] from List.take_zero ..]
          go_enter Tryd.func53, Tryd.ntmps53
          go_wp2_with fail
          refine (rAt_any h).mono ?_
          rintro e w0 ⟨rfl, rfl⟩
          go_wp2_with fail
          refine hU.mono ?_
          rintro e w' ⟨ev, rfl, hev, hR, hK⟩
          obtain rfl := isErr_no hev
          clear hev
          have h0 : w'.cell? ⟨p, 0, none⟩ = some (.slice (some ⟨g, 0, none⟩) bs.length (k + n)) := blk_cell hR.blk 0 rfl
          have h1 : w'.cell? ⟨p, 1, none⟩ = some (.int .i64 ((k + n : Nat) : Int)) := blk_cell hR.blk 1 rfl
          have hf := blk_free hR.blk 1
          go_wp2_with fail
          have hR2 := (hR.put k rfl hle).put (k + n + 0) (z := (k : Int) + n) (by omega) (by omega)
          have hKW : Keeps (fun i => i = p) w0 ((w'.setCell ⟨p, 1, none⟩ (.int .i64 k)).setCell ⟨p, 1, none⟩ (.int .i64 ((k : Int) + n))) := (hK.put rfl 1 _).put rfl 1 _
          have hsl : ∀ w, (Instr.slice 25 (.slice (some ⟨g, 0, none⟩) bs.length (k + n)) (some (.int .i64 ((k : Int) + n))) (some (.int .i64 ((k : Int) + n))) none).run Tryd.prog w = .ok (.slice (some ⟨g, 0, none⟩) 0 0) w := fun w => by
            rw [run_slice_lh w 25 _ _ _ rfl _ _ _ _ (by omega) (by omega) (by omega)]
            rw [show ((k : Int) + n).toNat = k + n by omega]
            rw [show (sizeOf (Tryd.prog.elem 25)).run Tryd.prog w = .ok 1 w by kernel_rfl]
            simp [sliced]
          have hconv := fun m => run_str (((w'.setCell ⟨p, 1, none⟩ (.int .i64 k)).setCell ⟨p, 1, none⟩ (.int .i64 ((k : Int) + n))).drewN m) 0 [] (l := 0) rfl (bytesAt_nil (some ⟨g, 0, none⟩))
          generalize hW : (w'.setCell ⟨p, 1, none⟩ (.int .i64 k)).setCell ⟨p, 1, none⟩ (.int .i64 ((k : Int) + n)) = W at *
          clear hW h0 h1 hf
          have h0 : W.cell? ⟨p, 0, none⟩ = some (.slice (some ⟨g, 0, none⟩) bs.length (k + n)) := blk_cell hR2.blk 0 rfl
          have h1 : W.cell? ⟨p, 1, none⟩ = some (.int .i64 ((k + n + 0 : Nat) : Int)) := blk_cell hR2.blk 1 rfl
          go_quiet (fail)
          go_wp2_with fail
          go_ret2
          exact ⟨.nilIface, rfl, isErr_nil _ _, hR2.drewN _, hKW.drewN _⟩
        · rw [← Nat.add_assoc]
          go_enter Tryd.func53, Tryd.ntmps53
          go_wp2_with fail
          refine (rAt_any h).mono ?_
          rintro e w0 ⟨rfl, rfl⟩
          go_wp2_with fail
          refine hU.mono ?_
          rintro e w' ⟨ev, rfl, hev, hR, hK⟩
          obtain rfl := isErr_no hev
          clear hev
          have h0 : w'.cell? ⟨p, 0, none⟩ = some (.slice (some ⟨g, 0, none⟩) bs.length cap) := blk_cell hR.blk 0 rfl
          have h1 : w'.cell? ⟨p, 1, none⟩ = some (.int .i64 ((k + n : Nat) : Int)) := blk_cell hR.blk 1 rfl
          have hf := blk_free hR.blk 1
          go_wp2_with fail
          have hR2 := (hR.put k rfl hle).put (k + n + v) (z := (k : Int) + n + v) (by omega) (by omega)
          have hKW : Keeps (fun i => i = p) w0 ((w'.setCell ⟨p, 1, none⟩ (.int .i64 k)).setCell ⟨p, 1, none⟩ (.int .i64 ((k : Int) + n + v))) := (hK.put rfl 1 _).put rfl 1 _
          have hconv := fun m => run_str (((w'.setCell ⟨p, 1, none⟩ (.int .i64 k)).setCell ⟨p, 1, none⟩ (.int .i64 ((k : Int) + n + v))).drewN m) (cap - (k + n)) ((bs.drop (k + n)).take v) (l := v) (by rw [List.length_take, List.length_drop]; omega) (bytesAt_take (own8_at (hR2.drewN m).own) (k + n) v)
          simp only [Nat.zero_add] at hconv
          generalize hW : (w'.setCell ⟨p, 1, none⟩ (.int .i64 k)).setCell ⟨p, 1, none⟩ (.int .i64 ((k : Int) + n + v)) = W at *
          clear hW h0 h1 hf
          have h0 : W.cell? ⟨p, 0, none⟩ = some (.slice (some ⟨g, 0, none⟩) bs.length cap) := blk_cell hR2.blk 0 rfl
          have h1 : W.cell? ⟨p, 1, none⟩ = some (.int .i64 ((k + n + v : Nat) : Int)) := blk_cell hR2.blk 1 rfl
          go_quiet (fail)
          go_wp2_with fail
          go_ret2
          exact ⟨.nilIface, rfl, isErr_nil _ _, hR2.drewN _, hKW.drewN _⟩
  · obtain ⟨rfl, rfl, _⟩ := hok.2 hc
    clear hok
    simp only [ne_eq, hc, not_false_eq_true, if_true]
    go_enter Tryd.func53, Tryd.ntmps53
    go_wp2_with fail
    refine (rAt_any h).mono ?_
    rintro e w0 ⟨rfl, rfl⟩
    go_wp2_with fail
    refine hU.mono ?_
    rintro e w' ⟨ev, rfl, hev, hR, hK⟩
    obtain ⟨b, rfl⟩ := isErr_yes hev (by omega)
    go_wp2_with fail
    go_ret2
    exact ⟨_, rfl, hev, hR, hK⟩

end Go.Proofs.YteifmkfkekglpaaDoor

namespace Go.Proofs.YteifmkfkekglpaaDoor
open Go.RowKit

attribute [local go_sem ↓] exec_load_hash exec_store_hash Go.wp_at_zero Go.wp_at_succ

theorem decHash_eq (l : List UInt8) : decHash l = if l.length < 32 then (3, zeros32, 0) else (0, l.take 32, 32) := rfl

end Go.Proofs.YteifmkfkekglpaaDoor
