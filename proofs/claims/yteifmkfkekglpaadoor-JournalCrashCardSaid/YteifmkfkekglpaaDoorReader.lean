/- wire.Reader: contracts. -/
import Derived.Test.YteifmkfkekglpaaDoorWriter
namespace Go.Proofs.YteifmkfkekglpaaDoor
open Go.RowKit

/-- Groups of seven bits, read from the i-th one on: (code, number, how many bytes). -/
def decGo : Nat → Nat → List UInt8 → Nat × Nat × Nat
  | _, _, [] => (3, 0, 0)
  | i, v, c :: r =>
    if (i = 9 ∧ 1 < c.toNat) ∨ (0 < i ∧ c.toNat = 0) then (4, 0, 0)
    else if c.toNat < 128 then (0, v + c.toNat % 128 * 128 ^ i, i + 1) else decGo (i + 1) (v + c.toNat % 128 * 128 ^ i) r
def decU (l : List UInt8) : Nat × Nat × Nat := decGo 0 0 l

structure Rd (w : World) (p : Nat) (ao : Option Addr) (cap : Nat) (bs : List UInt8) (k : Nat) : Prop where
  blk : Blk w p #[.slice ao bs.length cap, .int .i64 k] 111
  own : Own8 w 5 ao cap bs
  le : k ≤ bs.length

theorem Rd.drewN {w : World} {p : Nat} {ao : Option Addr} {cap : Nat} {bs : List UInt8} {k : Nat} (h : Rd w p ao cap bs k) (n : Nat) : Rd (w.drewN n) p ao cap bs k := ⟨h.blk, h.own, h.le⟩

/-- The end of a read: a value, an error (none: 0, 0), and where the reader stands. -/
def RdPost (w : World) (p : Nat) (ao : Option Addr) (cap : Nat) (bs : List UInt8) (val : Value) (code pos : Int) (k : Nat) (e : Ending) (w' : World) : Prop :=
  ∃ ev, e = .returned (.tuple #[val, ev]) ∧ IsErr w.heap.size w' ev code pos ∧ Rd w' p ao cap bs k ∧ Keeps (fun i => i = p) w w'

theorem bad_any {w : World} {p : Nat} {ao : Option Addr} {cap : Nat} {bs : List UInt8} {k : Nat} (h : Rd w p ao cap bs k) (c : Int) (hc : (c == 0) = false) :
    Calls Tryd.prog 61 #[.pointer (some ⟨p, 0, none⟩), .int .i64 c] w (ErrPost w c k) := by
  have h1 : w.cell? ⟨p, 1, none⟩ = some (.int .i64 k) := blk_cell h.blk 1 rfl
  go_enter Tryd.func61, Tryd.ntmps61
  go_wp2_with fail
  refine (new_err c _ w hc).mono ?_
  rintro e w' ⟨rfl, rfl⟩
  go_wp2_with fail
  go_ret
  exact ⟨_, rfl, isErr_new w c k hc, (Keeps.refl _ _).alloc _⟩

theorem step_bad {bs : List UInt8} {k i v m : Nat} {c : UInt8} {r : Nat × Nat × Nat} (hr : decGo i v (bs.drop (k + i)) = r) (h : bs[k + i]? = some c) (hm : c.toNat = m) (hb : (i = 9 ∧ 1 < m) ∨ (0 < i ∧ m = 0)) : r = (4, 0, 0) := by
  rw [← hr, drop_cons h, decGo, hm, if_pos hb]
theorem step_last {bs : List UInt8} {k i v m : Nat} {c : UInt8} {r : Nat × Nat × Nat} (hr : decGo i v (bs.drop (k + i)) = r) (h : bs[k + i]? = some c) (hm : c.toNat = m) (hb : ¬ ((i = 9 ∧ 1 < m) ∨ (0 < i ∧ m = 0))) (hl : m < 128) :
    r = (0, v + m % 128 * 128 ^ i, i + 1) := by
  rw [← hr, drop_cons h, decGo, hm, if_neg hb, if_pos hl]
theorem step_more {bs : List UInt8} {k i v m : Nat} {c : UInt8} {r : Nat × Nat × Nat} (hr : decGo i v (bs.drop (k + i)) = r) (h : bs[k + i]? = some c) (hm : c.toNat = m) (hb : ¬ ((i = 9 ∧ 1 < m) ∨ (0 < i ∧ m = 0))) (hl : ¬ m < 128) :
    decGo (i + 1) (v + m % 128 * 128 ^ i) (bs.drop (k + (i + 1))) = r := by
  rw [← hr, drop_cons h, decGo, hm, if_neg hb, if_neg hl, Nat.add_assoc]
theorem step_short {bs : List UInt8} {k i v : Nat} {r : Nat × Nat × Nat} (hr : decGo i v (bs.drop (k + i)) = r) (h : ¬ k + i < bs.length) : r = (3, 0, 0) := by
  rw [← hr, List.drop_of_length_le (by omega)]; rfl
theorem step_num {v m i : Nat} (hv : v < 128 ^ i) (hi : i ≤ 9) (hm : m < 256) (h9 : i = 9 → m ≤ 1) :
    bits .or .u64 (v : Int) (IntKind.u64.wrap (IntKind.u64.wrap (bits .and .u8 (m : Int) 127) * 2 ^ (7 * i))) = ((v + m % 128 * 128 ^ i : Nat) : Int) := by
  have e1 : bits .and .u8 (m : Int) 127 = ((m % 128 : Nat) : Int) := by
    have := u8_and_nat m 127 hm (by omega)
    rw [Nat.and_two_pow_sub_one_eq_mod m 7] at this
    exact this
  have hp : (2 : Int) ^ (7 * i) = ((128 ^ i : Nat) : Int) := by
    rw [Int.pow_mul]; simp
  have hpw : 128 ^ i ≤ 128 ^ 9 := Nat.pow_le_pow_right (by omega) hi
  have hb : m % 128 * 128 ^ i < 18446744073709551616 := by
    by_cases h : i = 9
    · subst h; have := h9 rfl; have : m % 128 ≤ 1 := by omega
      have h2 : m % 128 * 128 ^ 9 ≤ 1 * 128 ^ 9 := Nat.mul_le_mul_right _ this
      exact Nat.lt_of_le_of_lt h2 (by decide +kernel)
    · have h8 : 128 ^ i ≤ 128 ^ 8 := Nat.pow_le_pow_right (by omega) (by omega)
      have h2 : m % 128 * 128 ^ i ≤ 127 * 128 ^ 8 := Nat.mul_le_mul (by omega) h8
      exact Nat.lt_of_le_of_lt h2 (by decide +kernel)
  have hv' : v < 18446744073709551616 := by
    have : (128 : Nat) ^ 9 < 18446744073709551616 := by decide +kernel
    omega
  have e2 : IntKind.u64.wrap (IntKind.u64.wrap (bits .and .u8 (m : Int) 127) * 2 ^ (7 * i)) = ((m % 128 * 128 ^ i : Nat) : Int) := by
    rw [e1, hp, IntKind.wrap_u64, IntKind.wrap_u64]
    have : ((m % 128 : Nat) : Int) % 18446744073709551616 = ((m % 128 : Nat) : Int) := by omega
    rw [this, ← Int.natCast_mul]
    omega
  rw [e2, u64_or_nat _ _ hv' hb]
  congr 1
  have hpow : 128 ^ i = 2 ^ (7 * i) := by rw [Nat.pow_mul]
  rw [Nat.or_comm, nat_join (7 * i) _ _ (by rw [← hpow]; exact Nat.mul_mod_left _ _) (by rw [← hpow]; exact hv), Nat.add_comm]
theorem step_lt {v m i : Nat} (hv : v < 128 ^ i) : v + m % 128 * 128 ^ i < 128 ^ (i + 1) := by
  rw [Nat.pow_succ]
  have : m % 128 * 128 ^ i ≤ 127 * 128 ^ i := Nat.mul_le_mul_right _ (by omega)
  omega

theorem beq0 {m : Nat} (h : ((m : Int) == 0) = true) : m = 0 := by simp at h; omega
theorem bne0 {m : Nat} (h : ((m : Int) == 0) = false) : m ≠ 0 := by simp at h; omega

theorem decU_nil : decU [] = (3, 0, 0) := rfl

theorem rd_last {w : World} {p : Nat} {ao : Option Addr} {cap : Nat} {bs : List UInt8} {k i : Nat} (h : Rd w p ao cap bs k) (n : Nat) {x y : Value} {z : Int} (hlt : k + i < bs.length) (hx : x = y) (hz : z = ((k : Int) + i + 1)) {e : Ending} (he : e = .returned (.tuple #[x, .nilIface]))  :
    RdPost w p ao cap bs y 0 (posOf 0 k) (k + (i + 1)) e ((w.drewN n).setCell ⟨p, 1, none⟩ (.int .i64 z)) := by
  subst hx; subst he
  have hz' : z = ((k + (i + 1) : Nat) : Int) := by omega
  subst hz'
  exact ⟨.nilIface, rfl, isErr_nil _ _, ⟨blk_set (w := w.drewN _) h.blk 1 _, ownsRow_setCell_other (w := w.drewN _) h.own (own_ne h.own h.blk (by decide)) _, by omega⟩, Keeps.setCell (S := fun i => i = p) (p := ⟨p, 1, none⟩) ((Keeps.refl _ w).drewN _) (fun _ => rfl) _⟩

set_option maxRecDepth 100000 in
set_option maxHeartbeats 400000 in
theorem rUint_short {w : World} {p : Nat} {ao : Option Addr} {cap : Nat} {bs : List UInt8} {k : Nat} (h : Rd w p ao cap bs k) (hl : bs.length ≤ 1000000) (hs : bs.length = k) :
    Calls Tryd.prog 59 #[.pointer (some ⟨p, 0, none⟩)] w (RdPost w p ao cap bs (.int .u64 0) 3 k k) := by
  have h0 : w.cell? ⟨p, 0, none⟩ = some (.slice ao bs.length cap) := blk_cell h.blk 0 rfl
  have h1 : w.cell? ⟨p, 1, none⟩ = some (.int .i64 k) := blk_cell h.blk 1 rfl
  subst hs
  go_enter Tryd.func59, Tryd.ntmps59
  go_wp2_with fail
  refine wp_loop_rounds 1 ?_
  rw [rounds_succ]
  go_wp2_with fail
  go_quiet (fail)
  go_wp2_with fail
  refine (bad_any (h.drewN _) 3 rfl).mono ?_
  rintro e w' ⟨ev, rfl, hev, hK⟩
  go_wp2_with fail
  go_ret2
  exact ⟨ev, rfl, hev, ⟨hK.blk (a := w.drewN _) h.blk (fun h => h), hK.own (a := w.drewN _) h.own (fun _ _ h => h), h.le⟩, ((Keeps.refl _ w).drewN _).trans hK (fun _ h _ => h.elim)⟩

set_option maxRecDepth 100000 in
set_option maxHeartbeats 2000000 in
theorem rUint_any {w : World} {p : Nat} {g : Nat} {cap : Nat} {bs : List UInt8} {k : Nat} (h : Rd w p (some ⟨g, 0, none⟩) cap bs k) (hl : bs.length ≤ 1000000) :
    Calls Tryd.prog 59 #[.pointer (some ⟨p, 0, none⟩)] w
      (RdPost w p (some ⟨g, 0, none⟩) cap bs (.int .u64 (decU (bs.drop k)).2.1) (decU (bs.drop k)).1 (posOf (decU (bs.drop k)).1 k) (k + (decU (bs.drop k)).2.2)) := by
  have hk := h.le
  have h0 : w.cell? ⟨p, 0, none⟩ = some (.slice (some ⟨g, 0, none⟩) bs.length cap) := blk_cell h.blk 0 rfl
  have h1 : w.cell? ⟨p, 1, none⟩ = some (.int .i64 k) := blk_cell h.blk 1 rfl
  have hf1 := blk_free h.blk 1
  go_enter Tryd.func59, Tryd.ntmps59
  go_wp2_with fail
  go_loopw [4, 5] (fun s t wr => ∃ (i v n : Nat), s = .int .u64 v ∧ t = .int .i64 i ∧ i ≤ 9 ∧ v < 128 ^ i ∧ wr = w.drewN n ∧ k + i ≤ bs.length ∧ decGo i v (bs.drop (k + i)) = decU (bs.drop k))
    (fun _ t _ => 10 - (intOf t).toNat)
  case atStart => exact ⟨0, 0, 0, rfl, rfl, by omega, by decide, rfl, hk, rfl⟩
  case round =>
    obtain ⟨i, v, n, rfl, rfl, hi, hv, rfl, hki, hD⟩ := hrel
    have HD := Lib.hid hD
    clear hD
    by_cases hlt : k + i < bs.length
    · obtain ⟨c, hc⟩ : ∃ c, bs[k + i]? = some c := ⟨_, List.getElem?_eq_getElem hlt⟩
      have hcell := own8_cell h.own hc
      have hc256 : c.toNat < 256 := c.toNat_lt
      have HC := Lib.hid hc
      clear hc
      generalize hcm : c.toNat = m at *
      have HM := Lib.hid hcm
      clear hcm
      go_wp2_with fail
      go_quiet (fail)
      go_wp2_with fail
      go_quiet (fail)
      go_wp2_with fail
      all_goals first
        | (have hcond : (i = 9 ∧ 1 < m) ∨ (0 < i ∧ m = 0) := by
             first
               | exact .inl ⟨by omega, by omega⟩
               | exact .inr ⟨by omega, beq0 (by assumption)⟩
           have E := step_bad HD.out HC.out HM.out hcond
           refine (bad_any (h.drewN _) 4 rfl).mono ?_
           rintro e w' ⟨ev, rfl, hev, hK⟩
           go_wp2_with fail
           go_ret2
           rw [E]
           exact ⟨ev, rfl, hev, ⟨hK.blk (a := w.drewN _) h.blk (fun h => h), hK.own (a := w.drewN _) h.own (fun _ _ h => h), h.le⟩, ((Keeps.refl _ w).drewN _).trans hK (fun _ h _ => h.elim)⟩)
        | skip
      all_goals
        have hcond : ¬ ((i = 9 ∧ 1 < m) ∨ (0 < i ∧ m = 0)) := by
          first
            | (have h1 := bne0 (by assumption : ((m : Int) == 0) = false)
               omega)
            | omega
        have hnum := step_num hv hi hc256 (fun h9 => by omega)
      · obtain rfl : i = 9 := by omega
        have E := step_last HD.out HC.out HM.out hcond (by omega)
        have hnum9 : bits .or .u64 (v : Int) (IntKind.u64.wrap (IntKind.u64.wrap (bits .and .u8 (m : Int) 127) * 9223372036854775808)) = ((v + m % 128 * 128 ^ 9 : Nat) : Int) := hnum
        go_ret2
        rw [E]
        exact rd_last h _ (by omega) (congrArg (Value.int .u64) hnum9) rfl rfl
      · have E := step_last HD.out HC.out HM.out hcond (by omega)
        go_ret2
        rw [E]
        exact rd_last h _ (by omega) (congrArg (Value.int .u64) hnum) rfl rfl
      · have E := step_more HD.out HC.out HM.out hcond (by omega)
        go_roundw
        case rel => exact ⟨i + 1, v + m % 128 * 128 ^ i, _, by rw [hnum], by go_num, by omega, step_lt hv, rfl, by omega, E⟩
        case measure => simp [intOf]; omega
      · have E := step_last HD.out HC.out HM.out hcond (by omega)
        go_ret2
        rw [E]
        exact rd_last h _ (by omega) (congrArg (Value.int .u64) hnum) rfl rfl
      · have E := step_more HD.out HC.out HM.out hcond (by omega)
        go_roundw
        case rel => exact ⟨i + 1, v + m % 128 * 128 ^ i, _, by rw [hnum], by go_num, by omega, step_lt hv, rfl, by omega, E⟩
        case measure => simp [intOf]; omega
    · have E := step_short HD.out hlt
      go_wp2_with fail
      go_quiet (fail)
      go_wp2_with fail
      refine (bad_any (h.drewN _) 3 rfl).mono ?_
      rintro e w' ⟨ev, rfl, hev, hK⟩
      go_wp2_with fail
      go_ret2
      rw [E]
      exact ⟨ev, rfl, hev, ⟨hK.blk (a := w.drewN _) h.blk (fun h => h), hK.own (a := w.drewN _) h.own (fun _ _ h => h), h.le⟩, ((Keeps.refl _ w).drewN _).trans hK (fun _ h _ => h.elim)⟩

theorem rUint {w : World} {p : Nat} {ao : Option Addr} {cap : Nat} {bs : List UInt8} {k : Nat} (h : Rd w p ao cap bs k) (hl : bs.length ≤ 1000000) :
    Calls Tryd.prog 59 #[.pointer (some ⟨p, 0, none⟩)] w
      (RdPost w p ao cap bs (.int .u64 (decU (bs.drop k)).2.1) (decU (bs.drop k)).1 (posOf (decU (bs.drop k)).1 k) (k + (decU (bs.drop k)).2.2)) := by
  by_cases hn : bs = []
  · have hk := h.le
    have hk0 : bs.length = k := by subst hn; simp at hk ⊢; omega
    rw [show bs.drop k = [] from List.drop_of_length_le (by omega)]
    exact rUint_short h hl hk0
  · obtain ⟨g, rfl⟩ := own8_head h.own hn
    exact rUint_any h hl

end Go.Proofs.YteifmkfkekglpaaDoor
