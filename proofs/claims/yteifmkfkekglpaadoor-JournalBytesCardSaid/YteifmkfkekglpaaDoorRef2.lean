/- usufructref2: what is written, as texts. -/
import Derived.Test.YteifmkfkekglpaaDoorTold2
namespace Go.Proofs.YteifmkfkekglpaaDoor
open Go.RowKit

theorem conv1 (W : World) (g : Nat) (b : UInt8) (u : Value) (hu : u = .int .u8 (b.toNat : Int)) (h : W.cell? ⟨g, 0, none⟩ = some u) :
    (convert 25 9 (.slice (some ⟨g, 0, none⟩) 1 1)).run Tryd.prog W = .ok (.string ⟨#[b]⟩) W := by
  subst hu
  refine run_str W 1 [b] (l := 1) rfl ⟨fun e => by simp at e, fun a e j c hj => ?_⟩
  obtain rfl := Option.some.inj e
  match j, hj with
  | 0, hj => simp at hj; subst hj; exact h

theorem byte_nat {y : Nat} (h : y < 256) : ((UInt8.ofNat y).toNat : Int) = y := by rw [UInt8.toNat_ofNat_of_lt' (show y < UInt8.size from h)]

set_option maxRecDepth 100000 in
set_option maxHeartbeats 400000 in
theorem refUint_small (x : Nat) (hx : x < 128) (w : World) : Calls Tryd.prog 48 #[.int .u64 x] w (SaysText w (encU x)) := by
  have hc := fun W g => conv1 W g (UInt8.ofNat x) (.int .u8 x) (by rw [byte_nat (by omega)])
  rw [encU_lt hx]
  go_enter Tryd.func48, Tryd.ntmps48
  go_wp2_with fail
  go_ret
  exact ⟨rfl, (Keeps.refl _ _).alloc _⟩

theorem and127 (x : Nat) (hx : x < 18446744073709551616) : bits .and .u64 (x : Int) 127 = ((x % 128 : Nat) : Int) := by
  have := u64_and_nat x 127 hx (by omega)
  rw [nat_mask7] at this
  exact this

set_option maxRecDepth 100000 in
set_option maxHeartbeats 1000000 in
theorem refUint_any (k : Nat) : ∀ (x : Nat), x < 128 ^ (k + 1) → x < 18446744073709551616 → ∀ (w : World), Calls Tryd.prog 48 #[.int .u64 x] w (SaysText w (encU x)) := by
  induction k with
  | zero => intro x hx _ w; exact refUint_small x (by omega) w
  | succ k ih =>
    intro x hx h64 w
    by_cases hlt : x < 128
    · exact refUint_small x hlt w
    · have IH := Lib.hid (ih (x / 128) (by rw [Nat.pow_succ] at hx; omega) (by omega))
      clear ih
      have hlen := encU_len10 (show x / 128 < 18446744073709551616 by omega)
      have ha : bits .and .u64 (x : Int) 127 = (x : Int) % 128 := and127 x h64
      have hw : IntKind.u8.wrap ((x : Int) % 128) = (x : Int) % 128 := by rw [IntKind.wrap_u8]; omega
      have hq : IntKind.u64.wrap ((x : Int) / 128) = (x : Int) / 128 := by rw [IntKind.wrap_u64]; omega
      have ho : bits .or .u8 ((x : Int) % 128) 128 = (x : Int) % 128 + 128 := by
        have h := or128 (x % 128)
        rw [show (((x % 128 : Nat) : Int) % 256) = (x : Int) % 128 by omega] at h
        rw [h]; omega
      obtain ⟨b, hb⟩ : ∃ b, b = UInt8.ofNat (x % 128 + 128) := ⟨_, rfl⟩
      have hc := fun W g => conv1 W g b (.int .u8 ((x : Int) % 128 + 128)) (by rw [hb, byte_nat (by omega)]; congr 1)
      have hc0 : ((w.alloc (.cells #[.int .u8 ((x : Int) % 128 + 128)] 5)).drew).cell? ⟨w.heap.size, 0, none⟩ = some (.int .u8 ((x : Int) % 128 + 128)) := by simp
      have HC0 := Lib.hid hc0
      clear hc0
      have HE := Lib.hid (encU_ge hlt)
      rw [← hb] at HE
      clear hb
      go_enter Tryd.func48, Tryd.ntmps48
      go_wp2_with fail
      go_region_with (go_at_call 48; refine (IH.out _).mono ?_; rintro e w2 ⟨rfl, hK2⟩; first | (have hx := hK2.cell HC0.out (fun h => h)) | skip)
      all_goals go_wp2_with fail
      all_goals
        go_ret
        rw [HE.out]
        refine ⟨congrArg (fun s => Ending.returned (.string s)) (ByteArray.mk_append_mk [b] _), ?_⟩
        first
          | exact (((Keeps.refl _ w).alloc _).drew.trans hK2 (fun _ h _ => h))
          | exact ((Keeps.refl _ w).drew.trans hK2 (fun _ h _ => h)).alloc _

theorem refUint (x : Nat) (hx : x < 18446744073709551616) (w : World) : Calls Tryd.prog 48 #[.int .u64 x] w (SaysText w (encU x)) :=
  refUint_any 9 x (by have : (18446744073709551616 : Nat) ≤ 128 ^ (9 + 1) := by decide +kernel
                      omega) hx w

theorem refUint_of (x : Int) (h0 : 0 ≤ x) (hx : x < 18446744073709551616) (w : World) : Calls Tryd.prog 48 #[.int .u64 x] w (SaysText w (encU x.toNat)) := by
  obtain ⟨n, rfl⟩ := Int.eq_ofNat_of_zero_le h0
  exact refUint n (by omega) w

set_option maxHeartbeats 400000 in
theorem refInt (x : Int) (h0 : -9223372036854775808 ≤ x) (hx : x < 9223372036854775808) (w : World) : Calls Tryd.prog 34 #[.int .i64 x] w (SaysText w (encI x)) := by
  by_cases hneg : x < 0
  · have hz : zig x = (-(x + 1) * 2 + 1).toNat := by unfold zig; rw [if_pos hneg]
    have HZ := Lib.hid hz
    clear hz
    go_enter Tryd.func34, Tryd.ntmps34
    go_wp2_with fail
    refine (refUint_of _ (by omega) (by omega) w).mono ?_
    rintro e w' ⟨rfl, hK⟩
    go_wp2_with fail
    go_ret
    unfold encI
    rw [HZ.out]
    exact ⟨rfl, hK⟩
  · have hz : zig x = (x * 2).toNat := by unfold zig; rw [if_neg hneg]
    have HZ := Lib.hid hz
    clear hz
    go_enter Tryd.func34, Tryd.ntmps34
    go_wp2_with fail
    refine (refUint_of _ (by omega) (by omega) w).mono ?_
    rintro e w' ⟨rfl, hK⟩
    go_wp2_with fail
    go_ret
    unfold encI
    rw [HZ.out]
    exact ⟨rfl, hK⟩

set_option maxHeartbeats 400000 in
theorem refText (s : ByteArray) (hs : s.size ≤ 1000000) (w : World) : Calls Tryd.prog 35 #[.string s] w (SaysText w (encS (bytesOf s))) := by
  have hl : (encU s.size).length ≤ 10 := encU_len10 (by omega)
  have HB := Lib.hid (bytesOf_length s)
  go_enter Tryd.func35, Tryd.ntmps35
  go_wp2_with fail
  refine (refUint s.size (by omega) w).mono ?_
  rintro e w' ⟨rfl, hK⟩
  go_wp2_with fail
  go_ret
  refine ⟨congrArg (fun s => Ending.returned (.string s)) ?_, hK⟩
  unfold encS
  rw [HB.out, ← ByteArray.mk_append_mk]
  congr 1

end Go.Proofs.YteifmkfkekglpaaDoor
