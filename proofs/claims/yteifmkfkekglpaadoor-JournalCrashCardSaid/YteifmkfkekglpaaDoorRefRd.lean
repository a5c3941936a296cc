/- usufructref2.Reader: look, fail, Uint, Int. -/
import Derived.Test.YteifmkfkekglpaaDoorCanon2
namespace Go.Proofs.YteifmkfkekglpaaDoor
open Go.RowKit

def strOf (bs : List UInt8) : ByteArray := ⟨bs.toArray⟩

/-- The document's reader: the block x holds the bytes, where it stands, the error and its place. -/
def RefR (w : World) (x : Nat) (bs : List UInt8) (k c a : Int) : Prop := Blk w x #[.string ⟨bs.toArray⟩, .int .i64 k, .int .i64 c, .int .i64 a] 77

/-- What a reading of the document's reader leaves. -/
def RefPost (w : World) (x : Nat) (bs : List UInt8) (val : Value) (k c a : Int) (e : Ending) (w' : World) : Prop :=
  e = .returned val ∧ RefR w' x bs k c a ∧ Keeps (fun i => i = x) w w'

def lookTup (l : List UInt8) (k : Nat) : Value := .tuple #[.int .u64 (decU l).2.1, .int .i64 (if (decU l).1 = 0 then (k + (decU l).2.2 : Nat) else (0 : Nat)), .int .i64 (decU l).1]
theorem lookTup_eq {l : List UInt8} {k c v n : Nat} (h : decU l = (c, v, n)) : lookTup l k = .tuple #[.int .u64 v, .int .i64 (if c = 0 then (k + n : Nat) else (0 : Nat)), .int .i64 c] := by
  unfold lookTup; rw [h]

theorem ret3_eq {a a' b b' : Int} (h1 : a = a') (h2 : b = b') : Ending.returned (.tuple #[.int .u64 a, .int .i64 b, .int .i64 0]) = .returned (.tuple #[.int .u64 a', .int .i64 b', .int .i64 ((0 : Nat) : Int)]) := by
  subst h1; subst h2; rfl

set_option maxRecDepth 100000 in
set_option maxHeartbeats 1000000 in
theorem ref_look {bs : List UInt8} {k : Nat} (hl : bs.length ≤ 1000000) (hk : k ≤ bs.length) (w : World) :
    Calls Tryd.prog 62 #[.string ⟨bs.toArray⟩, .int .i64 k] w fun e w' => e = .returned (lookTup (bs.drop k) k) ∧ w' = w := by
  go_enter Tryd.func62, Tryd.ntmps62
  go_wp2_with fail
  go_loop [7, 8] (fun s t => ∃ (i v : Nat), s = .int .u64 v ∧ t = .int .i64 i ∧ i ≤ 9 ∧ v < 128 ^ i ∧ k + i ≤ bs.length ∧ decGo i v (bs.drop (k + i)) = decU (bs.drop k))
    (fun _ t => 10 - (intOf t).toNat)
  case atStart => exact ⟨0, 0, rfl, rfl, by omega, by decide, hk, rfl⟩
  case round =>
    obtain ⟨i, v, rfl, rfl, hi, hv, hki, hD⟩ := hrel
    have HD := Lib.hid hD
    clear hD
    by_cases hlt : k + i < bs.length
    · obtain ⟨c, hc⟩ : ∃ c, bs[k + i]? = some c := ⟨_, List.getElem?_eq_getElem hlt⟩
      have hsz : k + i < (⟨bs.toArray⟩ : ByteArray).size := by show k + i < bs.toArray.size; simpa using hlt
      have hcm : ((⟨bs.toArray⟩ : ByteArray)[k + i]'hsz).toNat = c.toNat := by
        have : (⟨bs.toArray⟩ : ByteArray)[k + i]'hsz = c := by
          have h2 := (List.getElem?_eq_some_iff.1 hc).2
          rw [← h2]; rfl
        rw [this]
      have hc256 : c.toNat < 256 := c.toNat_lt
      have HC := Lib.hid hc
      clear hc
      obtain ⟨m, hm⟩ : ∃ m, c.toNat = m := ⟨_, rfl⟩
      rw [hm] at hcm hc256
      have HM := Lib.hid hm
      clear hm
      go_wp2_with fail
      all_goals first
        | (have hcond : (i = 9 ∧ 1 < m) ∨ (0 < i ∧ m = 0) := by
             first
               | exact .inl ⟨by omega, by omega⟩
               | exact .inr ⟨by omega, beq0 (by assumption)⟩
               | exact .inr ⟨by omega, by omega⟩
           have E := lookTup_eq (k := k) (step_bad HD.out HC.out HM.out hcond)
           go_ret3
           exact ⟨by rw [E]; rfl, rfl⟩)
        | skip
      all_goals
        have hcond : ¬ ((i = 9 ∧ 1 < m) ∨ (0 < i ∧ m = 0)) := by omega
        have hnum := step_num hv hi hc256 (fun h9 => by omega)
      all_goals first
        | (have h9 : i = 9 := by omega
           subst h9
           have E := lookTup_eq (k := k) (step_last HD.out HC.out HM.out hcond (by omega))
           have hnum9 : bits .or .u64 (v : Int) (IntKind.u64.wrap (IntKind.u64.wrap (bits .and .u8 (m : Int) 127) * 9223372036854775808)) = ((v + m % 128 * 128 ^ 9 : Nat) : Int) := hnum
           go_ret3
           exact ⟨by rw [E]; exact ret3_eq hnum9 (by omega), rfl⟩)
        | (have hm128 : m < 128 := by omega
           have E := lookTup_eq (k := k) (step_last HD.out HC.out HM.out hcond hm128)
           go_ret3
           exact ⟨by rw [E]; exact ret3_eq hnum (by rw [if_pos rfl]; omega), rfl⟩)
        | (have hm0 : m = 0 := by omega
           subst hm0
           have E := lookTup_eq (k := k) (step_last HD.out HC.out HM.out hcond (by omega))
           go_ret3
           exact ⟨by rw [E]; exact ret3_eq hnum (by rw [if_pos rfl]; omega), rfl⟩)
        | (have E := step_more HD.out HC.out HM.out hcond (by omega)
           go_round
           case rel => exact ⟨i + 1, v + m % 128 * 128 ^ i, by rw [hnum], by go_num, by omega, step_lt hv, by omega, E⟩
           case measure => simp [intOf]; omega)
    · have E := step_short HD.out hlt
      have E2 := Lib.hid (lookTup_eq (k := k) E)
      clear E
      go_wp2_with fail
      go_ret3
      exact ⟨by rw [E2.out]; rfl, rfl⟩

end Go.Proofs.YteifmkfkekglpaaDoor
