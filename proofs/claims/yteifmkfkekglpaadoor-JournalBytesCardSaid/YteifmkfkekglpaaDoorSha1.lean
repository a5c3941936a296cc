/- sha.turn, math/bits.RotateLeft32, usufructref3.turn. -/
import Derived.Test.YteifmkfkekglpaaDoorBytes
import Derived.Laws.BitsAllLaws
import Derived.IntWalk
import Derived.Outline
namespace Go.Proofs.YteifmkfkekglpaaDoor
open Go.RowKit

/-- A word turned right. -/
def rot (x n : Nat) : Nat := (x >>> n) ||| ((x <<< (32 - n)) % 4294967296)

theorem neg31 (n : Nat) (h0 : 0 < n) (h1 : n < 32) : bits .and .u64 (IntKind.u64.wrap (-(n : Int))) 31 = ((32 - n : Nat) : Int) := by
  rw [show IntKind.u64.wrap (-(n : Int)) = ((18446744073709551616 - n : Nat) : Int) by rw [IntKind.wrap_u64]; omega]
  have h := u64_and_nat (18446744073709551616 - n) 31 (by omega) (by omega)
  refine h.trans ?_
  rw [show (31 : Nat) = 2 ^ 5 - 1 from rfl, Nat.and_two_pow_sub_one_eq_mod]
  omega

set_option maxHeartbeats 400000 in
theorem rotl_any (x : Nat) (hx : x < 4294967296) (n : Nat) (h0 : 0 < n) (h1 : n < 32) (w : World) :
    Calls Tryd.prog 71 #[.int .u32 x, .int .i64 (-(n : Int))] w fun e w' => e = .returned (.int .u32 (rot x n)) ∧ w' = w := by
  have e1 := neg31 n h0 h1
  obtain ⟨m, hm⟩ : ∃ m, 32 - n = m := ⟨_, rfl⟩
  rw [hm] at e1
  have e2 : IntKind.u64.wrap (32 - (m : Int)) = (n : Int) := by rw [IntKind.wrap_u64]; omega
  have hm0 : 0 < m := by omega
  have hm1 : m < 32 := by omega
  have HM := Lib.hid hm
  clear hm
  go_enter Tryd.func71, Tryd.ntmps71
  go_wp2_with fail
  go_ret
  refine ⟨congrArg (fun z => Ending.returned (.int .u32 z)) ?_, rfl⟩
  show bits .or .u32 (IntKind.u32.wrap ((x : Int) * 2 ^ m)) ((x : Int) / 2 ^ n) = _
  rw [show IntKind.u32.wrap ((x : Int) * 2 ^ m) = ((x <<< m % 4294967296 : Nat) : Int) by rw [IntKind.wrap_u32, Nat.shiftLeft_eq]; simp,
    show (x : Int) / 2 ^ n = ((x >>> n : Nat) : Int) by rw [Nat.shiftRight_eq_div_pow]; simp]
  rw [u32_or_nat _ _ (Nat.mod_lt _ (by decide)) (by rw [Nat.shiftRight_eq_div_pow]; exact Nat.lt_of_le_of_lt (Nat.div_le_self _ _) hx)]
  unfold rot
  rw [HM.out, Nat.or_comm]

theorem rot_lt (x n : Nat) (hx : x < 4294967296) : rot x n < 4294967296 := by
  unfold rot
  refine Nat.or_lt_two_pow (n := 32) ?_ (Nat.mod_lt _ (by decide))
  rw [Nat.shiftRight_eq_div_pow]
  exact Nat.lt_of_le_of_lt (Nat.div_le_self _ _) hx

/-- sha.turn, usufructref3.turn: by so many bits. -/
theorem turn_of (x : Nat) (hx : x < 4294967296) (n : Nat) (h0 : 0 < n) (h1 : n < 32) (w : World) :
    Calls Tryd.prog 66 #[.int .u32 x, .int .i64 n] w fun e w' => e = .returned (.int .u32 (rot x n)) ∧ w' = w := by
  have hneg : IntKind.i64.wrap (-(n : Int)) = -(n : Int) := by rw [IntKind.wrap_i64]; omega
  go_enter Tryd.func66, Tryd.ntmps66
  go_wp2_with fail
  refine (rotl_any x hx n h0 h1 w).mono ?_
  rintro e w' ⟨rfl, rfl⟩
  go_wp2_with fail
  go_ret
  exact ⟨rfl, rfl⟩

set_option maxHeartbeats 400000 in
theorem rturn_of (x : Nat) (hx : x < 4294967296) (n : Nat) (h0 : 0 < n) (h1 : n < 32) (w : World) :
    Calls Tryd.prog 50 #[.int .u32 x, .int .i64 n] w fun e w' => e = .returned (.int .u32 (rot x n)) ∧ w' = w := by
  obtain ⟨m, hm⟩ : ∃ m, 32 - n = m := ⟨_, rfl⟩
  have e2 : IntKind.u64.wrap (n : Int) = (n : Int) := by rw [IntKind.wrap_u64]; omega
  have e4 : IntKind.i64.wrap (32 - (n : Int)) = (m : Int) := by rw [IntKind.wrap_i64]; omega
  have e5 : (32 - (n : Int)) = (m : Int) := by omega
  have e3 : IntKind.u64.wrap (m : Int) = (m : Int) := by rw [IntKind.wrap_u64]; omega
  have hm0 : 0 < m := by omega
  have hm1 : m < 32 := by omega
  have HM := Lib.hid hm
  clear hm
  go_enter Tryd.func50, Tryd.ntmps50
  go_wp2_with fail
  go_ret
  refine ⟨congrArg (fun z => Ending.returned (.int .u32 z)) ?_, rfl⟩
  show bits .or .u32 ((x : Int) / 2 ^ n) (IntKind.u32.wrap ((x : Int) * 2 ^ m)) = _
  rw [show IntKind.u32.wrap ((x : Int) * 2 ^ m) = ((x <<< m % 4294967296 : Nat) : Int) by rw [IntKind.wrap_u32, Nat.shiftLeft_eq]; simp,
    show (x : Int) / 2 ^ n = ((x >>> n : Nat) : Int) by rw [Nat.shiftRight_eq_div_pow]; simp]
  rw [u32_or_nat _ _ (by rw [Nat.shiftRight_eq_div_pow]; exact Nat.lt_of_le_of_lt (Nat.div_le_self _ _) hx) (Nat.mod_lt _ (by decide))]
  unfold rot
  rw [HM.out]

end Go.Proofs.YteifmkfkekglpaaDoor
