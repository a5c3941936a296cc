/- Messages: what a message's cells hold; which may be. -/
import Derived.Test.YteifmkfkekglpaaHashes
import Derived.Test.YteifmkfkekglpaaRefRd4
import Derived.Test.YteifmkfkekglpaaHashCmp
import Derived.IntWalk
namespace Go.Proofs.Yteifmkfkekglpaa
open Go.RowKit

structure MsgT where
  kind : Int
  frm : Int
  to : Int
  crate : Int
  epoch : Int
  name : List UInt8
  hash : List UInt8
  hashes : List (List UInt8)
  blob : List UInt8
  sig : List UInt8

/-- The cells C hold the message m. -/
structure MsgC (C : Array Value) (m : MsgT) (ao : Option Addr) (cap : Nat) : Prop where
  size : C.size = 41
  one : C.all (·.oneCell') = true
  c0 : C[0]? = some (.int .i64 m.kind)
  c1 : C[1]? = some (.int .i64 m.frm)
  c2 : C[2]? = some (.int .i64 m.to)
  c3 : C[3]? = some (.int .i64 m.crate)
  c4 : C[4]? = some (.int .i64 m.epoch)
  c5 : C[5]? = some (.string ⟨m.name.toArray⟩)
  h32 : m.hash.length = 32
  ch : ∀ j v, (m.hash.map byteV)[j]? = some v → C[6 + j]? = some v
  c38 : C[38]? = some (.slice ao m.hashes.length cap)
  c39 : C[39]? = some (.string ⟨m.blob.toArray⟩)
  c40 : C[40]? = some (.string ⟨m.sig.toArray⟩)
/-- The numbers are Go's; the sums lie where the message says. -/
structure MsgAt (w : World) (m : MsgT) (ao : Option Addr) (cap : Nat) : Prop where
  k0 : -9223372036854775808 ≤ m.kind
  k1 : m.kind < 9223372036854775808
  f0 : -9223372036854775808 ≤ m.frm
  f1 : m.frm < 9223372036854775808
  t0 : -9223372036854775808 ≤ m.to
  t1 : m.to < 9223372036854775808
  c0 : -9223372036854775808 ≤ m.crate
  c1 : m.crate < 9223372036854775808
  e0 : -9223372036854775808 ≤ m.epoch
  e1 : m.epoch < 9223372036854775808
  at' : HashesAt w ao m.hashes
  h32 : ∀ h ∈ m.hashes, h.length = 32
  le : m.hashes.length ≤ cap
  max : cap ≤ maxLen
theorem MsgAt.keepsN {w w' : World} {m : MsgT} {ao : Option Addr} {cap : Nat} (h : MsgAt w m ao cap) (k : Keeps Nothing w w') : MsgAt w' m ao cap :=
  ⟨h.k0, h.k1, h.f0, h.f1, h.t0, h.t1, h.c0, h.c1, h.e0, h.e1, h.at'.keepsN k, h.h32, h.le, h.max⟩
theorem MsgC.row {C : Array Value} {m : MsgT} {ao : Option Addr} {cap : Nat} (h : MsgC C m ao cap) : aggOk 41 (.agg C) = true := aggOk_agg 41 C h.size h.one
theorem infoMsg : (Try.prog.info? 26).map (·.size) = some 41 := by kernel_rfl
theorem exec_mid_msg (ρ : Operand → Value) (dst : Option Tmp) (x : Operand) (ty' : TypeId) (pos : String) (af : Array Edge) (gd : Option (Nat × Bool)) (w : World) (h : midOkV w 41 (ρ x) = true) :
    (execOp ρ ⟨dst, .load 26 x, ty', pos, af, gd⟩).run Try.prog w = .ok (.value (.agg (midOfV w 41 (ρ x)))) w :=
  exec_load_mid _ 41 _ Try.underlying26 rfl infoMsg ρ dst x ty' pos af gd w h
theorem exec_store_msg (ρ : Operand → Value) (dst : Option Tmp) (x y : Operand) (ty' : TypeId) (pos : String) (af : Array Edge) (gd : Option (Nat × Bool)) (w : World) (h : rowOkV w 41 (ρ x) = true) (hy : aggOk 41 (ρ y) = true) :
    (execOp ρ ⟨dst, .store 26 x y, ty', pos, af, gd⟩).run Try.prog w = .ok .skip (rowSetV w (ρ x) (aggOf (ρ y))) :=
  exec_store _ 41 infoMsg ρ dst x y ty' pos af gd w h hy
/-- A block with these cells, read whole. -/
theorem blk_mid {w : World} {g : Nat} {C : Array Value} {t : TypeId} (h : Blk w g C t) {n : Nat} (hn : C.size = n) : midOk w g 0 n = true ∧ midOf w g 0 n = C := by
  have hr : w.rangeAt g 0 C.toList := fun j v hj => blk_cell h (0 + j) (by simpa using hj)
  have h1 := midOk_range hr
  have h2 := midOf_range hr
  rw [Array.length_toList, hn] at h1 h2
  exact ⟨h1, by rw [h2]⟩
/-- The sum among a message's cells. -/
theorem msg_hash {w : World} {g : Nat} {C : Array Value} {t : TypeId} {m : MsgT} {ao : Option Addr} {cap : Nat} (h : Blk w g C t) (hC : MsgC C m ao cap) : w.rangeAt g 6 (m.hash.map byteV) :=
  fun j v hj => blk_cell h (6 + j) (hC.ch j v hj)

def mayP (m : MsgT) : Prop := 1 ≤ m.kind ∧ m.kind ≤ 8 ∧ (0 ≤ m.frm ∧ m.frm < 65) ∧ (0 ≤ m.to ∧ m.to < 65) ∧ m.frm ≠ m.to ∧ (m.frm = 0 ∨ m.to = 0) ∧ 0 ≤ m.crate ∧ m.crate < 64 ∧ 0 ≤ m.epoch ∧ m.epoch ≤ 1099511627776 ∧
  m.name.length ≤ 32 ∧ m.hashes.length ≤ 64 ∧ m.blob.length ≤ 4194304 ∧ m.sig.length ≤ 4194304
instance (m : MsgT) : Decidable (mayP m) := by unfold mayP; infer_instance

theorem node_any (w : World) (z : Int) : Calls Try.prog 38 #[.int .i64 z] w fun e w' => e = .returned (.bool (decide (0 ≤ z) && decide (z < 65))) ∧ w' = w := by
  go_enter Try.func38, Try.ntmps38
  go_wp2_with fail
  all_goals (go_ret; refine ⟨ret_bool ?_, rfl⟩)
  all_goals (rw [Bool.eq_iff_iff]; simp; try omega)

set_option maxRecDepth 100000 in
set_option maxHeartbeats 4000000 in
theorem may_any {w : World} {C : Array Value} {m : MsgT} {ao : Option Addr} {cap : Nat} (hC : MsgC C m ao cap) :
    Calls Try.prog 12 #[.agg C] w fun e w' => e = .returned (.bool (decide (mayP m))) ∧ Keeps Nothing w w' := by
  have B := blk_new w C 26
  have K := (Keeps.refl Nothing w).alloc (.cells C 26)
  have c0 := blk_cell B 0 hC.c0
  have c1 := blk_cell B 1 hC.c1
  have c2 := blk_cell B 2 hC.c2
  have c3 := blk_cell B 3 hC.c3
  have c4 := blk_cell B 4 hC.c4
  have c5 := blk_cell B 5 hC.c5
  have c38 := blk_cell B 38 hC.c38
  have c39 := blk_cell B 39 hC.c39
  have c40 := blk_cell B 40 hC.c40
  clear hC B
  obtain ⟨k, f, t, c, ep, nm, hs, hh, bl, sg⟩ := m
  simp only at c0 c1 c2 c3 c4 c5 c38 c39 c40
  obtain ⟨Z, hZ⟩ : ∃ Z, decide (mayP ⟨k, f, t, c, ep, nm, hs, hh, bl, sg⟩) = Z := ⟨_, rfl⟩
  rw [hZ]
  have HZ := shut hZ
  clear hZ
  go_enter Try.func12, Try.ntmps12
  go_wp2_with (go_at_call 38; refine (node_any _ _).mono ?_; rintro e w' ⟨rfl, rfl⟩)
  all_goals go_ret
  all_goals refine ⟨ret_bool ?_, K⟩
  all_goals (rw [← HZ.out]; clear HZ K c0 c1 c2 c3 c4 c5 c38 c39 c40)
  all_goals (rw [Bool.eq_iff_iff]; simp only [decide_eq_true_eq]; unfold mayP; simp only [Bool.false_eq_true, beq_iff_eq, bne_iff_ne, beq_eq_false_iff_ne, bne_eq_false_iff_eq, ne_eq] at *; constructor <;> intro hh0 <;> first | omega | exact hh0.elim)

end Go.Proofs.Yteifmkfkekglpaa
