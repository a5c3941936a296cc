/- usufructlaw2.Op as data; usufructlaw2.write. -/
import Derived.Test.YteifmkfkekglpaaDoorBack2
import Derived.Test.YteifmkfkekglpaaDoorMid
namespace Go.Proofs.YteifmkfkekglpaaDoor
open Go.RowKit

structure OpD where
  kind : Int
  n : Int
  most : Int
  v : Nat
  b : Bool
  s : ByteArray
  h : List UInt8

structure OpD.Fit (o : OpD) : Prop where
  n0 : -9223372036854775808 ≤ o.n
  n1 : o.n < 9223372036854775808
  m0 : -9223372036854775808 ≤ o.most
  m1 : o.most < 9223372036854775808
  v1 : o.v < 18446744073709551616
  h32 : o.h.length = 32

def opCells (o : OpD) : List Value := [.int .i64 o.kind, .int .i64 o.n, .int .i64 o.most, .int .u64 o.v, .bool o.b, .string o.s] ++ o.h.map byteV
/-- Which of six. -/
def kindN (o : OpD) : Int := ((o.kind.tmod 6) + 6).tmod 6
def encB (b : Bool) : List UInt8 := [if b then 1 else 0]
def encOp (o : OpD) : List UInt8 :=
  if kindN o = 0 ∨ kindN o = 2 then encU o.v else if kindN o = 1 then encI o.n else if kindN o = 3 then encB o.b else if kindN o = 4 then encS (bytesOf o.s) else o.h

theorem kindN_bd (o : OpD) : 0 ≤ kindN o ∧ kindN o ≤ 5 := by
  unfold kindN
  have h1 := Int.tmod_lt_of_pos o.kind (show (0 : Int) < 6 by decide)
  have h2 : -6 < o.kind.tmod 6 := by
    have := Int.lt_tmod_of_pos o.kind (show (0 : Int) < 6 by decide)
    omega
  rw [Int.tmod_eq_emod_of_nonneg (by omega)]
  omega

theorem kindN_walk (o : OpD) : (wrap64 (o.kind.tmod 6 + 6)).tmod 6 = kindN o := by
  have h1 := Int.tmod_lt_of_pos o.kind (show (0 : Int) < 6 by decide)
  have h2 := Int.lt_tmod_of_pos o.kind (show (0 : Int) < 6 by decide)
  rw [IntWalk.wrap64_in _ (by omega)]
  rfl

theorem opCells_length (o : OpD) (h : o.h.length = 32) : (opCells o).length = 38 := by simp [opCells, h]

/-- The end of 'write'. -/
def WrittenPost (w : World) (p : Nat) (ao : Option Addr) (bs l : List UInt8) (e : Ending) (w' : World) : Prop :=
  e = .returned (.string ⟨l.toArray⟩) ∧ ∃ ao' cap', Wr w' p ao' cap' (bs ++ l) ∧ Keeps (WrF p ao) w w' ∧ Moved w.heap.size ao ao'

theorem Written.of {w w1 w' : World} {p : Nat} {ao ao1 : Option Addr} {cap1 : Nat} {bs l : List UInt8} {wb : World} (hb : Keeps Nothing w wb) (h1 : Wr w1 p ao1 cap1 (bs ++ l)) (h2 : Keeps (WrF p ao) wb w1) (h3 : Moved wb.heap.size ao ao1) (h4 : Keeps Nothing w1 w') :
    ∃ ao' cap', Wr w' p ao' cap' (bs ++ l) ∧ Keeps (WrF p ao) w w' ∧ Moved w.heap.size ao ao' :=
  ⟨ao1, cap1, ⟨h4.blk h1.blk (fun h => h), h4.own h1.own (fun _ _ h => h)⟩, ((hb.mono (fun _ h _ => h.elim)).trans h2 (fun _ h _ => h)).trans h4 (fun _ h _ => h.elim), h3.mono hb.size⟩

theorem infoHash2 : (Tryd.prog.info? 70).map (·.size) = some 32 := by kernel_rfl
theorem exec_mid_hash (ρ : Operand → Value) (dst : Option Tmp) (x : Operand) (ty' : TypeId) (pos : String) (af : Array Edge) (gd : Option (Nat × Bool)) (w : World) (h : midOkV w 32 (ρ x) = true) :
    (execOp ρ ⟨dst, .load 70 x, ty', pos, af, gd⟩).run Tryd.prog w = .ok (.value (.agg (midOfV w 32 (ρ x)))) w :=
  exec_load_mid _ 32 _ Tryd.underlying70 rfl infoHash2 ρ dst x ty' pos af gd w h

attribute [local go_sem ↓] exec_mid_hash

end Go.Proofs.YteifmkfkekglpaaDoor
