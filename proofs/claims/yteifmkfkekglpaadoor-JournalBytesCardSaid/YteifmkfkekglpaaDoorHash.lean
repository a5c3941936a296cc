/- api.Hash by value. -/
import Derived.Test.YteifmkfkekglpaaDoorBytes
import Derived.Test.YteifmkfkekglpaaDoorRowsV
import Derived.Deep.DrawnRows
namespace Go.Proofs.YteifmkfkekglpaaDoor
open Go.RowKit

def zeros32 : List UInt8 := List.replicate 32 0

/-- A hash as a value. -/
def hashV (h : List UInt8) : Value := .agg (h.map byteV).toArray

theorem infoHash : (Tryd.prog.info? 70).map (·.size) = some 32 := by kernel_rfl

theorem exec_load_hash (ρ : Operand → Value) (dst : Option Tmp) (x : Operand) (ty' : TypeId) (pos : String) (af : Array Edge) (gd : Option (Nat × Bool)) (w : World) (h : rowOkV w 32 (ρ x) = true) :
    (execOp ρ ⟨dst, .load 70 x, ty', pos, af, gd⟩).run Tryd.prog w = .ok (.value (.agg (rowOfV w (ρ x)))) w :=
  exec_load _ _ 32 Tryd.underlying70 infoHash ρ dst x ty' pos af gd w h

theorem exec_store_hash (ρ : Operand → Value) (dst : Option Tmp) (x y : Operand) (ty' : TypeId) (pos : String) (af : Array Edge) (gd : Option (Nat × Bool)) (w : World) (h : rowOkV w 32 (ρ x) = true) (hy : aggOk 32 (ρ y) = true) :
    (execOp ρ ⟨dst, .store 70 x y, ty', pos, af, gd⟩).run Tryd.prog w = .ok .skip (rowSetV w (ρ x) (aggOf (ρ y))) :=
  exec_store _ 32 infoHash ρ dst x y ty' pos af gd w h hy

theorem zeros32_lit : (zeros32.map byteV).toArray = #[.int .u8 0, .int .u8 0, .int .u8 0, .int .u8 0, .int .u8 0, .int .u8 0, .int .u8 0, .int .u8 0, .int .u8 0, .int .u8 0, .int .u8 0, .int .u8 0, .int .u8 0, .int .u8 0, .int .u8 0, .int .u8 0,
   .int .u8 0, .int .u8 0, .int .u8 0, .int .u8 0, .int .u8 0, .int .u8 0, .int .u8 0, .int .u8 0, .int .u8 0, .int .u8 0, .int .u8 0, .int .u8 0, .int .u8 0, .int .u8 0, .int .u8 0, .int .u8 0] := rfl

theorem results_row_tmp {P : Program} {fn : Func} {p u : Tmp} {ty : TypeId} (h : fn.results = #[.cell p ty, .tmp u]) (tmps : Array Value) (w : World) (g : Nat) (cs : Array Value) (ev : Value)
    (hp : tmps.getD p undef = .pointer (some ⟨g, 0, none⟩)) (hu : tmps.getD u undef = ev) (hl : (loadVar ty ⟨g, 0, none⟩).run P w = .ok (.agg cs) w) : (results fn tmps).run P w = .ok (.tuple #[.agg cs, ev]) w := by
  rw [results_cell_tmp h, hp, hu]
  simp [asAddr, hl]

theorem loadVar_hash (w : World) (g : Nat) (cs : Array Value) (t : TypeId) (hb : Blk w g cs t) (hs : cs.size = 32) : (loadVar 70 ⟨g, 0, none⟩).run Tryd.prog w = .ok (.agg cs) w :=
  run_loadVar_row w g t _ cs (0, 0) _ hb Tryd.underlying70 rfl (by rw [infoHash, hs])

/-- copy over a whole row, as one step of a region that draws its order. -/
theorem step_copy_whole {P : Program} {ops : Array Oper} {o : Oper} {a : Act} {w : World} {K : Act → World → Prop} {Q : Exit → Act → World → Prop} {E : Prop} (hgd : o.guard = none) (d s : Operand) (dT sT : TypeId)
    (ho : o.op = .call { callee := .builtin .copy, args := #[d, s], argTypes := #[dT, sT] }) (elem : TypeId) (hu : P.underlying dT = some (.slice elem)) (hsz : (P.info? elem).map (·.size) = some 1)
    (g dLen dCap : Nat) (ad : Addr) (sLen sCap : Nat) (hd : a.eval d = .slice (some ⟨g, 0, none⟩) dLen dCap) (hs : a.eval s = .slice (some ad) sLen sCap)
    (cur : Array Value) (t : TypeId) (hg : w.heap[g]? = some (.cells cur t (0, 0))) (cs : List Value) (hn : cs.length = Nat.min sLen dLen)
    (hsrc : ∀ j v, cs[j]? = some v → w.cell? (ad.add j) = some v) (hfit : cs.length = cur.size) (h1 : ∀ v ∈ cs, v.oneCell' = true)
    (h : K (a.put o.dst (goInt cs.length)) (w.setRow g cs.toArray)) :
    if Region.wanted o (yielded ops a.tmps) = true then Oper.wp P o a w K Q else E := by
  have hw : Region.wanted o (yielded ops a.tmps) = true := by simp [Region.wanted, hgd]
  rw [if_pos hw]
  have hrun := run_copy_row (P := P) w dT sT o.type elem g 0 dLen dCap ad sLen sCap cur t cs hu hsz hg hn hsrc (by omega) h1
  have e : (cur.toList.take 0 ++ cs ++ cur.toList.drop (0 + cs.length)) = cs := by
    rw [Nat.zero_add, hfit, List.drop_of_length_le (by simp)]; simp
  rw [e] at hrun
  unfold Oper.wp
  simp [execOp, ho, resolve, invoke, builtin, hd, hs, hrun, Result.andThen]
  exact h

theorem info8s : (Tryd.prog.info? 5).map (·.size) = some 1 := by kernel_rfl

theorem cellsHash : Tryd.prog.cellsOf 70 = 32 := by kernel_rfl

end Go.Proofs.YteifmkfkekglpaaDoor
