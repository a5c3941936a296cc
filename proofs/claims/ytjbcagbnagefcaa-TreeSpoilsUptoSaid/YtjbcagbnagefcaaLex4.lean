/- lex.Name, name, life. -/
import Derived.Test.YtjbcagbnagefcaaLex3
import Derived.Test.YtjbcagbnagefcaaRowsV
import Derived.Laws.ResultCell
import Derived.Laws.Rows
import Derived.Deep.DrawnRows
import Derived.Deep.WholeRow
namespace Go.Proofs.Ytjbcagbnagefcaa
open Go.RowKit

/-- A token's cells. -/
def tokA (k : Nat) (t : List UInt8) (p : Nat) : Array Value := #[.int .i64 k, .string ⟨t.toArray⟩, .int .i64 p]
/-- What next and its like return: a token and where it ends; no token: 0. -/
def outT (i : Nat) : Option (Nat × List UInt8 × Nat) → Value
  | none => .tuple #[.agg (tokA 0 [] 0), .int .i64 0]
  | some (k, t, m) => .tuple #[.agg (tokA k t i), .int .i64 ((i + m : Nat) : Int)]
def TokPost (w : World) (i : Nat) (r : Option (Nat × List UInt8 × Nat)) (e : Ending) (w' : World) : Prop := e = .returned (outT i r) ∧ Keeps Nothing w w'

theorem aggOk_tok (k : Int) (s : ByteArray) (p : Int) : aggOk 3 (.agg #[.int .i64 k, .string s, .int .i64 p]) = true := by simp [aggOk, Value.oneCell']
theorem results_row_tmp {P : Program} {fn : Func} {p u : Tmp} {ty : TypeId} (h : fn.results = #[.cell p ty, .tmp u]) (tmps : Array Value) (w : World) (g : Nat) (cs : Array Value) (ev : Value)
    (hp : tmps.getD p undef = .pointer (some ⟨g, 0, none⟩)) (hu : tmps.getD u undef = ev) (hl : (loadVar ty ⟨g, 0, none⟩).run P w = .ok (.agg cs) w) : (results fn tmps).run P w = .ok (.tuple #[.agg cs, ev]) w := by
  rw [results_cell_tmp h, hp, hu]
  simp [asAddr, hl]
attribute [local go_sem] rowOk_new World.setRow_alloc_new aggOk_tok

theorem tw_take (l : List UInt8) : l.take (runN l) = l.takeWhile goC := by
  unfold runN
  induction l with
  | nil => rfl
  | cons c l ih =>
    rw [List.takeWhile_cons]
    split
    · rw [List.length_cons, List.take_succ_cons, ih]
    · rfl
theorem runN_le (l : List UInt8) : runN l ≤ l.length := tw_len l

/-- Which texts are names. -/
def isName (t : List UInt8) : Bool := decide (t ≠ []) && (decide (t.length ≤ 32) && (lifeOk t && (decide (runN t = t.length) && !isWord t)))

def nameR (l : List UInt8) : Option (Nat × List UInt8 × Nat) := if isWord (l.takeWhile goC) then some (2, l.takeWhile goC, runN l) else if runN l ≤ 32 then some (1, l.takeWhile goC, runN l) else none

def lifeR (r : List UInt8) : Option (Nat × List UInt8 × Nat) := if lifeOk r then some (3, r.takeWhile goC, runN r + 1) else none

end Go.Proofs.Ytjbcagbnagefcaa
