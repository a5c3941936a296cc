/- lex.Name, name, life. -/
import Derived.Test.YtgnpklheohaghaaLex3
import Derived.Test.YtgnpklheohaghaaRowsV
import Derived.Laws.ResultCell
import Derived.Laws.Rows
import Derived.Deep.DrawnRows
import Derived.Deep.WholeRow
namespace Go.Proofs.Ytgnpklheohaghaa
open Go.RowKit

/-- A token's cells. -/
def tokA (k : Nat) (t : List UInt8) (p : Nat) : Array Value := #[.int .i64 k, .string ⟨t.toArray⟩, .int .i64 p]
/-- What next and its like return: a token and where it ends; no token: 0. -/
def outT (i : Nat) : Option (Nat × List UInt8 × Nat) → Value
  | none => .tuple #[.agg (tokA 0 [] 0), .int .i64 0]
  | some (k, t, m) => .tuple #[.agg (tokA k t i), .int .i64 ((i + m : Nat) : Int)]
def TokPost (w : World) (i : Nat) (r : Option (Nat × List UInt8 × Nat)) (e : Ending) (w' : World) : Prop := e = .returned (outT i r) ∧ Keeps Nothing w w'

theorem infoTok : (Try.prog.info? 29).map (·.size) = some 3 := by kernel_rfl
theorem exec_store_tok (ρ : Operand → Value) (dst : Option Tmp) (x y : Operand) (ty' : TypeId) (pos : String) (af : Array Edge) (gd : Option (Nat × Bool)) (w : World) (h : rowOkV w 3 (ρ x) = true) (hy : aggOk 3 (ρ y) = true) :
    (execOp ρ ⟨dst, .store 29 x y, ty', pos, af, gd⟩).run Try.prog w = .ok .skip (rowSetV w (ρ x) (aggOf (ρ y))) :=
  exec_store _ 3 infoTok ρ dst x y ty' pos af gd w h hy
theorem aggOk_tok (k : Int) (s : ByteArray) (p : Int) : aggOk 3 (.agg #[.int .i64 k, .string s, .int .i64 p]) = true := by simp [aggOk, Value.oneCell']
theorem loadVar_tok (w : World) (g : Nat) (cs : Array Value) (t : TypeId) (hb : Blk w g cs t) (hs : cs.size = 3) : (loadVar 29 ⟨g, 0, none⟩).run Try.prog w = .ok (.agg cs) w :=
  run_loadVar_row w g t _ cs (0, 0) _ hb Try.underlying29 rfl (by rw [infoTok, hs])
theorem results_row_tmp {P : Program} {fn : Func} {p u : Tmp} {ty : TypeId} (h : fn.results = #[.cell p ty, .tmp u]) (tmps : Array Value) (w : World) (g : Nat) (cs : Array Value) (ev : Value)
    (hp : tmps.getD p undef = .pointer (some ⟨g, 0, none⟩)) (hu : tmps.getD u undef = ev) (hl : (loadVar ty ⟨g, 0, none⟩).run P w = .ok (.agg cs) w) : (results fn tmps).run P w = .ok (.tuple #[.agg cs, ev]) w := by
  rw [results_cell_tmp h, hp, hu]
  simp [asAddr, hl]
attribute [local go_sem ↓] exec_store_tok
attribute [local go_sem] rowOk_new World.setRow_alloc_new aggOk_tok

theorem tw_take (l : List UInt8) : l.take (runN l) = l.takeWhile goC := by
  unfold runN
  induction l with
  | nil => rfl
  | cons c l ih =>
    rw [List.takeWhile_cons]
    split
    · rw [List.length_cons, List.take_succ_cons, ih]
    · rfl
theorem runN_le (l : List UInt8) : runN l ≤ l.length := tw_len l

/-- Which texts are names. -/
def isName (t : List UInt8) : Bool := decide (t ≠ []) && (decide (t.length ≤ 32) && (lifeOk t && (decide (runN t = t.length) && !isWord t)))

def nameR (l : List UInt8) : Option (Nat × List UInt8 × Nat) := if isWord (l.takeWhile goC) then some (2, l.takeWhile goC, runN l) else if runN l ≤ 32 then some (1, l.takeWhile goC, runN l) else none

set_option maxHeartbeats 1000000 in
theorem name_any (w : World) (s : List UInt8) (hs : s.length < 9223372036854775808) (i : Nat) (hi : i ≤ s.length) :
    Calls Try.prog 34 #[.string ⟨s.toArray⟩, .int .i64 (i : Int)] w (TokPost w i (nameR (s.drop i))) := by
  have hrn := runN_le (s.drop i)
  rw [List.length_drop] at hrn
  have htw := tw_take (s.drop i)
  have hra := fun W => run_any W s hs i hi
  unfold nameR
  rw [← htw]
  obtain ⟨n, hn⟩ : ∃ n, runN (s.drop i) = n := ⟨_, rfl⟩
  rw [hn] at hrn hra ⊢
  have hcut := fun W => str_cut s (i := i) (n := n) (j := i + n) rfl (by omega) W
  have hTl : ((s.drop i).take n).length = n := by rw [List.length_take, List.length_drop]; omega
  obtain ⟨j, hj⟩ : ∃ j, i + n = j := ⟨_, rfl⟩
  rw [hj] at hra hcut
  have HJ := shut hj
  generalize (s.drop i).take n = T at *
  have hsz : (ByteArray.mk T.toArray).size = n := hTl
  have HTL := shut hTl
  clear hTl htw hn hj
  have B1 := blk_new w (tokA 0 [] 0) 29
  by_cases h1 : isWord T = true
  · rw [if_pos h1]
    go_enter Try.func34, Try.ntmps34
    go_wp2_with fail
    refine (hra _).mono ?_
    rintro e w' ⟨rfl, rfl⟩
    go_wp2_with fail
    refine (word_any _ T).mono ?_
    rintro e w' ⟨rfl, rfl⟩
    rw [h1]
    go_wp2_with fail
    refine bodyPost_ret (v := .tuple #[.agg (tokA 2 T i), .int .i64 j]) (results_row_tmp rfl _ _ w.heap.size (tokA 2 T i) _ rfl rfl (loadVar_tok _ _ _ _ (blk_new w _ _) rfl)) rfl ?_
    exact ⟨by rw [← HJ.out]; rfl, (Keeps.refl _ _).alloc _⟩
  · rw [if_neg h1]
    rw [Bool.not_eq_true] at h1
    by_cases h2 : n ≤ 32
    · rw [if_pos h2]
      have m2 : (n : Int) ≤ 32 := by omega
      go_enter Try.func34, Try.ntmps34
      go_wp2_with fail
      refine (hra _).mono ?_
      rintro e w' ⟨rfl, rfl⟩
      go_wp2_with fail
      refine (word_any _ T).mono ?_
      rintro e w' ⟨rfl, rfl⟩
      rw [h1]
      go_wp2_with fail
      refine bodyPost_ret (v := .tuple #[.agg (tokA 1 T i), .int .i64 j]) (results_row_tmp rfl _ _ w.heap.size (tokA 1 T i) _ rfl rfl (loadVar_tok _ _ _ _ (blk_new w _ _) rfl)) rfl ?_
      exact ⟨by rw [← HJ.out]; rfl, (Keeps.refl _ _).alloc _⟩
    · rw [if_neg h2]
      have m2 : ¬ (n : Int) ≤ 32 := by omega
      go_enter Try.func34, Try.ntmps34
      go_wp2_with fail
      refine (hra _).mono ?_
      rintro e w' ⟨rfl, rfl⟩
      go_wp2_with fail
      refine (word_any _ T).mono ?_
      rintro e w' ⟨rfl, rfl⟩
      rw [h1]
      go_wp2_with fail
      refine bodyPost_ret (v := .tuple #[.agg (tokA 0 [] 0), .int .i64 0]) (results_row_tmp rfl _ _ w.heap.size (tokA 0 [] 0) _ rfl rfl (loadVar_tok _ _ _ _ (blk_new w _ _) rfl)) rfl ?_
      exact ⟨rfl, (Keeps.refl _ _).alloc _⟩

def lifeR (r : List UInt8) : Option (Nat × List UInt8 × Nat) := if lifeOk r then some (3, r.takeWhile goC, runN r + 1) else none

set_option maxHeartbeats 1000000 in
theorem life_any (w : World) (s : List UInt8) (hs : s.length < 9223372036854775807) (i : Nat) (hi : i < s.length) :
    Calls Try.prog 36 #[.string ⟨s.toArray⟩, .int .i64 (i : Int)] w (TokPost w i (lifeR (s.drop (i + 1)))) := by
  obtain ⟨i1, hi1⟩ : ∃ i1, i + 1 = i1 := ⟨_, rfl⟩
  rw [hi1]
  have e1 : IntKind.i64.wrap ((i : Int) + 1) = (i1 : Int) := by rw [IntKind.wrap_i64]; omega
  have e1b : wrap64 ((i : Int) + 1) = (i1 : Int) := by unfold wrap64; omega
  have e1c : (i : Int) + 1 = (i1 : Int) := by omega
  have hsz0 : (ByteArray.mk s.toArray).size = s.length := rfl
  unfold lifeR
  have HI1 := shut hi1
  by_cases hend : i1 = s.length
  · have hd : s.drop i1 = [] := List.drop_of_length_le (by omega)
    rw [hd]
    have m1 : (i1 : Int) = s.length := by omega
    clear hi1
    go_enter Try.func36, Try.ntmps36
    go_wp2_with fail
    refine bodyPost_ret (v := .tuple #[.agg (tokA 0 [] 0), .int .i64 0]) (results_row_tmp rfl _ _ w.heap.size (tokA 0 [] 0) _ rfl rfl (loadVar_tok _ _ _ _ (blk_new w _ _) rfl)) rfl ?_
    exact ⟨rfl, (Keeps.refl _ _).alloc _⟩
  · obtain ⟨c, hc⟩ : ∃ c, s[i1]? = some c := ⟨_, List.getElem?_eq_getElem (by omega)⟩
    have hix := fun kk W => str_at s hc kk W
    have hdc := drop_cons hc
    have m1 : ¬ (i1 : Int) = s.length := by omega
    have hb1 : ((i1 : Int) == (s.length : Int)) = false := by rw [beq_eq_false_iff_ne]; exact m1
    have HC := shut hc
    clear hc
    by_cases hb : begC c = true
    · have hrn := runN_le (s.drop i1)
      rw [List.length_drop] at hrn
      have htw := tw_take (s.drop i1)
      have hra := fun W => run_any W s (by omega) i1 (by omega)
      have hlk : lifeOk (s.drop i1) = decide (runN (s.drop i1) ≤ 32) := by rw [hdc]; show (begC c && _) = _; rw [hb]; rfl
      rw [hlk, ← htw]
      obtain ⟨n, hn⟩ : ∃ n, runN (s.drop i1) = n := ⟨_, rfl⟩
      rw [hn] at hrn hra ⊢
      have hcut := fun W => str_cut s (i := i1) (n := n) (j := i1 + n) rfl (by omega) W
      obtain ⟨j, hj⟩ : ∃ j, i1 + n = j := ⟨_, rfl⟩
      rw [hj] at hra hcut
      have HJ := shut hj
      have e2 : IntKind.i64.wrap ((j : Int) - (i : Int)) = (j : Int) - i := by rw [IntKind.wrap_i64]; omega
      have e3 : IntKind.i64.wrap ((j : Int) - (i : Int) - 1) = (n : Int) := by rw [IntKind.wrap_i64]; omega
      have e4 : wrap64 ((j : Int) - (i : Int) - 1) = (n : Int) := by unfold wrap64; omega
      have e5 : wrap64 ((j : Int) - (i : Int)) = (j : Int) - i := by unfold wrap64; omega
      have e6 : (j : Int) - (i : Int) - 1 = (n : Int) := by omega
      generalize (s.drop i1).take n = T at *
      clear htw hn hj hlk hdc hi1
      by_cases h2 : n ≤ 32
      · rw [if_pos (by simpa using h2)]
        have m2 : ¬ (32 : Int) < n := by omega
        go_enter Try.func36, Try.ntmps36
        go_wp2_with fail
        refine (begins_any _ c).mono ?_
        rintro e w' ⟨rfl, rfl⟩
        rw [hb]
        go_wp2_with fail
        refine (hra _).mono ?_
        rintro e w' ⟨rfl, rfl⟩
        go_wp2_with fail
        refine bodyPost_ret (v := .tuple #[.agg (tokA 3 T i), .int .i64 j]) (results_row_tmp rfl _ _ w.heap.size (tokA 3 T i) _ rfl rfl (loadVar_tok _ _ _ _ (blk_new w _ _) rfl)) rfl ?_
        exact ⟨by rw [← HJ.out, ← HI1.out, Nat.add_assoc, Nat.add_comm 1 n]; rfl, (Keeps.refl _ _).alloc _⟩
      · rw [if_neg (by simpa using h2)]
        have m2 : (32 : Int) < n := by omega
        go_enter Try.func36, Try.ntmps36
        go_wp2_with fail
        refine (begins_any _ c).mono ?_
        rintro e w' ⟨rfl, rfl⟩
        rw [hb]
        go_wp2_with fail
        refine (hra _).mono ?_
        rintro e w' ⟨rfl, rfl⟩
        go_wp2_with fail
        refine bodyPost_ret (v := .tuple #[.agg (tokA 0 [] 0), .int .i64 0]) (results_row_tmp rfl _ _ w.heap.size (tokA 0 [] 0) _ rfl rfl (loadVar_tok _ _ _ _ (blk_new w _ _) rfl)) rfl ?_
        exact ⟨rfl, (Keeps.refl _ _).alloc _⟩
    · have hlk : lifeOk (s.drop i1) = false := by rw [hdc]; show (begC c && _) = _; rw [Bool.not_eq_true] at hb; rw [hb]; rfl
      rw [hlk]
      rw [Bool.not_eq_true] at hb
      clear hlk hdc hi1
      go_enter Try.func36, Try.ntmps36
      go_wp2_with fail
      refine (begins_any _ c).mono ?_
      rintro e w' ⟨rfl, rfl⟩
      rw [hb]
      go_wp2_with fail
      refine bodyPost_ret (v := .tuple #[.agg (tokA 0 [] 0), .int .i64 0]) (results_row_tmp rfl _ _ w.heap.size (tokA 0 [] 0) _ rfl rfl (loadVar_tok _ _ _ _ (blk_new w _ _) rfl)) rfl ?_
      exact ⟨rfl, (Keeps.refl _ _).alloc _⟩

end Go.Proofs.Ytgnpklheohaghaa
