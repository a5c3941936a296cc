/- The functions fault.New, usufructlaw1.Told, usufructlaw1.Is by contracts. -/
import Derived.Test.YtiliajnijjkcdaaDoorProg
import Derived.Test.YtiliajnijjkcdaaDoorMem
import Derived.WalkKit
import Derived.WalkLawsBesides
import Derived.Deep.QuietTactic
import Derived.BigQuiet
namespace Go.Proofs.YtiliajnijjkcdaaDoor
open Go.RowKit

theorem ret_bool {a b : Bool} (h : a = b) : Ending.returned (.bool a) = .returned (.bool b) := by rw [h]

theorem new_err (c at' : Int) (w : World) (hc : (c == 0) = false) :
    Calls Tryd.prog 18 #[.int .i64 c, .int .i64 at'] w fun e w' =>
      e = .returned (.iface 78 (.pointer (some ⟨w.heap.size, 0, none⟩))) ∧
      w' = w.alloc (.cells #[.int .i64 c, .int .i64 at', .iface 52 (.int .i64 c)] 80) := by
  go_enter Tryd.func18, Tryd.ntmps18
  go_wp2
  go_ret
  exact ⟨rfl, rfl⟩


/-- An error as the program makes it: none, or a fault of a code at a place that wraps the code itself. -/
def IsErr (B : Nat) (w : World) (v : Value) (c p : Int) : Prop :=
  (v = .nilIface ∧ c = 0 ∧ p = 0) ∨
  ∃ b, B ≤ b ∧ c ≠ 0 ∧ v = .iface 78 (.pointer (some ⟨b, 0, none⟩)) ∧ w.cell? ⟨b, 0, none⟩ = some (.int .i64 c) ∧ w.cell? ⟨b, 1, none⟩ = some (.int .i64 p) ∧
    w.cell? ⟨b, 2, none⟩ = some (.iface 52 (.int .i64 c))

theorem asFault (v : Value) (xT : TypeId) (w : World) : (Instr.typeAssert (.iface 78 v) xT 78 true).run Tryd.prog w = .ok (.tuple #[v, .bool true]) w := by kernel_rfl
theorem asFault_no (v : Value) (xT : TypeId) (w : World) : (Instr.typeAssert (.iface 52 v) xT 78 true).run Tryd.prog w = .ok (.tuple #[.pointer none, .bool false]) w := by kernel_rfl
attribute [local go_sem] asFault asFault_no

set_option maxRecDepth 100000 in
set_option maxHeartbeats 400000 in
theorem told_fault (b : Nat) (c p : Int) (w : World) (h0 : w.cell? ⟨b, 0, none⟩ = some (.int .i64 c)) (h1 : w.cell? ⟨b, 1, none⟩ = some (.int .i64 p))
    (h2 : w.cell? ⟨b, 2, none⟩ = some (.iface 52 (.int .i64 c))) :
    Calls Tryd.prog 26 #[.iface 78 (.pointer (some ⟨b, 0, none⟩))] w fun e w' =>
      e = .returned (.tuple #[.int .i64 c, .int .i64 p]) ∧ ∃ n, w' = w.drewN n := by
  go_enter Tryd.func26, Tryd.ntmps26
  go_wp2_with fail
  go_quiet (fail)
  go_wp2_with fail
  refine wp_loop_rounds 1 ?_
  rw [rounds_succ]
  go_wp2
  go_ret2
  exact ⟨rfl, _, rfl⟩

theorem told_nil (w : World) : Calls Tryd.prog 26 #[.nilIface] w fun e w' => e = .returned (.tuple #[.int .i64 0, .int .i64 0]) ∧ w' = w := by
  go_enter Tryd.func26, Tryd.ntmps26
  go_wp2
  go_ret2
  exact ⟨rfl, rfl⟩

theorem told_any {B : Nat} {w : World} {v : Value} {c p : Int} (h : IsErr B w v c p) :
    Calls Tryd.prog 26 #[v] w fun e w' => e = .returned (.tuple #[.int .i64 c, .int .i64 p]) ∧ ∃ n, w' = w.drewN n := by
  rcases h with ⟨rfl, rfl, rfl⟩ | ⟨b, _, _, rfl, h0, h1, h2⟩
  · exact (told_nil w).mono fun e w' ⟨he, hw⟩ => ⟨he, 0, hw⟩
  · exact told_fault b c p w h0 h1 h2

theorem is_any {B : Nat} {w : World} {v : Value} {c p : Int} (h : IsErr B w v c p) (x y : Int) :
    Calls Tryd.prog 10 #[v, .int .i64 x, .int .i64 y] w fun e w' => e = .returned (.bool (decide (c = x ∧ p = y))) ∧ ∃ n, w' = w.drewN n := by
  go_enter Tryd.func10, Tryd.ntmps10
  go_wp2_with fail
  refine (told_any h).mono ?_
  rintro e w' ⟨rfl, n, rfl⟩
  go_wp2
  · go_ret
    refine ⟨ret_bool ?_, _, rfl⟩
    have hc : c = x := by assumption
    rw [Bool.eq_iff_iff]; simp [hc]
  · go_ret
    refine ⟨ret_bool ?_, _, rfl⟩
    have hc : ¬ c = x := by assumption
    simp [hc]

theorem IsErr.keeps {B : Nat} {S : Nat → Prop} {w w' : World} {v : Value} {c p : Int} (h : IsErr B w v c p) (k : Keeps S w w') (hS : ∀ i, S i → i < B) : IsErr B w' v c p := by
  rcases h with h | ⟨b, hb, hc, hv, h0, h1, h2⟩
  · exact .inl h
  · have hn : ¬ S b := fun hs => by have := hS b hs; omega
    exact .inr ⟨b, hb, hc, hv, k.cell h0 hn, k.cell h1 hn, k.cell h2 hn⟩

theorem isErr_new (w : World) (c p : Int) (hc : (c == 0) = false) : IsErr w.heap.size (w.alloc (.cells #[.int .i64 c, .int .i64 p, .iface 52 (.int .i64 c)] 80)) (.iface 78 (.pointer (some ⟨w.heap.size, 0, none⟩))) c p :=
  .inr ⟨w.heap.size, Nat.le_refl _, by simpa using hc, rfl, by simp, by simp, by simp⟩

theorem isErr_yes {B : Nat} {w : World} {v : Value} {c p : Int} (h : IsErr B w v c p) (hc : c ≠ 0) : ∃ b, v = .iface 78 (.pointer (some ⟨b, 0, none⟩)) := by
  rcases h with ⟨_, h0, _⟩ | ⟨b, _, _, h, _⟩
  · exact absurd h0 hc
  · exact ⟨b, h⟩
theorem isErr_no {B : Nat} {w : World} {v : Value} {p : Int} (h : IsErr B w v 0 p) : v = .nilIface := by
  rcases h with ⟨h, _, _⟩ | ⟨b, _, h, _⟩
  · exact h
  · exact absurd rfl h

theorem isErr_nil (B : Nat) (w : World) : IsErr B w .nilIface 0 0 := .inl ⟨rfl, rfl, rfl⟩

end Go.Proofs.YtiliajnijjkcdaaDoor
