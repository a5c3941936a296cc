/- The functions fault.New, usufructlaw1.Told, usufructlaw1.Is by contracts. -/
import Derived.Test.YtnpndnnoelnodaaDoorProg
import Derived.Test.YtnpndnnoelnodaaDoorMem
import Derived.WalkKit
import Derived.WalkLawsBesides
import Derived.Deep.QuietTactic
import Derived.BigQuiet
namespace Go.Proofs.YtnpndnnoelnodaaDoor
open Go.RowKit

theorem ret_bool {a b : Bool} (h : a = b) : Ending.returned (.bool a) = .returned (.bool b) := by rw [h]

theorem new_err (c at' : Int) (w : World) (hc : (c == 0) = false) :
    Calls Tryd.prog 7 #[.int .i64 c, .int .i64 at'] w fun e w' =>
      e = .returned (.iface 34 (.pointer (some ⟨w.heap.size, 0, none⟩))) ∧
      w' = w.alloc (.cells #[.int .i64 c, .int .i64 at', .iface 27 (.int .i64 c)] 37) := by
  go_enter Tryd.func7, Tryd.ntmps7
  go_wp2
  go_ret
  exact ⟨rfl, rfl⟩


/-- An error as the program makes it: none, or a fault of a code at a place that wraps the code itself. -/
def IsErr (B : Nat) (w : World) (v : Value) (c p : Int) : Prop :=
  (v = .nilIface ∧ c = 0 ∧ p = 0) ∨
  ∃ b, B ≤ b ∧ c ≠ 0 ∧ v = .iface 34 (.pointer (some ⟨b, 0, none⟩)) ∧ w.cell? ⟨b, 0, none⟩ = some (.int .i64 c) ∧ w.cell? ⟨b, 1, none⟩ = some (.int .i64 p) ∧
    w.cell? ⟨b, 2, none⟩ = some (.iface 27 (.int .i64 c))

theorem asFault (v : Value) (xT : TypeId) (w : World) : (Instr.typeAssert (.iface 34 v) xT 34 true).run Tryd.prog w = .ok (.tuple #[v, .bool true]) w := by kernel_rfl
theorem asFault_no (v : Value) (xT : TypeId) (w : World) : (Instr.typeAssert (.iface 27 v) xT 34 true).run Tryd.prog w = .ok (.tuple #[.pointer none, .bool false]) w := by kernel_rfl
attribute [local go_sem] asFault asFault_no

theorem IsErr.keeps {B : Nat} {S : Nat → Prop} {w w' : World} {v : Value} {c p : Int} (h : IsErr B w v c p) (k : Keeps S w w') (hS : ∀ i, S i → i < B) : IsErr B w' v c p := by
  rcases h with h | ⟨b, hb, hc, hv, h0, h1, h2⟩
  · exact .inl h
  · have hn : ¬ S b := fun hs => by have := hS b hs; omega
    exact .inr ⟨b, hb, hc, hv, k.cell h0 hn, k.cell h1 hn, k.cell h2 hn⟩

theorem isErr_new (w : World) (c p : Int) (hc : (c == 0) = false) : IsErr w.heap.size (w.alloc (.cells #[.int .i64 c, .int .i64 p, .iface 27 (.int .i64 c)] 37)) (.iface 34 (.pointer (some ⟨w.heap.size, 0, none⟩))) c p :=
  .inr ⟨w.heap.size, Nat.le_refl _, by simpa using hc, rfl, by simp, by simp, by simp⟩

theorem isErr_yes {B : Nat} {w : World} {v : Value} {c p : Int} (h : IsErr B w v c p) (hc : c ≠ 0) : ∃ b, v = .iface 34 (.pointer (some ⟨b, 0, none⟩)) := by
  rcases h with ⟨_, h0, _⟩ | ⟨b, _, _, h, _⟩
  · exact absurd h0 hc
  · exact ⟨b, h⟩
theorem isErr_no {B : Nat} {w : World} {v : Value} {p : Int} (h : IsErr B w v 0 p) : v = .nilIface := by
  rcases h with ⟨h, _, _⟩ | ⟨b, _, h, _⟩
  · exact h
  · exact absurd rfl h

theorem isErr_nil (B : Nat) (w : World) : IsErr B w .nilIface 0 0 := .inl ⟨rfl, rfl, rfl⟩

end Go.Proofs.YtnpndnnoelnodaaDoor
