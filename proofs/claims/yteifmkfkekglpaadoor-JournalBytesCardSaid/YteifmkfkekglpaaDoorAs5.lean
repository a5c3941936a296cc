/- fault.New as a chain; usufructlaw1.told. -/
import Derived.Test.YteifmkfkekglpaaDoorAs4
namespace Go.Proofs.YteifmkfkekglpaaDoor
open Go.RowKit Go.Extern.Stop Go.Stop Go.Extern

theorem new_zero (p : Int) (w : World) : Calls Tryd.prog 28 #[.int .i64 0, .int .i64 p] w fun e w' => e = .returned .nilIface ∧ w' = w := by
  go_enter Tryd.func28, Tryd.ntmps28
  go_wp2_with fail
  go_ret
  exact ⟨rfl, rfl⟩
theorem new_chain (c p : Int) (hc : (c == 0) = false) (w : World) :
    Calls Tryd.prog 28 #[.int .i64 c, .int .i64 p] w fun e w' => ∃ b, e = .returned (.iface 83 (.pointer (some ⟨b, 0, none⟩))) ∧ w.heap.size ≤ b ∧ FChain w' c [p] (.iface 83 (.pointer (some ⟨b, 0, none⟩))) ∧ Keeps Nothing w w' := by
  refine (new_err c p w hc).mono fun e w' ⟨he, hw⟩ => ?_
  subst hw
  exact ⟨_, he, Nat.le_refl _, chain_new w c p, (Keeps.refl _ _).alloc _⟩
theorem ints_new (w : World) (a b : Int) : IntsAt (w.alloc (.cells #[.int .i64 a, .int .i64 b] 3)) (some ⟨w.heap.size, 0, none⟩) [a, b] :=
  ⟨fun e => (by cases e), fun x e j z hj => by
    obtain rfl := Option.some.inj e
    match j, hj with
    | 0, hj => simp at hj; subst hj; exact blk_cell (blk_new w _ _) 0 rfl
    | 1, hj => simp at hj; subst hj; exact blk_cell (blk_new w _ _) 1 rfl⟩
theorem ints_one (w : World) (a : Int) : IntsAt (w.alloc (.cells #[.int .i64 a] 3)) (some ⟨w.heap.size, 0, none⟩) [a] :=
  ⟨fun e => (by cases e), fun x e j z hj => by
    obtain rfl := Option.some.inj e
    match j, hj with
    | 0, hj => simp at hj; subst hj; exact blk_cell (blk_new w _ _) 0 rfl⟩
theorem ints_none (w : World) : IntsAt w none [] := ⟨fun _ => rfl, fun _ e => (by cases e)⟩

end Go.Proofs.YteifmkfkekglpaaDoor
