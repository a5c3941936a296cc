/- One operation of a list at a time. -/
import Derived.Test.YteifmkfkekglpaaDoorMix
import Derived.Test.YteifmkfkekglpaaDoorMem
namespace Go.Proofs.YteifmkfkekglpaaDoor
open Go.RowKit

/-- The first operation of a list alone. -/
theorem wpList_first {P : Program} {Q : Exit → Act → World → Prop} {ops : Array Oper} {o : Oper} {rest : List Oper} {a : Act} {w : World} (h : ∀ K : Act → World → Prop, (∀ a w, wpList P ops Q rest a w → K a w) → wpList P ops (Exit.then K (noP Q)) [o] a w) : wpList P ops Q (o :: rest) a w := by
  have h2 := h (fun a w => wpList P ops Q rest a w) (fun _ _ h => h)
  unfold wpList at h2 ⊢
  by_cases hw : Region.wanted o (yielded ops a.tmps) = true
  · rw [if_pos hw] at h2 ⊢
    rcases h2 with h2 | ⟨h3, h4⟩
    · refine .inl (oper_wp_mono (fun a w h => ?_) (fun c a w h => h.elim) (fun h => ?_) h2)
      · unfold wpList at h
        exact h
      · obtain ⟨a, w, h⟩ := h; exact ⟨a, w, h⟩
    · obtain ⟨a, w, h⟩ := h4
      exact .inr ⟨h3, a, w, h⟩
  · rw [if_neg hw] at h2 ⊢
    unfold wpList at h2
    exact h2

/-- An operation that yields a value and leaves the world: taken by 'go_simp' alone. -/
theorem wpList_val {P : Program} {Q : Exit → Act → World → Prop} {ops : Array Oper} {o : Oper} {rest : List Oper} {a : Act} {w : World}
    (h : ∀ K : Act → Prop, (∀ a, wpList P ops Q rest a w → K a) → if Region.wanted o (yielded ops a.tmps) = true then ∃ v, (execOp a.eval o).run P w = .ok (.value v) w ∧ K (a.put o.dst v) else K (a.put o.dst undef)) : wpList P ops Q (o :: rest) a w := by
  have h2 := h (fun a => wpList P ops Q rest a w) (fun _ h => h)
  unfold wpList
  by_cases hw : Region.wanted o (yielded ops a.tmps) = true
  · rw [if_pos hw] at h2 ⊢
    obtain ⟨v, hv, hk⟩ := h2
    refine .inl ?_
    unfold Oper.wp
    rw [hv]
    exact hk
  · rw [if_neg hw] at h2 ⊢
    exact h2

end Go.Proofs.YteifmkfkekglpaaDoor
