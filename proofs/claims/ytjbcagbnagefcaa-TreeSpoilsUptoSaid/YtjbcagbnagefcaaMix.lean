/- A region that draws its order, walked in ONE order: operations that say the same in every world are taken first, the others come up one at a time. -/
import Derived.OrdersHeld
import Derived.Tactics
import Derived.WalkKit
namespace Go.Proofs.Ytjbcagbnagefcaa
open Go Go.RowKit

/-- No panic. -/
def noP (Q : Exit → Act → World → Prop) : Exit → Act → World → Prop
  | .panic _, _, _ => False
  | e, a, w => Q e a w

theorem noP_le {Q : Exit → Act → World → Prop} (e : Exit) (a : Act) (w : World) (h : noP Q e a w) : Q e a w := by
  cases e <;> first | exact h | exact h.elim

/-- The operations in the order of a plan: (true, o): o yields the same in every world that meets S; (false, o): o comes up alone, and S is shown anew behind it. -/
def wpMix (P : Program) (ops : Array Oper) (S : World → Prop) (Q : Exit → Act → World → Prop) : List (Bool × Oper) → Act → World → Prop
  | [], a, w => Q .normal a w
  | (true, o) :: r, a, w => if Region.wanted o (yielded ops a.tmps) = true then ∃ v, (∀ W, S W → (execOp a.eval o).run P W = .ok (.value v) W) ∧ wpMix P ops S Q r (a.put o.dst v) w else wpMix P ops S Q r (a.put o.dst undef) w
  | (false, o) :: r, a, w => wpList P ops (Exit.then (fun a' w' => S w' ∧ wpMix P ops S Q r a' w') (noP Q)) [o] a w

def mixItems (ops : List Oper) (plan : List (Bool × Nat)) : List (Bool × Oper) := plan.map fun p => (p.1, ops.getD p.2 default)

def mixB (ops : Array Oper) : List (Bool × Nat) → Array Bool → Bool
  | [], listed => (Region.ready .any ops listed).isEmpty
  | (true, k) :: r, listed => decide (k < ops.size) && (Region.ready .any ops listed).contains k && Region.free .any ops listed k && mixB ops r (listed.setIfInBounds k true)
  | (false, k) :: r, listed => decide (k < ops.size) && decide (Region.ready .any ops listed = [k]) && mixB ops r (listed.setIfInBounds k true)

section
variable {P : Program} {Q : Exit → Act → World → Prop} {S : World → Prop}

theorem oper_wp_mono {o : Oper} {a : Act} {w : World} {K K' : Act → World → Prop} {R R' : Exit → Act → World → Prop} (hK : ∀ a w, K a w → K' a w) (hP : ∀ c a w, R (.panic c) a w → R' (.panic c) a w)
    (hL : LetsOut R → LetsOut R') (h : o.wp P a w K R) : o.wp P a w K' R' := by
  unfold Oper.wp at *
  generalize (execOp a.eval o).run P w = r at *
  cases r with
  | ok n w' =>
    cases n <;> simp only [Oper.upon] at h ⊢
    case enter f args =>
      refine Calls.mono h fun e w'' he => ?_
      cases e with
      | returned u => exact hK _ _ he
      | panicked c => exact hP _ _ _ he
      | outgrown => exact hL he
    case row row args => exact Rows.mono h fun u w'' he => hK _ _ he
    all_goals exact hK _ _ h
  | halt x w' =>
    cases x <;> simp only [Oper.upon] at h ⊢
    case panic u => exact hP _ _ _ h

theorem mix_sound (l : List Oper) (hs : Region.noSelect l.toArray = true) : ∀ (plan : List (Bool × Nat)) (listed : Array Bool) (a : Act) (w : World), mixB l.toArray plan listed = true → S w →
    wpMix P l.toArray S Q (mixItems l plan) a w → wpAnyH P .any l.toArray (noP Q) S plan.length listed a w := by
  intro plan
  induction plan with
  | nil =>
    intro listed a w hB _ h
    exact ⟨by simpa [mixB] using hB, h⟩
  | cons p r ih =>
    intro listed a w hB hS h
    obtain ⟨b, k⟩ := p
    cases b with
    | true =>
      simp only [mixB, Bool.and_eq_true, decide_eq_true_eq] at hB
      obtain ⟨⟨⟨hlt, hr⟩, hf⟩, hB'⟩ := hB
      have hk : l.toArray[k]? = some (l.getD k default) := by
        have hlt' : k < l.length := by simpa using hlt
        simp [List.getD, hlt']
      unfold mixItems at h
      rw [List.map_cons] at h
      unfold wpMix at h
      simp only at h
      by_cases hw : Region.wanted (l.getD k default) (yielded l.toArray a.tmps) = true
      · rw [if_pos hw] at h
        obtain ⟨v, hv, hn⟩ := h
        exact wpAnyH_take hk hs hf hr (fun c a w h => h) (.inl ⟨hw, hv⟩) hS (ih _ _ _ hB' hS hn)
      · rw [if_neg hw] at h
        exact wpAnyH_take (v := undef) hk hs hf hr (fun c a w h => h) (.inr ⟨by simpa using hw, rfl⟩) hS (ih _ _ _ hB' hS h)
    | false =>
      simp only [mixB, Bool.and_eq_true, decide_eq_true_eq] at hB
      obtain ⟨⟨hlt, hr⟩, hB'⟩ := hB
      have hk : l.toArray[k]? = some (l.getD k default) := by
        have hlt' : k < l.length := by simpa using hlt
        simp [List.getD, hlt']
      unfold mixItems at h
      rw [List.map_cons] at h
      unfold wpMix at h
      simp only at h
      refine wpAnyH_all hr (by simp) fun i hi => ?_
      obtain rfl : i = k := by simpa using hi
      unfold wpOp
      simp only [hk]
      unfold wpList at h
      by_cases hw : Region.wanted (l.getD i default) (yielded l.toArray a.tmps) = true
      · rw [if_pos hw] at h ⊢
        rcases h with h | ⟨h1, h2⟩
        · refine .inl (oper_wp_mono (fun a w h => ?_) (fun c a w h => h) (fun h => ?_) h)
          · unfold wpList at h
            exact ⟨h.1, ih _ _ _ hB' h.1 h.2⟩
          · obtain ⟨a, w, h⟩ := h; exact ⟨a, w, h⟩
        · obtain ⟨a, w, h⟩ := h2
          exact .inr ⟨h1, a, w, h⟩
      · rw [if_neg hw] at h ⊢
        unfold wpList at h
        exact ⟨h.1, ih _ _ _ hB' h.1 h.2⟩

/-- The beginning. -/
theorem wp_region_mix {id : Nat} {a : Act} {w : World} {l : List Oper} (S : World → Prop) (plan : List (Bool × Nat)) (hm : P.follows .mixedOrders = true)
    (hB : (Region.noSelect l.toArray && decide (plan.length = l.toArray.size) && mixB l.toArray plan (Array.replicate l.toArray.size false)) = true) (hS : S w.drew)
    (h : wpMix P l.toArray S Q (mixItems l plan) a w.drew) : (Code.region id l.toArray true).wp P Q a w := by
  simp only [Bool.and_eq_true, decide_eq_true_eq] at hB
  obtain ⟨⟨hs, hl⟩, hB⟩ := hB
  have H := mix_sound (P := P) (Q := Q) (S := S) l hs plan _ a w.drew hB hS h
  rw [hl] at H
  exact wp_mono (wp_region_held hm H) noP_le

theorem wpMix_nil {ops : Array Oper} {a : Act} {w : World} (h : Q .normal a w) : wpMix P ops S Q [] a w := h
theorem wpMix_take {ops : Array Oper} {a : Act} {w : World} {o : Oper} {r : List (Bool × Oper)}
    (h : ∀ K : Act → Prop, (∀ a, wpMix P ops S Q r a w → K a) → if Region.wanted o (yielded ops a.tmps) = true then ∃ v, (∀ W, S W → (execOp a.eval o).run P W = .ok (.value v) W) ∧ K (a.put o.dst v) else K (a.put o.dst undef)) : wpMix P ops S Q ((true, o) :: r) a w :=
  h (fun a => wpMix P ops S Q r a w) (fun _ h => h)
theorem wpMix_free {ops : Array Oper} {a : Act} {w : World} {o : Oper} {r : List (Bool × Oper)}
    (h : ∀ K : Act → Prop, (∀ a, wpMix P ops S Q r a w → K a) → if Region.wanted o (yielded ops a.tmps) = true then ∃ v, (∀ W, (execOp a.eval o).run P W = .ok (.value v) W) ∧ K (a.put o.dst v) else K (a.put o.dst undef)) : wpMix P ops S Q ((true, o) :: r) a w := by
  have h2 := h (fun a => wpMix P ops S Q r a w) (fun _ h => h)
  unfold wpMix
  by_cases hw : Region.wanted o (yielded ops a.tmps) = true
  · rw [if_pos hw] at h2 ⊢
    obtain ⟨v, hv, hn⟩ := h2
    exact ⟨v, fun W _ => hv W, hn⟩
  · rw [if_neg hw] at h2 ⊢
    exact h2
theorem wpMix_yield {ops : Array Oper} {a : Act} {w : World} {o : Oper} {r : List (Bool × Oper)} {v : Value} (hr : ∀ W, S W → (execOp a.eval o).run P W = .ok (.value v) W)
    (h : ∀ K : Act → Prop, (∀ a, wpMix P ops S Q r a w → K a) → if Region.wanted o (yielded ops a.tmps) = true then K (a.put o.dst v) else K (a.put o.dst undef)) : wpMix P ops S Q ((true, o) :: r) a w := by
  have h2 := h (fun a => wpMix P ops S Q r a w) (fun _ h => h)
  unfold wpMix
  by_cases hw : Region.wanted o (yielded ops a.tmps) = true
  · rw [if_pos hw] at h2 ⊢
    exact ⟨v, hr, h2⟩
  · rw [if_neg hw] at h2 ⊢
    exact h2
theorem wpMix_one {ops : Array Oper} {a : Act} {w : World} {o : Oper} {r : List (Bool × Oper)}
    (h : ∀ K : Act → World → Prop, (∀ a w, S w → wpMix P ops S Q r a w → K a w) → wpList P ops (Exit.then K (noP Q)) [o] a w) : wpMix P ops S Q ((false, o) :: r) a w := by
  unfold wpMix
  exact h (fun a w => S w ∧ wpMix P ops S Q r a w) (fun a w h1 h2 => ⟨h1, h2⟩)
end

end Go.Proofs.Ytjbcagbnagefcaa
