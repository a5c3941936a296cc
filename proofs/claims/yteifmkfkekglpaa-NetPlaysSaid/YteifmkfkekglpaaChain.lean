/- A list of operations cut in two: what the second part needs of the first. -/
import Derived.Test.YteifmkfkekglpaaStep
namespace Go.Proofs.Yteifmkfkekglpaa
open Go.RowKit

theorem wpList_cut {P : Program} {Q : Exit → Act → World → Prop} {ops : Array Oper} {R : Act → World → Prop} {l2 : List Oper} (h2 : ∀ a w, R a w → wpList P ops Q l2 a w) :
    ∀ (l1 : List Oper) (a : Act) (w : World), wpList P ops (Exit.then R (noP Q)) l1 a w → wpList P ops Q (l1 ++ l2) a w
  | [], a, w, h => h2 a w h
  | o :: l, a, w, h => by
    rw [List.cons_append]
    unfold wpList at h ⊢
    by_cases hw : Region.wanted o (yielded ops a.tmps) = true
    · rw [if_pos hw] at h ⊢
      rcases h with h | ⟨h3, h4⟩
      · refine .inl (oper_wp_mono (fun a w h => wpList_cut h2 l a w h) (fun c a w h => h.elim) (fun h => ?_) h)
        obtain ⟨a, w, h⟩ := h; exact ⟨a, w, h⟩
      · obtain ⟨a, w, h⟩ := h4
        exact .inr ⟨h3, a, w, h⟩
    · rw [if_neg hw] at h ⊢
      exact wpList_cut h2 l _ w h
theorem wpList_cutN {P : Program} {Q : Exit → Act → World → Prop} {ops : Array Oper} (n : Nat) (R : Act → World → Prop) {l : List Oper} {a : Act} {w : World} (h1 : wpList P ops (Exit.then R (noP Q)) (l.take n) a w) (h2 : ∀ a w, R a w → wpList P ops Q (l.drop n) a w) :
    wpList P ops Q l a w := by
  have := wpList_cut h2 (l.take n) a w h1
  rwa [List.take_append_drop] at this

/-- The operations behind a name. -/
theorem wpList_hide {P : Program} {Q : Exit → Act → World → Prop} {ops : Array Oper} {l : List Oper} {a : Act} {w : World} (h : ∀ O : Array Oper, O = ops → wpList P O Q l a w) : wpList P ops Q l a w := h ops rfl
/-- A frame of which only the size and some slots are known. -/
theorem tmps_put {T : Array Value} {N d e : Nat} (hN : T.size = N) (hd : d < N) (v : Value) : (T.setIfInBounds d v).getD e undef = if d = e then v else T.getD e undef := by
  simp only [Array.getD_eq_getD_getElem?, Array.getElem?_setIfInBounds]
  by_cases h : d = e
  · subst h; simp [hN, hd]
  · simp [h]
theorem tmps_size {T : Array Value} {N : Nat} (hN : T.size = N) (d : Nat) (v : Value) : (T.setIfInBounds d v).size = N := by simp [hN]
/-- What a guard sees. -/
theorem yielded_of {ops : Array Oper} {T : Array Value} {N j d : Nat} {b : Bool} (hj : (ops[j]?).bind (·.dst) = some d) (hN : T.size = N) (hd : d < N) (hv : T.getD d undef = .bool b) : yielded ops T j = some b := by
  unfold yielded
  rw [hj]
  have h : T[d]? = some (.bool b) := by
    rw [Array.getD_eq_getD_getElem?, Array.getElem?_eq_getElem (by omega)] at hv
    rw [Array.getElem?_eq_getElem (by omega)]
    simpa using hv
  simp [h]

end Go.Proofs.Yteifmkfkekglpaa
