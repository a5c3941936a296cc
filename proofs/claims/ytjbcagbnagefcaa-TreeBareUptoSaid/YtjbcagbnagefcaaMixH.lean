/- A region that draws its order, by a plan in parts: a part's orders meet again behind it. A region that draws its order, by a plan with groups: the operations of a group may come up in any order that the region allows; what holds behind each part of them is said once for each such part. A region that draws its order, walked in ONE order; behind the last operations (which all others wait for) nothing is asked of the world. -/
import Derived.Test.YtjbcagbnagefcaaMixT
namespace Go.Proofs.Ytjbcagbnagefcaa
open Go Go.RowKit

inductive PlanJ (α : Type) where
  | done : PlanJ α
  | take : α → PlanJ α → PlanJ α
  | one : α → PlanJ α → PlanJ α
  | two : α → α → PlanJ α → PlanJ α → PlanJ α
  | join : PlanJ α → PlanJ α → PlanJ α
def PlanJ.map {α β : Type} (f : α → β) : PlanJ α → PlanJ β
  | .done => .done
  | .take i r => .take (f i) (r.map f)
  | .one i r => .one (f i) (r.map f)
  | .two i j r s => .two (f i) (f j) (r.map f) (s.map f)
  | .join p r => .join (p.map f) (r.map f)
abbrev ItemJ := PlanJ (Bool × Oper)
def itemsJ (ops : List Oper) (k : Nat) (p : PlanJ Nat) : ItemJ := p.map fun i => (i == k, ops.getD i default)
/-- How many operations; none: the ways differ. -/
def PlanJ.count : PlanJ Nat → Option Nat
  | .done => some 0
  | .take _ r => r.count.map (· + 1)
  | .one _ r => r.count.map (· + 1)
  | .two _ _ r s => match r.count, s.count with | some a, some b => if a = b then some (a + 1) else none | _, _ => none
  | .join p r => match p.count, r.count with | some a, some b => some (a + b) | _, _ => none

section
variable {P : Program} {Q : Exit → Act → World → Prop} {S : World → Prop}

def wpMixJ (P : Program) (ops : Array Oper) (S : World → Prop) (Q : Exit → Act → World → Prop) : ItemJ → (Act → World → Prop) → Act → World → Prop
  | .done, K, a, w => K a w
  | .take o r, K, a, w => if Region.wanted o.2 (yielded ops a.tmps) = true then ∃ v, (∀ W, S W → (execOp a.eval o.2).run P W = .ok (.value v) W) ∧ wpMixJ P ops S Q r K (a.put o.2.dst v) w else wpMixJ P ops S Q r K (a.put o.2.dst undef) w
  | .one o r, K, a, w => wpList P ops (Exit.then (fun a' w' => (o.1 = true ∨ S w') ∧ wpMixJ P ops S Q r K a' w') (noP Q)) [o.2] a w
  | .two o u r s, K, a, w => wpList P ops (Exit.then (fun a' w' => (o.1 = true ∨ S w') ∧ wpMixJ P ops S Q r K a' w') (noP Q)) [o.2] a w ∧ wpList P ops (Exit.then (fun a' w' => (u.1 = true ∨ S w') ∧ wpMixJ P ops S Q s K a' w') (noP Q)) [u.2] a w
  | .join p r, K, a, w => wpMixJ P ops S Q p (fun a' w' => wpMixJ P ops S Q r K a' w') a w

/-- The plan is right from here; what has come up at its end. -/
def mixJ (ops : Array Oper) (k : Nat) : Bool → PlanJ Nat → Array Bool → Option (Array Bool)
  | _, .done, listed => some listed
  | z, .take i r, listed => if (decide (i < ops.size) && (Region.ready .any ops listed).contains i && Region.free .any ops listed i && waitsB ops k i) = true then mixJ ops k z r (listed.setIfInBounds i true) else none
  | z, .one i r, listed => if (decide (i < ops.size) && decide (Region.ready .any ops listed = [i]) && (!(i == k) || (z && decide (r.count = some 0)))) = true then mixJ ops k z r (listed.setIfInBounds i true) else none
  | z, .two i j r s, listed => if (decide (i < ops.size) && decide (j < ops.size) && decide (Region.ready .any ops listed = [i, j]) && !(i == k) && !(j == k)) = true then
      match mixJ ops k z r (listed.setIfInBounds i true), mixJ ops k z s (listed.setIfInBounds j true) with
      | some a, some b => if a = b then some a else none
      | _, _ => none
    else none
  | z, .join p r, listed => match mixJ ops k false p listed with | some l => mixJ ops k z r l | none => none

theorem noP_normal {a : Act} {w : World} (h : Q .normal a w) : noP Q .normal a w := h
theorem wpList_monoJ {ops : Array Oper} {o : Oper} {a : Act} {w : World} {K K' : Act → World → Prop} {R : Exit → Act → World → Prop} (hK : ∀ a w, K a w → K' a w) (h : wpList P ops (Exit.then K (noP R)) [o] a w) : wpList P ops (Exit.then K' (noP R)) [o] a w := by
  unfold wpList at h ⊢
  by_cases hw : Region.wanted o (yielded ops a.tmps) = true
  · rw [if_pos hw] at h ⊢
    rcases h with h | ⟨h1, h2⟩
    · refine .inl (oper_wp_mono (fun a w h => ?_) (fun c a w h => h) (fun h => ?_) h)
      · unfold wpList at h ⊢
        exact hK _ _ h
      · obtain ⟨a, w, h⟩ := h; exact ⟨a, w, h⟩
    · obtain ⟨a, w, h⟩ := h2
      exact .inr ⟨h1, a, w, h⟩
  · rw [if_neg hw] at h ⊢
    unfold wpList at h ⊢
    exact hK _ _ h
theorem wpMixJ_mono {ops : Array Oper} : ∀ (p : ItemJ) {K K' : Act → World → Prop} (a : Act) (w : World), (∀ a w, K a w → K' a w) → wpMixJ P ops S Q p K a w → wpMixJ P ops S Q p K' a w := by
  intro p
  induction p with
  | done => intro K K' a w hK h; exact hK _ _ h
  | take o r ih =>
    intro K K' a w hK h
    unfold wpMixJ at h ⊢
    split
    · rename_i hw
      rw [if_pos hw] at h
      obtain ⟨v, h1, h2⟩ := h
      exact ⟨v, h1, ih _ _ hK h2⟩
    · rename_i hw
      rw [if_neg hw] at h
      exact ih _ _ hK h
  | one o r ih =>
    intro K K' a w hK h
    unfold wpMixJ at h ⊢
    exact wpList_monoJ (fun a w q => ⟨q.1, ih _ _ hK q.2⟩) h
  | two o u r s ih1 ih2 =>
    intro K K' a w hK h
    unfold wpMixJ at h ⊢
    exact ⟨wpList_monoJ (fun a w q => ⟨q.1, ih1 _ _ hK q.2⟩) h.1, wpList_monoJ (fun a w q => ⟨q.1, ih2 _ _ hK q.2⟩) h.2⟩
  | join p r ih1 ih2 =>
    intro K K' a w hK h
    unfold wpMixJ at h ⊢
    exact ih1 _ _ (fun a w q => ih2 _ _ hK q) h

theorem oneJ_sound {l : List Oper} {k i n : Nat} {listed : Array Bool} {a : Act} {w : World} {K : Act → World → Prop} (hk : l.toArray[i]? = some (l.getD i default))
    (ih : ∀ a w, S w ∨ i = k → K a w → wpTo P l.toArray (noP Q) S k n (listed.setIfInBounds i true) a w)
    (h : wpList P l.toArray (Exit.then (fun a' w' => ((i == k) = true ∨ S w') ∧ K a' w') (noP Q)) [l.getD i default] a w) :
    wpOp P l.toArray (noP Q) i (fun a' w' => (i = k ∨ S w') ∧ wpTo P l.toArray (noP Q) S k n (listed.setIfInBounds i true) a' w') a w := by
  have fin : ∀ a w, ((i == k) = true ∨ S w) ∧ K a w → (i = k ∨ S w) ∧ wpTo P l.toArray (noP Q) S k n (listed.setIfInBounds i true) a w := fun a w q => by
    rcases q.1 with h1 | h1
    · exact ⟨.inl (by simpa using h1), ih a w (.inr (by simpa using h1)) q.2⟩
    · exact ⟨.inr h1, ih a w (.inl h1) q.2⟩
  unfold wpOp
  simp only [hk]
  unfold wpList at h
  by_cases hw : Region.wanted (l.getD i default) (yielded l.toArray a.tmps) = true
  · rw [if_pos hw] at h ⊢
    rcases h with h | ⟨h1, h2⟩
    · refine .inl (oper_wp_mono (fun a w h => ?_) (fun c a w h => h) (fun h => ?_) h)
      · unfold wpList at h
        exact fin a w h
      · obtain ⟨a, w, h⟩ := h; exact ⟨a, w, h⟩
    · obtain ⟨a, w, h⟩ := h2
      exact .inr ⟨h1, a, w, h⟩
  · rw [if_neg hw] at h ⊢
    unfold wpList at h
    exact fin _ _ h

theorem mixJ_sound (l : List Oper) (k : Nat) (hs : Region.noSelect l.toArray = true) : ∀ (plan : PlanJ Nat) (z : Bool) (n m : Nat) (listed fin : Array Bool) (a : Act) (w : World) (K : Act → World → Prop), (z = true → m = 0) → plan.count = some n → mixJ l.toArray k z plan listed = some fin →
    (S w ∨ (n = 0 ∧ m = 0)) → (∀ a w, (S w ∨ m = 0) → K a w → wpTo P l.toArray (noP Q) S k m fin a w) → wpMixJ P l.toArray S Q (itemsJ l k plan) K a w → wpTo P l.toArray (noP Q) S k (n + m) listed a w := by
  have hget : ∀ i, i < l.toArray.size → l.toArray[i]? = some (l.getD i default) := fun i hi => by
    have hlt' : i < l.length := by simpa using hi
    simp [List.getD, hlt']
  intro plan
  induction plan with
  | done =>
    intro z n m listed fin a w K hz hn hB hS hK h
    obtain rfl : 0 = n := by simpa [PlanJ.count] using hn
    simp only [mixJ, Option.some.injEq] at hB
    subst hB
    rw [Nat.zero_add]
    exact hK a w (hS.imp id (fun h => h.2)) h
  | take i r ih =>
    intro z n m listed fin a w K hz hn hB hS hK h
    simp only [PlanJ.count, Option.map_eq_some_iff] at hn
    obtain ⟨n', hn', rfl⟩ := hn
    unfold mixJ at hB
    split at hB
    · rename_i hc
      simp only [Bool.and_eq_true, decide_eq_true_eq] at hc
      obtain ⟨⟨⟨hlt, hr⟩, hf⟩, hwt⟩ := hc
      have hS' : S w := hS.resolve_right (by omega)
      have hk := hget i hlt
      have hr' : i ∈ Region.ready .any l.toArray listed := by simpa using hr
      have hik : i ≠ k := fun e => waits_spec hwt hr' (e ▸ hr')
      rw [show n' + 1 + m = (n' + m) + 1 by omega]
      unfold itemsJ PlanJ.map wpMixJ at h
      simp only at h
      by_cases hw : Region.wanted (l.getD i default) (yielded l.toArray a.tmps) = true
      · rw [if_pos hw] at h
        obtain ⟨v, hv, hnn⟩ := h
        exact to_first hk hwt hik (Region.noSelect_spec hs) (fun c a w h => h) _ listed a w (Region.free_spec hk hf) hr' (.inl ⟨hw, hv⟩) hS' (ih z n' m _ fin _ _ K hz hn' hB (.inl hS') hK hnn)
      · rw [if_neg hw] at h
        exact to_first (v := undef) hk hwt hik (Region.noSelect_spec hs) (fun c a w h => h) _ listed a w (Region.free_spec hk hf) hr' (.inr ⟨by simpa using hw, rfl⟩) hS' (ih z n' m _ fin _ _ K hz hn' hB (.inl hS') hK h)
    · cases hB
  | one i r ih =>
    intro z n m listed fin a w K hz hn hB hS hK h
    simp only [PlanJ.count, Option.map_eq_some_iff] at hn
    obtain ⟨n', hn', rfl⟩ := hn
    unfold mixJ at hB
    split at hB
    · rename_i hc
      simp only [Bool.and_eq_true, decide_eq_true_eq] at hc
      obtain ⟨⟨hlt, hr⟩, hlast⟩ := hc
      rw [show n' + 1 + m = (n' + m) + 1 by omega]
      unfold itemsJ PlanJ.map wpMixJ at h
      refine ⟨fun h0 => (by rw [hr] at h0; cases h0), fun j hj => ?_⟩
      rw [hr, List.mem_singleton] at hj
      subst hj
      refine oneJ_sound (hget j hlt) (fun a w hq hm => ih z n' m _ fin _ _ K hz hn' hB ?_ hK hm) h
      rcases hq with hq | hq
      · exact .inl hq
      · rw [hq] at hlast
        simp at hlast
        have hn0 := hlast.2
        rw [hn'] at hn0
        exact .inr ⟨Option.some.inj hn0, hz hlast.1⟩
    · cases hB
  | two i j r s ih1 ih2 =>
    intro z n m listed fin a w K hz hn hB hS hK h
    unfold mixJ at hB
    split at hB
    · rename_i hc
      simp only [Bool.and_eq_true, decide_eq_true_eq, Bool.not_eq_true', beq_eq_false_iff_ne] at hc
      obtain ⟨⟨⟨⟨hlt, hlt2⟩, hr⟩, hik⟩, hjk⟩ := hc
      unfold PlanJ.count at hn
      split at hn
      · rename_i n1 n2 h1 h2
        split at hn
        · rename_i he
          subst he
          obtain rfl := Option.some.inj hn
          split at hB
          · rename_i f1 f2 hf1 hf2
            split at hB
            · rename_i hfe
              subst hfe
              obtain rfl := Option.some.inj hB
              rw [show n1 + 1 + m = (n1 + m) + 1 by omega]
              unfold itemsJ PlanJ.map wpMixJ at h
              refine ⟨fun h0 => (by rw [hr] at h0; cases h0), fun x hx => ?_⟩
              rw [hr] at hx
              simp only [List.mem_cons, List.not_mem_nil, or_false] at hx
              rcases hx with rfl | rfl
              · exact oneJ_sound (hget _ hlt) (fun a w hq hm => ih1 z n1 m _ _ _ _ K hz h1 hf1 (.inl (hq.resolve_right hik)) hK hm) h.1
              · exact oneJ_sound (hget _ hlt2) (fun a w hq hm => ih2 z n1 m _ _ _ _ K hz h2 hf2 (.inl (hq.resolve_right hjk)) hK hm) h.2
            · cases hB
          · cases hB
        · cases hn
      · cases hn
    · cases hB
  | join p r ih1 ih2 =>
    intro z n m listed fin a w K hz hn hB hS hK h
    unfold mixJ at hB
    split at hB
    · rename_i l1 hl1
      unfold PlanJ.count at hn
      split at hn
      · rename_i n1 n2 h1 h2
        obtain rfl := Option.some.inj hn
        unfold itemsJ PlanJ.map wpMixJ at h
        rw [Nat.add_assoc]
        refine ih1 false n1 (n2 + m) listed l1 a w _ (fun e => by cases e) h1 hl1 ?_ (fun a w hq hm => ih2 z n2 m l1 fin a w K hz h2 hB ?_ hK hm) h
        · rcases hS with hS | ⟨q1, q2⟩
          · exact .inl hS
          · exact .inr ⟨by omega, by omega⟩
        · rcases hq with hq | hq
          · exact .inl hq
          · exact .inr ⟨by omega, by omega⟩
      · cases hn
    · cases hB

/-- The beginning. -/
theorem wp_region_mixJ {id : Nat} {a : Act} {w : World} {l : List Oper} (S : World → Prop) (k : Nat) (plan : PlanJ Nat) (hm : P.follows .mixedOrders = true)
    (hB : (Region.noSelect l.toArray && decide (plan.count = some l.toArray.size) && (match mixJ l.toArray k true plan (Array.replicate l.toArray.size false) with | some f => (Region.ready .any l.toArray f).isEmpty | none => false)) = true) (hS : S w.drew)
    (h : wpMixJ P l.toArray S Q (itemsJ l k plan) (fun a w => Q .normal a w) a w.drew) : (Code.region id l.toArray true).wp P Q a w := by
  simp only [Bool.and_eq_true, decide_eq_true_eq] at hB
  obtain ⟨⟨hs, hl⟩, hB⟩ := hB
  split at hB
  · rename_i f hf
    have H := mixJ_sound (P := P) (Q := Q) (S := S) l k hs plan true l.toArray.size 0 _ f a w.drew _ (fun _ => rfl) hl hf (.inl hS) (fun a w _ hq => ⟨by simpa using hB, noP_normal hq⟩) h
    exact wp_mono (wp_region_any hm (wpAny_to _ _ _ _ H)) noP_le
  · cases hB

theorem wpMixJ_done {ops : Array Oper} {K : Act → World → Prop} {a : Act} {w : World} (h : K a w) : wpMixJ P ops S Q .done K a w := h
theorem wpMixJ_free {ops : Array Oper} {C : Act → World → Prop} {a : Act} {w : World} {b : Bool} {o : Oper} {r : ItemJ}
    (h : ∀ K : Act → Prop, (∀ a, wpMixJ P ops S Q r C a w → K a) → if Region.wanted o (yielded ops a.tmps) = true then ∃ v, (∀ W, (execOp a.eval o).run P W = .ok (.value v) W) ∧ K (a.put o.dst v) else K (a.put o.dst undef)) : wpMixJ P ops S Q (.take (b, o) r) C a w := by
  have h2 := h (fun a => wpMixJ P ops S Q r C a w) (fun _ h => h)
  unfold wpMixJ
  by_cases hw : Region.wanted o (yielded ops a.tmps) = true
  · rw [if_pos hw] at h2 ⊢
    obtain ⟨v, hv, hn⟩ := h2
    exact ⟨v, fun W _ => hv W, hn⟩
  · rw [if_neg hw] at h2 ⊢
    exact h2
theorem wpMixJ_yield {ops : Array Oper} {C : Act → World → Prop} {a : Act} {w : World} {b : Bool} {o : Oper} {r : ItemJ} {v : Value} (hr : ∀ W, S W → (execOp a.eval o).run P W = .ok (.value v) W)
    (h : ∀ K : Act → Prop, (∀ a, wpMixJ P ops S Q r C a w → K a) → if Region.wanted o (yielded ops a.tmps) = true then K (a.put o.dst v) else K (a.put o.dst undef)) : wpMixJ P ops S Q (.take (b, o) r) C a w := by
  have h2 := h (fun a => wpMixJ P ops S Q r C a w) (fun _ h => h)
  unfold wpMixJ
  by_cases hw : Region.wanted o (yielded ops a.tmps) = true
  · rw [if_pos hw] at h2 ⊢
    exact ⟨v, hr, h2⟩
  · rw [if_neg hw] at h2 ⊢
    exact h2
theorem wpMixJ_one {ops : Array Oper} {C : Act → World → Prop} {a : Act} {w : World} {b : Bool} {o : Oper} {r : ItemJ}
    (h : ∀ K : Act → World → Prop, (∀ a w, b = true ∨ S w → wpMixJ P ops S Q r C a w → K a w) → wpList P ops (Exit.then K (noP Q)) [o] a w) : wpMixJ P ops S Q (.one (b, o) r) C a w := by
  unfold wpMixJ
  exact h (fun a w => (b = true ∨ S w) ∧ wpMixJ P ops S Q r C a w) (fun a w h1 h2 => ⟨h1, h2⟩)
theorem wpMixJ_two {ops : Array Oper} {C : Act → World → Prop} {a : Act} {w : World} {b d : Bool} {o u : Oper} {r s : ItemJ}
    (h1 : ∀ K : Act → World → Prop, (∀ a w, b = true ∨ S w → wpMixJ P ops S Q r C a w → K a w) → wpList P ops (Exit.then K (noP Q)) [o] a w)
    (h2 : ∀ K : Act → World → Prop, (∀ a w, d = true ∨ S w → wpMixJ P ops S Q s C a w → K a w) → wpList P ops (Exit.then K (noP Q)) [u] a w) : wpMixJ P ops S Q (.two (b, o) (d, u) r s) C a w := by
  unfold wpMixJ
  exact ⟨h1 (fun a w => (b = true ∨ S w) ∧ wpMixJ P ops S Q r C a w) (fun a w h1 h2 => ⟨h1, h2⟩), h2 (fun a w => (d = true ∨ S w) ∧ wpMixJ P ops S Q s C a w) (fun a w h1 h2 => ⟨h1, h2⟩)⟩
/-- What the ways of a part have in common. -/
theorem wpMixJ_join {ops : Array Oper} {C : Act → World → Prop} {a : Act} {w : World} {p r : ItemJ} (J : Act → Act → World → Prop) (h1 : wpMixJ P ops S Q p (J a) a w) (h2 : ∀ a' w', J a a' w' → wpMixJ P ops S Q r C a' w') : wpMixJ P ops S Q (.join p r) C a w := by
  unfold wpMixJ
  exact wpMixJ_mono p _ _ (h2) h1
end

end Go.Proofs.Ytjbcagbnagefcaa

namespace Go.Proofs.Ytjbcagbnagefcaa
open Go Go.RowKit

inductive PlanG (α : Type) where
  | done : PlanG α
  | take : α → PlanG α → PlanG α
  | one : α → PlanG α → PlanG α
  | grp : List α → List (List (Nat × Nat)) → PlanG α → PlanG α
def PlanG.map {α β : Type} (f : α → β) : PlanG α → PlanG β
  | .done => .done
  | .take i r => .take (f i) (r.map f)
  | .one i r => .one (f i) (r.map f)
  | .grp l e r => .grp (l.map f) e (r.map f)
abbrev ItemG := PlanG (Bool × Oper)
def itemsG (ops : List Oper) (k : Nat) (p : PlanG Nat) : ItemG := p.map fun i => (i == k, ops.getD i default)
def PlanG.count : PlanG Nat → Nat
  | .done => 0
  | .take _ r => r.count + 1
  | .one _ r => r.count + 1
  | .grp _ e r => e.length + r.count

def everyL {α : Type} : List α → (α → Prop) → Prop
  | [], _ => True
  | x :: r, p => p x ∧ everyL r p
theorem everyL_mem {α : Type} {p : α → Prop} : ∀ (l : List α), everyL l p → ∀ x ∈ l, p x := by
  intro l
  induction l with
  | nil => intro _ x hx; cases hx
  | cons y r ih =>
    intro h x hx
    rcases List.mem_cons.1 hx with rfl | hx
    · exact h.1
    · exact ih h.2 x hx

section
variable {P : Program} {Q : Exit → Act → World → Prop} {S : World → Prop}

def wpMixG (P : Program) (ops : Array Oper) (S : World → Prop) (Q : Exit → Act → World → Prop) : ItemG → (Act → World → Prop) → Act → World → Prop
  | .done, K, a, w => K a w
  | .take o r, K, a, w => if Region.wanted o.2 (yielded ops a.tmps) = true then ∃ v, (∀ W, S W → (execOp a.eval o.2).run P W = .ok (.value v) W) ∧ wpMixG P ops S Q r K (a.put o.2.dst v) w else wpMixG P ops S Q r K (a.put o.2.dst undef) w
  | .one o r, K, a, w => wpList P ops (Exit.then (fun a' w' => (o.1 = true ∨ S w') ∧ wpMixG P ops S Q r K a' w') (noP Q)) [o.2] a w
  | .grp l e r, K, a, w => ∃ I : Nat → Act → World → Prop, I 0 a w ∧ (∀ s ∈ e.flatten, ∀ a' w', S w' → I s.1 a' w' → wpList P ops (Exit.then (fun a' w' => S w' ∧ I (s.1 ||| 2 ^ s.2) a' w') (noP Q)) [(l.getD s.2 default).2] a' w') ∧
      ∀ a' w', S w' → I (2 ^ l.length - 1) a' w' → wpMixG P ops S Q r K a' w'

/-- What has come up where the operations of a part have. -/
def partly (l : List Nat) (listed : Array Bool) (m : Nat) : Array Bool := (List.range l.length).foldl (fun s p => if m.testBit p then s.setIfInBounds (l.getD p 0) true else s) listed
def headHas (e : List (List (Nat × Nat))) (full m : Nat) : Bool := match e with
  | [] => m == full
  | lv :: _ => lv.any fun s => s.1 == m
def grpB (ops : Array Oper) (k : Nat) (l : List Nat) (listed : Array Bool) : List (List (Nat × Nat)) → Bool
  | [] => true
  | lv :: rest => lv.all (fun s => decide (s.2 < l.length) && decide (l.getD s.2 0 < ops.size) && !(l.getD s.2 0 == k) && decide ((partly l listed s.1).setIfInBounds (l.getD s.2 0) true = partly l listed (s.1 ||| 2 ^ s.2)) && headHas rest (2 ^ l.length - 1) (s.1 ||| 2 ^ s.2)
      && !(Region.ready .any ops (partly l listed s.1)).isEmpty && (Region.ready .any ops (partly l listed s.1)).all fun i => lv.any fun t => t.1 == s.1 && l.getD t.2 0 == i) && grpB ops k l listed rest
/-- The last operation does not come up beside i; or none is the last. -/
def aloneB (ops : Array Oper) (k i : Nat) : Bool := waitsB ops k i || decide (ops.size ≤ k)
def mixG (ops : Array Oper) (k : Nat) : PlanG Nat → Array Bool → Bool
  | .done, listed => (Region.ready .any ops listed).isEmpty
  | .take i r, listed => decide (i < ops.size) && (Region.ready .any ops listed).contains i && Region.free .any ops listed i && aloneB ops k i && mixG ops k r (listed.setIfInBounds i true)
  | .one i r, listed => decide (i < ops.size) && decide (Region.ready .any ops listed = [i]) && (!(i == k) || decide (r.count = 0)) && mixG ops k r (listed.setIfInBounds i true)
  | .grp l e r, listed => !e.isEmpty && headHas e (2 ^ l.length - 1) 0 && grpB ops k l listed e && mixG ops k r (partly l listed (2 ^ l.length - 1))

theorem partly_zero (l : List Nat) (listed : Array Bool) : partly l listed 0 = listed := by
  unfold partly
  generalize List.range l.length = r
  induction r with
  | nil => rfl
  | cons p r ih => rw [List.foldl_cons]; simpa using ih

theorem alone_spec {ops : Array Oper} {k i : Nat} (h : aloneB ops k i = true) {listed : Array Bool} (hi : i ∈ Region.ready .any ops listed) : k ∉ Region.ready .any ops listed := by
  unfold aloneB at h
  rw [Bool.or_eq_true] at h
  rcases h with h | h
  · exact waits_spec h hi
  · intro hk
    obtain ⟨_, o, ho, _⟩ := mem_ready.1 hk
    have h2 : ops.size ≤ k := by simpa using h
    rw [Array.getElem?_eq_none h2] at ho
    cases ho
theorem to_firstG {ops : Array Oper} {k i : Nat} {oi : Oper} {v : Value} (hi : ops[i]? = some oi) (hk : aloneB ops k i = true) (hsel : ∀ (j : Nat) (o : Oper) cs b, ops[j]? = some o → o.op ≠ .select cs b)
    (hQ : ∀ c a w, Q (.panic c) (a.put oi.dst v) w → Q (.panic c) a w) : ∀ (n : Nat) (listed : Array Bool) (a : Act) (w : World),
    (∀ j oj, ops[j]? = some oj → j ≠ i → listed.getD j true = false → (∀ e ∈ oj.after, Region.binds .any e = true → e.on ≠ i) → oi.apart ops oj = true) →
    i ∈ Region.ready .any ops listed → YieldsIf P ops S oi v a → S w → wpTo P ops Q S k n (listed.setIfInBounds i true) (a.put oi.dst v) w → wpTo P ops Q S k (n + 1) listed a w := by
  intro n
  induction n with
  | zero =>
    intro listed a w _ hr hy hS H
    constructor
    · intro h; rw [h] at hr; cases hr
    · intro j hj
      by_cases e : j = i
      · subst e
        exact hy.wpOp hi hS ⟨.inr hS, H⟩
      · have h2 := ready_mono hj e
        rw [H.1] at h2
        cases h2
  | succ n ih =>
    intro listed a w hfree hr hy hS H
    constructor
    · intro h; rw [h] at hr; cases hr
    · intro j hj
      by_cases e : j = i
      · subst e
        exact hy.wpOp hi hS ⟨.inr hS, H⟩
      · have hjk : j ≠ k := fun e2 => by subst e2; exact alone_spec hk hr hj
        obtain ⟨hju, oj, hoj, hall⟩ := mem_ready.1 hj
        have hnot : ∀ d ∈ oj.after, Region.binds .any d = true → d.on ≠ i := by
          intro d hd hb hdi
          have q1 := hall d hd hb
          have q0 := (mem_ready.1 hr).1
          rw [hdi] at q1
          by_cases hlt : i < listed.size
          · simp [hlt] at q0 q1
            rw [q0] at q1
            cases q1
          · simp [Array.getElem?_eq_none (Nat.le_of_not_lt hlt)] at q1
        have step := wpOp_putIf hoj (hfree j oj hoj e hju hnot) (fun cs b => hsel i oi cs b hi) (fun cs b => hsel j oj cs b hoj) hQ hy (H.2 j (ready_mono hj e))
        refine wpOp_mono (fun a' w' q => ?_) step
        have hS' : S w' := q.2.1.resolve_left hjk
        refine ⟨.inr hS', ih (listed.setIfInBounds j true) a' w' (fun m om hm hmi hun hno => ?_) (ready_mono hr (Ne.symm e)) q.1 hS' ?_⟩
        · refine hfree m om hm hmi ?_ hno
          by_cases ejm : j = m
          · subst ejm; exact hju
          · rw [getD_set_ne true ejm] at hun; exact hun
        · rw [Array.setIfInBounds_comm _ _ e]
          exact q.2.2

theorem grpB_lt {ops : Array Oper} {k : Nat} {l : List Nat} {listed : Array Bool} : ∀ (e : List (List (Nat × Nat))), grpB ops k l listed e = true → ∀ s ∈ e.flatten, s.2 < l.length := by
  intro e
  induction e with
  | nil => intro _ s hs; cases hs
  | cons lv rest ih =>
    intro h s hs
    simp only [grpB, Bool.and_eq_true, List.all_eq_true, decide_eq_true_eq] at h
    simp only [List.flatten_cons, List.mem_append] at hs
    rcases hs with hs | hs
    · exact (h.1 s hs).1.1.1.1.1.1
    · exact ih h.2 s hs

theorem grp_sound (l : List Oper) (k : Nat) (ids : List Nat) (listed : Array Bool) (I : Nat → Act → World → Prop) (n : Nat) :
    ∀ (e : List (List (Nat × Nat))), grpB l.toArray k ids listed e = true →
    (∀ s ∈ e.flatten, ∀ a' w', S w' → I s.1 a' w' → wpList P l.toArray (Exit.then (fun a' w' => S w' ∧ I (s.1 ||| 2 ^ s.2) a' w') (noP Q)) [l.getD (ids.getD s.2 0) default] a' w') →
    (∀ a' w', S w' → I (2 ^ ids.length - 1) a' w' → wpTo P l.toArray (noP Q) S k n (partly ids listed (2 ^ ids.length - 1)) a' w') →
    ∀ m a w, headHas e (2 ^ ids.length - 1) m = true → S w → I m a w → wpTo P l.toArray (noP Q) S k (e.length + n) (partly ids listed m) a w := by
  intro e
  induction e with
  | nil =>
    intro hB hs hf m a w hm hS hI
    obtain rfl : m = 2 ^ ids.length - 1 := by simpa [headHas] using hm
    simpa using hf a w hS hI
  | cons lv rest ih =>
    intro hB hs hf m a w hm hS hI
    simp only [grpB, Bool.and_eq_true, List.all_eq_true, decide_eq_true_eq, Bool.not_eq_true', beq_eq_false_iff_ne] at hB
    obtain ⟨hlv, hrest⟩ := hB
    simp only [headHas, List.any_eq_true, beq_iff_eq] at hm
    obtain ⟨s0, hs0, rfl⟩ := hm
    rw [show (lv :: rest).length + n = (rest.length + n) + 1 by simp; omega]
    obtain ⟨⟨_, hne⟩, hall⟩ := hlv s0 hs0
    refine ⟨fun h0 => (by rw [h0] at hne; cases hne), fun i hi => ?_⟩
    have ht := hall i (by simpa using hi)
    simp only [List.any_eq_true, Bool.and_eq_true, beq_iff_eq] at ht
    obtain ⟨t, htl, hte, hti⟩ := ht
    obtain ⟨⟨⟨⟨⟨⟨h1, h2⟩, h3⟩, h4⟩, h5⟩, _⟩, _⟩ := hlv t htl
    rw [hti] at h2 h3 h4
    rw [hte] at h4 h5
    have hk : l.toArray[i]? = some (l.getD i default) := by
      have hlt' : i < l.length := by simpa using h2
      simp [List.getD, hlt']
    have hstep := hs t (by simp only [List.flatten_cons, List.mem_append]; exact .inl htl) a w hS (by rw [hte]; exact hI)
    rw [hti, hte] at hstep
    refine oneJ_sound (K := fun a' w' => S w' ∧ I (s0.1 ||| 2 ^ t.2) a' w') hk (fun a' w' hq hm => ?_) ?_
    · rw [h4]
      exact ih hrest (fun s hs' => hs s (by simp only [List.flatten_cons, List.mem_append]; exact .inr hs')) hf _ a' w' h5 hm.1 hm.2
    · exact wpList_monoJ (fun a w q => ⟨.inr q.1, q⟩) hstep

theorem mixG_sound (l : List Oper) (k : Nat) (hs : Region.noSelect l.toArray = true) : ∀ (plan : PlanG Nat) (listed : Array Bool) (a : Act) (w : World), mixG l.toArray k plan listed = true → (S w ∨ plan.count = 0) →
    wpMixG P l.toArray S Q (itemsG l k plan) (fun a w => Q .normal a w) a w → wpTo P l.toArray (noP Q) S k plan.count listed a w := by
  have hget : ∀ i, i < l.toArray.size → l.toArray[i]? = some (l.getD i default) := fun i hi => by
    have hlt' : i < l.length := by simpa using hi
    simp [List.getD, hlt']
  intro plan
  induction plan with
  | done =>
    intro listed a w hB hS h
    exact ⟨by simpa [mixG] using hB, noP_normal h⟩
  | take i r ih =>
    intro listed a w hB hS h
    simp only [mixG, Bool.and_eq_true, decide_eq_true_eq] at hB
    obtain ⟨⟨⟨⟨hlt, hr⟩, hf⟩, hwt⟩, hB'⟩ := hB
    have hS' : S w := hS.resolve_right (by simp [PlanG.count])
    have hk := hget i hlt
    have hr' : i ∈ Region.ready .any l.toArray listed := by simpa using hr
    show wpTo P l.toArray (noP Q) S k (r.count + 1) listed a w
    unfold itemsG PlanG.map wpMixG at h
    simp only at h
    by_cases hw : Region.wanted (l.getD i default) (yielded l.toArray a.tmps) = true
    · rw [if_pos hw] at h
      obtain ⟨v, hv, hnn⟩ := h
      exact to_firstG hk hwt (Region.noSelect_spec hs) (fun c a w h => h) _ listed a w (Region.free_spec hk hf) hr' (.inl ⟨hw, hv⟩) hS' (ih _ _ _ hB' (.inl hS') hnn)
    · rw [if_neg hw] at h
      exact to_firstG (v := undef) hk hwt (Region.noSelect_spec hs) (fun c a w h => h) _ listed a w (Region.free_spec hk hf) hr' (.inr ⟨by simpa using hw, rfl⟩) hS' (ih _ _ _ hB' (.inl hS') h)
  | one i r ih =>
    intro listed a w hB hS h
    simp only [mixG, Bool.and_eq_true, decide_eq_true_eq] at hB
    obtain ⟨⟨⟨hlt, hr⟩, hlast⟩, hB'⟩ := hB
    show wpTo P l.toArray (noP Q) S k (r.count + 1) listed a w
    unfold itemsG PlanG.map wpMixG at h
    refine ⟨fun h0 => (by rw [hr] at h0; cases h0), fun j hj => ?_⟩
    rw [hr, List.mem_singleton] at hj
    subst hj
    refine oneJ_sound (hget j hlt) (fun a w hq hm => ih _ a w hB' ?_ hm) h
    rcases hq with hq | hq
    · exact .inl hq
    · rw [hq] at hlast
      simp at hlast
      exact .inr hlast
  | grp ids e r ih =>
    intro listed a w hB hS h
    simp only [mixG, Bool.and_eq_true] at hB
    obtain ⟨⟨⟨hn, hh⟩, hg⟩, hB'⟩ := hB
    have he : e ≠ [] := fun q => by rw [q] at hn; cases hn
    show wpTo P l.toArray (noP Q) S k (e.length + r.count) listed a w
    unfold itemsG PlanG.map wpMixG at h
    obtain ⟨I, h0, hstep, hend⟩ := h
    rw [List.length_map] at hend
    rw [← partly_zero ids listed]
    have hS' : S w := hS.resolve_right (by
      intro q
      apply he
      exact List.eq_nil_of_length_eq_zero (by simp [PlanG.count] at q; simp [q.1]))
    refine grp_sound l k ids listed I r.count e hg (fun s hs' a' w' hS'' hI => ?_) (fun a' w' hS'' hI => ih _ a' w' hB' (.inl hS'') (hend a' w' hS'' hI)) 0 a w hh hS' h0
    have q := hstep s hs' a' w' hS'' hI
    have hlt := grpB_lt e hg s hs'
    have e1 : ((ids.map fun i => (i == k, l.getD i default)).getD s.2 default).2 = l.getD (ids.getD s.2 0) default := by
      simp [List.getD, hlt]
    rw [e1] at q
    exact q

/-- The beginning. -/
theorem wp_region_mixG {id : Nat} {a : Act} {w : World} {l : List Oper} (S : World → Prop) (k : Nat) (plan : PlanG Nat) (hm : P.follows .mixedOrders = true)
    (hB : (Region.noSelect l.toArray && decide (plan.count = l.toArray.size) && mixG l.toArray k plan (Array.replicate l.toArray.size false)) = true) (hS : S w.drew)
    (h : wpMixG P l.toArray S Q (itemsG l k plan) (fun a w => Q .normal a w) a w.drew) : (Code.region id l.toArray true).wp P Q a w := by
  simp only [Bool.and_eq_true, decide_eq_true_eq] at hB
  obtain ⟨⟨hs, hl⟩, hB⟩ := hB
  have H := mixG_sound (P := P) (Q := Q) (S := S) l k hs plan _ a w.drew hB (.inl hS) h
  rw [hl] at H
  exact wp_mono (wp_region_any hm (wpAny_to _ _ _ _ H)) noP_le

theorem wpMixG_done {ops : Array Oper} {K : Act → World → Prop} {a : Act} {w : World} (h : K a w) : wpMixG P ops S Q .done K a w := h
theorem wpMixG_free {ops : Array Oper} {C : Act → World → Prop} {a : Act} {w : World} {b : Bool} {o : Oper} {r : ItemG}
    (h : ∀ K : Act → Prop, (∀ a, wpMixG P ops S Q r C a w → K a) → if Region.wanted o (yielded ops a.tmps) = true then ∃ v, (∀ W, (execOp a.eval o).run P W = .ok (.value v) W) ∧ K (a.put o.dst v) else K (a.put o.dst undef)) : wpMixG P ops S Q (.take (b, o) r) C a w := by
  have h2 := h (fun a => wpMixG P ops S Q r C a w) (fun _ h => h)
  unfold wpMixG
  by_cases hw : Region.wanted o (yielded ops a.tmps) = true
  · rw [if_pos hw] at h2 ⊢
    obtain ⟨v, hv, hn⟩ := h2
    exact ⟨v, fun W _ => hv W, hn⟩
  · rw [if_neg hw] at h2 ⊢
    exact h2
theorem wpMixG_yield {ops : Array Oper} {C : Act → World → Prop} {a : Act} {w : World} {b : Bool} {o : Oper} {r : ItemG} {v : Value} (hr : ∀ W, S W → (execOp a.eval o).run P W = .ok (.value v) W)
    (h : ∀ K : Act → Prop, (∀ a, wpMixG P ops S Q r C a w → K a) → if Region.wanted o (yielded ops a.tmps) = true then K (a.put o.dst v) else K (a.put o.dst undef)) : wpMixG P ops S Q (.take (b, o) r) C a w := by
  have h2 := h (fun a => wpMixG P ops S Q r C a w) (fun _ h => h)
  unfold wpMixG
  by_cases hw : Region.wanted o (yielded ops a.tmps) = true
  · rw [if_pos hw] at h2 ⊢
    exact ⟨v, hr, h2⟩
  · rw [if_neg hw] at h2 ⊢
    exact h2
theorem wpMixG_one {ops : Array Oper} {C : Act → World → Prop} {a : Act} {w : World} {b : Bool} {o : Oper} {r : ItemG}
    (h : ∀ K : Act → World → Prop, (∀ a w, b = true ∨ S w → wpMixG P ops S Q r C a w → K a w) → wpList P ops (Exit.then K (noP Q)) [o] a w) : wpMixG P ops S Q (.one (b, o) r) C a w := by
  unfold wpMixG
  exact h (fun a w => (b = true ∨ S w) ∧ wpMixG P ops S Q r C a w) (fun a w h1 h2 => ⟨h1, h2⟩)
/-- A group: what holds behind each part. -/
theorem wpMixG_grp {ops : Array Oper} {C : Act → World → Prop} {a : Act} {w : World} {l : List (Bool × Oper)} {e : List (List (Nat × Nat))} {r : ItemG} (I : Act → Nat → Act → World → Prop) (h0 : I a 0 a w)
    (hs : ∀ K : Nat → Act → World → Prop, (∀ m a' w, S w → I a m a' w → K m a' w) → everyL e.flatten fun s => ∀ a' w', S w' → I a s.1 a' w' → wpList P ops (Exit.then (K (s.1 ||| 2 ^ s.2)) (noP Q)) [(l.getD s.2 default).2] a' w')
    (hf : ∀ a' w', S w' → I a (2 ^ l.length - 1) a' w' → wpMixG P ops S Q r C a' w') : wpMixG P ops S Q (.grp l e r) C a w := by
  unfold wpMixG
  exact ⟨I a, h0, fun s hs' => everyL_mem _ (hs (fun m a' w => S w ∧ I a m a' w) (fun m a w h1 h2 => ⟨h1, h2⟩)) s hs', hf⟩
end

end Go.Proofs.Ytjbcagbnagefcaa

namespace Go.Proofs.Ytjbcagbnagefcaa
open Go Go.RowKit

section
variable {P : Program} {Q : Exit → Act → World → Prop} {S : World → Prop}
/-- Whatever comes up; behind each but those of B S holds. -/
def wpToB (P : Program) (ops : Array Oper) (Q : Exit → Act → World → Prop) (S : World → Prop) (B : List Nat) : Nat → Array Bool → Act → World → Prop
  | 0, listed, a, w => Region.ready .any ops listed = [] ∧ Q .normal a w
  | n + 1, listed, a, w => (Region.ready .any ops listed = [] → Q .normal a w) ∧ ∀ i ∈ Region.ready .any ops listed, wpOp P ops Q i (fun a' w' => (i ∈ B ∨ S w') ∧ wpToB P ops Q S B n (listed.setIfInBounds i true) a' w') a w
theorem wpAny_toB {ops : Array Oper} {B : List Nat} : ∀ (n : Nat) (listed : Array Bool) (a : Act) (w : World), wpToB P ops Q S B n listed a w → wpAny P .any ops Q n listed a w := by
  intro n
  induction n with
  | zero => intro listed a w h; exact h
  | succ n ih => intro listed a w h; exact ⟨h.1, fun i hi => wpOp_mono (fun a' w' h' => ih _ a' w' h'.2) (h.2 i hi)⟩
def waitsAll (ops : Array Oper) (B : List Nat) (i : Nat) : Bool := B.all fun k => waitsB ops k i
theorem waitsAll_spec {ops : Array Oper} {B : List Nat} {i : Nat} (h : waitsAll ops B i = true) {listed : Array Bool} (hi : i ∈ Region.ready .any ops listed) : ∀ k ∈ B, k ∉ Region.ready .any ops listed := fun k hk =>
  waits_spec (List.all_eq_true.1 h k hk) hi
theorem to_firstB {ops : Array Oper} {B : List Nat} {i : Nat} {oi : Oper} {v : Value} (hi : ops[i]? = some oi) (hk : waitsAll ops B i = true) (hsel : ∀ (j : Nat) (o : Oper) cs b, ops[j]? = some o → o.op ≠ .select cs b)
    (hQ : ∀ c a w, Q (.panic c) (a.put oi.dst v) w → Q (.panic c) a w) : ∀ (n : Nat) (listed : Array Bool) (a : Act) (w : World),
    (∀ j oj, ops[j]? = some oj → j ≠ i → listed.getD j true = false → (∀ e ∈ oj.after, Region.binds .any e = true → e.on ≠ i) → oi.apart ops oj = true) →
    i ∈ Region.ready .any ops listed → YieldsIf P ops S oi v a → S w → wpToB P ops Q S B n (listed.setIfInBounds i true) (a.put oi.dst v) w → wpToB P ops Q S B (n + 1) listed a w := by
  intro n
  induction n with
  | zero =>
    intro listed a w _ hr hy hS H
    constructor
    · intro h; rw [h] at hr; cases hr
    · intro j hj
      by_cases e : j = i
      · subst e
        exact hy.wpOp hi hS ⟨.inr hS, H⟩
      · have h2 := ready_mono hj e
        rw [H.1] at h2
        cases h2
  | succ n ih =>
    intro listed a w hfree hr hy hS H
    constructor
    · intro h; rw [h] at hr; cases hr
    · intro j hj
      by_cases e : j = i
      · subst e
        exact hy.wpOp hi hS ⟨.inr hS, H⟩
      · have hjk : j ∉ B := fun e2 => waitsAll_spec hk hr j e2 hj
        obtain ⟨hju, oj, hoj, hall⟩ := mem_ready.1 hj
        have hnot : ∀ d ∈ oj.after, Region.binds .any d = true → d.on ≠ i := by
          intro d hd hb hdi
          have q1 := hall d hd hb
          have q0 := (mem_ready.1 hr).1
          rw [hdi] at q1
          by_cases hlt : i < listed.size
          · simp [hlt] at q0 q1
            rw [q0] at q1
            cases q1
          · simp [Array.getElem?_eq_none (Nat.le_of_not_lt hlt)] at q1
        have step := wpOp_putIf hoj (hfree j oj hoj e hju hnot) (fun cs b => hsel i oi cs b hi) (fun cs b => hsel j oj cs b hoj) hQ hy (H.2 j (ready_mono hj e))
        refine wpOp_mono (fun a' w' q => ?_) step
        have hS' : S w' := q.2.1.resolve_left hjk
        refine ⟨.inr hS', ih (listed.setIfInBounds j true) a' w' (fun m om hm hmi hun hno => ?_) (ready_mono hr (Ne.symm e)) q.1 hS' ?_⟩
        · refine hfree m om hm hmi ?_ hno
          by_cases ejm : j = m
          · subst ejm; exact hju
          · rw [getD_set_ne true ejm] at hun; exact hun
        · rw [Array.setIfInBounds_comm _ _ e]
          exact q.2.2

/-- The operations in the order of a plan: 0: it yields the same in every world that meets S; 1: it comes up alone, and S is shown behind it; 2: it comes up alone, and so does all that follows. -/
def wpMixB (P : Program) (ops : Array Oper) (S : World → Prop) (Q : Exit → Act → World → Prop) : List (Nat × Oper) → Act → World → Prop
  | [], a, w => Q .normal a w
  | (0, o) :: r, a, w => if Region.wanted o (yielded ops a.tmps) = true then ∃ v, (∀ W, S W → (execOp a.eval o).run P W = .ok (.value v) W) ∧ wpMixB P ops S Q r (a.put o.dst v) w else wpMixB P ops S Q r (a.put o.dst undef) w
  | (1, o) :: r, a, w => wpList P ops (Exit.then (fun a' w' => S w' ∧ wpMixB P ops S Q r a' w') (noP Q)) [o] a w
  | (_ + 2, o) :: r, a, w => wpList P ops (Exit.then (fun a' w' => wpMixB P ops S Q r a' w') (noP Q)) [o] a w
def itemsB (ops : List Oper) (plan : List (Nat × Nat)) : List (Nat × Oper) := plan.map fun p => (p.1, ops.getD p.2 default)
def lateOf (plan : List (Nat × Nat)) : List Nat := (plan.filter fun p => 2 ≤ p.1).map (·.2)
def mixBB (ops : Array Oper) (B : List Nat) : List (Nat × Nat) → Array Bool → Bool
  | [], listed => (Region.ready .any ops listed).isEmpty
  | (0, k) :: r, listed => decide (k < ops.size) && (Region.ready .any ops listed).contains k && Region.free .any ops listed k && waitsAll ops B k && mixBB ops B r (listed.setIfInBounds k true)
  | (1, k) :: r, listed => decide (k < ops.size) && decide (Region.ready .any ops listed = [k]) && !(B.contains k) && mixBB ops B r (listed.setIfInBounds k true)
  | (_ + 2, k) :: r, listed => decide (k < ops.size) && decide (Region.ready .any ops listed = [k]) && B.contains k && r.all (fun p => decide (2 ≤ p.1)) && mixBB ops B r (listed.setIfInBounds k true)

theorem oneB_sound {l : List Oper} {B : List Nat} {i n : Nat} {listed : Array Bool} {a : Act} {w : World} {K : Act → World → Prop} (hk : l.toArray[i]? = some (l.getD i default))
    (ih : ∀ a w, K a w → (i ∈ B ∨ S w) ∧ wpToB P l.toArray (noP Q) S B n (listed.setIfInBounds i true) a w)
    (h : wpList P l.toArray (Exit.then K (noP Q)) [l.getD i default] a w) :
    wpOp P l.toArray (noP Q) i (fun a' w' => (i ∈ B ∨ S w') ∧ wpToB P l.toArray (noP Q) S B n (listed.setIfInBounds i true) a' w') a w := by
  unfold wpOp
  simp only [hk]
  unfold wpList at h
  by_cases hw : Region.wanted (l.getD i default) (yielded l.toArray a.tmps) = true
  · rw [if_pos hw] at h ⊢
    rcases h with h | ⟨h1, h2⟩
    · refine .inl (oper_wp_mono (fun a w h => ?_) (fun c a w h => h) (fun h => ?_) h)
      · unfold wpList at h
        exact ih a w h
      · obtain ⟨a, w, h⟩ := h; exact ⟨a, w, h⟩
    · obtain ⟨a, w, h⟩ := h2
      exact .inr ⟨h1, a, w, h⟩
  · rw [if_neg hw] at h ⊢
    unfold wpList at h
    exact ih _ _ h

theorem mixBB_sound (l : List Oper) (B : List Nat) (hs : Region.noSelect l.toArray = true) : ∀ (plan : List (Nat × Nat)) (listed : Array Bool) (a : Act) (w : World), mixBB l.toArray B plan listed = true → (S w ∨ plan.all (fun p => decide (2 ≤ p.1)) = true) →
    wpMixB P l.toArray S Q (itemsB l plan) a w → wpToB P l.toArray (noP Q) S B plan.length listed a w := by
  have hget : ∀ i, i < l.toArray.size → l.toArray[i]? = some (l.getD i default) := fun i hi => by
    have hlt' : i < l.length := by simpa using hi
    simp [List.getD, hlt']
  intro plan
  induction plan with
  | nil =>
    intro listed a w hB _ h
    exact ⟨by simpa [mixBB] using hB, h⟩
  | cons p r ih =>
    intro listed a w hB hS h
    obtain ⟨b, k⟩ := p
    match b, hB, hS, h with
    | 0, hB, hS, h =>
      simp only [mixBB, Bool.and_eq_true, decide_eq_true_eq] at hB
      obtain ⟨⟨⟨⟨hlt, hr⟩, hf⟩, hwt⟩, hB'⟩ := hB
      have hS' : S w := hS.resolve_right (by simp)
      have hk := hget k hlt
      have hr' : k ∈ Region.ready .any l.toArray listed := by simpa using hr
      unfold itemsB at h
      rw [List.map_cons] at h
      unfold wpMixB at h
      simp only at h
      by_cases hw : Region.wanted (l.getD k default) (yielded l.toArray a.tmps) = true
      · rw [if_pos hw] at h
        obtain ⟨v, hv, hn⟩ := h
        exact to_firstB hk hwt (Region.noSelect_spec hs) (fun c a w h => h) _ listed a w (Region.free_spec hk hf) hr' (.inl ⟨hw, hv⟩) hS' (ih _ _ _ hB' (.inl hS') hn)
      · rw [if_neg hw] at h
        exact to_firstB (v := undef) hk hwt (Region.noSelect_spec hs) (fun c a w h => h) _ listed a w (Region.free_spec hk hf) hr' (.inr ⟨by simpa using hw, rfl⟩) hS' (ih _ _ _ hB' (.inl hS') h)
    | 1, hB, hS, h =>
      simp only [mixBB, Bool.and_eq_true, decide_eq_true_eq] at hB
      obtain ⟨⟨⟨hlt, hr⟩, hnb⟩, hB'⟩ := hB
      unfold itemsB at h
      rw [List.map_cons] at h
      unfold wpMixB at h
      refine ⟨fun h0 => (by rw [hr] at h0; cases h0), fun j hj => ?_⟩
      rw [hr, List.mem_singleton] at hj
      subst hj
      exact oneB_sound (hget j hlt) (fun a w hq => ⟨.inr hq.1, ih _ a w hB' (.inl hq.1) hq.2⟩) h
    | b + 2, hB, hS, h =>
      simp only [mixBB, Bool.and_eq_true, decide_eq_true_eq] at hB
      obtain ⟨⟨⟨⟨hlt, hr⟩, hb⟩, hall⟩, hB'⟩ := hB
      unfold itemsB at h
      rw [List.map_cons] at h
      unfold wpMixB at h
      refine ⟨fun h0 => (by rw [hr] at h0; cases h0), fun j hj => ?_⟩
      rw [hr, List.mem_singleton] at hj
      subst hj
      exact oneB_sound (hget j hlt) (fun a w hq => ⟨.inl (by simpa using hb), ih _ a w hB' (.inr hall) hq⟩) h

/-- The beginning. -/
theorem wp_region_mixB {id : Nat} {a : Act} {w : World} {l : List Oper} (S : World → Prop) (plan : List (Nat × Nat)) (hm : P.follows .mixedOrders = true)
    (hB : (Region.noSelect l.toArray && decide (plan.length = l.toArray.size) && mixBB l.toArray (lateOf plan) plan (Array.replicate l.toArray.size false)) = true) (hS : S w.drew)
    (h : wpMixB P l.toArray S Q (itemsB l plan) a w.drew) : (Code.region id l.toArray true).wp P Q a w := by
  simp only [Bool.and_eq_true, decide_eq_true_eq] at hB
  obtain ⟨⟨hs, hl⟩, hB⟩ := hB
  have H := mixBB_sound (P := P) (Q := Q) (S := S) l (lateOf plan) hs plan _ a w.drew hB (.inl hS) h
  rw [hl] at H
  exact wp_mono (wp_region_any hm (wpAny_toB _ _ _ _ H)) noP_le

theorem wpMixB_nil {ops : Array Oper} {a : Act} {w : World} (h : Q .normal a w) : wpMixB P ops S Q [] a w := by unfold wpMixB; exact h
theorem wpMixB_free {ops : Array Oper} {a : Act} {w : World} {o : Oper} {r : List (Nat × Oper)}
    (h : ∀ K : Act → Prop, (∀ a, wpMixB P ops S Q r a w → K a) → if Region.wanted o (yielded ops a.tmps) = true then ∃ v, (∀ W, (execOp a.eval o).run P W = .ok (.value v) W) ∧ K (a.put o.dst v) else K (a.put o.dst undef)) : wpMixB P ops S Q ((0, o) :: r) a w := by
  have h2 := h (fun a => wpMixB P ops S Q r a w) (fun _ h => h)
  unfold wpMixB
  by_cases hw : Region.wanted o (yielded ops a.tmps) = true
  · rw [if_pos hw] at h2 ⊢
    obtain ⟨v, hv, hn⟩ := h2
    exact ⟨v, fun W _ => hv W, hn⟩
  · rw [if_neg hw] at h2 ⊢
    exact h2
theorem wpMixB_yield {ops : Array Oper} {a : Act} {w : World} {o : Oper} {r : List (Nat × Oper)} {v : Value} (hr : ∀ W, S W → (execOp a.eval o).run P W = .ok (.value v) W)
    (h : ∀ K : Act → Prop, (∀ a, wpMixB P ops S Q r a w → K a) → if Region.wanted o (yielded ops a.tmps) = true then K (a.put o.dst v) else K (a.put o.dst undef)) : wpMixB P ops S Q ((0, o) :: r) a w := by
  have h2 := h (fun a => wpMixB P ops S Q r a w) (fun _ h => h)
  unfold wpMixB
  by_cases hw : Region.wanted o (yielded ops a.tmps) = true
  · rw [if_pos hw] at h2 ⊢
    exact ⟨v, hr, h2⟩
  · rw [if_neg hw] at h2 ⊢
    exact h2
theorem wpMixB_one {ops : Array Oper} {a : Act} {w : World} {o : Oper} {r : List (Nat × Oper)}
    (h : ∀ K : Act → World → Prop, (∀ a w, S w → wpMixB P ops S Q r a w → K a w) → wpList P ops (Exit.then K (noP Q)) [o] a w) : wpMixB P ops S Q ((1, o) :: r) a w := by
  unfold wpMixB
  exact h (fun a w => S w ∧ wpMixB P ops S Q r a w) (fun a w h1 h2 => ⟨h1, h2⟩)
theorem wpMixB_late {ops : Array Oper} {a : Act} {w : World} {o : Oper} {r : List (Nat × Oper)}
    (h : ∀ K : Act → World → Prop, (∀ a w, wpMixB P ops S Q r a w → K a w) → wpList P ops (Exit.then K (noP Q)) [o] a w) : wpMixB P ops S Q ((2, o) :: r) a w := by
  unfold wpMixB
  exact h (fun a w => wpMixB P ops S Q r a w) (fun a w h => h)
end

end Go.Proofs.Ytjbcagbnagefcaa
