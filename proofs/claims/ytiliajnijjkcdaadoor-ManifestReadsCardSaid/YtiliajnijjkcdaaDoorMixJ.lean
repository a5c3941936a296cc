/- A region that draws its order, by a plan in parts: a part's orders meet again behind it. -/
import Derived.Test.YtiliajnijjkcdaaDoorMixT
namespace Go.Proofs.YtiliajnijjkcdaaDoor
open Go Go.RowKit

inductive PlanJ (α : Type) where
  | done : PlanJ α
  | take : α → PlanJ α → PlanJ α
  | one : α → PlanJ α → PlanJ α
  | two : α → α → PlanJ α → PlanJ α → PlanJ α
  | join : PlanJ α → PlanJ α → PlanJ α
def PlanJ.map {α β : Type} (f : α → β) : PlanJ α → PlanJ β
  | .done => .done
  | .take i r => .take (f i) (r.map f)
  | .one i r => .one (f i) (r.map f)
  | .two i j r s => .two (f i) (f j) (r.map f) (s.map f)
  | .join p r => .join (p.map f) (r.map f)
abbrev ItemJ := PlanJ (Bool × Oper)
def itemsJ (ops : List Oper) (k : Nat) (p : PlanJ Nat) : ItemJ := p.map fun i => (i == k, ops.getD i default)
/-- How many operations; none: the ways differ. -/
def PlanJ.count : PlanJ Nat → Option Nat
  | .done => some 0
  | .take _ r => r.count.map (· + 1)
  | .one _ r => r.count.map (· + 1)
  | .two _ _ r s => match r.count, s.count with | some a, some b => if a = b then some (a + 1) else none | _, _ => none
  | .join p r => match p.count, r.count with | some a, some b => some (a + b) | _, _ => none

section
variable {P : Program} {Q : Exit → Act → World → Prop} {S : World → Prop}

def wpMixJ (P : Program) (ops : Array Oper) (S : World → Prop) (Q : Exit → Act → World → Prop) : ItemJ → (Act → World → Prop) → Act → World → Prop
  | .done, K, a, w => K a w
  | .take o r, K, a, w => if Region.wanted o.2 (yielded ops a.tmps) = true then ∃ v, (∀ W, S W → (execOp a.eval o.2).run P W = .ok (.value v) W) ∧ wpMixJ P ops S Q r K (a.put o.2.dst v) w else wpMixJ P ops S Q r K (a.put o.2.dst undef) w
  | .one o r, K, a, w => wpList P ops (Exit.then (fun a' w' => (o.1 = true ∨ S w') ∧ wpMixJ P ops S Q r K a' w') (noP Q)) [o.2] a w
  | .two o u r s, K, a, w => wpList P ops (Exit.then (fun a' w' => (o.1 = true ∨ S w') ∧ wpMixJ P ops S Q r K a' w') (noP Q)) [o.2] a w ∧ wpList P ops (Exit.then (fun a' w' => (u.1 = true ∨ S w') ∧ wpMixJ P ops S Q s K a' w') (noP Q)) [u.2] a w
  | .join p r, K, a, w => wpMixJ P ops S Q p (fun a' w' => wpMixJ P ops S Q r K a' w') a w

/-- The plan is right from here; what has come up at its end. -/
def mixJ (ops : Array Oper) (k : Nat) : Bool → PlanJ Nat → Array Bool → Option (Array Bool)
  | _, .done, listed => some listed
  | z, .take i r, listed => if (decide (i < ops.size) && (Region.ready .any ops listed).contains i && Region.free .any ops listed i && waitsB ops k i) = true then mixJ ops k z r (listed.setIfInBounds i true) else none
  | z, .one i r, listed => if (decide (i < ops.size) && decide (Region.ready .any ops listed = [i]) && (!(i == k) || (z && decide (r.count = some 0)))) = true then mixJ ops k z r (listed.setIfInBounds i true) else none
  | z, .two i j r s, listed => if (decide (i < ops.size) && decide (j < ops.size) && decide (Region.ready .any ops listed = [i, j]) && !(i == k) && !(j == k)) = true then
      match mixJ ops k z r (listed.setIfInBounds i true), mixJ ops k z s (listed.setIfInBounds j true) with
      | some a, some b => if a = b then some a else none
      | _, _ => none
    else none
  | z, .join p r, listed => match mixJ ops k false p listed with | some l => mixJ ops k z r l | none => none

theorem noP_normal {a : Act} {w : World} (h : Q .normal a w) : noP Q .normal a w := h
theorem wpList_monoJ {ops : Array Oper} {o : Oper} {a : Act} {w : World} {K K' : Act → World → Prop} {R : Exit → Act → World → Prop} (hK : ∀ a w, K a w → K' a w) (h : wpList P ops (Exit.then K (noP R)) [o] a w) : wpList P ops (Exit.then K' (noP R)) [o] a w := by
  unfold wpList at h ⊢
  by_cases hw : Region.wanted o (yielded ops a.tmps) = true
  · rw [if_pos hw] at h ⊢
    rcases h with h | ⟨h1, h2⟩
    · refine .inl (oper_wp_mono (fun a w h => ?_) (fun c a w h => h) (fun h => ?_) h)
      · unfold wpList at h ⊢
        exact hK _ _ h
      · obtain ⟨a, w, h⟩ := h; exact ⟨a, w, h⟩
    · obtain ⟨a, w, h⟩ := h2
      exact .inr ⟨h1, a, w, h⟩
  · rw [if_neg hw] at h ⊢
    unfold wpList at h ⊢
    exact hK _ _ h
theorem wpMixJ_mono {ops : Array Oper} : ∀ (p : ItemJ) {K K' : Act → World → Prop} (a : Act) (w : World), (∀ a w, K a w → K' a w) → wpMixJ P ops S Q p K a w → wpMixJ P ops S Q p K' a w := by
  intro p
  induction p with
  | done => intro K K' a w hK h; exact hK _ _ h
  | take o r ih =>
    intro K K' a w hK h
    unfold wpMixJ at h ⊢
    split
    · rename_i hw
      rw [if_pos hw] at h
      obtain ⟨v, h1, h2⟩ := h
      exact ⟨v, h1, ih _ _ hK h2⟩
    · rename_i hw
      rw [if_neg hw] at h
      exact ih _ _ hK h
  | one o r ih =>
    intro K K' a w hK h
    unfold wpMixJ at h ⊢
    exact wpList_monoJ (fun a w q => ⟨q.1, ih _ _ hK q.2⟩) h
  | two o u r s ih1 ih2 =>
    intro K K' a w hK h
    unfold wpMixJ at h ⊢
    exact ⟨wpList_monoJ (fun a w q => ⟨q.1, ih1 _ _ hK q.2⟩) h.1, wpList_monoJ (fun a w q => ⟨q.1, ih2 _ _ hK q.2⟩) h.2⟩
  | join p r ih1 ih2 =>
    intro K K' a w hK h
    unfold wpMixJ at h ⊢
    exact ih1 _ _ (fun a w q => ih2 _ _ hK q) h

theorem oneJ_sound {l : List Oper} {k i n : Nat} {listed : Array Bool} {a : Act} {w : World} {K : Act → World → Prop} (hk : l.toArray[i]? = some (l.getD i default))
    (ih : ∀ a w, S w ∨ i = k → K a w → wpTo P l.toArray (noP Q) S k n (listed.setIfInBounds i true) a w)
    (h : wpList P l.toArray (Exit.then (fun a' w' => ((i == k) = true ∨ S w') ∧ K a' w') (noP Q)) [l.getD i default] a w) :
    wpOp P l.toArray (noP Q) i (fun a' w' => (i = k ∨ S w') ∧ wpTo P l.toArray (noP Q) S k n (listed.setIfInBounds i true) a' w') a w := by
  have fin : ∀ a w, ((i == k) = true ∨ S w) ∧ K a w → (i = k ∨ S w) ∧ wpTo P l.toArray (noP Q) S k n (listed.setIfInBounds i true) a w := fun a w q => by
    rcases q.1 with h1 | h1
    · exact ⟨.inl (by simpa using h1), ih a w (.inr (by simpa using h1)) q.2⟩
    · exact ⟨.inr h1, ih a w (.inl h1) q.2⟩
  unfold wpOp
  simp only [hk]
  unfold wpList at h
  by_cases hw : Region.wanted (l.getD i default) (yielded l.toArray a.tmps) = true
  · rw [if_pos hw] at h ⊢
    rcases h with h | ⟨h1, h2⟩
    · refine .inl (oper_wp_mono (fun a w h => ?_) (fun c a w h => h) (fun h => ?_) h)
      · unfold wpList at h
        exact fin a w h
      · obtain ⟨a, w, h⟩ := h; exact ⟨a, w, h⟩
    · obtain ⟨a, w, h⟩ := h2
      exact .inr ⟨h1, a, w, h⟩
  · rw [if_neg hw] at h ⊢
    unfold wpList at h
    exact fin _ _ h

theorem mixJ_sound (l : List Oper) (k : Nat) (hs : Region.noSelect l.toArray = true) : ∀ (plan : PlanJ Nat) (z : Bool) (n m : Nat) (listed fin : Array Bool) (a : Act) (w : World) (K : Act → World → Prop), (z = true → m = 0) → plan.count = some n → mixJ l.toArray k z plan listed = some fin →
    (S w ∨ (n = 0 ∧ m = 0)) → (∀ a w, (S w ∨ m = 0) → K a w → wpTo P l.toArray (noP Q) S k m fin a w) → wpMixJ P l.toArray S Q (itemsJ l k plan) K a w → wpTo P l.toArray (noP Q) S k (n + m) listed a w := by
  have hget : ∀ i, i < l.toArray.size → l.toArray[i]? = some (l.getD i default) := fun i hi => by
    have hlt' : i < l.length := by simpa using hi
    simp [List.getD, hlt']
  intro plan
  induction plan with
  | done =>
    intro z n m listed fin a w K hz hn hB hS hK h
    obtain rfl : 0 = n := by simpa [PlanJ.count] using hn
    simp only [mixJ, Option.some.injEq] at hB
    subst hB
    rw [Nat.zero_add]
    exact hK a w (hS.imp id (fun h => h.2)) h
  | take i r ih =>
    intro z n m listed fin a w K hz hn hB hS hK h
    simp only [PlanJ.count, Option.map_eq_some_iff] at hn
    obtain ⟨n', hn', rfl⟩ := hn
    unfold mixJ at hB
    split at hB
    · rename_i hc
      simp only [Bool.and_eq_true, decide_eq_true_eq] at hc
      obtain ⟨⟨⟨hlt, hr⟩, hf⟩, hwt⟩ := hc
      have hS' : S w := hS.resolve_right (by omega)
      have hk := hget i hlt
      have hr' : i ∈ Region.ready .any l.toArray listed := by simpa using hr
      have hik : i ≠ k := fun e => waits_spec hwt hr' (e ▸ hr')
      rw [show n' + 1 + m = (n' + m) + 1 by omega]
      unfold itemsJ PlanJ.map wpMixJ at h
      simp only at h
      by_cases hw : Region.wanted (l.getD i default) (yielded l.toArray a.tmps) = true
      · rw [if_pos hw] at h
        obtain ⟨v, hv, hnn⟩ := h
        exact to_first hk hwt hik (Region.noSelect_spec hs) (fun c a w h => h) _ listed a w (Region.free_spec hk hf) hr' (.inl ⟨hw, hv⟩) hS' (ih z n' m _ fin _ _ K hz hn' hB (.inl hS') hK hnn)
      · rw [if_neg hw] at h
        exact to_first (v := undef) hk hwt hik (Region.noSelect_spec hs) (fun c a w h => h) _ listed a w (Region.free_spec hk hf) hr' (.inr ⟨by simpa using hw, rfl⟩) hS' (ih z n' m _ fin _ _ K hz hn' hB (.inl hS') hK h)
    · cases hB
  | one i r ih =>
    intro z n m listed fin a w K hz hn hB hS hK h
    simp only [PlanJ.count, Option.map_eq_some_iff] at hn
    obtain ⟨n', hn', rfl⟩ := hn
    unfold mixJ at hB
    split at hB
    · rename_i hc
      simp only [Bool.and_eq_true, decide_eq_true_eq] at hc
      obtain ⟨⟨hlt, hr⟩, hlast⟩ := hc
      rw [show n' + 1 + m = (n' + m) + 1 by omega]
      unfold itemsJ PlanJ.map wpMixJ at h
      refine ⟨fun h0 => (by rw [hr] at h0; cases h0), fun j hj => ?_⟩
      rw [hr, List.mem_singleton] at hj
      subst hj
      refine oneJ_sound (hget j hlt) (fun a w hq hm => ih z n' m _ fin _ _ K hz hn' hB ?_ hK hm) h
      rcases hq with hq | hq
      · exact .inl hq
      · rw [hq] at hlast
        simp at hlast
        have hn0 := hlast.2
        rw [hn'] at hn0
        exact .inr ⟨Option.some.inj hn0, hz hlast.1⟩
    · cases hB
  | two i j r s ih1 ih2 =>
    intro z n m listed fin a w K hz hn hB hS hK h
    unfold mixJ at hB
    split at hB
    · rename_i hc
      simp only [Bool.and_eq_true, decide_eq_true_eq, Bool.not_eq_true', beq_eq_false_iff_ne] at hc
      obtain ⟨⟨⟨⟨hlt, hlt2⟩, hr⟩, hik⟩, hjk⟩ := hc
      unfold PlanJ.count at hn
      split at hn
      · rename_i n1 n2 h1 h2
        split at hn
        · rename_i he
          subst he
          obtain rfl := Option.some.inj hn
          split at hB
          · rename_i f1 f2 hf1 hf2
            split at hB
            · rename_i hfe
              subst hfe
              obtain rfl := Option.some.inj hB
              rw [show n1 + 1 + m = (n1 + m) + 1 by omega]
              unfold itemsJ PlanJ.map wpMixJ at h
              refine ⟨fun h0 => (by rw [hr] at h0; cases h0), fun x hx => ?_⟩
              rw [hr] at hx
              simp only [List.mem_cons, List.not_mem_nil, or_false] at hx
              rcases hx with rfl | rfl
              · exact oneJ_sound (hget _ hlt) (fun a w hq hm => ih1 z n1 m _ _ _ _ K hz h1 hf1 (.inl (hq.resolve_right hik)) hK hm) h.1
              · exact oneJ_sound (hget _ hlt2) (fun a w hq hm => ih2 z n1 m _ _ _ _ K hz h2 hf2 (.inl (hq.resolve_right hjk)) hK hm) h.2
            · cases hB
          · cases hB
        · cases hn
      · cases hn
    · cases hB
  | join p r ih1 ih2 =>
    intro z n m listed fin a w K hz hn hB hS hK h
    unfold mixJ at hB
    split at hB
    · rename_i l1 hl1
      unfold PlanJ.count at hn
      split at hn
      · rename_i n1 n2 h1 h2
        obtain rfl := Option.some.inj hn
        unfold itemsJ PlanJ.map wpMixJ at h
        rw [Nat.add_assoc]
        refine ih1 false n1 (n2 + m) listed l1 a w _ (fun e => by cases e) h1 hl1 ?_ (fun a w hq hm => ih2 z n2 m l1 fin a w K hz h2 hB ?_ hK hm) h
        · rcases hS with hS | ⟨q1, q2⟩
          · exact .inl hS
          · exact .inr ⟨by omega, by omega⟩
        · rcases hq with hq | hq
          · exact .inl hq
          · exact .inr ⟨by omega, by omega⟩
      · cases hn
    · cases hB

/-- The beginning. -/
theorem wp_region_mixJ {id : Nat} {a : Act} {w : World} {l : List Oper} (S : World → Prop) (k : Nat) (plan : PlanJ Nat) (hm : P.follows .mixedOrders = true)
    (hB : (Region.noSelect l.toArray && decide (plan.count = some l.toArray.size) && (match mixJ l.toArray k true plan (Array.replicate l.toArray.size false) with | some f => (Region.ready .any l.toArray f).isEmpty | none => false)) = true) (hS : S w.drew)
    (h : wpMixJ P l.toArray S Q (itemsJ l k plan) (fun a w => Q .normal a w) a w.drew) : (Code.region id l.toArray true).wp P Q a w := by
  simp only [Bool.and_eq_true, decide_eq_true_eq] at hB
  obtain ⟨⟨hs, hl⟩, hB⟩ := hB
  split at hB
  · rename_i f hf
    have H := mixJ_sound (P := P) (Q := Q) (S := S) l k hs plan true l.toArray.size 0 _ f a w.drew _ (fun _ => rfl) hl hf (.inl hS) (fun a w _ hq => ⟨by simpa using hB, noP_normal hq⟩) h
    exact wp_mono (wp_region_any hm (wpAny_to _ _ _ _ H)) noP_le
  · cases hB

theorem wpMixJ_done {ops : Array Oper} {K : Act → World → Prop} {a : Act} {w : World} (h : K a w) : wpMixJ P ops S Q .done K a w := h
theorem wpMixJ_free {ops : Array Oper} {C : Act → World → Prop} {a : Act} {w : World} {b : Bool} {o : Oper} {r : ItemJ}
    (h : ∀ K : Act → Prop, (∀ a, wpMixJ P ops S Q r C a w → K a) → if Region.wanted o (yielded ops a.tmps) = true then ∃ v, (∀ W, (execOp a.eval o).run P W = .ok (.value v) W) ∧ K (a.put o.dst v) else K (a.put o.dst undef)) : wpMixJ P ops S Q (.take (b, o) r) C a w := by
  have h2 := h (fun a => wpMixJ P ops S Q r C a w) (fun _ h => h)
  unfold wpMixJ
  by_cases hw : Region.wanted o (yielded ops a.tmps) = true
  · rw [if_pos hw] at h2 ⊢
    obtain ⟨v, hv, hn⟩ := h2
    exact ⟨v, fun W _ => hv W, hn⟩
  · rw [if_neg hw] at h2 ⊢
    exact h2
theorem wpMixJ_yield {ops : Array Oper} {C : Act → World → Prop} {a : Act} {w : World} {b : Bool} {o : Oper} {r : ItemJ} {v : Value} (hr : ∀ W, S W → (execOp a.eval o).run P W = .ok (.value v) W)
    (h : ∀ K : Act → Prop, (∀ a, wpMixJ P ops S Q r C a w → K a) → if Region.wanted o (yielded ops a.tmps) = true then K (a.put o.dst v) else K (a.put o.dst undef)) : wpMixJ P ops S Q (.take (b, o) r) C a w := by
  have h2 := h (fun a => wpMixJ P ops S Q r C a w) (fun _ h => h)
  unfold wpMixJ
  by_cases hw : Region.wanted o (yielded ops a.tmps) = true
  · rw [if_pos hw] at h2 ⊢
    exact ⟨v, hr, h2⟩
  · rw [if_neg hw] at h2 ⊢
    exact h2
theorem wpMixJ_one {ops : Array Oper} {C : Act → World → Prop} {a : Act} {w : World} {b : Bool} {o : Oper} {r : ItemJ}
    (h : ∀ K : Act → World → Prop, (∀ a w, b = true ∨ S w → wpMixJ P ops S Q r C a w → K a w) → wpList P ops (Exit.then K (noP Q)) [o] a w) : wpMixJ P ops S Q (.one (b, o) r) C a w := by
  unfold wpMixJ
  exact h (fun a w => (b = true ∨ S w) ∧ wpMixJ P ops S Q r C a w) (fun a w h1 h2 => ⟨h1, h2⟩)
theorem wpMixJ_two {ops : Array Oper} {C : Act → World → Prop} {a : Act} {w : World} {b d : Bool} {o u : Oper} {r s : ItemJ}
    (h1 : ∀ K : Act → World → Prop, (∀ a w, b = true ∨ S w → wpMixJ P ops S Q r C a w → K a w) → wpList P ops (Exit.then K (noP Q)) [o] a w)
    (h2 : ∀ K : Act → World → Prop, (∀ a w, d = true ∨ S w → wpMixJ P ops S Q s C a w → K a w) → wpList P ops (Exit.then K (noP Q)) [u] a w) : wpMixJ P ops S Q (.two (b, o) (d, u) r s) C a w := by
  unfold wpMixJ
  exact ⟨h1 (fun a w => (b = true ∨ S w) ∧ wpMixJ P ops S Q r C a w) (fun a w h1 h2 => ⟨h1, h2⟩), h2 (fun a w => (d = true ∨ S w) ∧ wpMixJ P ops S Q s C a w) (fun a w h1 h2 => ⟨h1, h2⟩)⟩
/-- What the ways of a part have in common. -/
theorem wpMixJ_join {ops : Array Oper} {C : Act → World → Prop} {a : Act} {w : World} {p r : ItemJ} (J : Act → Act → World → Prop) (h1 : wpMixJ P ops S Q p (J a) a w) (h2 : ∀ a' w', J a a' w' → wpMixJ P ops S Q r C a' w') : wpMixJ P ops S Q (.join p r) C a w := by
  unfold wpMixJ
  exact wpMixJ_mono p _ _ (h2) h1
end

end Go.Proofs.YtiliajnijjkcdaaDoor
