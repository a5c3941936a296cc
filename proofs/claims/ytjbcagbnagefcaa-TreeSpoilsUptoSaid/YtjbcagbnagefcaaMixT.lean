/- A region that draws its order, by a tree of plans: where two operations may come up, both are followed; the last operation need not keep what the others keep. -/
import Derived.Test.YtjbcagbnagefcaaMix
namespace Go.Proofs.Ytjbcagbnagefcaa
open Go Go.RowKit

/-- A plan: take an operation first; one that comes up alone; two that may come up. -/
inductive PlanT (α : Type) where
  | done : PlanT α
  | take : α → PlanT α → PlanT α
  | one : α → PlanT α → PlanT α
  | two : α → α → PlanT α → PlanT α → PlanT α
def PlanT.map {α β : Type} (f : α → β) : PlanT α → PlanT β
  | .done => .done
  | .take i r => .take (f i) (r.map f)
  | .one i r => .one (f i) (r.map f)
  | .two i j r s => .two (f i) (f j) (r.map f) (s.map f)
def PlanT.isDone {α : Type} : PlanT α → Bool
  | .done => true
  | _ => false
theorem PlanT.of_isDone {α : Type} {p : PlanT α} (h : p.isDone = true) : p = .done := by cases p <;> first | rfl | cases h
abbrev ItemT := PlanT (Bool × Oper)
/-- The operations of a plan; whether each is the last one. -/
def itemsT (ops : List Oper) (k : Nat) (p : PlanT Nat) : ItemT := p.map fun i => (i == k, ops.getD i default)

section
variable {P : Program} {Q : Exit → Act → World → Prop} {S : World → Prop}

def wpMixT (P : Program) (ops : Array Oper) (S : World → Prop) (Q : Exit → Act → World → Prop) : ItemT → Act → World → Prop
  | .done, a, w => Q .normal a w
  | .take o r, a, w => if Region.wanted o.2 (yielded ops a.tmps) = true then ∃ v, (∀ W, S W → (execOp a.eval o.2).run P W = .ok (.value v) W) ∧ wpMixT P ops S Q r (a.put o.2.dst v) w else wpMixT P ops S Q r (a.put o.2.dst undef) w
  | .one o r, a, w => wpList P ops (Exit.then (fun a' w' => (o.1 = true ∨ S w') ∧ wpMixT P ops S Q r a' w') (noP Q)) [o.2] a w
  | .two o u r s, a, w => wpList P ops (Exit.then (fun a' w' => (o.1 = true ∨ S w') ∧ wpMixT P ops S Q r a' w') (noP Q)) [o.2] a w ∧ wpList P ops (Exit.then (fun a' w' => (u.1 = true ∨ S w') ∧ wpMixT P ops S Q s a' w') (noP Q)) [u.2] a w

/-- Does the last operation wait for i? -/
def waitsB (ops : Array Oper) (k i : Nat) : Bool := match ops[k]? with | some o => o.after.any fun e => Region.binds .any e && e.on == i | none => false
def mixT (ops : Array Oper) (k : Nat) : PlanT Nat → Array Bool → Bool
  | .done, listed => (Region.ready .any ops listed).isEmpty
  | .take i r, listed => decide (i < ops.size) && (Region.ready .any ops listed).contains i && Region.free .any ops listed i && waitsB ops k i && mixT ops k r (listed.setIfInBounds i true)
  | .one i r, listed => decide (i < ops.size) && decide (Region.ready .any ops listed = [i]) && (!(i == k) || r.isDone) && mixT ops k r (listed.setIfInBounds i true)
  | .two i j r s, listed => decide (i < ops.size) && decide (j < ops.size) && decide (Region.ready .any ops listed = [i, j]) && (!(i == k) || r.isDone) && (!(j == k) || s.isDone) && mixT ops k r (listed.setIfInBounds i true) && mixT ops k s (listed.setIfInBounds j true)
def sizeT : PlanT Nat → Nat → Bool
  | .done, n => n == 0
  | .take _ r, n + 1 => sizeT r n
  | .one _ r, n + 1 => sizeT r n
  | .two _ _ r s, n + 1 => sizeT r n && sizeT s n
  | _, 0 => false

/-- Whatever comes up; behind each but the last one S holds. -/
def wpTo (P : Program) (ops : Array Oper) (Q : Exit → Act → World → Prop) (S : World → Prop) (k : Nat) : Nat → Array Bool → Act → World → Prop
  | 0, listed, a, w => Region.ready .any ops listed = [] ∧ Q .normal a w
  | n + 1, listed, a, w => (Region.ready .any ops listed = [] → Q .normal a w) ∧ ∀ i ∈ Region.ready .any ops listed, wpOp P ops Q i (fun a' w' => (i = k ∨ S w') ∧ wpTo P ops Q S k n (listed.setIfInBounds i true) a' w') a w
theorem wpAny_to {ops : Array Oper} {k : Nat} : ∀ (n : Nat) (listed : Array Bool) (a : Act) (w : World), wpTo P ops Q S k n listed a w → wpAny P .any ops Q n listed a w := by
  intro n
  induction n with
  | zero => intro listed a w h; exact h
  | succ n ih => intro listed a w h; exact ⟨h.1, fun i hi => wpOp_mono (fun a' w' h' => ih _ a' w' h'.2) (h.2 i hi)⟩
theorem waits_spec {ops : Array Oper} {k i : Nat} (h : waitsB ops k i = true) {listed : Array Bool} (hi : i ∈ Region.ready .any ops listed) : k ∉ Region.ready .any ops listed := by
  intro hk
  obtain ⟨_, o, ho, hall⟩ := mem_ready.1 hk
  unfold waitsB at h
  rw [ho] at h
  obtain ⟨e, he, hb⟩ := Array.any_eq_true'.1 h
  rw [Bool.and_eq_true, beq_iff_eq] at hb
  have h1 := hall e he hb.1
  have h0 := (mem_ready.1 hi).1
  rw [hb.2] at h1
  by_cases hlt : i < listed.size
  · simp [hlt] at h0 h1
    rw [h0] at h1
    cases h1
  · simp [Array.getElem?_eq_none (Nat.le_of_not_lt hlt)] at h1
/-- An operation that yields the same wherever S holds may be taken first, if the last one waits for it. -/
theorem to_first {ops : Array Oper} {k i : Nat} {oi : Oper} {v : Value} (hi : ops[i]? = some oi) (hk : waitsB ops k i = true) (hik : i ≠ k) (hsel : ∀ (j : Nat) (o : Oper) cs b, ops[j]? = some o → o.op ≠ .select cs b)
    (hQ : ∀ c a w, Q (.panic c) (a.put oi.dst v) w → Q (.panic c) a w) : ∀ (n : Nat) (listed : Array Bool) (a : Act) (w : World),
    (∀ j oj, ops[j]? = some oj → j ≠ i → listed.getD j true = false → (∀ e ∈ oj.after, Region.binds .any e = true → e.on ≠ i) → oi.apart ops oj = true) →
    i ∈ Region.ready .any ops listed → YieldsIf P ops S oi v a → S w → wpTo P ops Q S k n (listed.setIfInBounds i true) (a.put oi.dst v) w → wpTo P ops Q S k (n + 1) listed a w := by
  intro n
  induction n with
  | zero =>
    intro listed a w _ hr hy hS H
    constructor
    · intro h; rw [h] at hr; cases hr
    · intro j hj
      by_cases e : j = i
      · subst e
        exact hy.wpOp hi hS ⟨.inr hS, H⟩
      · have h2 := ready_mono hj e
        rw [H.1] at h2
        cases h2
  | succ n ih =>
    intro listed a w hfree hr hy hS H
    constructor
    · intro h; rw [h] at hr; cases hr
    · intro j hj
      by_cases e : j = i
      · subst e
        exact hy.wpOp hi hS ⟨.inr hS, H⟩
      · have hjk : j ≠ k := fun e2 => by subst e2; exact waits_spec hk hr hj
        obtain ⟨hju, oj, hoj, hall⟩ := mem_ready.1 hj
        have hnot : ∀ d ∈ oj.after, Region.binds .any d = true → d.on ≠ i := by
          intro d hd hb hdi
          have q1 := hall d hd hb
          have q0 := (mem_ready.1 hr).1
          rw [hdi] at q1
          by_cases hlt : i < listed.size
          · simp [hlt] at q0 q1
            rw [q0] at q1
            cases q1
          · simp [Array.getElem?_eq_none (Nat.le_of_not_lt hlt)] at q1
        have step := wpOp_putIf hoj (hfree j oj hoj e hju hnot) (fun cs b => hsel i oi cs b hi) (fun cs b => hsel j oj cs b hoj) hQ hy (H.2 j (ready_mono hj e))
        refine wpOp_mono (fun a' w' q => ?_) step
        have hS' : S w' := q.2.1.resolve_left hjk
        refine ⟨.inr hS', ih (listed.setIfInBounds j true) a' w' (fun m om hm hmi hun hno => ?_) (ready_mono hr (Ne.symm e)) q.1 hS' ?_⟩
        · refine hfree m om hm hmi ?_ hno
          by_cases ejm : j = m
          · subst ejm; exact hju
          · rw [getD_set_ne true ejm] at hun; exact hun
        · rw [Array.setIfInBounds_comm _ _ e]
          exact q.2.2

theorem one_sound {l : List Oper} {k i n : Nat} {listed : Array Bool} {a : Act} {w : World} {r : ItemT} (hk : l.toArray[i]? = some (l.getD i default))
    (ih : ∀ a w, S w ∨ i = k → wpMixT P l.toArray S Q r a w → wpTo P l.toArray (noP Q) S k n (listed.setIfInBounds i true) a w)
    (h : wpList P l.toArray (Exit.then (fun a' w' => ((i == k) = true ∨ S w') ∧ wpMixT P l.toArray S Q r a' w') (noP Q)) [l.getD i default] a w) :
    wpOp P l.toArray (noP Q) i (fun a' w' => (i = k ∨ S w') ∧ wpTo P l.toArray (noP Q) S k n (listed.setIfInBounds i true) a' w') a w := by
  have fin : ∀ a w, ((i == k) = true ∨ S w) ∧ wpMixT P l.toArray S Q r a w → (i = k ∨ S w) ∧ wpTo P l.toArray (noP Q) S k n (listed.setIfInBounds i true) a w := fun a w q => by
    rcases q.1 with h1 | h1
    · exact ⟨.inl (by simpa using h1), ih a w (.inr (by simpa using h1)) q.2⟩
    · exact ⟨.inr h1, ih a w (.inl h1) q.2⟩
  unfold wpOp
  simp only [hk]
  unfold wpList at h
  by_cases hw : Region.wanted (l.getD i default) (yielded l.toArray a.tmps) = true
  · rw [if_pos hw] at h ⊢
    rcases h with h | ⟨h1, h2⟩
    · refine .inl (oper_wp_mono (fun a w h => ?_) (fun c a w h => h) (fun h => ?_) h)
      · unfold wpList at h
        exact fin a w h
      · obtain ⟨a, w, h⟩ := h; exact ⟨a, w, h⟩
    · obtain ⟨a, w, h⟩ := h2
      exact .inr ⟨h1, a, w, h⟩
  · rw [if_neg hw] at h ⊢
    unfold wpList at h
    exact fin _ _ h

theorem mixT_sound (l : List Oper) (k : Nat) (hs : Region.noSelect l.toArray = true) : ∀ (plan : PlanT Nat) (n : Nat) (listed : Array Bool) (a : Act) (w : World), sizeT plan n = true → mixT l.toArray k plan listed = true → (S w ∨ plan = .done) →
    wpMixT P l.toArray S Q (itemsT l k plan) a w → wpTo P l.toArray (noP Q) S k n listed a w := by
  have hget : ∀ i, i < l.toArray.size → l.toArray[i]? = some (l.getD i default) := fun i hi => by
    have hlt' : i < l.length := by simpa using hi
    simp [List.getD, hlt']
  intro plan
  induction plan with
  | done =>
    intro n listed a w hn hB _ h
    have hn0 : n = 0 := by simpa [sizeT] using hn
    subst hn0
    exact ⟨by simpa [mixT] using hB, h⟩
  | take i r ih =>
    intro n listed a w hn hB hS h
    cases n with
    | zero => simp [sizeT] at hn
    | succ n =>
      simp only [mixT, Bool.and_eq_true, decide_eq_true_eq] at hB
      obtain ⟨⟨⟨⟨hlt, hr⟩, hf⟩, hwt⟩, hB'⟩ := hB
      have hS' : S w := hS.resolve_right (by simp)
      have hk := hget i hlt
      have hr' : i ∈ Region.ready .any l.toArray listed := by simpa using hr
      have hik : i ≠ k := fun e => waits_spec hwt hr' (e ▸ hr')
      unfold itemsT PlanT.map wpMixT at h
      simp only at h
      by_cases hw : Region.wanted (l.getD i default) (yielded l.toArray a.tmps) = true
      · rw [if_pos hw] at h
        obtain ⟨v, hv, hnn⟩ := h
        exact to_first hk hwt hik (Region.noSelect_spec hs) (fun c a w h => h) n listed a w (Region.free_spec hk hf) hr' (.inl ⟨hw, hv⟩) hS' (ih n _ _ _ hn hB' (.inl hS') hnn)
      · rw [if_neg hw] at h
        exact to_first (v := undef) hk hwt hik (Region.noSelect_spec hs) (fun c a w h => h) n listed a w (Region.free_spec hk hf) hr' (.inr ⟨by simpa using hw, rfl⟩) hS' (ih n _ _ _ hn hB' (.inl hS') h)
  | one i r ih =>
    intro n listed a w hn hB hS h
    cases n with
    | zero => simp [sizeT] at hn
    | succ n =>
      simp only [mixT, Bool.and_eq_true, decide_eq_true_eq] at hB
      obtain ⟨⟨⟨hlt, hr⟩, hlast⟩, hB'⟩ := hB
      unfold itemsT PlanT.map wpMixT at h
      refine ⟨fun h0 => (by rw [hr] at h0; cases h0), fun j hj => ?_⟩
      rw [hr, List.mem_singleton] at hj
      subst hj
      refine one_sound (hget j hlt) (fun a w hq hm => ih n _ a w hn hB' ?_ hm) h
      rcases hq with hq | hq
      · exact .inl hq
      · exact .inr (PlanT.of_isDone (by rw [hq] at hlast; simpa using hlast))
  | two i j r s ih1 ih2 =>
    intro n listed a w hn hB hS h
    cases n with
    | zero => simp [sizeT] at hn
    | succ n =>
      simp only [mixT, Bool.and_eq_true, decide_eq_true_eq] at hB
      obtain ⟨⟨⟨⟨⟨⟨hlt, hlt2⟩, hr⟩, hla1⟩, hla2⟩, hB1⟩, hB2⟩ := hB
      simp only [sizeT, Bool.and_eq_true] at hn
      unfold itemsT PlanT.map wpMixT at h
      refine ⟨fun h0 => (by rw [hr] at h0; cases h0), fun m hm => ?_⟩
      rw [hr] at hm
      simp only [List.mem_cons, List.not_mem_nil, or_false] at hm
      rcases hm with rfl | rfl
      · refine one_sound (hget _ hlt) (fun a w hq hm => ih1 n _ a w hn.1 hB1 ?_ hm) h.1
        rcases hq with hq | hq
        · exact .inl hq
        · exact .inr (PlanT.of_isDone (by rw [hq] at hla1; simpa using hla1))
      · refine one_sound (hget _ hlt2) (fun a w hq hm => ih2 n _ a w hn.2 hB2 ?_ hm) h.2
        rcases hq with hq | hq
        · exact .inl hq
        · exact .inr (PlanT.of_isDone (by rw [hq] at hla2; simpa using hla2))

/-- The beginning. -/
theorem wp_region_mixT {id : Nat} {a : Act} {w : World} {l : List Oper} (S : World → Prop) (k : Nat) (plan : PlanT Nat) (hm : P.follows .mixedOrders = true)
    (hB : (Region.noSelect l.toArray && sizeT plan l.toArray.size && mixT l.toArray k plan (Array.replicate l.toArray.size false)) = true) (hS : S w.drew)
    (h : wpMixT P l.toArray S Q (itemsT l k plan) a w.drew) : (Code.region id l.toArray true).wp P Q a w := by
  simp only [Bool.and_eq_true] at hB
  obtain ⟨⟨hs, hl⟩, hB⟩ := hB
  have H := mixT_sound (P := P) (Q := Q) (S := S) l k hs plan l.toArray.size _ a w.drew hl hB (.inl hS) h
  exact wp_mono (wp_region_any hm (wpAny_to _ _ _ _ H)) noP_le

theorem wpMixT_done {ops : Array Oper} {a : Act} {w : World} (h : Q .normal a w) : wpMixT P ops S Q .done a w := h
theorem wpMixT_free {ops : Array Oper} {a : Act} {w : World} {b : Bool} {o : Oper} {r : ItemT}
    (h : ∀ K : Act → Prop, (∀ a, wpMixT P ops S Q r a w → K a) → if Region.wanted o (yielded ops a.tmps) = true then ∃ v, (∀ W, (execOp a.eval o).run P W = .ok (.value v) W) ∧ K (a.put o.dst v) else K (a.put o.dst undef)) : wpMixT P ops S Q (.take (b, o) r) a w := by
  have h2 := h (fun a => wpMixT P ops S Q r a w) (fun _ h => h)
  unfold wpMixT
  by_cases hw : Region.wanted o (yielded ops a.tmps) = true
  · rw [if_pos hw] at h2 ⊢
    obtain ⟨v, hv, hn⟩ := h2
    exact ⟨v, fun W _ => hv W, hn⟩
  · rw [if_neg hw] at h2 ⊢
    exact h2
theorem wpMixT_yield {ops : Array Oper} {a : Act} {w : World} {b : Bool} {o : Oper} {r : ItemT} {v : Value} (hr : ∀ W, S W → (execOp a.eval o).run P W = .ok (.value v) W)
    (h : ∀ K : Act → Prop, (∀ a, wpMixT P ops S Q r a w → K a) → if Region.wanted o (yielded ops a.tmps) = true then K (a.put o.dst v) else K (a.put o.dst undef)) : wpMixT P ops S Q (.take (b, o) r) a w := by
  have h2 := h (fun a => wpMixT P ops S Q r a w) (fun _ h => h)
  unfold wpMixT
  by_cases hw : Region.wanted o (yielded ops a.tmps) = true
  · rw [if_pos hw] at h2 ⊢
    exact ⟨v, hr, h2⟩
  · rw [if_neg hw] at h2 ⊢
    exact h2
theorem wpMixT_one {ops : Array Oper} {a : Act} {w : World} {b : Bool} {o : Oper} {r : ItemT}
    (h : ∀ K : Act → World → Prop, (∀ a w, b = true ∨ S w → wpMixT P ops S Q r a w → K a w) → wpList P ops (Exit.then K (noP Q)) [o] a w) : wpMixT P ops S Q (.one (b, o) r) a w := by
  unfold wpMixT
  exact h (fun a w => (b = true ∨ S w) ∧ wpMixT P ops S Q r a w) (fun a w h1 h2 => ⟨h1, h2⟩)
theorem wpMixT_two {ops : Array Oper} {a : Act} {w : World} {b d : Bool} {o u : Oper} {r s : ItemT}
    (h1 : ∀ K : Act → World → Prop, (∀ a w, b = true ∨ S w → wpMixT P ops S Q r a w → K a w) → wpList P ops (Exit.then K (noP Q)) [o] a w)
    (h2 : ∀ K : Act → World → Prop, (∀ a w, d = true ∨ S w → wpMixT P ops S Q s a w → K a w) → wpList P ops (Exit.then K (noP Q)) [u] a w) : wpMixT P ops S Q (.two (b, o) (d, u) r s) a w := by
  unfold wpMixT
  exact ⟨h1 (fun a w => (b = true ∨ S w) ∧ wpMixT P ops S Q r a w) (fun a w h1 h2 => ⟨h1, h2⟩), h2 (fun a w => (d = true ∨ S w) ∧ wpMixT P ops S Q s a w) (fun a w h1 h2 => ⟨h1, h2⟩)⟩
end

end Go.Proofs.Ytjbcagbnagefcaa
