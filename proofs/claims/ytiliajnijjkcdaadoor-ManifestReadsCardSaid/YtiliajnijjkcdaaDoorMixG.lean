/- A region that draws its order, by a plan with groups: the operations of a group may come up in any order that the region allows; what holds behind each part of them is said once for each such part. -/
import Derived.Test.YtiliajnijjkcdaaDoorMixJ
namespace Go.Proofs.YtiliajnijjkcdaaDoor
open Go Go.RowKit

inductive PlanG (α : Type) where
  | done : PlanG α
  | take : α → PlanG α → PlanG α
  | one : α → PlanG α → PlanG α
  | grp : List α → List (List (Nat × Nat)) → PlanG α → PlanG α
def PlanG.map {α β : Type} (f : α → β) : PlanG α → PlanG β
  | .done => .done
  | .take i r => .take (f i) (r.map f)
  | .one i r => .one (f i) (r.map f)
  | .grp l e r => .grp (l.map f) e (r.map f)
abbrev ItemG := PlanG (Bool × Oper)
def itemsG (ops : List Oper) (k : Nat) (p : PlanG Nat) : ItemG := p.map fun i => (i == k, ops.getD i default)
def PlanG.count : PlanG Nat → Nat
  | .done => 0
  | .take _ r => r.count + 1
  | .one _ r => r.count + 1
  | .grp _ e r => e.length + r.count

def everyL {α : Type} : List α → (α → Prop) → Prop
  | [], _ => True
  | x :: r, p => p x ∧ everyL r p
theorem everyL_mem {α : Type} {p : α → Prop} : ∀ (l : List α), everyL l p → ∀ x ∈ l, p x := by
  intro l
  induction l with
  | nil => intro _ x hx; cases hx
  | cons y r ih =>
    intro h x hx
    rcases List.mem_cons.1 hx with rfl | hx
    · exact h.1
    · exact ih h.2 x hx

section
variable {P : Program} {Q : Exit → Act → World → Prop} {S : World → Prop}

def wpMixG (P : Program) (ops : Array Oper) (S : World → Prop) (Q : Exit → Act → World → Prop) : ItemG → (Act → World → Prop) → Act → World → Prop
  | .done, K, a, w => K a w
  | .take o r, K, a, w => if Region.wanted o.2 (yielded ops a.tmps) = true then ∃ v, (∀ W, S W → (execOp a.eval o.2).run P W = .ok (.value v) W) ∧ wpMixG P ops S Q r K (a.put o.2.dst v) w else wpMixG P ops S Q r K (a.put o.2.dst undef) w
  | .one o r, K, a, w => wpList P ops (Exit.then (fun a' w' => (o.1 = true ∨ S w') ∧ wpMixG P ops S Q r K a' w') (noP Q)) [o.2] a w
  | .grp l e r, K, a, w => ∃ I : Nat → Act → World → Prop, I 0 a w ∧ (∀ s ∈ e.flatten, ∀ a' w', S w' → I s.1 a' w' → wpList P ops (Exit.then (fun a' w' => S w' ∧ I (s.1 ||| 2 ^ s.2) a' w') (noP Q)) [(l.getD s.2 default).2] a' w') ∧
      ∀ a' w', S w' → I (2 ^ l.length - 1) a' w' → wpMixG P ops S Q r K a' w'

/-- What has come up where the operations of a part have. -/
def partly (l : List Nat) (listed : Array Bool) (m : Nat) : Array Bool := (List.range l.length).foldl (fun s p => if m.testBit p then s.setIfInBounds (l.getD p 0) true else s) listed
def headHas (e : List (List (Nat × Nat))) (full m : Nat) : Bool := match e with
  | [] => m == full
  | lv :: _ => lv.any fun s => s.1 == m
def grpB (ops : Array Oper) (k : Nat) (l : List Nat) (listed : Array Bool) : List (List (Nat × Nat)) → Bool
  | [] => true
  | lv :: rest => lv.all (fun s => decide (s.2 < l.length) && decide (l.getD s.2 0 < ops.size) && !(l.getD s.2 0 == k) && decide ((partly l listed s.1).setIfInBounds (l.getD s.2 0) true = partly l listed (s.1 ||| 2 ^ s.2)) && headHas rest (2 ^ l.length - 1) (s.1 ||| 2 ^ s.2)
      && !(Region.ready .any ops (partly l listed s.1)).isEmpty && (Region.ready .any ops (partly l listed s.1)).all fun i => lv.any fun t => t.1 == s.1 && l.getD t.2 0 == i) && grpB ops k l listed rest
/-- The last operation does not come up beside i; or none is the last. -/
def aloneB (ops : Array Oper) (k i : Nat) : Bool := waitsB ops k i || decide (ops.size ≤ k)
def mixG (ops : Array Oper) (k : Nat) : PlanG Nat → Array Bool → Bool
  | .done, listed => (Region.ready .any ops listed).isEmpty
  | .take i r, listed => decide (i < ops.size) && (Region.ready .any ops listed).contains i && Region.free .any ops listed i && aloneB ops k i && mixG ops k r (listed.setIfInBounds i true)
  | .one i r, listed => decide (i < ops.size) && decide (Region.ready .any ops listed = [i]) && (!(i == k) || decide (r.count = 0)) && mixG ops k r (listed.setIfInBounds i true)
  | .grp l e r, listed => !e.isEmpty && headHas e (2 ^ l.length - 1) 0 && grpB ops k l listed e && mixG ops k r (partly l listed (2 ^ l.length - 1))

theorem partly_zero (l : List Nat) (listed : Array Bool) : partly l listed 0 = listed := by
  unfold partly
  generalize List.range l.length = r
  induction r with
  | nil => rfl
  | cons p r ih => rw [List.foldl_cons]; simpa using ih

theorem alone_spec {ops : Array Oper} {k i : Nat} (h : aloneB ops k i = true) {listed : Array Bool} (hi : i ∈ Region.ready .any ops listed) : k ∉ Region.ready .any ops listed := by
  unfold aloneB at h
  rw [Bool.or_eq_true] at h
  rcases h with h | h
  · exact waits_spec h hi
  · intro hk
    obtain ⟨_, o, ho, _⟩ := mem_ready.1 hk
    have h2 : ops.size ≤ k := by simpa using h
    rw [Array.getElem?_eq_none h2] at ho
    cases ho
theorem to_firstG {ops : Array Oper} {k i : Nat} {oi : Oper} {v : Value} (hi : ops[i]? = some oi) (hk : aloneB ops k i = true) (hsel : ∀ (j : Nat) (o : Oper) cs b, ops[j]? = some o → o.op ≠ .select cs b)
    (hQ : ∀ c a w, Q (.panic c) (a.put oi.dst v) w → Q (.panic c) a w) : ∀ (n : Nat) (listed : Array Bool) (a : Act) (w : World),
    (∀ j oj, ops[j]? = some oj → j ≠ i → listed.getD j true = false → (∀ e ∈ oj.after, Region.binds .any e = true → e.on ≠ i) → oi.apart ops oj = true) →
    i ∈ Region.ready .any ops listed → YieldsIf P ops S oi v a → S w → wpTo P ops Q S k n (listed.setIfInBounds i true) (a.put oi.dst v) w → wpTo P ops Q S k (n + 1) listed a w := by
  intro n
  induction n with
  | zero =>
    intro listed a w _ hr hy hS H
    constructor
    · intro h; rw [h] at hr; cases hr
    · intro j hj
      by_cases e : j = i
      · subst e
        exact hy.wpOp hi hS ⟨.inr hS, H⟩
      · have h2 := ready_mono hj e
        rw [H.1] at h2
        cases h2
  | succ n ih =>
    intro listed a w hfree hr hy hS H
    constructor
    · intro h; rw [h] at hr; cases hr
    · intro j hj
      by_cases e : j = i
      · subst e
        exact hy.wpOp hi hS ⟨.inr hS, H⟩
      · have hjk : j ≠ k := fun e2 => by subst e2; exact alone_spec hk hr hj
        obtain ⟨hju, oj, hoj, hall⟩ := mem_ready.1 hj
        have hnot : ∀ d ∈ oj.after, Region.binds .any d = true → d.on ≠ i := by
          intro d hd hb hdi
          have q1 := hall d hd hb
          have q0 := (mem_ready.1 hr).1
          rw [hdi] at q1
          by_cases hlt : i < listed.size
          · simp [hlt] at q0 q1
            rw [q0] at q1
            cases q1
          · simp [Array.getElem?_eq_none (Nat.le_of_not_lt hlt)] at q1
        have step := wpOp_putIf hoj (hfree j oj hoj e hju hnot) (fun cs b => hsel i oi cs b hi) (fun cs b => hsel j oj cs b hoj) hQ hy (H.2 j (ready_mono hj e))
        refine wpOp_mono (fun a' w' q => ?_) step
        have hS' : S w' := q.2.1.resolve_left hjk
        refine ⟨.inr hS', ih (listed.setIfInBounds j true) a' w' (fun m om hm hmi hun hno => ?_) (ready_mono hr (Ne.symm e)) q.1 hS' ?_⟩
        · refine hfree m om hm hmi ?_ hno
          by_cases ejm : j = m
          · subst ejm; exact hju
          · rw [getD_set_ne true ejm] at hun; exact hun
        · rw [Array.setIfInBounds_comm _ _ e]
          exact q.2.2

theorem grpB_lt {ops : Array Oper} {k : Nat} {l : List Nat} {listed : Array Bool} : ∀ (e : List (List (Nat × Nat))), grpB ops k l listed e = true → ∀ s ∈ e.flatten, s.2 < l.length := by
  intro e
  induction e with
  | nil => intro _ s hs; cases hs
  | cons lv rest ih =>
    intro h s hs
    simp only [grpB, Bool.and_eq_true, List.all_eq_true, decide_eq_true_eq] at h
    simp only [List.flatten_cons, List.mem_append] at hs
    rcases hs with hs | hs
    · exact (h.1 s hs).1.1.1.1.1.1
    · exact ih h.2 s hs

theorem grp_sound (l : List Oper) (k : Nat) (ids : List Nat) (listed : Array Bool) (I : Nat → Act → World → Prop) (n : Nat) :
    ∀ (e : List (List (Nat × Nat))), grpB l.toArray k ids listed e = true →
    (∀ s ∈ e.flatten, ∀ a' w', S w' → I s.1 a' w' → wpList P l.toArray (Exit.then (fun a' w' => S w' ∧ I (s.1 ||| 2 ^ s.2) a' w') (noP Q)) [l.getD (ids.getD s.2 0) default] a' w') →
    (∀ a' w', S w' → I (2 ^ ids.length - 1) a' w' → wpTo P l.toArray (noP Q) S k n (partly ids listed (2 ^ ids.length - 1)) a' w') →
    ∀ m a w, headHas e (2 ^ ids.length - 1) m = true → S w → I m a w → wpTo P l.toArray (noP Q) S k (e.length + n) (partly ids listed m) a w := by
  intro e
  induction e with
  | nil =>
    intro hB hs hf m a w hm hS hI
    obtain rfl : m = 2 ^ ids.length - 1 := by simpa [headHas] using hm
    simpa using hf a w hS hI
  | cons lv rest ih =>
    intro hB hs hf m a w hm hS hI
    simp only [grpB, Bool.and_eq_true, List.all_eq_true, decide_eq_true_eq, Bool.not_eq_true', beq_eq_false_iff_ne] at hB
    obtain ⟨hlv, hrest⟩ := hB
    simp only [headHas, List.any_eq_true, beq_iff_eq] at hm
    obtain ⟨s0, hs0, rfl⟩ := hm
    rw [show (lv :: rest).length + n = (rest.length + n) + 1 by simp; omega]
    obtain ⟨⟨_, hne⟩, hall⟩ := hlv s0 hs0
    refine ⟨fun h0 => (by rw [h0] at hne; cases hne), fun i hi => ?_⟩
    have ht := hall i (by simpa using hi)
    simp only [List.any_eq_true, Bool.and_eq_true, beq_iff_eq] at ht
    obtain ⟨t, htl, hte, hti⟩ := ht
    obtain ⟨⟨⟨⟨⟨⟨h1, h2⟩, h3⟩, h4⟩, h5⟩, _⟩, _⟩ := hlv t htl
    rw [hti] at h2 h3 h4
    rw [hte] at h4 h5
    have hk : l.toArray[i]? = some (l.getD i default) := by
      have hlt' : i < l.length := by simpa using h2
      simp [List.getD, hlt']
    have hstep := hs t (by simp only [List.flatten_cons, List.mem_append]; exact .inl htl) a w hS (by rw [hte]; exact hI)
    rw [hti, hte] at hstep
    refine oneJ_sound (K := fun a' w' => S w' ∧ I (s0.1 ||| 2 ^ t.2) a' w') hk (fun a' w' hq hm => ?_) ?_
    · rw [h4]
      exact ih hrest (fun s hs' => hs s (by simp only [List.flatten_cons, List.mem_append]; exact .inr hs')) hf _ a' w' h5 hm.1 hm.2
    · exact wpList_monoJ (fun a w q => ⟨.inr q.1, q⟩) hstep

theorem mixG_sound (l : List Oper) (k : Nat) (hs : Region.noSelect l.toArray = true) : ∀ (plan : PlanG Nat) (listed : Array Bool) (a : Act) (w : World), mixG l.toArray k plan listed = true → (S w ∨ plan.count = 0) →
    wpMixG P l.toArray S Q (itemsG l k plan) (fun a w => Q .normal a w) a w → wpTo P l.toArray (noP Q) S k plan.count listed a w := by
  have hget : ∀ i, i < l.toArray.size → l.toArray[i]? = some (l.getD i default) := fun i hi => by
    have hlt' : i < l.length := by simpa using hi
    simp [List.getD, hlt']
  intro plan
  induction plan with
  | done =>
    intro listed a w hB hS h
    exact ⟨by simpa [mixG] using hB, noP_normal h⟩
  | take i r ih =>
    intro listed a w hB hS h
    simp only [mixG, Bool.and_eq_true, decide_eq_true_eq] at hB
    obtain ⟨⟨⟨⟨hlt, hr⟩, hf⟩, hwt⟩, hB'⟩ := hB
    have hS' : S w := hS.resolve_right (by simp [PlanG.count])
    have hk := hget i hlt
    have hr' : i ∈ Region.ready .any l.toArray listed := by simpa using hr
    show wpTo P l.toArray (noP Q) S k (r.count + 1) listed a w
    unfold itemsG PlanG.map wpMixG at h
    simp only at h
    by_cases hw : Region.wanted (l.getD i default) (yielded l.toArray a.tmps) = true
    · rw [if_pos hw] at h
      obtain ⟨v, hv, hnn⟩ := h
      exact to_firstG hk hwt (Region.noSelect_spec hs) (fun c a w h => h) _ listed a w (Region.free_spec hk hf) hr' (.inl ⟨hw, hv⟩) hS' (ih _ _ _ hB' (.inl hS') hnn)
    · rw [if_neg hw] at h
      exact to_firstG (v := undef) hk hwt (Region.noSelect_spec hs) (fun c a w h => h) _ listed a w (Region.free_spec hk hf) hr' (.inr ⟨by simpa using hw, rfl⟩) hS' (ih _ _ _ hB' (.inl hS') h)
  | one i r ih =>
    intro listed a w hB hS h
    simp only [mixG, Bool.and_eq_true, decide_eq_true_eq] at hB
    obtain ⟨⟨⟨hlt, hr⟩, hlast⟩, hB'⟩ := hB
    show wpTo P l.toArray (noP Q) S k (r.count + 1) listed a w
    unfold itemsG PlanG.map wpMixG at h
    refine ⟨fun h0 => (by rw [hr] at h0; cases h0), fun j hj => ?_⟩
    rw [hr, List.mem_singleton] at hj
    subst hj
    refine oneJ_sound (hget j hlt) (fun a w hq hm => ih _ a w hB' ?_ hm) h
    rcases hq with hq | hq
    · exact .inl hq
    · rw [hq] at hlast
      simp at hlast
      exact .inr hlast
  | grp ids e r ih =>
    intro listed a w hB hS h
    simp only [mixG, Bool.and_eq_true] at hB
    obtain ⟨⟨⟨hn, hh⟩, hg⟩, hB'⟩ := hB
    have he : e ≠ [] := fun q => by rw [q] at hn; cases hn
    show wpTo P l.toArray (noP Q) S k (e.length + r.count) listed a w
    unfold itemsG PlanG.map wpMixG at h
    obtain ⟨I, h0, hstep, hend⟩ := h
    rw [List.length_map] at hend
    rw [← partly_zero ids listed]
    have hS' : S w := hS.resolve_right (by
      intro q
      apply he
      exact List.eq_nil_of_length_eq_zero (by simp [PlanG.count] at q; simp [q.1]))
    refine grp_sound l k ids listed I r.count e hg (fun s hs' a' w' hS'' hI => ?_) (fun a' w' hS'' hI => ih _ a' w' hB' (.inl hS'') (hend a' w' hS'' hI)) 0 a w hh hS' h0
    have q := hstep s hs' a' w' hS'' hI
    have hlt := grpB_lt e hg s hs'
    have e1 : ((ids.map fun i => (i == k, l.getD i default)).getD s.2 default).2 = l.getD (ids.getD s.2 0) default := by
      simp [List.getD, hlt]
    rw [e1] at q
    exact q

/-- The beginning. -/
theorem wp_region_mixG {id : Nat} {a : Act} {w : World} {l : List Oper} (S : World → Prop) (k : Nat) (plan : PlanG Nat) (hm : P.follows .mixedOrders = true)
    (hB : (Region.noSelect l.toArray && decide (plan.count = l.toArray.size) && mixG l.toArray k plan (Array.replicate l.toArray.size false)) = true) (hS : S w.drew)
    (h : wpMixG P l.toArray S Q (itemsG l k plan) (fun a w => Q .normal a w) a w.drew) : (Code.region id l.toArray true).wp P Q a w := by
  simp only [Bool.and_eq_true, decide_eq_true_eq] at hB
  obtain ⟨⟨hs, hl⟩, hB⟩ := hB
  have H := mixG_sound (P := P) (Q := Q) (S := S) l k hs plan _ a w.drew hB (.inl hS) h
  rw [hl] at H
  exact wp_mono (wp_region_any hm (wpAny_to _ _ _ _ H)) noP_le

theorem wpMixG_done {ops : Array Oper} {K : Act → World → Prop} {a : Act} {w : World} (h : K a w) : wpMixG P ops S Q .done K a w := h
theorem wpMixG_free {ops : Array Oper} {C : Act → World → Prop} {a : Act} {w : World} {b : Bool} {o : Oper} {r : ItemG}
    (h : ∀ K : Act → Prop, (∀ a, wpMixG P ops S Q r C a w → K a) → if Region.wanted o (yielded ops a.tmps) = true then ∃ v, (∀ W, (execOp a.eval o).run P W = .ok (.value v) W) ∧ K (a.put o.dst v) else K (a.put o.dst undef)) : wpMixG P ops S Q (.take (b, o) r) C a w := by
  have h2 := h (fun a => wpMixG P ops S Q r C a w) (fun _ h => h)
  unfold wpMixG
  by_cases hw : Region.wanted o (yielded ops a.tmps) = true
  · rw [if_pos hw] at h2 ⊢
    obtain ⟨v, hv, hn⟩ := h2
    exact ⟨v, fun W _ => hv W, hn⟩
  · rw [if_neg hw] at h2 ⊢
    exact h2
theorem wpMixG_yield {ops : Array Oper} {C : Act → World → Prop} {a : Act} {w : World} {b : Bool} {o : Oper} {r : ItemG} {v : Value} (hr : ∀ W, S W → (execOp a.eval o).run P W = .ok (.value v) W)
    (h : ∀ K : Act → Prop, (∀ a, wpMixG P ops S Q r C a w → K a) → if Region.wanted o (yielded ops a.tmps) = true then K (a.put o.dst v) else K (a.put o.dst undef)) : wpMixG P ops S Q (.take (b, o) r) C a w := by
  have h2 := h (fun a => wpMixG P ops S Q r C a w) (fun _ h => h)
  unfold wpMixG
  by_cases hw : Region.wanted o (yielded ops a.tmps) = true
  · rw [if_pos hw] at h2 ⊢
    exact ⟨v, hr, h2⟩
  · rw [if_neg hw] at h2 ⊢
    exact h2
theorem wpMixG_one {ops : Array Oper} {C : Act → World → Prop} {a : Act} {w : World} {b : Bool} {o : Oper} {r : ItemG}
    (h : ∀ K : Act → World → Prop, (∀ a w, b = true ∨ S w → wpMixG P ops S Q r C a w → K a w) → wpList P ops (Exit.then K (noP Q)) [o] a w) : wpMixG P ops S Q (.one (b, o) r) C a w := by
  unfold wpMixG
  exact h (fun a w => (b = true ∨ S w) ∧ wpMixG P ops S Q r C a w) (fun a w h1 h2 => ⟨h1, h2⟩)
/-- A group: what holds behind each part. -/
theorem wpMixG_grp {ops : Array Oper} {C : Act → World → Prop} {a : Act} {w : World} {l : List (Bool × Oper)} {e : List (List (Nat × Nat))} {r : ItemG} (I : Act → Nat → Act → World → Prop) (h0 : I a 0 a w)
    (hs : ∀ K : Nat → Act → World → Prop, (∀ m a' w, S w → I a m a' w → K m a' w) → everyL e.flatten fun s => ∀ a' w', S w' → I a s.1 a' w' → wpList P ops (Exit.then (K (s.1 ||| 2 ^ s.2)) (noP Q)) [(l.getD s.2 default).2] a' w')
    (hf : ∀ a' w', S w' → I a (2 ^ l.length - 1) a' w' → wpMixG P ops S Q r C a' w') : wpMixG P ops S Q (.grp l e r) C a w := by
  unfold wpMixG
  exact ⟨I a, h0, fun s hs' => everyL_mem _ (hs (fun m a' w => S w ∧ I a m a' w) (fun m a w h1 h2 => ⟨h1, h2⟩)) s hs', hf⟩
end

end Go.Proofs.YtiliajnijjkcdaaDoor
