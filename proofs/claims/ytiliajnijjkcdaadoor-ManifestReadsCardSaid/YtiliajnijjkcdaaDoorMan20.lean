/- Workspaces joined, in plain words; rows of crates appended to rows. -/
import Derived.Test.YtiliajnijjkcdaaDoorMan18
namespace Go.Proofs.YtiliajnijjkcdaaDoor
open Go.RowKit

theorem step_names (o : List SrcD) (s : List UInt8) : ∃ z, (stepM o s).2.map (·.name) = o.map (·.name) ++ z := by
  unfold stepM
  by_cases hh : isHead s = true
  · rw [if_pos hh]
    cases headL s with
    | none => exact ⟨[], by simp [addHead]⟩
    | some x => obtain ⟨nm, deps⟩ := x; exact ⟨[nm], by simp [addHead]⟩
  · rw [if_neg hh]
    by_cases he : o.isEmpty = true
    · rw [if_pos he]; exact ⟨[], by simp⟩
    · rw [if_neg he]; exact ⟨[], by simp [addText_names]⟩
theorem parse_names : ∀ (n p : Nat) (s : List UInt8) (o y : List SrcD) (q : Nat), s.length ≤ n → parseR p s o = (0, q, y) → ∃ z, y.map (·.name) = o.map (·.name) ++ z := by
  intro n
  induction n with
  | zero =>
    intro p s o y q hs h
    obtain rfl : s = [] := List.eq_nil_of_length_eq_zero (by omega)
    rw [parse_nil] at h
    injection h with _ h
    injection h with _ h
    exact ⟨[], by rw [h]; simp⟩
  | succ n ih =>
    intro p s o y q hs h
    by_cases hne : s = []
    · subst hne
      rw [parse_nil] at h
      injection h with _ h
      injection h with _ h
      exact ⟨[], by rw [h]; simp⟩
    · rw [parse_step hne] at h
      by_cases hz : (stepM o s).1 = 0
      · rw [if_pos hz] at h
        have hl := line_pos hne
        obtain ⟨z, hz2⟩ := ih _ _ _ _ _ (by rw [List.length_drop]; omega) h
        obtain ⟨z0, hz0⟩ := step_names o s
        exact ⟨z0 ++ z, by rw [hz2, hz0, List.append_assoc]⟩
      · rw [if_neg hz] at h
        injection h with h _
        exact absurd h hz
/-- What is read behind other crates of other names. -/
theorem parse_over (x : List SrcD) : ∀ (n p p' : Nat) (s : List UInt8) (o y : List SrcD) (q : Nat), s.length ≤ n → parseR p s o = (0, q, y) → (o ≠ [] ∨ isHead s = true ∨ s = []) → x.length + y.length ≤ 64 → (∀ d ∈ x, ∀ e ∈ y, d.name ≠ e.name) → parseR p' s (x ++ o) = (0, 0, x ++ y) := by
  intro n
  induction n with
  | zero =>
    intro p p' s o y q hs h _ _ _
    obtain rfl : s = [] := List.eq_nil_of_length_eq_zero (by omega)
    rw [parse_nil] at h
    injection h with _ h
    injection h with _ h
    rw [parse_nil, h]
  | succ n ih =>
    intro p p' s o y q hs h ho hl hd
    by_cases hne : s = []
    · subst hne
      rw [parse_nil] at h
      injection h with _ h
      injection h with _ h
      rw [parse_nil, h]
    · have h0 := h
      rw [parse_step hne] at h ⊢
      have hlp := line_pos hne
      by_cases hz : (stepM o s).1 = 0
      · rw [if_pos hz] at h
        have hstep : stepM (x ++ o) s = (0, x ++ (stepM o s).2) ∧ (stepM o s).2 ≠ [] := by
          obtain ⟨z, hnm⟩ := parse_names _ _ _ _ _ _ (Nat.le_refl _) h
          by_cases hh : isHead s = true
          · have e1 : ∀ m, stepM m s = (wrongL m (headL s), addHead m (headL s)) := fun m => by unfold stepM; rw [if_pos hh]
            rw [e1] at hz hnm ⊢
            rw [e1]
            obtain ⟨h1, nm, deps, h2, h3, h4⟩ := wrong_bound hz
            rw [h2] at hnm ⊢
            have hyl : o.length + 1 ≤ y.length := by
              have := congrArg List.length hnm
              simp [addHead] at this
              omega
            have hmem : ∃ e ∈ y, e.name = nm := by
              have : nm ∈ y.map (·.name) := by rw [hnm]; simp [addHead]
              obtain ⟨e, he, hn⟩ := List.mem_map.1 this
              exact ⟨e, he, hn⟩
            have hw : wrongL (x ++ o) (some (nm, deps)) = 0 := by
              show (if 64 ≤ (x ++ o).length ∨ 64 < deps.length then (5 : Int) else if Twice (x ++ o) nm deps then 23 else 0) = 0
              rw [if_neg (by rw [List.length_append]; omega), if_neg]
              rintro (⟨d, hd1, hd2⟩ | q)
              · rcases List.mem_append.1 hd1 with hd1 | hd1
                · obtain ⟨e, he, hn⟩ := hmem
                  exact hd d hd1 e he (by rw [hd2, hn])
                · exact h4 (.inl ⟨d, hd1, hd2⟩)
              · exact h4 (.inr q)
            rw [hw]
            exact ⟨by simp [addHead], by simp [addHead]⟩
          · have hone : o ≠ [] := by
              rcases ho with ho | ho | ho
              · exact ho
              · exact absurd ho hh
              · exact absurd ho hne
            have e1 : ∀ m : List SrcD, m ≠ [] → stepM m s = (0, addText m (s.take (lineN s))) := fun m hm => by
              unfold stepM
              rw [if_neg hh, if_neg (by simpa using hm)]
            rw [e1 _ hone, e1 _ (by simp [hone]), addText_front x hone]
            refine ⟨rfl, fun q => hone ?_⟩
            have := congrArg List.length q
            simp only [addText_len] at this
            exact List.eq_nil_of_length_eq_zero (by simpa using this)
        rw [hstep.1, if_pos rfl]
        exact ih _ _ _ _ _ _ (by rw [List.length_drop]; omega) h (.inl hstep.2) hl hd
      · rw [if_neg hz] at h
        injection h with h _
        exact absurd h hz
theorem parseE_ok {r : Int × Nat × List SrcD} {q : Nat} {x : List SrcD} (h : parseE r = (0, q, x)) : r = (0, q, x) ∧ x ≠ [] := by
  obtain ⟨c, p, l⟩ := r
  unfold parseE at h
  simp only at h
  by_cases hz : c = 0 ∧ l.isEmpty = true
  · rw [if_pos hz] at h
    injection h with h _
    cases h
  · rw [if_neg hz] at h
    injection h with h1 h2
    injection h2 with h2 h3
    subst h1 h2 h3
    exact ⟨rfl, fun q => hz ⟨rfl, by rw [q]; rfl⟩⟩
theorem parse_joined {a b : List UInt8} {x y : List SrcD} {q q' : Nat} (h1 : parseL (a ++ [10]) = (0, q, x)) (h2 : parseL b = (0, q', y)) (hl : x.length + y.length ≤ 64) (hb : isHead b = true) (hd : ∀ d ∈ x, ∀ e ∈ y, d.name ≠ e.name) (hs : ((a ++ [10]) ++ b).length ≤ 4194304) : parseL ((a ++ [10]) ++ b) = (0, 0, x ++ y) := by
  have e1 : parseR 0 (a ++ [10]) [] = (0, q, x) ∧ x ≠ [] := by
    unfold parseL at h1
    split at h1
    · injection h1 with h1 _; cases h1
    · exact parseE_ok h1
  have e2 : parseR 0 b [] = (0, q', y) ∧ y ≠ [] := by
    unfold parseL at h2
    split at h2
    · injection h2 with h2 _; cases h2
    · exact parseE_ok h2
  unfold parseL
  rw [if_neg (by omega), parse_app _ 0 (a ++ [10]) b [] x q (Nat.le_refl _) (.inr ⟨a, rfl⟩) e1.1]
  have h3 := parse_over x b.length 0 (0 + (a ++ [10]).length) b [] y q' (Nat.le_refl _) e2.1 (.inr (.inl hb)) hl hd
  rw [List.append_nil] at h3
  rw [h3]
  unfold parseE
  simp only
  rw [if_neg]
  rintro ⟨_, q⟩
  have := List.isEmpty_iff.1 q
  simp at this
  exact e1.2 this.1

/-! ### rows appended -/
theorem sl_rows {α : Type} {S : Nat → Prop} {w : World} {k : Nat} {P : α → List Value → Prop} {ao : Option Addr} {l : List α} (h : SlIs S w k P ao l) :
    ∃ L : List (List Value), L.length = l.length ∧ (∀ x ∈ L, x.length = k) ∧ (∀ (j : Nat) (d : α), l[j]? = some d → ∃ cs, L[j]? = some cs ∧ P d cs) ∧ (l ≠ [] → ∃ b o, ao = some ⟨b, o, none⟩ ∧ ∀ t v, L.flatten[t]? = some v → w.cell? ⟨b, o + t, none⟩ = some v) := by
  rcases h.2 with rfl | ⟨b, o, rfl, _, hr⟩
  · exact ⟨[], rfl, fun x hx => (by cases hx), fun j d hd => (by simp at hd), fun q => absurd rfl q⟩
  · have key : ∀ (l : List α) (o : Nat), rowIs w k P l b o → ∃ L : List (List Value), L.length = l.length ∧ (∀ x ∈ L, x.length = k) ∧ (∀ (j : Nat) (d : α), l[j]? = some d → ∃ cs, L[j]? = some cs ∧ P d cs) ∧ ∀ t v, L.flatten[t]? = some v → w.cell? ⟨b, o + t, none⟩ = some v := by
      intro l
      induction l with
      | nil => intro o _; exact ⟨[], rfl, fun x hx => (by cases hx), fun j d hd => (by simp at hd), fun t v h => (by simp at h)⟩
      | cons d r ih =>
        intro o h
        obtain ⟨⟨cs, h1, h2, h3⟩, h4⟩ := h
        obtain ⟨L, i1, i2, i3, i4⟩ := ih (o + k) h4
        refine ⟨cs :: L, by simp [i1], ?_, ?_, ?_⟩
        · intro x hx
          rcases List.mem_cons.1 hx with rfl | hx
          · exact h1
          · exact i2 x hx
        · intro j e he
          cases j with
          | zero => simp at he; subst he; exact ⟨cs, rfl, h3⟩
          | succ j => exact i3 j e (by simpa using he)
        · intro t v ht
          rw [List.flatten_cons] at ht
          by_cases hlt : t < cs.length
          · rw [List.getElem?_append_left hlt] at ht
            exact h2 t v ht
          · rw [List.getElem?_append_right (by omega), h1] at ht
            have := i4 (t - k) v ht
            rwa [show o + k + (t - k) = o + t by omega] at this
    obtain ⟨L, i1, i2, i3, i4⟩ := key l o hr
    exact ⟨L, i1, i2, i3, fun _ => ⟨b, o, rfl, i4⟩⟩
theorem flat_len {k : Nat} : ∀ {L : List (List Value)}, (∀ x ∈ L, x.length = k) → L.flatten.length = L.length * k
  | [], _ => by simp
  | x :: L, h => by
    rw [List.flatten_cons, List.length_append, h x (by simp), flat_len (L := L) (fun y hy => h y (by simp [hy])), List.length_cons, Nat.succ_mul]
    omega
/-- A row of elements as a source of an append. -/
theorem sl_src {P : Program} {w : World} {k n : Nat} {tx e : TypeId} (hk : P.underlying tx = some (.slice e)) {ao : Option Addr} {L : List (List Value)} (hn : L.length = n) (hall : ∀ x ∈ L, x.length = k) (h1 : ∀ x ∈ L, ∀ u ∈ x, u.oneCell' = true)
    (hc : L ≠ [] → ∃ b o, ao = some ⟨b, o, none⟩ ∧ ∀ t v, L.flatten[t]? = some v → w.cell? ⟨b, o + t, none⟩ = some v) (c : Nat) (h0 : L = [] → n = 0 → Src P k tx (.slice ao 0 c) 0 [] w) : Src P k tx (.slice ao n c) n L.flatten w := by
  by_cases he : L = []
  · subst he
    obtain rfl : n = 0 := by simpa using hn.symm
    exact h0 rfl rfl
  · obtain ⟨b, o, rfl, hcell⟩ := hc he
    refine Src.ofSlice _ hk ⟨b, o, none⟩ n c _ (by rw [flat_len hall, hn]) (fun t u hu => ?_) (fun u hu => ?_)
    · rw [ad_mid]; exact hcell t u hu
    · obtain ⟨x, hx, hux⟩ := List.mem_flatten.1 hu
      exact h1 x hx u hux

theorem ownC_sl {α : Type} {w : World} {e : TypeId} {k : Nat} {P : α → List Value → Prop} {ao : Option Addr} {cap : Nat} {L : List (List Value)} {l : List α} (h : OwnC w e k ao cap L) (hall : ∀ x ∈ L, x.length = k) (hn : L.length = l.length) (hb : l.length ≤ bigN) (hp : ∀ (j : Nat) (d : α), l[j]? = some d → ∃ cs, L[j]? = some cs ∧ P d cs) : SlIs (fun _ => True) w k P ao l := by
  refine ⟨hb, ?_⟩
  by_cases he : l = []
  · exact .inl he
  · have hL : L ≠ [] := fun q => he (List.eq_nil_of_length_eq_zero (by rw [← hn, q]; rfl))
    obtain ⟨g, rfl⟩ := h.head hL
    refine .inr ⟨g, 0, rfl, trivial, rowIs_mk fun j d hd => ?_⟩
    obtain ⟨cs, e1, e2⟩ := hp j d hd
    refine ⟨cs, hall cs (List.mem_of_getElem? e1), ?_, e2⟩
    rw [Nat.zero_add]
    exact h.range hall e1
theorem ownC_empty (w : World) (e : TypeId) (k : Nat) : OwnC (w.alloc (.cells #[] e)) e k (some ⟨w.heap.size, 0, none⟩) 0 [] :=
  ⟨by simp, .inr ⟨w.heap.size, 0, #[], rfl, Nat.zero_le _, heap_alloc_new w _, Nat.le_refl _, Nat.zero_le _, by simp, by simp⟩⟩
theorem wpList_unguard' {P : Program} {ops : Array Oper} {rest : List Oper} {o : Oper} {a : Act} {w : World} {Q : Exit → Act → World → Prop} (hw : Region.wanted o (yielded ops a.tmps) = true)
    (h : wpList P ops Q ({ o with guard := none } :: rest) a w) : wpList P ops Q (o :: rest) a w := by
  unfold wpList at h ⊢
  rw [if_pos hw]
  rw [if_pos (by simp [Region.wanted])] at h
  exact h
/-- append of a row of crates. -/
theorem wpList_appSrcs (w : World) {ops : Array Oper} {rest : List Oper} {o : Oper} {a : Act} {Q : Exit → Act → World → Prop} (hgd : Region.wanted o (yielded ops a.tmps) = true) (s x : Operand)
    (ho : o.op = .call { callee := .builtin .append, args := #[s, x], argTypes := #[24, 24] })
    (ao : Option Addr) (cap : Nat) (L : List (List Value)) (n : Nat) (hn : L.length = n) (hsv : a.eval s = .slice ao n cap) (hown : OwnC w 43 3 ao cap L) (xv : Value) (m : Nat) (M : List (List Value)) (hm : M.length = m)
    (hx : a.eval x = xv) (hs : Src Tryd.prog 3 24 xv m M.flatten w) (hb : n ≤ 1000000000) (hb2 : m ≤ 1000000000)
    (h : ∀ ao' cap' w', OwnC w' 43 3 ao' cap' (L ++ M) → Keeps (fun k => blockOf ao = some k) w w' → Moved w.heap.size ao ao' → wpList Tryd.prog ops Q rest (a.put o.dst (.slice ao' (n + m) cap')) w') : wpList Tryd.prog ops Q (o :: rest) a w := by
  obtain ⟨i0, hi, hz0, hz1, hz2⟩ := info_parts3 infoSrc3
  subst hn hm
  refine wpList_unguard' hgd (wpList_append_src w rfl s x 24 24 ho 43 i0 (.agg #[.string ⟨#[]⟩, .slice none 0 0, .string ⟨#[]⟩]) 3 56 Tryd.underlying24 hi hz0 hz1 hz2 (by rfl) ao L.length cap L.flatten hsv hown xv M.length M.flatten hx hs
    (by unfold maxLen; omega) (by omega) fun ao' cap' w' h1 h2 h3 => ?_)
  have e1 : L.flatten ++ M.flatten = (L ++ M).flatten := by simp
  have e2 : L.length + M.length = (L ++ M).length := by rw [List.length_append]
  refine h ao' cap' w' ?_ ((Keeps.refl _ _).grown h2 (fun k hk _ => hk)) h3
  rw [e1, e2] at h1
  exact h1

end Go.Proofs.YtiliajnijjkcdaaDoor
