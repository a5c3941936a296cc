/- Owned rows of elements of several cells each. -/
import Derived.Test.YtjbcagbnagefcaaMem
import Derived.Test.YtjbcagbnagefcaaMid
namespace Go.Proofs.Ytjbcagbnagefcaa
open Go.RowKit

/-- A row of its own of elements of k cells each. -/
abbrev OwnC (w : World) (e : TypeId) (k : Nat) (ao : Option Addr) (cap : Nat) (L : List (List Value)) : Prop := w.ownsRow 0 e k (.slice ao L.length cap) L.length L.flatten
theorem ownC_nil (w : World) (e : TypeId) (k : Nat) : OwnC w e k none 0 [] := World.ownsRow_nil w _ _ _
theorem flat_at {k : Nat} : ∀ {L : List (List Value)}, (∀ x ∈ L, x.length = k) → ∀ {j : Nat} {x : List Value}, L[j]? = some x → ∀ t v, x[t]? = some v → L.flatten[j * k + t]? = some v := by
  intro L
  induction L with
  | nil => intro _ j x h; simp at h
  | cons y l ih =>
    intro hall j x hj t v ht
    rw [List.flatten_cons]
    have hy := hall y (by simp)
    cases j with
    | zero =>
      obtain rfl : y = x := by simpa using hj
      have htl := (List.getElem?_eq_some_iff.1 ht).1
      rw [Nat.zero_mul, Nat.zero_add, List.getElem?_append_left htl]
      exact ht
    | succ j =>
      rw [List.getElem?_append_right (by rw [hy, Nat.succ_mul]; omega), hy, show (j + 1) * k + t - k = j * k + t by rw [Nat.succ_mul]; omega]
      exact ih (fun z hz => hall z (List.mem_cons_of_mem _ hz)) (by simpa using hj) t v ht
theorem OwnC.head {w : World} {e : TypeId} {k : Nat} {ao : Option Addr} {cap : Nat} {L : List (List Value)} (h : OwnC w e k ao cap L) (hn : L ≠ []) : ∃ g, ao = some ⟨g, 0, none⟩ := by
  rcases h.2 with ⟨_, hl⟩ | ⟨g, cap', cur, hv, _⟩
  · exact absurd (List.eq_nil_of_length_eq_zero hl) hn
  · simp only [Value.slice.injEq] at hv; exact ⟨g, hv.1⟩
theorem OwnC.shape {w : World} {e : TypeId} {k : Nat} {ao : Option Addr} {cap : Nat} {L : List (List Value)} (h : OwnC w e k ao cap L) : ao = none ∨ ∃ g, ao = some ⟨g, 0, none⟩ := by
  rcases h.2 with ⟨hv, hl⟩ | ⟨g, cap', cur, hv, _⟩
  · simp only [Value.slice.injEq] at hv; exact .inl hv.1
  · simp only [Value.slice.injEq] at hv; exact .inr ⟨g, hv.1⟩
theorem OwnC.blk {w : World} {e : TypeId} {k g : Nat} {cap : Nat} {L : List (List Value)} (h : OwnC w e k (some ⟨g, 0, none⟩) cap L) : ∃ cur, Blk w g cur e := by
  rcases h.2 with ⟨hv, _⟩ | ⟨g', cap', cur, hv, _, hg, _⟩
  · simp at hv
  · simp only [Value.slice.injEq, Option.some.injEq, Addr.mk.injEq] at hv
    obtain ⟨⟨rfl, _⟩, _⟩ := hv
    exact ⟨cur, hg⟩
theorem OwnC.cap {w : World} {e : TypeId} {k : Nat} {ao : Option Addr} {cap : Nat} {L : List (List Value)} (h : OwnC w e k ao cap L) : L.length ≤ cap ∧ cap ≤ maxLen := by
  rcases h.2 with ⟨hv, hl⟩ | ⟨g, cap', cur, hv, _, _, h1, h2, _⟩
  · simp only [Value.slice.injEq] at hv; exact ⟨by omega, by rw [hv.2.2]; exact Nat.zero_le _⟩
  · simp only [Value.slice.injEq] at hv; exact ⟨by omega, by rw [hv.2.2]; exact h2⟩
theorem OwnC.range {w : World} {e : TypeId} {k g : Nat} {cap : Nat} {L : List (List Value)} (h : OwnC w e k (some ⟨g, 0, none⟩) cap L) (hall : ∀ x ∈ L, x.length = k) {j : Nat} {x : List Value} (hj : L[j]? = some x) : w.rangeAt g (j * k) x := fun t v ht => by
  have := World.ownsRow.cells h (g := g) rfl (j * k + t) v (flat_at hall hj t v ht)
  rwa [Addr.add_lit, Nat.zero_add] at this
theorem OwnC.keeps {S : Nat → Prop} {w w' : World} {e : TypeId} {k : Nat} {ao : Option Addr} {cap : Nat} {L : List (List Value)} (h : OwnC w e k ao cap L) (K : Keeps S w w') (hn : ∀ g, blockOf ao = some g → ¬ S g) : OwnC w' e k ao cap L :=
  K.own h (fun g hg => by rw [ownBlock_eq] at hg; exact hn g hg)
theorem OwnC.keepsN {w w' : World} {e : TypeId} {k : Nat} {ao : Option Addr} {cap : Nat} {L : List (List Value)} (h : OwnC w e k ao cap L) (K : Keeps Nothing w w') : OwnC w' e k ao cap L := h.keeps K (fun _ _ h => h)
theorem OwnC.ne {w : World} {e : TypeId} {k : Nat} {ao : Option Addr} {cap : Nat} {L : List (List Value)} (h : OwnC w e k ao cap L) {p : Nat} {cs : Array Value} {t : TypeId} (hp : Blk w p cs t) (hne : e ≠ t) : blockOf ao ≠ some p := by
  have := own_ne h hp hne
  rwa [ownBlock_eq] at this
theorem OwnC.lt {w : World} {e : TypeId} {k : Nat} {ao : Option Addr} {cap : Nat} {L : List (List Value)} (h : OwnC w e k ao cap L) {g : Nat} (hg : blockOf ao = some g) : g < w.heap.size := own_lt h (by rw [ownBlock_eq]; exact hg)

section
variable {P : Program}
/-- append of one element. -/
theorem wpList_appC (w : World) {ops : Array Oper} {rest : List Oper} {o : Oper} {a : Act} {Q : Exit → Act → World → Prop} (hgd : o.guard = none) (s x : Operand) (t : TypeId)
    (ho : o.op = .call { callee := .builtin .append, args := #[s, x], argTypes := #[t, t] })
    (e : TypeId) (i : TypeInfo) (z : Value) (k bytes : Nat) (ht : P.underlying t = some (.slice e)) (hi : P.info? e = some i) (hz : i.zero = some z)
    (hsize : i.size = k) (hby : i.bytes = bytes) (hzs : z.cells.size = k) (hb64 : bytes ≤ 1000)
    (ao : Option Addr) (cap : Nat) (L : List (List Value)) (n : Nat) (hn : L.length = n) (hsv : a.eval s = .slice ao n cap) (hown : OwnC w e k ao cap L) (g : Nat) (C : Array Value) (l : List Value) (hC : C = l.toArray) (hl : l.length = k) (h1 : ∀ u ∈ l, u.oneCell' = true)
    (hx : a.eval x = .slice (some ⟨g, 0, none⟩) 1 1) (hg : Blk w g C e) (hb : n ≤ 1000000000)
    (h : ∀ ao' cap' w', OwnC w' e k ao' cap' (L ++ [l]) → Keeps (fun k => blockOf ao = some k) w w' → Moved w.heap.size ao ao' → wpList P ops Q rest (a.put o.dst (.slice ao' (n + 1) cap')) w') : wpList P ops Q (o :: rest) a w := by
  subst hn
  have hsr : Src P k t (.slice (some ⟨g, 0, none⟩) 1 1) 1 l w := Src.ofSlice _ ht ⟨g, 0, none⟩ 1 1 _ (by rw [hl, Nat.one_mul]) (fun j u hj => by
    rw [Addr.add_lit, Nat.zero_add]
    exact blk_cell hg j (by rw [hC]; simpa using hj)) h1
  refine wpList_append_src w hgd s x t t ho e i z k bytes ht hi hz hsize hby hzs ao L.length cap L.flatten hsv hown _ 1 l hx hsr
    (by unfold maxLen; omega) (Nat.le_trans (Nat.mul_le_mul_left _ hb64) (by omega)) fun ao' cap' w' h1 h2 h3 => ?_
  have e1 : L.flatten ++ l = (L ++ [l]).flatten := by simp
  have e2 : L.length + 1 = (L ++ [l]).length := by rw [List.length_append]; rfl
  refine h ao' cap' w' ?_ ((Keeps.refl _ _).grown h2 (fun k hk _ => hk)) h3
  rw [e1, e2] at h1
  exact h1
end

theorem fillL : ∀ (l : List Value) (k : Nat) (Z : Array Value) (i : Nat), (List.foldl (fun cs (x : Value × Nat) => cs.setIfInBounds x.snd x.fst) Z (l.zipIdx k))[i]? = if i < k then Z[i]? else if i < k + l.length ∧ i < Z.size then l[i - k]? else Z[i]? := by
  intro l
  induction l with
  | nil => intro k Z i; simp; omega
  | cons v l ih =>
    intro k Z i
    rw [List.zipIdx_cons, List.foldl_cons, ih, Array.size_setIfInBounds, List.length_cons]
    by_cases h1 : i < k
    · rw [if_pos (by omega), if_pos h1, Array.getElem?_setIfInBounds, if_neg (by omega)]
    · rw [if_neg h1]
      by_cases h2 : i = k
      · subst h2
        rw [if_pos (by omega), Array.getElem?_setIfInBounds, if_pos rfl]
        by_cases h3 : i < Z.size
        · rw [if_pos h3, if_pos ⟨by omega, h3⟩, Nat.sub_self]; rfl
        · rw [if_neg h3, if_neg (by omega), Array.getElem?_eq_none (by omega)]
      · rw [if_neg (by omega)]
        by_cases h3 : i < k + (l.length + 1) ∧ i < Z.size
        · rw [if_pos ⟨by omega, h3.2⟩, if_pos h3, show i - k = (i - (k + 1)) + 1 by omega, List.getElem?_cons_succ]
        · rw [if_neg (by omega), if_neg h3, Array.getElem?_setIfInBounds, if_neg (by omega)]
/-- A literal of one element, laid cell by cell. -/
theorem fillN {n : Nat} {Z C : Array Value} (hZ : Z.size = n) (hC : C.size = n) : Array.foldl (fun cs (x : Value × Nat) => cs.setIfInBounds x.snd x.fst) Z C.zipIdx 0 n = C := by
  have h1 : (C.zipIdx).size = n := by simp [hC]
  have h2 : Array.foldl (fun cs (x : Value × Nat) => cs.setIfInBounds x.snd x.fst) Z C.zipIdx 0 n = List.foldl (fun cs (x : Value × Nat) => cs.setIfInBounds x.snd x.fst) Z (C.toList.zipIdx 0) := by
    rw [← Array.toList_zipIdx, Array.foldl_toList, h1]
  rw [h2]
  apply Array.ext_getElem?
  intro i
  have hl : C.toList.length = n := by rw [Array.length_toList]; exact hC
  rw [fillL, if_neg (by omega), hl, hZ]
  by_cases hi : i < n
  · rw [if_pos ⟨by omega, hi⟩, Nat.sub_zero, Array.getElem?_toList]
  · rw [if_neg (by omega), Array.getElem?_eq_none (by omega), Array.getElem?_eq_none (by omega)]

end Go.Proofs.Ytjbcagbnagefcaa
