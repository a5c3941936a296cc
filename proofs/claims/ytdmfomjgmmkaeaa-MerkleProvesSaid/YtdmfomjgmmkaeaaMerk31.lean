/- A row of rows copied, and one of its rows put anew. -/
import Derived.Test.YtdmfomjgmmkaeaaMerk30
namespace Go.Proofs.Ytdmfomjgmmkaeaa
open Go.RowKit

/-- The first operation of a list alone. -/
theorem wpList_first {P : Program} {Q : Exit → Act → World → Prop} {ops : Array Oper} {o : Oper} {rest : List Oper} {a : Act} {w : World} (h : ∀ K : Act → World → Prop, (∀ a w, wpList P ops Q rest a w → K a w) → wpList P ops (Exit.then K (noP Q)) [o] a w) : wpList P ops Q (o :: rest) a w := by
  have h2 := h (fun a w => wpList P ops Q rest a w) (fun _ _ h => h)
  unfold wpList at h2 ⊢
  by_cases hw : Region.wanted o (yielded ops a.tmps) = true
  · rw [if_pos hw] at h2 ⊢
    rcases h2 with h2 | ⟨h3, h4⟩
    · refine .inl (oper_wp_mono (fun a w h => ?_) (fun c a w h => h.elim) (fun h => ?_) h2)
      · unfold wpList at h
        exact h
      · obtain ⟨a, w, h⟩ := h; exact ⟨a, w, h⟩
    · obtain ⟨a, w, h⟩ := h4
      exact .inr ⟨h3, a, w, h⟩
  · rw [if_neg hw] at h2 ⊢
    unfold wpList at h2
    exact h2
/-- The values of a row of rows. -/
def RowVals (w : World) (rows : List (List UInt8)) (vs : List Value) : Prop :=
  vs.length = rows.length ∧ ∀ (j : Nat) (l : List UInt8), rows[j]? = some l → ∃ (a : Option Addr) (c : Nat), vs[j]? = some (.slice a l.length c) ∧ BytesAt w a l ∧ l.length ≤ c ∧ c ≤ maxLen
theorem rows_vals {w : World} {b o n : Nat} (c : Nat) {rows : List (List UInt8)} (hn : rows.length = n) (h : RowsAt w (some ⟨b, o, none⟩) rows) :
    ∃ vs, RowVals w rows vs ∧ ∀ w', Keeps Nothing w w' → Src Try.prog 1 41 (.slice (some ⟨b, o, none⟩) n c) n vs w' := by
  subst hn
  have hex : ∀ i, i < rows.length → ∃ v : Value, w.cell? (Addr.add ⟨b, o, none⟩ i) = some v ∧ v.oneCell' = true ∧ ∀ l, rows[i]? = some l → ∃ (a : Option Addr) (c : Nat), v = .slice a l.length c ∧ BytesAt w a l ∧ l.length ≤ c ∧ c ≤ maxLen := by
    intro i hi
    obtain ⟨_, a', c', h1, h2, h3, h4⟩ := h.2 _ rfl i rows[i] (List.getElem?_eq_getElem hi)
    refine ⟨_, h1, rfl, fun l hl => ?_⟩
    rw [List.getElem?_eq_getElem hi] at hl
    obtain rfl := Option.some.inj hl
    exact ⟨a', c', rfl, h2, h3, h4⟩
  have : Inhabited Value := ⟨.nilIface⟩
  obtain ⟨f, hf⟩ := Deep.choose_lt hex
  refine ⟨(List.range rows.length).map f, ⟨by simp, fun j l hl => ?_⟩, fun w' K => ?_⟩
  · have hj := (List.getElem?_eq_some_iff.1 hl).1
    obtain ⟨_, _, h3⟩ := hf j hj
    obtain ⟨a, c, e, r⟩ := h3 l hl
    exact ⟨a, c, by rw [List.getElem?_map, List.getElem?_range hj, Option.map_some, e], r⟩
  · refine Src.ofSlice _ Try.underlying41 ⟨b, o, none⟩ rows.length c _ (by simp) (fun j u hj => ?_) (fun u hu => ?_)
    · rw [List.getElem?_map] at hj
      by_cases hlt : j < rows.length
      · rw [List.getElem?_range hlt, Option.map_some] at hj
        obtain rfl := Option.some.inj hj
        exact K.cell (hf j hlt).1 (fun h => h)
      · rw [List.getElem?_eq_none (by simp; omega)] at hj
        cases hj
    · obtain ⟨i, hi, rfl⟩ := List.mem_map.1 hu
      exact (hf i (List.mem_range.1 hi)).2.1
theorem wpList_appR (w : World) {ops : Array Oper} {rest : List Oper} {o : Oper} {a : Act} {Q : Exit → Act → World → Prop} (hgd : o.guard = none) (s x : Operand)
    (ho : o.op = .call { callee := .builtin .append, args := #[s, x], argTypes := #[41, 41] })
    (g : Nat) (hsv : a.eval s = .slice (some ⟨g, 0, none⟩) 0 0) (hown : Blk w g #[] 22) {xv : Value} (hx : a.eval x = xv) {n : Nat} {vs : List Value} (hs : Src Try.prog 1 41 xv n vs w) (hb : n ≤ 1000000000)
    (h : ∀ ao' cap' w', w'.ownsRow 0 22 1 (.slice ao' n cap') n vs → Keeps (fun k => g = k) w w' → (∀ k, blockOf ao' = some k → k = g ∨ w.heap.size ≤ k) → wpList Try.prog ops Q rest (a.put o.dst (.slice ao' n cap')) w') : wpList Try.prog ops Q (o :: rest) a w := by
  obtain ⟨i0, hi, hz0, hz1, hz2⟩ := info_parts3 info22
  have ow : w.ownsRow 0 22 1 (.slice (some ⟨g, 0, none⟩) 0 0) 0 [] := ⟨rfl, .inr ⟨g, 0, #[], rfl, Nat.zero_le _, hown, Nat.le_refl _, by decide, rfl, rfl⟩⟩
  refine wpList_append_src w hgd s x 41 41 ho 22 i0 (.slice none 0 0) 1 24 Try.underlying41 hi hz0 hz1 hz2 (by rfl) (some ⟨g, 0, none⟩) 0 0 [] hsv ow _ n vs hx hs
    (by unfold maxLen; omega) (by omega) fun ao' cap' w' h1 h2 h3 => ?_
  rw [Nat.zero_add, List.nil_append] at h1
  rw [Nat.zero_add]
  refine h ao' cap' w' h1 ((Keeps.refl _ _).grown h2 (fun k hk _ => by simpa [blockOf] using hk)) (fun k hk => ?_)
  rcases h3 with e | ⟨g', e, hg'⟩
  · rw [e] at hk; simp [blockOf] at hk; exact .inl hk.symm
  · rw [e] at hk; obtain rfl := Option.some.inj hk; exact .inr hg'
/-- One row put anew. -/
theorem rows_set {w0 w : World} {g n cap : Nat} {rows : List (List UInt8)} {vs : List Value} (hv : RowVals w0 rows vs) (o : w.ownsRow 0 22 1 (.slice (some ⟨g, 0, none⟩) n cap) n vs) {i : Nat} {ab : Option Addr} {cb : Nat} {b : List UInt8} (hi : i < rows.length)
    (hB : BytesAt w0 ab b) (hbc : b.length ≤ cb) (hcm : cb ≤ maxLen) {w' : World} (hw : w' = w.setCell ⟨g, i, none⟩ (.slice ab b.length cb)) (K : Keeps Nothing w0 w') : ∃ cur, Blk w g cur 22 ∧ (∃ v, cur[i]? = some v) ∧ RowsAt w' (some ⟨g, 0, none⟩) (rows.set i b) := by
  rcases o.2 with ⟨hv', _⟩ | ⟨g', cap', cur, hv', _, hg, _⟩
  · simp at hv'
  · simp only [Value.slice.injEq, Option.some.injEq] at hv'
    obtain ⟨h1, _⟩ := hv'
    have : g = g' := by injection h1
    subst this
    have hcell : ∀ (j : Nat) (v : Value), vs[j]? = some v → cur[j]? = some v := fun j v hj => by
      have h4 := World.ownsRow.cells o (g := g) rfl j v hj
      rw [Addr.add_mid', Nat.zero_add, blk_cell_eq hg] at h4
      exact h4
    obtain ⟨ai, ci, hvi, _⟩ := hv.2 i rows[i] (List.getElem?_eq_getElem hi)
    have hci := hcell i _ hvi
    have hlt := (Array.getElem?_eq_some_iff.1 hci).1
    have hB' := blk_set hg i (.slice ab b.length cb)
    refine ⟨cur, hg, ⟨_, hci⟩, fun e => (by cases e), fun a e j l hl => ?_⟩
    obtain rfl := Option.some.inj e
    rw [List.getElem?_set] at hl
    by_cases hij : i = j
    · subst hij
      rw [if_pos rfl, if_pos hi] at hl
      obtain rfl := Option.some.inj hl
      refine ⟨rfl, ab, cb, ?_, hB.keepsN K, hbc, hcm⟩
      rw [Addr.add_mid', Nat.zero_add, hw, blk_cell_eq hB', Array.getElem?_setIfInBounds, if_pos rfl, if_pos hlt]
    · rw [if_neg hij] at hl
      obtain ⟨aj, cj, hvj, hBj, q1, q2⟩ := hv.2 j l hl
      refine ⟨rfl, aj, cj, ?_, hBj.keepsN K, q1, q2⟩
      rw [Addr.add_mid', Nat.zero_add, hw, blk_cell_eq hB', Array.getElem?_setIfInBounds, if_neg hij]
      exact hcell j _ hvj

end Go.Proofs.Ytdmfomjgmmkaeaa
