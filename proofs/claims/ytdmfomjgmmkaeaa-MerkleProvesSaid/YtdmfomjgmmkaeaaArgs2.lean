/- Arguments as data: slices of slices of bytes, slices of bools. -/
import Derived.Test.YtdmfomjgmmkaeaaArgs
namespace Go.Proofs.Ytdmfomjgmmkaeaa
open Go.RowKit Go.ChangeShapes Go.WideShapes

/-- A slice of slices of bytes, as it lies in memory. -/
def RowsAt (w : World) (ao : Option Addr) (rows : List (List UInt8)) : Prop :=
  (ao = none → rows = []) ∧ ∀ a, ao = some a → ∀ i l, rows[i]? = some l → a.spot = none ∧ ∃ ao' cap', w.cell? (a.add i) = some (.slice ao' l.length cap') ∧ BytesAt w ao' l ∧ l.length ≤ cap' ∧ cap' ≤ maxLen
def BoolsAt (w : World) (ao : Option Addr) (bs : List Bool) : Prop :=
  (ao = none → bs = []) ∧ ∀ a, ao = some a → ∀ i b, bs[i]? = some b → a.spot = none ∧ w.cell? (a.add i) = some (.bool b)

theorem BytesAt.keepsN {w w' : World} {ao : Option Addr} {bs : List UInt8} (h : BytesAt w ao bs) (hK : Keeps Nothing w w') : BytesAt w' ao bs := h.keeps hK (fun _ _ h => h)
theorem RowsAt.keepsN {w w' : World} {ao : Option Addr} {rows : List (List UInt8)} (h : RowsAt w ao rows) (hK : Keeps Nothing w w') : RowsAt w' ao rows := by
  refine ⟨h.1, fun a e i l hi => ?_⟩
  obtain ⟨h0, ao', cap', h1, h2, h3⟩ := h.2 a e i l hi
  exact ⟨h0, ao', cap', hK.cell h1 (fun h => h), h2.keepsN hK, h3⟩
theorem BoolsAt.keepsN {w w' : World} {ao : Option Addr} {bs : List Bool} (h : BoolsAt w ao bs) (hK : Keeps Nothing w w') : BoolsAt w' ao bs :=
  ⟨h.1, fun a e i b hi => ⟨(h.2 a e i b hi).1, hK.cell (h.2 a e i b hi).2 (fun h => h)⟩⟩

theorem ad_add (a : Addr) (h : a.spot = none) (i : Nat) : a.add i = ⟨a.block, a.off + i, none⟩ := by
  obtain ⟨b, o, s⟩ := a
  simp only at h
  subst h
  unfold Addr.add
  split
  · rename_i h; subst h; rfl
  · rfl

section
variable {H : Type} {enc : TypeId × Value → H} {w : World} {base : Nat} {spare : Nat → Bool} {held : Bool}

theorem cellsS8 : Try.prog.cellsOf 22 = 1 := by kernel_rfl

theorem open_rows {fuel : Nat} {v : Value} {ao : Option Addr} {len cap : Nat} {x : DataW H × List MemPlace} (hv : v = .slice ao len cap) (h : DataW.trod enc Try.prog w base spare held fuel 41 v.cells.toList = some x) :
    ∃ rows : List (List UInt8), rows.length = len ∧ RowsAt w ao rows ∧ len ≤ cap ∧ cap ≤ maxLen := by
  subst hv
  rcases Deep.open_slice1 Try.underlying41 cellsS8 h with ⟨hcs, _⟩ | ⟨a, l, c, m, n, V, D, Pl, hcs, hb, hl, hm, hmm, hx, hel⟩
  · simp [Value.cells] at hcs
    obtain ⟨rfl, rfl, rfl⟩ := hcs
    exact ⟨[], rfl, ⟨fun _ => rfl, fun a e => by simp at e⟩, Nat.le_refl _, Nat.zero_le _⟩
  · simp [Value.cells] at hcs
    obtain ⟨rfl, rfl, rfl⟩ := hcs
    have hlm : len ≤ m := by rw [hmm]; split <;> omega
    have hex : ∀ i, i < len → ∃ l : List UInt8, ∃ ao' cap', w.cell? (a.add i) = some (.slice ao' l.length cap') ∧ BytesAt w ao' l ∧ l.length ≤ cap' ∧ cap' ≤ maxLen := by
      intro i hi
      obtain ⟨hc, ht⟩ := hel i (by omega)
      have hsl : ∃ ao' l' c', V i = .slice ao' l' c' := by
        rcases Deep.open_slice Try.underlying22 ht with ⟨hcs, _⟩ | ⟨a', l', c', _, _, _, _, hcs, _⟩
        · simp at hcs; exact ⟨_, _, _, hcs⟩
        · simp at hcs; exact ⟨_, _, _, hcs⟩
      obtain ⟨ao', l', c', hV⟩ := hsl
      obtain ⟨bs, h1, h2, h3, h4⟩ := open_bytes (v := V i) hV (by rw [hV] at ht ⊢; exact ht)
      subst h1
      exact ⟨bs, ao', c', by rw [hc, hV], h2, h3, h4⟩
    have : Inhabited (List UInt8) := ⟨[]⟩
    obtain ⟨f, hf⟩ := Deep.choose_lt hex
    refine ⟨(List.range len).map f, by simp, ⟨fun e => by simp at e, fun a' e i o hi => ?_⟩, hl, hm⟩
    obtain rfl := Option.some.inj e
    rw [List.getElem?_map] at hi
    by_cases hlt : i < len
    · rw [List.getElem?_range hlt] at hi
      obtain rfl := Option.some.inj hi
      obtain ⟨ao', cap', hc, r⟩ := hf i hlt
      obtain ⟨_, _, hc0, _⟩ := hf 0 (by omega)
      have hs0 := World.cell?_spot hc0
      unfold Addr.add at hs0
      exact ⟨by simpa using hs0, ao', cap', hc, r⟩
    · rw [List.getElem?_eq_none (by simp; omega)] at hi
      cases hi

theorem open_bools {fuel : Nat} {v : Value} {ao : Option Addr} {len cap : Nat} {x : DataW H × List MemPlace} (hv : v = .slice ao len cap) (h : DataW.trod enc Try.prog w base spare held fuel 93 v.cells.toList = some x) :
    ∃ bs : List Bool, bs.length = len ∧ BoolsAt w ao bs ∧ len ≤ cap ∧ cap ≤ maxLen := by
  subst hv
  rcases Deep.open_slice1 Try.underlying93 (by kernel_rfl) h with ⟨hcs, _⟩ | ⟨a, l, c, m, n, V, D, Pl, hcs, hb, hl, hm, hmm, hx, hel⟩
  · simp [Value.cells] at hcs
    obtain ⟨rfl, rfl, rfl⟩ := hcs
    exact ⟨[], rfl, ⟨fun _ => rfl, fun a e => by simp at e⟩, Nat.le_refl _, Nat.zero_le _⟩
  · simp [Value.cells] at hcs
    obtain ⟨rfl, rfl, rfl⟩ := hcs
    have hlm : len ≤ m := by rw [hmm]; split <;> omega
    have hex : ∀ i, i < len → ∃ b : Bool, w.cell? (a.add i) = some (.bool b) := by
      intro i hi
      obtain ⟨hc, ht⟩ := hel i (by omega)
      obtain ⟨b, e, _⟩ := DataW.trod_bool Try.underlying4 ht
      simp at e
      exact ⟨b, by rw [hc, e]⟩
    obtain ⟨f, hf⟩ := Deep.choose_lt hex
    refine ⟨(List.range len).map f, by simp, ⟨fun e => by simp at e, fun a' e i o hi => ?_⟩, hl, hm⟩
    obtain rfl := Option.some.inj e
    rw [List.getElem?_map] at hi
    by_cases hlt : i < len
    · rw [List.getElem?_range hlt] at hi
      obtain rfl := Option.some.inj hi
      have hc := hf i hlt
      have hs0 := World.cell?_spot (hf 0 (by omega))
      unfold Addr.add at hs0
      exact ⟨by simpa using hs0, hc⟩
    · rw [List.getElem?_eq_none (by simp; omega)] at hi
      cases hi

end
end Go.Proofs.Ytdmfomjgmmkaeaa
