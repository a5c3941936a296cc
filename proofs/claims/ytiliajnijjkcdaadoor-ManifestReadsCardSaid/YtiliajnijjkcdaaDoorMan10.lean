/- Package manifest: a line of a crate's text, in memory. -/
import Derived.Test.YtiliajnijjkcdaaDoorMan9
namespace Go.Proofs.YtiliajnijjkcdaaDoor
open Go.RowKit

section
variable {N : Nat} {w : World} {g1 g3 : Nat} {ao : Option Addr} {cap : Nat} {L : List (List Value)} {at' : Option Addr} {ct : Nat} {T : List TxR} {out : List SrcD}
theorem own8_not {w : World} {e : TypeId} {x : Option Addr} {c : Nat} {bs : List UInt8} (h : Own8 w e x c bs) {g : Nat} (hg : blockOf x = some g) : ∃ cur : Array Value, Blk w g cur e := by
  rcases h.2 with ⟨hv, _⟩ | ⟨g', cap', cur, hv, _, hb, _⟩
  · simp only [Value.slice.injEq] at hv
    rw [hv.1] at hg
    cases hg
  · simp only [Value.slice.injEq] at hv
    rw [hv.1] at hg
    obtain rfl : g' = g := by simpa [blockOf] using hg
    exact ⟨cur, hb⟩
/-- The last text grows. -/
theorem PS.more {V : World} {T0 : List TxR} {x : TxR} {o : List SrcD} {d : SrcD} {gt ot : Nat} (h : PS N w g1 g3 ao cap L (some ⟨gt, ot, none⟩) ct (T0 ++ [x]) (o ++ [d])) (hN : N ≤ w.heap.size) {t : List UInt8} {a2 : Option Addr} {c2 : Nat}
    (O2 : Own8 V 5 a2 c2 (x.2.2 ++ t)) (K : Keeps (fun b => blockOf x.1 = some b) w V) (m2 : Moved w.heap.size x.1 a2) :
    PS N (V.setCell ⟨gt, ot + T0.length, none⟩ (.slice a2 (x.2.2 ++ t).length c2)) g1 g3 ao cap L (some ⟨gt, ot, none⟩) ct (T0 ++ [(a2, c2, x.2.2 ++ t)]) (o ++ [⟨d.name, d.deps, d.text ++ t⟩]) := by
  have hlen : T0.length = o.length := by have := h.tlen; simpa using this
  have hx := h.owns x (by simp)
  have hblk : ∀ g, blockOf x.1 = some g → ∃ cur : Array Value, Blk w g cur 5 := fun g hg => own8_not hx.1 hg
  have nb : ∀ g cs (ty : TypeId), Blk w g cs ty → 5 ≠ ty → ¬ blockOf x.1 = some g := fun g cs ty hb hne hg => by
    obtain ⟨cur, hc⟩ := hblk g hg
    exact hne (blk_unlike hc hb)
  have n1 := nb g1 _ _ h.b1 (by decide)
  have n3 := nb g3 _ _ h.b3 (by decide)
  have no : ∀ g, blockOf ao = some g → ¬ blockOf x.1 = some g := fun g hg q => by
    obtain ⟨cur, hc⟩ := hblk g q
    exact h.own.ne hc (by decide) hg
  have nt : ∀ g, blockOf (some ⟨gt, ot, none⟩) = some g → ¬ blockOf x.1 = some g := fun g hg q => by
    obtain ⟨cur, hc⟩ := hblk g q
    exact h.row.ne hc (by decide) hg
  have ns : ∀ g, strB w g → ¬ blockOf x.1 = some g := fun g ⟨cs, hc⟩ => nb g cs _ hc (by decide)
  have hst := strB_keeps K ns
  have rowV := h.row.keeps K nt
  have b1 := K.blk h.b1 n1
  have b3 := K.blk h.b3 n3
  have k1 : Keeps (fun b => b = gt) V (V.setCell ⟨gt, ot + T0.length, none⟩ (.slice a2 (x.2.2 ++ t).length c2)) := (Keeps.refl (fun b => b = gt) V).setCell (p := ⟨gt, ot + T0.length, none⟩) (fun _ => rfl) _
  have gb : ∃ cur : Array Value, Blk V gt cur 59 := by
    rcases rowV.at' with ⟨q, _⟩ | ⟨g', o', cur, q, hb, _⟩
    · cases q
    · simp only [Option.some.injEq, Addr.mk.injEq] at q
      obtain ⟨rfl, _⟩ := q
      exact ⟨cur, hb⟩
  obtain ⟨gcur, gb⟩ := gb
  have gne : ∀ g cs (ty : TypeId), Blk V g cs ty → 59 ≠ ty → ¬ g = gt := fun g cs ty hb hne q => by
    subst q
    exact hne (blk_unlike gb hb)
  have hs2 : ∀ g, strB V g → ¬ g = gt := fun g ⟨cs, hc⟩ => gne g cs _ hc (by decide)
  have hst2 := strB_keeps k1 hs2
  have oV := h.own.keeps K no
  refine ⟨h.lo1, h.lo3, k1.blk b1 (gne _ _ _ b1 (by decide)), ?_, oV.keeps k1 (fun g hg q => by subst q; exact oV.ne gb (by decide) hg), h.newo, ?_, h.newt, by have := h.len; simpa using this, by simp [hlen], ?_, ?_, ?_, ?_⟩
  · have := k1.blk b3 (gne _ _ _ b3 (by decide))
    simpa using this
  · have := rowV.set T0.length (u := .slice a2 (x.2.2 ++ t).length c2) rfl
    rw [List.map_append, List.set_append] at this
    simp only [List.length_map, Nat.lt_irrefl, if_false, Nat.sub_self, List.map_cons, List.map_nil, List.set_cons_zero] at this
    rw [List.map_append]
    exact this
  · intro j e he
    by_cases hj : j < o.length
    · rw [List.getElem?_append_left hj] at he
      obtain ⟨cs, e1, e2⟩ := h.elems j e (by rw [List.getElem?_append_left hj]; exact he)
      exact ⟨cs, e1, (e2.keeps K ns hst).keeps k1 hs2 hst2⟩
    · have hj2 : j = o.length := by
        have := (List.getElem?_eq_some_iff.1 he).1
        simp at this
        omega
      subst hj2
      rw [List.getElem?_concat_length] at he
      obtain rfl := Option.some.inj he
      obtain ⟨cs, e1, e2⟩ := h.elems o.length d (by rw [List.getElem?_concat_length])
      exact ⟨cs, e1, (e2.keeps K ns hst).keeps k1 hs2 hst2⟩
  · intro j e he
    by_cases hj : j < o.length
    · rw [List.getElem?_append_left hj] at he
      obtain ⟨y, e1, e2⟩ := h.texts j e (by rw [List.getElem?_append_left hj]; exact he)
      rw [List.getElem?_append_left (by omega)] at e1
      exact ⟨y, by rw [List.getElem?_append_left (by omega)]; exact e1, e2⟩
    · have hj2 : j = o.length := by
        have := (List.getElem?_eq_some_iff.1 he).1
        simp at this
        omega
      subst hj2
      rw [List.getElem?_concat_length] at he
      obtain rfl := Option.some.inj he
      obtain ⟨y, e1, e2⟩ := h.texts o.length d (by rw [List.getElem?_concat_length])
      rw [← hlen, List.getElem?_concat_length] at e1
      obtain rfl := Option.some.inj e1
      exact ⟨(a2, c2, x.2.2 ++ t), by rw [← hlen, List.getElem?_concat_length], by rw [← e2]⟩
  · intro y hy
    rcases List.mem_append.1 hy with hy | hy
    · obtain ⟨e1, e2⟩ := h.owns y (by simp [hy])
      have hf : ∀ g, blockOf y.1 = some g → ¬ blockOf x.1 = some g := fun g hg => h.far y (by simpa using hy) x (by simp) g hg
      have e3 := K.own e1 (fun g hg => by rw [ownBlock_eq] at hg; exact hf g hg)
      refine ⟨k1.own e3 (fun g hg q => ?_), e2⟩
      subst q
      exact own_ne e3 gb (by decide) hg
    · rw [List.mem_singleton] at hy
      subst hy
      refine ⟨k1.own O2 (fun g hg q => ?_), fun g hg => ?_⟩
      · subst q
        exact own_ne O2 gb (by decide) hg
      · rcases m2 with m2 | ⟨g', m2, hb⟩
        · exact hx.2 g (by rw [← m2]; exact hg)
        · have hg' : blockOf a2 = some g := hg
          rw [m2] at hg'
          obtain rfl : g' = g := by simpa using hg'
          omega
  · intro y hy z hz g hg
    rw [List.dropLast_concat] at hy
    rw [List.getLast?_concat] at hz
    obtain rfl := Option.some.inj hz
    show blockOf a2 ≠ some g
    intro q
    rcases m2 with m2 | ⟨g', m2, hb⟩
    · exact h.far y (by simpa using hy) x (by simp) g hg (by rw [← m2]; exact q)
    · rw [m2] at q
      obtain rfl : g' = g := by simpa using q
      obtain ⟨cur, hc⟩ := own8_not (h.owns y (by simp [hy])).1 hg
      have := lt_of_block hc
      omega
end

end Go.Proofs.YtiliajnijjkcdaaDoor
