/- Package manifest: what Parse holds in memory while it reads. -/
import Derived.Test.YtiliajnijjkcdaaDoorMan8
import Derived.Test.YtiliajnijjkcdaaDoorMixG
import Derived.Test.YtiliajnijjkcdaaDoorBytes
namespace Go.Proofs.YtiliajnijjkcdaaDoor
open Go.RowKit

abbrev TxR := Option Addr × Nat × List UInt8
def txRowV (x : TxR) : Value := .slice x.1 x.2.2.length x.2.1
/-- A block of texts. -/
def strB (w : World) (g : Nat) : Prop := ∃ cs : Array Value, Blk w g cs 9
theorem blk_unlike {w : World} {p : Nat} {a b : Array Value} {s t : TypeId} (h : Blk w p a s) (k : Blk w p b t) : s = t := by
  have := h.symm.trans k
  simp at this
  exact this.2
theorem strB_keeps {S : Nat → Prop} {w w' : World} (K : Keeps S w w') (hS : ∀ g, strB w g → ¬ S g) : ∀ g, strB w g → strB w' g := fun g hg => by
  have hn := hS g hg
  obtain ⟨cs, h⟩ := hg
  exact ⟨cs, K.blk h hn⟩

structure PS (N : Nat) (w : World) (g1 g3 : Nat) (ao : Option Addr) (cap : Nat) (L : List (List Value)) (at' : Option Addr) (ct : Nat) (T : List TxR) (out : List SrcD) : Prop where
  lo1 : N ≤ g1
  lo3 : N ≤ g3
  b1 : Blk w g1 #[.slice ao L.length cap] 24
  b3 : Blk w g3 #[.slice at' T.length ct] 53
  own : OwnC w 43 3 ao cap L
  newo : ∀ g, blockOf ao = some g → N ≤ g
  row : RowR w 59 at' ct (T.map txRowV)
  newt : ∀ g, blockOf at' = some g → N ≤ g
  len : L.length = out.length
  tlen : T.length = out.length
  elems : ∀ (j : Nat) (d : SrcD), out[j]? = some d → ∃ cs : List Value, L[j]? = some cs ∧ SrcIs (strB w) w ⟨d.name, d.deps, []⟩ cs
  texts : ∀ (j : Nat) (d : SrcD), out[j]? = some d → ∃ x : TxR, T[j]? = some x ∧ x.2.2 = d.text
  owns : ∀ x ∈ T, Own8 w 5 x.1 x.2.1 x.2.2 ∧ ∀ g, blockOf x.1 = some g → N ≤ g
  far : ∀ x ∈ T.dropLast, ∀ y, T.getLast? = some y → ∀ g, blockOf x.1 = some g → blockOf y.1 ≠ some g
section
variable {N : Nat} {w : World} {g1 g3 : Nat} {ao : Option Addr} {cap : Nat} {L : List (List Value)} {at' : Option Addr} {ct : Nat} {T : List TxR} {out : List SrcD}
theorem PS.all3 (h : PS N w g1 g3 ao cap L at' ct T out) : ∀ x ∈ L, x.length = 3 := by
  intro x hx
  obtain ⟨j, hj⟩ := List.mem_iff_getElem?.1 hx
  have hlt := (List.getElem?_eq_some_iff.1 hj).1
  rw [h.len] at hlt
  obtain ⟨cs, h1, h2⟩ := h.elems j _ (List.getElem?_eq_getElem hlt)
  rw [hj] at h1
  obtain rfl := Option.some.inj h1
  exact h2.len
theorem PS.ne13 (h : PS N w g1 g3 ao cap L at' ct T out) : g1 ≠ g3 := by
  rintro rfl
  exact absurd (blk_unlike h.b1 h.b3) (by decide)
theorem PS.own1 (h : PS N w g1 g3 ao cap L at' ct T out) : blockOf ao ≠ some g1 := h.own.ne h.b1 (by decide)
theorem PS.own3 (h : PS N w g1 g3 ao cap L at' ct T out) : blockOf ao ≠ some g3 := h.own.ne h.b3 (by decide)
theorem PS.row1 (h : PS N w g1 g3 ao cap L at' ct T out) : blockOf at' ≠ some g1 := h.row.ne h.b1 (by decide)
theorem PS.row3 (h : PS N w g1 g3 ao cap L at' ct T out) : blockOf at' ≠ some g3 := h.row.ne h.b3 (by decide)
theorem PS.keeps {S : Nat → Prop} {w' : World} (h : PS N w g1 g3 ao cap L at' ct T out) (K : Keeps S w w') (h1 : ¬ S g1) (h3 : ¬ S g3) (ho : ∀ g, blockOf ao = some g → ¬ S g) (ht : ∀ g, blockOf at' = some g → ¬ S g)
    (hs : ∀ g, strB w g → ¬ S g) (hx : ∀ x ∈ T, ∀ g, blockOf x.1 = some g → ¬ S g) : PS N w' g1 g3 ao cap L at' ct T out :=
  ⟨h.lo1, h.lo3, K.blk h.b1 h1, K.blk h.b3 h3, h.own.keeps K ho, h.newo, h.row.keeps K ht, h.newt, h.len, h.tlen,
    fun j d hd => by
      obtain ⟨cs, e1, e2⟩ := h.elems j d hd
      exact ⟨cs, e1, e2.keeps K hs (strB_keeps K hs)⟩,
    h.texts, fun x hx' => ⟨K.own (h.owns x hx').1 (fun g hg => by rw [ownBlock_eq] at hg; exact hx x hx' g hg), (h.owns x hx').2⟩, h.far⟩
theorem PS.keepsN {w' : World} (h : PS N w g1 g3 ao cap L at' ct T out) (K : Keeps Nothing w w') : PS N w' g1 g3 ao cap L at' ct T out :=
  h.keeps K (fun h => h) (fun h => h) (fun _ _ h => h) (fun _ _ h => h) (fun _ _ h => h) (fun _ _ _ _ h => h)
theorem PS.sl (h : PS N w g1 g3 ao cap L at' ct T out) (hb : out.length ≤ bigN) : SlIs (fun _ => True) w 3 (SrcIs (fun _ => True) w) ao (out.map fun d => ⟨d.name, d.deps, []⟩) := by
  refine ⟨by rw [List.length_map]; exact hb, ?_⟩
  by_cases he : out = []
  · exact .inl (by rw [he]; rfl)
  · have hL : L ≠ [] := fun q => he (List.eq_nil_of_length_eq_zero (by rw [← h.len, q]; rfl))
    obtain ⟨g, hg⟩ := h.own.head hL
    subst hg
    refine .inr ⟨g, 0, rfl, trivial, rowIs_mk fun j d hd => ?_⟩
    rw [List.getElem?_map, Option.map_eq_some_iff] at hd
    obtain ⟨x, hx, rfl⟩ := hd
    obtain ⟨cs, e1, e2⟩ := h.elems j x hx
    refine ⟨cs, e2.len, ?_, e2.keeps (Keeps.refl Nothing w) (fun _ _ h => h) (fun _ _ => trivial)⟩
    rw [Nat.zero_add]
    exact h.own.range h.all3 e1
/-- A head more. -/
theorem PS.push {V : World} (h : PS N w g1 g3 ao cap L at' ct T out) (K : Keeps (fun b => blockOf ao = some b ∨ blockOf at' = some b) w V) {ao2 : Option Addr} {cap2 : Nat} {l : List Value} (O2 : OwnC V 43 3 ao2 cap2 (L ++ [l])) (m2 : ∀ g, blockOf ao2 = some g → N ≤ g)
    {at2 : Option Addr} {ct2 : Nat} (R2 : RowR V 59 at2 ct2 (T.map txRowV ++ [.slice none 0 0])) (m3 : ∀ g, blockOf at2 = some g → N ≤ g) {nm : List UInt8} {deps : List (List UInt8)} (hl : SrcIs (strB w) w ⟨nm, deps, []⟩ l) :
    PS N ((V.setCell ⟨g1, 0, none⟩ (.slice ao2 (L.length + 1) cap2)).setCell ⟨g3, 0, none⟩ (.slice at2 (T.length + 1) ct2)) g1 g3 ao2 cap2 (L ++ [l]) at2 ct2 (T ++ [(none, 0, [])]) (out ++ [⟨nm, deps, []⟩]) := by
  have n13 := h.ne13
  have b1 := K.blk h.b1 (fun q => by rcases q with q | q; exact h.own1 q; exact h.row1 q)
  have b3 := K.blk h.b3 (fun q => by rcases q with q | q; exact h.own3 q; exact h.row3 q)
  have k1 : Keeps (fun b => b = g1 ∨ b = g3) V ((V.setCell ⟨g1, 0, none⟩ (.slice ao2 (L.length + 1) cap2)).setCell ⟨g3, 0, none⟩ (.slice at2 (T.length + 1) ct2)) :=
    ((Keeps.refl (fun b => b = g1 ∨ b = g3) V).setCell (p := ⟨g1, 0, none⟩) (fun _ => .inl rfl) _).setCell (p := ⟨g3, 0, none⟩) (fun _ => .inr rfl) _
  have hso : ∀ g, strB w g → ¬ (blockOf ao = some g ∨ blockOf at' = some g) := by
    rintro g ⟨cs, hc⟩ (q | q)
    · exact h.own.ne hc (by decide) q
    · exact h.row.ne hc (by decide) q
  have hs2 : ∀ g, strB V g → ¬ (g = g1 ∨ g = g3) := by
    rintro g ⟨cs, hc⟩ (rfl | rfl)
    · exact absurd (blk_unlike hc b1) (by decide)
    · exact absurd (blk_unlike hc b3) (by decide)
  have hst := strB_keeps K hso
  have hst2 := strB_keeps k1 hs2
  have o1 : ∀ g, blockOf ao2 = some g → ¬ (g = g1 ∨ g = g3) := by
    rintro g hg (rfl | rfl)
    · exact O2.ne b1 (by decide) hg
    · exact O2.ne b3 (by decide) hg
  have o3 : ∀ g, blockOf at2 = some g → ¬ (g = g1 ∨ g = g3) := by
    rintro g hg (rfl | rfl)
    · exact R2.ne b1 (by decide) hg
    · exact R2.ne b3 (by decide) hg
  refine ⟨h.lo1, h.lo3, ?_, ?_, O2.keeps k1 o1, m2, ?_, m3, by simp [h.len], by simp [h.tlen], ?_, ?_, ?_, ?_⟩
  · rw [List.length_append]
    exact blk_other (blk_set b1 0 (.slice ao2 (L.length + 1) cap2)) ⟨g3, 0, none⟩ n13 _
  · rw [List.length_append]
    exact blk_set (blk_other b3 ⟨g1, 0, none⟩ (fun e => n13 e.symm) _) 0 (.slice at2 (T.length + 1) ct2)
  · rw [List.map_append]
    exact R2.keeps k1 o3
  · intro j d hd
    by_cases hj : j < out.length
    · rw [List.getElem?_append_left hj] at hd
      obtain ⟨cs, e1, e2⟩ := h.elems j d hd
      refine ⟨cs, by rw [List.getElem?_append_left (by rw [h.len]; exact hj)]; exact e1, (e2.keeps K hso hst).keeps k1 hs2 hst2⟩
    · have hj2 : j = out.length := by
        have := (List.getElem?_eq_some_iff.1 hd).1
        simp at this
        omega
      subst hj2
      rw [List.getElem?_concat_length] at hd
      obtain rfl := Option.some.inj hd
      exact ⟨l, by rw [← h.len, List.getElem?_concat_length], (hl.keeps K hso hst).keeps k1 hs2 hst2⟩
  · intro j d hd
    by_cases hj : j < out.length
    · rw [List.getElem?_append_left hj] at hd
      obtain ⟨x, e1, e2⟩ := h.texts j d hd
      exact ⟨x, by rw [List.getElem?_append_left (by rw [h.tlen]; exact hj)]; exact e1, e2⟩
    · have hj2 : j = out.length := by
        have := (List.getElem?_eq_some_iff.1 hd).1
        simp at this
        omega
      subst hj2
      rw [List.getElem?_concat_length] at hd
      obtain rfl := Option.some.inj hd
      exact ⟨(none, 0, []), by rw [← h.tlen, List.getElem?_concat_length], rfl⟩
  · intro x hx
    rcases List.mem_append.1 hx with hx | hx
    · obtain ⟨e1, e2⟩ := h.owns x hx
      have ho1 : ∀ g, blockOf x.1 = some g → ¬ (blockOf ao = some g ∨ blockOf at' = some g) := by
        rintro g hg q
        rcases e1.2 with ⟨hv, _⟩ | ⟨g', cap', cur, hv, _, hb, _⟩
        · simp only [Value.slice.injEq] at hv
          rw [hv.1] at hg
          cases hg
        · simp only [Value.slice.injEq] at hv
          rw [hv.1] at hg
          obtain rfl : g' = g := by simpa [blockOf] using hg
          have hb' : Blk w g' cur 5 := hb
          rcases q with q | q
          · exact h.own.ne hb' (by decide) q
          · exact h.row.ne hb' (by decide) q
      have e3 := K.own e1 (fun g hg => by rw [ownBlock_eq] at hg; exact ho1 g hg)
      refine ⟨k1.own e3 (fun g hg => ?_), e2⟩
      rintro (rfl | rfl)
      · exact own_ne e3 b1 (by decide) hg
      · exact own_ne e3 b3 (by decide) hg
    · rw [List.mem_singleton] at hx
      subst hx
      exact ⟨World.ownsRow_nil _ _ _ _, fun g hg => by cases hg⟩
  · intro x hx y hy g hg
    rw [List.getLast?_concat] at hy
    obtain rfl := Option.some.inj hy
    intro q
    cases q
end

theorem infoSrc3 : (Tryd.prog.info? 43).map (fun i => (i.zero, i.size, i.bytes)) = some (some (.agg #[.string ⟨#[]⟩, .slice none 0 0, .string ⟨#[]⟩]), 3, 56) := by kernel_rfl
theorem infoRow8 : (Tryd.prog.info? 59).map (fun i => (i.zero, i.size, i.bytes)) = some (some (.slice none 0 0), 1, 24) := by kernel_rfl
/-- append of a crate. -/
theorem wpList_appSrc (w : World) {ops : Array Oper} {rest : List Oper} {o : Oper} {a : Act} {Q : Exit → Act → World → Prop} (hgd : o.guard = none) (s x : Operand)
    (ho : o.op = .call { callee := .builtin .append, args := #[s, x], argTypes := #[24, 24] })
    (ao : Option Addr) (cap : Nat) (L : List (List Value)) (n : Nat) (hn : L.length = n) (hsv : a.eval s = .slice ao n cap) (hown : OwnC w 43 3 ao cap L) (g : Nat) (C : Array Value) (l : List Value) (hC : C = l.toArray) (hl : l.length = 3) (h1 : ∀ u ∈ l, u.oneCell' = true)
    (hx : a.eval x = .slice (some ⟨g, 0, none⟩) 1 1) (hg : Blk w g C 43) (hb : n ≤ 1000000000)
    (h : ∀ ao' cap' w', OwnC w' 43 3 ao' cap' (L ++ [l]) → Keeps (fun k => blockOf ao = some k) w w' → Moved w.heap.size ao ao' → wpList Tryd.prog ops Q rest (a.put o.dst (.slice ao' (n + 1) cap')) w') : wpList Tryd.prog ops Q (o :: rest) a w := by
  obtain ⟨i0, hi, hz0, hz1, hz2⟩ := info_parts3 infoSrc3
  exact wpList_appC w hgd s x 24 ho 43 i0 (.agg #[.string ⟨#[]⟩, .slice none 0 0, .string ⟨#[]⟩]) 3 56 Tryd.underlying24 hi hz0 hz1 hz2 (by rfl) (by omega) ao cap L n hn hsv hown g C l hC hl h1 hx hg hb h
/-- append onto a row of rows of bytes. -/
theorem wpList_appB (w : World) {ops : Array Oper} {rest : List Oper} {o : Oper} {a : Act} {Q : Exit → Act → World → Prop} (hgd : o.guard = none) (s x : Operand)
    (ho : o.op = .call { callee := .builtin .append, args := #[s, x], argTypes := #[53, 53] })
    (ao : Option Addr) (cap : Nat) (vs : List Value) (n : Nat) (hn : vs.length = n) (hsv : a.eval s = .slice ao n cap) (hr : RowR w 59 ao cap vs) (g : Nat) (v : Value) (hv : v.oneCell' = true)
    (hx : a.eval x = .slice (some ⟨g, 0, none⟩) 1 1) (hg : Blk w g #[v] 59) (hb : n ≤ 1000000000)
    (h : ∀ ao' cap' w', RowR w' 59 ao' cap' (vs ++ [v]) → Keeps (fun k => blockOf ao = some k) w w' → Moved w.heap.size ao ao' → wpList Tryd.prog ops Q rest (a.put o.dst (.slice ao' (n + 1) cap')) w') : wpList Tryd.prog ops Q (o :: rest) a w := by
  obtain ⟨i0, hi, hz0, hz1, hz2⟩ := info_parts3 infoRow8
  have hs : Src Tryd.prog 1 53 (.slice (some ⟨g, 0, none⟩) 1 1) 1 [v] w := Src.ofSlice _ Tryd.underlying53 ⟨g, 0, none⟩ 1 1 _ rfl (fun t u hu => by
    rw [ad_mid, Nat.zero_add]
    exact blk_cell hg t (by simpa using hu)) (by intro u hu; simp at hu; subst hu; exact hv)
  exact wpList_append_row w hgd s x 53 53 ho 59 i0 (.slice none 0 0) 24 Tryd.underlying53 hi hz0 hz1 hz2 rfl ao n cap vs hn hsv hr _ 1 [v] hx hs (by unfold maxLen; omega) (by omega) (fun ao' cap' w' h1 _ h2 h3 => h ao' cap' w' h1 h2 h3)

end Go.Proofs.YtiliajnijjkcdaaDoor
