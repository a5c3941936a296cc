/- Arguments of usufructlaw25.DiskPlays as data; two disks side by side, and a row of bytes beside them. -/
import Derived.Test.YtkhbepmaeegekaaDisk4
import Derived.Test.YtkhbepmaeegekaaArgs2
import Derived.Test.YtkhbepmaeegekaaMid
namespace Go.Proofs.Ytkhbepmaeegekaa
open Go.RowKit Go.ChangeShapes Go.WideShapes

/-- A call, as it lies in memory. -/
structure DOp where
  (kind n : Int)
  ao : Option Addr
  cap : Nat
  bs : List UInt8
def DOp.cells (o : DOp) : List Value := [.int .i64 o.kind, .int .i64 o.n, .slice o.ao o.bs.length o.cap]
structure DOp.Fit (w : World) (o : DOp) : Prop where
  k0 : -9223372036854775808 ≤ o.kind
  k1 : o.kind ≤ 9223372036854775807
  at' : BytesAt w o.ao o.bs
  le : o.bs.length ≤ o.cap
  cm : o.cap ≤ maxLen
def kind9 (o : DOp) : Int := ((o.kind.tmod 9) + 9).tmod 9
theorem kind9_bd (o : DOp) : 0 ≤ kind9 o ∧ kind9 o ≤ 8 := by
  unfold kind9
  have h1 := Int.tmod_lt_of_pos o.kind (show (0 : Int) < 9 by decide)
  have h2 := Int.lt_tmod_of_pos o.kind (show (0 : Int) < 9 by decide)
  have h3 := Int.tmod_lt_of_pos (o.kind.tmod 9 + 9) (show (0 : Int) < 9 by decide)
  have h4 := Int.tmod_nonneg (b := 9) (show 0 ≤ o.kind.tmod 9 + 9 by omega)
  omega
theorem kind9_walk (o : DOp) : (wrap64 (o.kind.tmod 9 + 9)).tmod 9 = kind9 o := by
  unfold kind9
  have h1 := Int.tmod_lt_of_pos o.kind (show (0 : Int) < 9 by decide)
  have h2 := Int.lt_tmod_of_pos o.kind (show (0 : Int) < 9 by decide)
  rw [show wrap64 (o.kind.tmod 9 + 9) = o.kind.tmod 9 + 9 by unfold wrap64; omega]

/-- A slice of calls, as it lies in memory. -/
def DOpsAt (w : World) (ao : Option Addr) (ops : List DOp) : Prop :=
  (ao = none → ops = []) ∧ ∀ a, ao = some a → ∀ i o, ops[i]? = some o → o.Fit w ∧ a.spot = none ∧ w.rangeAt a.block (a.off + i * 3) o.cells

section
variable {H : Type} {enc : TypeId × Value → H} {w : World} {base : Nat} {spare : Nat → Bool} {held : Bool}
theorem cellsDOp : Try.prog.cellsOf 53 = 3 := by kernel_rfl
theorem cellsInt : Try.prog.cellsOf 3 = 1 := by kernel_rfl
theorem trod_dop {fuel : Nat} {cs : List Value} {x : DataW H × List MemPlace} (h : DataW.trod enc Try.prog w base spare held fuel 53 cs = some x) : ∃ o : DOp, o.Fit w ∧ cs = o.cells := by
  obtain ⟨xs, n, rfl, rfl, hlen, hxs, hf⟩ := DataW.trod_struct Try.underlying53 h
  rw [cellsDOp] at hlen
  have hx : xs.length = 3 := hxs
  have g : ∀ i (hi : i < 3), xs[i]? = some (xs[i]'(by omega)) := fun i hi => List.getElem?_eq_getElem (by omega)
  have f0 : DataW.trod enc Try.prog w base spare held n 3 ((cs.drop 0).take 1) = some (xs[0]'(by omega)) := by
    have h := (hf 0 _ rfl).trans (g 0 (by omega))
    exact (cellsInt ▸ h : _)
  have f1 : DataW.trod enc Try.prog w base spare held n 3 ((cs.drop 1).take 1) = some (xs[1]'(by omega)) := by
    have h := (hf 1 _ rfl).trans (g 1 (by omega))
    exact (cellsInt ▸ h : _)
  have f2 : DataW.trod enc Try.prog w base spare held n 29 ((cs.drop 2).take 1) = some (xs[2]'(by omega)) := by
    have h := (hf 2 _ rfl).trans (g 2 (by omega))
    exact (cellsS8 ▸ h : _)
  obtain ⟨k, e0, _, w0⟩ := DataW.trod_int Try.underlying3 f0
  obtain ⟨nn, e1, _, w1⟩ := DataW.trod_int Try.underlying3 f1
  have hsl : ∃ ao' l' c', (cs.drop 2).take 1 = [.slice ao' l' c'] := by
    rcases Deep.open_slice Try.underlying29 f2 with ⟨hcs, _⟩ | ⟨a', l', c', _, _, _, _, hcs, _⟩
    · exact ⟨_, _, _, hcs⟩
    · exact ⟨_, _, _, hcs⟩
  obtain ⟨ao', l', c', e2⟩ := hsl
  obtain ⟨bs, h1, h2, h3, h4⟩ := open_bytes (v := .slice ao' l' c') rfl (by rw [e2] at f2; exact f2)
  subst h1
  have b1 := bounds_i64 w0
  refine ⟨⟨k, nn, ao', c', bs⟩, ⟨b1.1, by show k ≤ _; omega, h2, h3, h4⟩, ?_⟩
  have d3 : cs.drop 3 = [] := List.drop_of_length_le (by omega)
  have := take1 e0
  rw [take1 e1, take1 e2, d3, List.drop_zero] at this
  exact this
theorem addr_add (a : Addr) (h : a.spot = none) (i : Nat) : a.add i = ⟨a.block, a.off + i, none⟩ := ad_add a h i
theorem open_dops {fuel : Nat} {v : Value} {ao : Option Addr} {len cap : Nat} {x : DataW H × List MemPlace} (hv : v = .slice ao len cap) (h : DataW.trod enc Try.prog w base spare held fuel 48 v.cells.toList = some x) :
    ∃ ops : List DOp, ops.length = len ∧ DOpsAt w ao ops ∧ len ≤ cap ∧ cap ≤ maxLen := by
  subst hv
  rcases Deep.open_slice Try.underlying48 h with ⟨hcs, _⟩ | ⟨a, len', cap', m, n, D, Pl, hcs, hb, hl, hm, hmm, hx, hel⟩
  · simp [Value.cells] at hcs
    obtain ⟨rfl, rfl, rfl⟩ := hcs
    exact ⟨[], rfl, ⟨fun _ => rfl, fun a e => by simp at e⟩, Nat.le_refl _, Nat.zero_le _⟩
  · simp [Value.cells] at hcs
    obtain ⟨rfl, rfl, rfl⟩ := hcs
    have hlm : len ≤ m := by rw [hmm]; split <;> omega
    have hel' : ∀ i, i < m → ∃ cs', w.cells? base (a.add (i * 3)) 3 = some cs' ∧ DataW.trod enc Try.prog w base spare held n 53 cs' = some (D i, Pl i) := fun i hi => by
      obtain ⟨cs', hc, ht⟩ := hel i hi
      rw [cellsDOp] at hc
      exact ⟨cs', hc, ht⟩
    have hspot : 0 < len → a.spot = none := by
      intro h0
      obtain ⟨cs', hc, ht⟩ := hel' 0 (by omega)
      obtain ⟨_, hlen, hcell⟩ := World.cells?_some hc
      obtain ⟨o, hf, rfl⟩ := trod_dop ht
      have h1 : w.cell? ((a.add 0).add 0) = some (.int .i64 o.kind) := hcell 0 (by omega)
      have hs0 := World.cell?_spot h1
      rw [Deep.add_add] at hs0
      unfold Addr.add at hs0
      simpa using hs0
    have hex : ∀ i, i < len → ∃ o : DOp, o.Fit w ∧ a.spot = none ∧ w.rangeAt a.block (a.off + i * 3) o.cells := by
      intro i hi
      obtain ⟨cs', hc, ht⟩ := hel' i (by omega)
      obtain ⟨_, hlen, hcell⟩ := World.cells?_some hc
      obtain ⟨o, hf, rfl⟩ := trod_dop ht
      have hsp := hspot (by omega)
      refine ⟨o, hf, hsp, fun j v hj => ?_⟩
      have hjl : j < 3 := (List.getElem?_eq_some_iff.1 hj).1
      have := hcell j hjl
      rw [Deep.add_add, addr_add a hsp, hj, ← Nat.add_assoc] at this
      exact this
    have : Inhabited DOp := ⟨⟨0, 0, none, 0, []⟩⟩
    obtain ⟨f, hf⟩ := Deep.choose_lt hex
    refine ⟨(List.range len).map f, by simp, ⟨fun e => by simp at e, fun a' e i o hi => ?_⟩, hl, hm⟩
    obtain rfl := Option.some.inj e
    rw [List.getElem?_map] at hi
    by_cases hlt : i < len
    · rw [List.getElem?_range hlt] at hi
      obtain rfl := Option.some.inj hi
      exact hf i hlt
    · rw [List.getElem?_eq_none (by simp; omega)] at hi
      cases hi
end

/-- Two disks: the program's and the document's. -/
structure PL (w0 w : World) (p q : Nat) (ao : Option Addr) (cap : Nat) (d r : DkS) : Prop where
  dk : DkNew w0 w p ao cap d
  dr : DkR w q r
  qn : w0.heap.size ≤ q
theorem PL.qp {w0 w : World} {p q : Nat} {ao : Option Addr} {cap : Nat} {d r : DkS} (h : PL w0 w p q ao cap d r) : q ≠ p := by
  rintro rfl
  have := h.dk.dk.blk.symm.trans h.dr
  simp at this
theorem PL.qa {w0 w : World} {p q : Nat} {ao : Option Addr} {cap : Nat} {d r : DkS} (h : PL w0 w p q ao cap d r) : blockOf ao ≠ some q := own8_ne h.dk.dk.own h.dr (by decide)
/-- .. and a row of bytes of their caller's. -/
structure PI (w0 w : World) (p q : Nat) (ao : Option Addr) (cap : Nat) (d r : DkS) (ain : Option Addr) (cin : Nat) (bs : List UInt8) : Prop where
  pl : PL w0 w p q ao cap d r
  own : Own8 w 5 ain cin bs
  sep : ∀ g, blockOf ain = some g → blockOf ao ≠ some g
  fresh : ∀ g, blockOf ain = some g → w0.heap.size ≤ g
section
variable {w0 w w' : World} {p q : Nat} {ao ao' : Option Addr} {cap cap' : Nat} {d d' r r' : DkS} {ain : Option Addr} {cin : Nat} {bs : List UInt8}
theorem PL.keepsN (h : PL w0 w p q ao cap d r) (k : Keeps Nothing w w') : PL w0 w' p q ao cap d r := ⟨h.dk.keepsN k, k.blk h.dr (fun h => h), h.qn⟩
theorem PL.prog (h : PL w0 w p q ao cap d r) (h1 : Dk w' p ao' cap' d') (h2 : Keeps (WrF p ao) w w') (h3 : Moved w.heap.size ao ao') : PL w0 w' p q ao' cap' d' r :=
  ⟨h.dk.step h1 h2 h3, h2.blk h.dr (fun e => e.elim h.qp h.qa), h.qn⟩
theorem PL.doc (h : PL w0 w p q ao cap d r) (h1 : DkR w' q r') (h2 : Keeps (fun i => i = q) w w') : PL w0 w' p q ao cap d r' :=
  ⟨⟨h.dk.dk.keeps h2 (fun e => h.qp e.symm) (fun g hg e => h.qa (by rw [hg, e])), h.dk.keep.trans h2 (fun i hi hlt => by have := h.qn; omega), h.dk.pn, h.dk.an⟩, h1, h.qn⟩
theorem PI.keepsN (h : PI w0 w p q ao cap d r ain cin bs) (k : Keeps Nothing w w') : PI w0 w' p q ao cap d r ain cin bs := ⟨h.pl.keepsN k, k.own h.own (fun _ _ h => h), h.sep, h.fresh⟩
theorem PI.lt (h : PI w0 w p q ao cap d r ain cin bs) : ∀ g, blockOf ain = some g → g < w.heap.size := fun g hg => own_lt h.own (by rw [ownBlock_eq]; exact hg)
theorem PI.prog (h : PI w0 w p q ao cap d r ain cin bs) (h1 : Dk w' p ao' cap' d') (h2 : Keeps (WrF p ao) w w') (h3 : Moved w.heap.size ao ao') : PI w0 w' p q ao' cap' d' r ain cin bs := by
  refine ⟨h.pl.prog h1 h2 h3, h2.own h.own (fun g hg e => ?_), fun g hg e => ?_, h.fresh⟩
  · rw [ownBlock_eq] at hg
    rcases e with e | e
    · exact own8_ne h.own h.pl.dk.dk.blk (by decide) (e ▸ hg)
    · exact h.sep g hg e
  · rcases h3 with h3 | ⟨g', h3, hg'⟩
    · exact h.sep g hg (h3 ▸ e)
    · have := h.lt g hg
      rw [h3] at e
      obtain rfl := Option.some.inj e
      omega
theorem PI.doc (h : PI w0 w p q ao cap d r ain cin bs) (h1 : DkR w' q r') (h2 : Keeps (fun i => i = q) w w') : PI w0 w' p q ao cap d r' ain cin bs :=
  ⟨h.pl.doc h1 h2, h2.own h.own (fun g hg e => own8_ne h.own h.pl.dr (by decide) (by rw [ownBlock_eq] at hg; rw [hg, e])), h.sep, h.fresh⟩
/-- Another row is written to. -/
theorem PI.far {g : Nat} (h : PI w0 w p q ao cap d r ain cin bs) (k : Keeps (fun i => i = g) w w') (h1 : g ≠ p) (h2 : g ≠ q) (h3 : blockOf ao ≠ some g) (h4 : blockOf ain ≠ some g) (h5 : w0.heap.size ≤ g) : PI w0 w' p q ao cap d r ain cin bs :=
  ⟨⟨⟨h.pl.dk.dk.keeps k (fun e => h1 e.symm) (fun g' hg e => h3 (by rw [hg, e])), h.pl.dk.keep.trans k (fun i hi hlt => by omega), h.pl.dk.pn, h.pl.dk.an⟩, k.blk h.pl.dr (fun e => h2 e.symm), h.pl.qn⟩,
    k.own h.own (fun g' hg e => h4 (by rw [ownBlock_eq] at hg; rw [hg, e])), h.sep, h.fresh⟩
/-- A byte of the caller's row is turned. -/
theorem PI.store {g : Nat} (h : PI w0 w p q ao cap d r (some ⟨g, 0, none⟩) cin bs) {j : Nat} (hj : j < bs.length) (c : UInt8) : PI w0 (w.setCell ⟨g, j, none⟩ (byteV c)) p q ao cap d r (some ⟨g, 0, none⟩) cin (bs.set j c) := by
  obtain ⟨_, _, o4, k⟩ := own8_store h.own hj c
  have hp : g ≠ p := fun e => own8_ne h.own h.pl.dk.dk.blk (by decide) (by rw [← e]; rfl)
  have hq : g ≠ q := fun e => own8_ne h.own h.pl.dr (by decide) (by rw [← e]; rfl)
  have ha : blockOf ao ≠ some g := h.sep g rfl
  exact ⟨⟨⟨h.pl.dk.dk.keeps k (fun e => hp e.symm) (fun g' hg e => ha (by rw [hg, e])), h.pl.dk.keep.trans k (fun i hi hlt => by have := h.fresh g rfl; omega), h.pl.dk.pn, h.pl.dk.an⟩, k.blk h.pl.dr (fun e => hq e.symm), h.pl.qn⟩, o4, h.sep, h.fresh⟩
end

section
variable {w0 w w' : World} {p q : Nat} {ao ao' : Option Addr} {cap cap' : Nat} {d d' r r' : DkS} {ain : Option Addr} {cin : Nat} {bs : List UInt8}
theorem PI.prog9 (h : PI w0 w p q ao cap d r ain cin bs) {g : Nat} {C : Array Value} (b : Blk w g C 53) (h2 : Keeps (WrF p ao) w w') : Blk w' g C 53 :=
  h2.blk b (fun e => e.elim (fun e => by
    subst e
    have := h.pl.dk.dk.blk.symm.trans b
    simp at this) (own8_ne h.pl.dk.dk.own b (by decide)))
theorem PI.doc9 (h : PI w0 w p q ao cap d r ain cin bs) {g : Nat} {C : Array Value} (b : Blk w g C 53) (h2 : Keeps (fun i => i = q) w w') : Blk w' g C 53 :=
  h2.blk b (fun e => by
    subst e
    have := h.pl.dr.symm.trans b
    simp at this)
theorem PI.qlt (h : PI w0 w p q ao cap d r ain cin bs) : ∀ i, i = q → i < w.heap.size := fun i hi => by subst hi; exact lt_of_block h.pl.dr
theorem PI.own0 (h : PI w0 w p q ao cap d r ain cin bs) {bo : Option Addr} {cs : List UInt8} (b : BytesAt w0 bo cs) : BytesAt w bo cs := b.keepsN h.pl.dk.keep
end

end Go.Proofs.Ytkhbepmaeegekaa
