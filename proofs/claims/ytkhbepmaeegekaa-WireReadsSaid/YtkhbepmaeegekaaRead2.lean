/- Arguments of usufructlaw2 as data: an Op, a slice of Ops, a slice of bytes. -/
import Derived.Test.YtkhbepmaeegekaaOps2
import Derived.Test.YtkhbepmaeegekaaArgs
namespace Go.Proofs.Ytkhbepmaeegekaa
open Go.RowKit Go.ChangeShapes Go.WideShapes

section
variable {H : Type} {enc : TypeId × Value → H} {w : World} {base : Nat} {spare : Nat → Bool} {held : Bool}

theorem cellsOp : Try.prog.cellsOf 61 = 38 := by kernel_rfl
theorem cellsInt : Try.prog.cellsOf 3 = 1 := by kernel_rfl
theorem cellsU64 : Try.prog.cellsOf 39 = 1 := by kernel_rfl
theorem cellsBool : Try.prog.cellsOf 4 = 1 := by kernel_rfl
theorem cellsStr : Try.prog.cellsOf 9 = 1 := by kernel_rfl

theorem trod_op {fuel : Nat} {cs : List Value} {x : DataW H × List MemPlace} (h : DataW.trod enc Try.prog w base spare held fuel 61 cs = some x) :
    ∃ o : OpD, o.Fit ∧ cs = opCells o ∧ o.s.size ≤ maxLen := by
  obtain ⟨xs, n, rfl, rfl, hlen, hxs, hf⟩ := DataW.trod_struct Try.underlying61 h
  rw [cellsOp] at hlen
  have hx : xs.length = 7 := hxs
  have g : ∀ i (hi : i < 7), xs[i]? = some (xs[i]'(by omega)) := fun i hi => List.getElem?_eq_getElem (by omega)
  have f0 : DataW.trod enc Try.prog w base spare held n 3 ((cs.drop 0).take 1) = some (xs[0]'(by omega)) := by
    have h := (hf 0 _ rfl).trans (g 0 (by omega))
    exact (cellsInt ▸ h : _)
  have f1 : DataW.trod enc Try.prog w base spare held n 3 ((cs.drop 1).take 1) = some (xs[1]'(by omega)) := by
    have h := (hf 1 _ rfl).trans (g 1 (by omega))
    exact (cellsInt ▸ h : _)
  have f2 : DataW.trod enc Try.prog w base spare held n 3 ((cs.drop 2).take 1) = some (xs[2]'(by omega)) := by
    have h := (hf 2 _ rfl).trans (g 2 (by omega))
    exact (cellsInt ▸ h : _)
  have f3 : DataW.trod enc Try.prog w base spare held n 39 ((cs.drop 3).take 1) = some (xs[3]'(by omega)) := by
    have h := (hf 3 _ rfl).trans (g 3 (by omega))
    exact (cellsU64 ▸ h : _)
  have f4 : DataW.trod enc Try.prog w base spare held n 4 ((cs.drop 4).take 1) = some (xs[4]'(by omega)) := by
    have h := (hf 4 _ rfl).trans (g 4 (by omega))
    exact (cellsBool ▸ h : _)
  have f5 : DataW.trod enc Try.prog w base spare held n 9 ((cs.drop 5).take 1) = some (xs[5]'(by omega)) := by
    have h := (hf 5 _ rfl).trans (g 5 (by omega))
    exact (cellsStr ▸ h : _)
  have f6 : DataW.trod enc Try.prog w base spare held n 59 ((cs.drop 6).take 32) = some (xs[6]'(by omega)) := by
    have h := (hf 6 _ rfl).trans (g 6 (by omega))
    exact (cellsHash ▸ h : _)
  obtain ⟨k, e0, _, w0⟩ := DataW.trod_int Try.underlying3 f0
  obtain ⟨nn, e1, _, w1⟩ := DataW.trod_int Try.underlying3 f1
  obtain ⟨mo, e2, _, w2⟩ := DataW.trod_int Try.underlying3 f2
  obtain ⟨v, e3, _, w3⟩ := DataW.trod_int Try.underlying39 f3
  obtain ⟨b, e4, _⟩ := DataW.trod_bool Try.underlying4 f4
  obtain ⟨s, e5, _, ws⟩ := DataW.trod_string Try.underlying9 f5
  obtain ⟨hb, hbl, e6⟩ := trod_bytes Try.underlying59 Try.underlying5 cells8 cellsHash f6
  have b1 := bounds_i64 w1
  have b2 := bounds_i64 w2
  have b3 := bounds_u64 w3
  obtain ⟨vn, rfl⟩ := Int.eq_ofNat_of_zero_le b3.1
  refine ⟨⟨k, nn, mo, vn, b, s, hb⟩, ⟨b1.1, by show nn < _; omega, b2.1, by show mo < _; omega, by show vn < _; omega, hbl⟩, ?_, ws⟩
  have d6 : cs.drop 6 = hb.map byteV := by
    rw [← e6, List.take_of_length_le (by rw [List.length_drop]; omega)]
  have := take1 e0
  rw [take1 e1, take1 e2, take1 e3, take1 e4, take1 e5, d6, List.drop_zero] at this
  exact this

/-- A slice of Ops, as it lies in memory. -/
def OpsAt (w : World) (ao : Option Addr) (ops : List OpD) : Prop :=
  (ao = none → ops = []) ∧ ∀ a, ao = some a → ∀ i o, ops[i]? = some o → o.Fit ∧ a.spot = none ∧ w.rangeAt a.block (a.off + i * 38) (opCells o)

theorem addr_add (a : Addr) (h : a.spot = none) (i : Nat) : a.add i = ⟨a.block, a.off + i, none⟩ := by
  obtain ⟨b, o, s⟩ := a
  simp only at h
  subst h
  exact Addr.add_mid b o i
theorem open_ops {fuel : Nat} {v : Value} {ao : Option Addr} {len cap : Nat} {x : DataW H × List MemPlace} (hv : v = .slice ao len cap) (h : DataW.trod enc Try.prog w base spare held fuel 57 v.cells.toList = some x) :
    ∃ ops : List OpD, ops.length = len ∧ OpsAt w ao ops ∧ len ≤ cap ∧ cap ≤ maxLen ∧ ∀ o ∈ ops, o.s.size ≤ maxLen := by
  subst hv
  rcases Deep.open_slice Try.underlying57 h with ⟨hcs, _⟩ | ⟨a, len', cap', m, n, D, Pl, hcs, hb, hl, hm, hmm, hx, hel⟩
  · simp [Value.cells] at hcs
    obtain ⟨rfl, rfl, rfl⟩ := hcs
    exact ⟨[], rfl, ⟨fun _ => rfl, fun a e => by simp at e⟩, Nat.le_refl _, Nat.zero_le _, fun o ho => by simp at ho⟩
  · simp [Value.cells] at hcs
    obtain ⟨rfl, rfl, rfl⟩ := hcs
    have hlm : len ≤ m := by rw [hmm]; split <;> omega
    have hel' : ∀ i, i < m → ∃ cs', w.cells? base (a.add (i * 38)) 38 = some cs' ∧ DataW.trod enc Try.prog w base spare held n 61 cs' = some (D i, Pl i) := fun i hi => by
      obtain ⟨cs', hc, ht⟩ := hel i hi
      rw [cellsOp] at hc
      exact ⟨cs', hc, ht⟩
    have hspot : 0 < len → a.spot = none := by
      intro h0
      obtain ⟨cs', hc, ht⟩ := hel' 0 (by omega)
      obtain ⟨_, hlen, hcell⟩ := World.cells?_some hc
      obtain ⟨o, hf, rfl, hs⟩ := trod_op ht
      have h1 : w.cell? ((a.add 0).add 0) = some (.int .i64 o.kind) := hcell 0 (by omega)
      have hs0 := World.cell?_spot h1
      rw [Deep.add_add] at hs0
      unfold Addr.add at hs0
      simpa using hs0
    have hex : ∀ i, i < len → ∃ o : OpD, (o.Fit ∧ a.spot = none ∧ w.rangeAt a.block (a.off + i * 38) (opCells o)) ∧ o.s.size ≤ maxLen := by
      intro i hi
      obtain ⟨cs', hc, ht⟩ := hel' i (by omega)
      obtain ⟨_, hlen, hcell⟩ := World.cells?_some hc
      obtain ⟨o, hf, rfl, hs⟩ := trod_op ht
      have hsp := hspot (by omega)
      refine ⟨o, ⟨hf, hsp, fun j v hj => ?_⟩, hs⟩
      have hjl : j < 38 := by
        have := (List.getElem?_eq_some_iff.1 hj).1
        rw [opCells_length o hf.h32] at this; exact this
      have := hcell j hjl
      rw [Deep.add_add, addr_add a hsp, hj, ← Nat.add_assoc] at this
      exact this
    have : Inhabited OpD := ⟨⟨0, 0, 0, 0, false, ByteArray.empty, []⟩⟩
    obtain ⟨f, hf⟩ := Deep.choose_lt hex
    refine ⟨(List.range len).map f, by simp, ⟨fun e => by simp at e, fun a' e i o hi => ?_⟩, hl, hm, fun o ho => ?_⟩
    · obtain rfl := Option.some.inj e
      rw [List.getElem?_map] at hi
      by_cases hlt : i < len
      · rw [List.getElem?_range hlt] at hi
        obtain rfl := Option.some.inj hi
        exact (hf i hlt).1
      · rw [List.getElem?_eq_none (by simp; omega)] at hi
        cases hi
    · obtain ⟨i, hi, rfl⟩ := List.mem_map.1 ho
      exact (hf i (List.mem_range.1 hi)).2

end
end Go.Proofs.Ytkhbepmaeegekaa
