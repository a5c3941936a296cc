/- usufructlaw10.ManifestKnown: which heads are right, and what is told of wrong ones; no condition. -/
import Derived.Test.YtiliajnijjkcdaaDoorRows
import Derived.Test.YtiliajnijjkcdaaDoorCards
import Derived.Test.YtiliajnijjkcdaaDoorTie
import Derived.SevenTiedAt
import Derived.LaidMore
import Derived.Lay
import Derived.Stop.Joined
import Derived.HandedShaped
import Derived.Shelf.Vars
import Derived.Test.YtiliajnijjkcdaaDoorMan18
import Derived.ProofKit
import Derived.OpenShut
import Derived.ShutString
import Derived.ChangeOld
import Derived.Below
namespace Go.Proofs.YtiliajnijjkcdaaDoor.manifestKnown
open Go.ChangeShapes Go.WideShapes Go.ChangeAt Go.RowKit
open Go.ChangeMaps (open_string shut_string)

theorem own : ownKnob Tryd.prog.godebug = none := by kernel_rfl
theorem laidOut : laidOutB Tryd.prog = true := by kernel_rfl

abbrev laidP : List (String × DataW Unit) := [("unicode/utf8.acceptRanges", Rows.laid_unicode_utf8_acceptRanges), ("unicode/utf8.first", Rows.laid_unicode_utf8_first)]
/-- The world's shape, handed to the walk; what is listed is not read. -/
theorem change_shaped {H : Type} {enc : TypeId × Value → H} {a : Assume} {C : Checked} {os : Os} {f : FuncId} {fn : Func} {s : ChangeSpec} {conds : List PathCond} {apart fresh handsOn again : Bool} {X : World → Array Value → Prop}
    (own : ownKnob C.prog.godebug = none) (started : os.Started) (noInit : C.prog.inits.idxOf? f = none) (hfn : C.prog.funcs[f]? = some fn)
    (witness : ∃ (w : World) (tape : Tape) (i : Input), w.os = os ∧ (w.forCall tape i).Shaped C.prog ∧ i.vars = [] ∧ Input.okWide C.prog (w.forCall tape i) .any w.heap.size f i ∧
      ((s.pre enc C.prog fn conds apart (w.forCall tape i).memory i.args ∧ X (w.forCall tape i).memory i.args) ∧ sizedMet enc C.prog fn (OpenSpec.ofChange s) apart (w.forCall tape i).memory i.args) ∧ a.holds C.prog (lone (Frame.enter C.prog f i.args .normal) [] (w.forCall tape i)))
    (contract : ∀ (W : World) (base : Nat) (args : Array Value) (ds gs : List (DataW H)) (before : List MemPlace),
      (∀ (j : Nat) t v, fn.params[j]? = some t → args[j]? = some v → Value.okWide C.prog W .any base t v) →
      DataW.Whole enc C.prog fn.params.toList s.vars apart W args.toList ds gs before → W.ShapedOpen C.prog →
      Calls C.prog f args W fun e W' => ∃ v, e = .returned v ∧ s.post enc C.prog fn apart fresh handsOn again W args v W') :
    ReturnsInHanded a C os f .any (fun w args => (s.pre enc C.prog fn conds apart w args ∧ X w args) ∧ sizedMet enc C.prog fn (OpenSpec.ofChange s) apart w args) (s.post enc C.prog fn apart fresh handsOn again) := by
  refine returnsInHanded_of_calls own started noInit witness ?_
  intro w tape i _ hsh _ hok hpre _
  obtain ⟨_, _, _, fn', hfn', _, _, _, _, hval⟩ := hok
  have e : fn' = fn := Option.some.inj (hfn'.symm.trans hfn)
  subst e
  obtain ⟨⟨⟨ds, gs, before, hw, _⟩, _⟩, _⟩ := hpre
  have hw' := DataW.Whole.of_heap (w' := w.forCall tape i) (by rfl) hw
  refine (contract (w.forCall tape i) w.heap.size i.args ds gs before hval hw' hsh).mono fun e W' ⟨v, he, hp⟩ => ?_
  subst he
  exact ChangeSpec.post_blind hp
theorem max_of_shaped {w : World} (h : w.ShapedOpen Tryd.prog) : MaxV w :=
  cell_of_shapedOpen_int (zero := #[.int .i64 0]) h (of_decide_eq_true (by kernel_rfl)) (by kernel_rfl) rfl (by kernel_rfl) (by kernel_rfl) Tryd.underlying3

def texts17 : List (List UInt8) := [[61, 61, 32, 97], [61, 61, 32, 97, 10], [10, 10, 61, 61, 32, 97, 32, 58, 32, 98, 32, 99, 10, 61, 61, 32, 98, 10, 61, 61, 32, 99, 10], [61, 61, 97, 10], [61, 61, 32, 97, 32, 58, 10], [61, 61, 32, 97, 58, 32, 98, 10], [61, 61, 32, 97, 32, 58, 32, 32, 98, 10], [61, 61, 32, 97, 32, 98, 10], [61, 61, 32, 10], [61, 61, 10], [120, 10, 61, 61, 32, 97, 10], [61, 61, 32, 97, 10, 61, 61, 32, 98, 32, 58, 32, 98, 10], [61, 61, 32, 97, 32, 58, 32, 98, 32, 98, 10], [61, 61, 32, 102, 110, 10], [61, 61, 32, 97, 10, 61, 61, 61, 32, 98, 10], [61, 61, 32, 97, 32, 10], [32, 61, 61, 32, 97, 10]]
def codes17 : List Int := [0, 0, 0, 40, 40, 40, 40, 40, 40, 40, 40, 23, 23, 40, 40, 40, 40]
def ats17 : List Nat := [0, 0, 0, 0, 0, 0, 0, 0, 0, 0, 0, 5, 0, 0, 5, 0, 0]
theorem table17 : ((List.range 17).all fun k => decide ((parseL (texts17.getD k [])).1 = codes17.getD k 0) && decide ((parseL (texts17.getD k [])).2.1 = ats17.getD k 0) && (decide ((parseL (texts17.getD k [])).1 ≠ 0) || (decide (0 < (parseL (texts17.getD k [])).2.2.length) && decide (ats17.getD k 0 = 0)))) = true := by kernel_rfl
theorem len17 : ((List.range 17).all fun k => decide ((texts17.getD k []).length ≤ 100)) = true := by kernel_rfl
/-- A block's cells as a list of values. -/
theorem lst_cell {w : World} {g : Nat} {l : List Value} {t : TypeId} (h : Blk w g l.toArray t) {k : Nat} {v : Value} (hk : l[k]? = some v) : w.cell? ⟨g, k, none⟩ = some v := blk_cell h k (by simpa using hk)

set_option maxRecDepth 100000 in
set_option linter.unusedSimpArgs false in
set_option maxHeartbeats 8000000 in
theorem walk (w : World) (z : Int) (hM : MaxV w) : Calls Tryd.prog 3 #[.int .i64 z] w fun e w' => e = .returned (.bool true) ∧ Keeps Nothing w w' := by
  have hw1 : IntKind.i64.wrap (z.tmod 17 + 17) = z.tmod 17 + 17 := by
    have h1 := Int.tmod_lt_of_pos z (show (0 : Int) < 17 by decide)
    have h2 := Int.tmod_lt_of_pos (-z) (show (0 : Int) < 17 by decide)
    rw [Int.neg_tmod] at h2
    rw [IntKind.wrap_i64]; omega
  obtain ⟨k, hk, hlt⟩ : ∃ k : Nat, (z.tmod 17 + 17).tmod 17 = (k : Int) ∧ k < 17 := by
    have h1 := Int.tmod_lt_of_pos (z.tmod 17 + 17) (show (0 : Int) < 17 by decide)
    have h2 := Int.tmod_lt_of_pos (-z) (show (0 : Int) < 17 by decide)
    rw [Int.neg_tmod] at h2
    have h3 := Int.tmod_nonneg 17 (show 0 ≤ z.tmod 17 + 17 by omega)
    exact ⟨((z.tmod 17 + 17).tmod 17).toNat, by omega, by omega⟩
  have ht := List.all_eq_true.1 table17 k (List.mem_range.2 hlt)
  have hl := of_decide_eq_true (List.all_eq_true.1 len17 k (List.mem_range.2 hlt))
  simp only [Bool.and_eq_true, Bool.or_eq_true, decide_eq_true_eq] at ht
  obtain ⟨⟨t1, t2⟩, t3⟩ := ht
  have ka := (Keeps.refl Nothing w).alloc (.cells #[.string ⟨#[61, 61, 32, 97]⟩, .string ⟨#[61, 61, 32, 97, 10]⟩, .string ⟨#[10, 10, 61, 61, 32, 97, 32, 58, 32, 98, 32, 99, 10, 61, 61, 32, 98, 10, 61, 61, 32, 99, 10]⟩, .string ⟨#[61, 61, 97, 10]⟩, .string ⟨#[61, 61, 32, 97, 32, 58, 10]⟩, .string ⟨#[61, 61, 32, 97, 58, 32, 98, 10]⟩, .string ⟨#[61, 61, 32, 97, 32, 58, 32, 32, 98, 10]⟩, .string ⟨#[61, 61, 32, 97, 32, 98, 10]⟩, .string ⟨#[61, 61, 32, 10]⟩, .string ⟨#[61, 61, 10]⟩, .string ⟨#[120, 10, 61, 61, 32, 97, 10]⟩, .string ⟨#[61, 61, 32, 97, 10, 61, 61, 32, 98, 32, 58, 32, 98, 10]⟩, .string ⟨#[61, 61, 32, 97, 32, 58, 32, 98, 32, 98, 10]⟩, .string ⟨#[61, 61, 32, 102, 110, 10]⟩, .string ⟨#[61, 61, 32, 97, 10, 61, 61, 61, 32, 98, 10]⟩, .string ⟨#[61, 61, 32, 97, 32, 10]⟩, .string ⟨#[32, 61, 61, 32, 97, 10]⟩] 9)
  have B1 := blk_new w #[.string ⟨#[61, 61, 32, 97]⟩, .string ⟨#[61, 61, 32, 97, 10]⟩, .string ⟨#[10, 10, 61, 61, 32, 97, 32, 58, 32, 98, 32, 99, 10, 61, 61, 32, 98, 10, 61, 61, 32, 99, 10]⟩, .string ⟨#[61, 61, 97, 10]⟩, .string ⟨#[61, 61, 32, 97, 32, 58, 10]⟩, .string ⟨#[61, 61, 32, 97, 58, 32, 98, 10]⟩, .string ⟨#[61, 61, 32, 97, 32, 58, 32, 32, 98, 10]⟩, .string ⟨#[61, 61, 32, 97, 32, 98, 10]⟩, .string ⟨#[61, 61, 32, 10]⟩, .string ⟨#[61, 61, 10]⟩, .string ⟨#[120, 10, 61, 61, 32, 97, 10]⟩, .string ⟨#[61, 61, 32, 97, 10, 61, 61, 32, 98, 32, 58, 32, 98, 10]⟩, .string ⟨#[61, 61, 32, 97, 32, 58, 32, 98, 32, 98, 10]⟩, .string ⟨#[61, 61, 32, 102, 110, 10]⟩, .string ⟨#[61, 61, 32, 97, 10, 61, 61, 61, 32, 98, 10]⟩, .string ⟨#[61, 61, 32, 97, 32, 10]⟩, .string ⟨#[32, 61, 61, 32, 97, 10]⟩] 9
  have B1' : Blk (w.alloc (.cells #[.string ⟨#[61, 61, 32, 97]⟩, .string ⟨#[61, 61, 32, 97, 10]⟩, .string ⟨#[10, 10, 61, 61, 32, 97, 32, 58, 32, 98, 32, 99, 10, 61, 61, 32, 98, 10, 61, 61, 32, 99, 10]⟩, .string ⟨#[61, 61, 97, 10]⟩, .string ⟨#[61, 61, 32, 97, 32, 58, 10]⟩, .string ⟨#[61, 61, 32, 97, 58, 32, 98, 10]⟩, .string ⟨#[61, 61, 32, 97, 32, 58, 32, 32, 98, 10]⟩, .string ⟨#[61, 61, 32, 97, 32, 98, 10]⟩, .string ⟨#[61, 61, 32, 10]⟩, .string ⟨#[61, 61, 10]⟩, .string ⟨#[120, 10, 61, 61, 32, 97, 10]⟩, .string ⟨#[61, 61, 32, 97, 10, 61, 61, 32, 98, 32, 58, 32, 98, 10]⟩, .string ⟨#[61, 61, 32, 97, 32, 58, 32, 98, 32, 98, 10]⟩, .string ⟨#[61, 61, 32, 102, 110, 10]⟩, .string ⟨#[61, 61, 32, 97, 10, 61, 61, 61, 32, 98, 10]⟩, .string ⟨#[61, 61, 32, 97, 32, 10]⟩, .string ⟨#[32, 61, 61, 32, 97, 10]⟩] 9)) w.heap.size (texts17.map txV).toArray 9 := B1
  have b := (Keeps.refl Nothing (w.alloc (.cells #[.string ⟨#[61, 61, 32, 97]⟩, .string ⟨#[61, 61, 32, 97, 10]⟩, .string ⟨#[10, 10, 61, 61, 32, 97, 32, 58, 32, 98, 32, 99, 10, 61, 61, 32, 98, 10, 61, 61, 32, 99, 10]⟩, .string ⟨#[61, 61, 97, 10]⟩, .string ⟨#[61, 61, 32, 97, 32, 58, 10]⟩, .string ⟨#[61, 61, 32, 97, 58, 32, 98, 10]⟩, .string ⟨#[61, 61, 32, 97, 32, 58, 32, 32, 98, 10]⟩, .string ⟨#[61, 61, 32, 97, 32, 98, 10]⟩, .string ⟨#[61, 61, 32, 10]⟩, .string ⟨#[61, 61, 10]⟩, .string ⟨#[120, 10, 61, 61, 32, 97, 10]⟩, .string ⟨#[61, 61, 32, 97, 10, 61, 61, 32, 98, 32, 58, 32, 98, 10]⟩, .string ⟨#[61, 61, 32, 97, 32, 58, 32, 98, 32, 98, 10]⟩, .string ⟨#[61, 61, 32, 102, 110, 10]⟩, .string ⟨#[61, 61, 32, 97, 10, 61, 61, 61, 32, 98, 10]⟩, .string ⟨#[61, 61, 32, 97, 32, 10]⟩, .string ⟨#[32, 61, 61, 32, 97, 10]⟩] 9))).alloc (.cells #[.int .i64 0, .int .i64 0, .int .i64 0, .int .i64 40, .int .i64 40, .int .i64 40, .int .i64 40, .int .i64 40, .int .i64 40, .int .i64 40, .int .i64 40, .int .i64 23, .int .i64 23, .int .i64 40, .int .i64 40, .int .i64 40, .int .i64 40] 3)
  have B2 := blk_new (w.alloc (.cells #[.string ⟨#[61, 61, 32, 97]⟩, .string ⟨#[61, 61, 32, 97, 10]⟩, .string ⟨#[10, 10, 61, 61, 32, 97, 32, 58, 32, 98, 32, 99, 10, 61, 61, 32, 98, 10, 61, 61, 32, 99, 10]⟩, .string ⟨#[61, 61, 97, 10]⟩, .string ⟨#[61, 61, 32, 97, 32, 58, 10]⟩, .string ⟨#[61, 61, 32, 97, 58, 32, 98, 10]⟩, .string ⟨#[61, 61, 32, 97, 32, 58, 32, 32, 98, 10]⟩, .string ⟨#[61, 61, 32, 97, 32, 98, 10]⟩, .string ⟨#[61, 61, 32, 10]⟩, .string ⟨#[61, 61, 10]⟩, .string ⟨#[120, 10, 61, 61, 32, 97, 10]⟩, .string ⟨#[61, 61, 32, 97, 10, 61, 61, 32, 98, 32, 58, 32, 98, 10]⟩, .string ⟨#[61, 61, 32, 97, 32, 58, 32, 98, 32, 98, 10]⟩, .string ⟨#[61, 61, 32, 102, 110, 10]⟩, .string ⟨#[61, 61, 32, 97, 10, 61, 61, 61, 32, 98, 10]⟩, .string ⟨#[61, 61, 32, 97, 32, 10]⟩, .string ⟨#[32, 61, 61, 32, 97, 10]⟩] 9)) #[.int .i64 0, .int .i64 0, .int .i64 0, .int .i64 40, .int .i64 40, .int .i64 40, .int .i64 40, .int .i64 40, .int .i64 40, .int .i64 40, .int .i64 40, .int .i64 23, .int .i64 23, .int .i64 40, .int .i64 40, .int .i64 40, .int .i64 40] 3
  have B2' : Blk _ _ (codes17.map intV).toArray 3 := B2
  have b2 := (Keeps.refl Nothing ((w.alloc (.cells #[.string ⟨#[61, 61, 32, 97]⟩, .string ⟨#[61, 61, 32, 97, 10]⟩, .string ⟨#[10, 10, 61, 61, 32, 97, 32, 58, 32, 98, 32, 99, 10, 61, 61, 32, 98, 10, 61, 61, 32, 99, 10]⟩, .string ⟨#[61, 61, 97, 10]⟩, .string ⟨#[61, 61, 32, 97, 32, 58, 10]⟩, .string ⟨#[61, 61, 32, 97, 58, 32, 98, 10]⟩, .string ⟨#[61, 61, 32, 97, 32, 58, 32, 32, 98, 10]⟩, .string ⟨#[61, 61, 32, 97, 32, 98, 10]⟩, .string ⟨#[61, 61, 32, 10]⟩, .string ⟨#[61, 61, 10]⟩, .string ⟨#[120, 10, 61, 61, 32, 97, 10]⟩, .string ⟨#[61, 61, 32, 97, 10, 61, 61, 32, 98, 32, 58, 32, 98, 10]⟩, .string ⟨#[61, 61, 32, 97, 32, 58, 32, 98, 32, 98, 10]⟩, .string ⟨#[61, 61, 32, 102, 110, 10]⟩, .string ⟨#[61, 61, 32, 97, 10, 61, 61, 61, 32, 98, 10]⟩, .string ⟨#[61, 61, 32, 97, 32, 10]⟩, .string ⟨#[32, 61, 61, 32, 97, 10]⟩] 9)).alloc (.cells #[.int .i64 0, .int .i64 0, .int .i64 0, .int .i64 40, .int .i64 40, .int .i64 40, .int .i64 40, .int .i64 40, .int .i64 40, .int .i64 40, .int .i64 40, .int .i64 23, .int .i64 23, .int .i64 40, .int .i64 40, .int .i64 40, .int .i64 40] 3))).alloc (.cells #[.int .i64 0, .int .i64 0, .int .i64 0, .int .i64 0, .int .i64 0, .int .i64 0, .int .i64 0, .int .i64 0, .int .i64 0, .int .i64 0, .int .i64 0, .int .i64 5, .int .i64 0, .int .i64 0, .int .i64 5, .int .i64 0, .int .i64 0] 3)
  have B3 := blk_new ((w.alloc (.cells #[.string ⟨#[61, 61, 32, 97]⟩, .string ⟨#[61, 61, 32, 97, 10]⟩, .string ⟨#[10, 10, 61, 61, 32, 97, 32, 58, 32, 98, 32, 99, 10, 61, 61, 32, 98, 10, 61, 61, 32, 99, 10]⟩, .string ⟨#[61, 61, 97, 10]⟩, .string ⟨#[61, 61, 32, 97, 32, 58, 10]⟩, .string ⟨#[61, 61, 32, 97, 58, 32, 98, 10]⟩, .string ⟨#[61, 61, 32, 97, 32, 58, 32, 32, 98, 10]⟩, .string ⟨#[61, 61, 32, 97, 32, 98, 10]⟩, .string ⟨#[61, 61, 32, 10]⟩, .string ⟨#[61, 61, 10]⟩, .string ⟨#[120, 10, 61, 61, 32, 97, 10]⟩, .string ⟨#[61, 61, 32, 97, 10, 61, 61, 32, 98, 32, 58, 32, 98, 10]⟩, .string ⟨#[61, 61, 32, 97, 32, 58, 32, 98, 32, 98, 10]⟩, .string ⟨#[61, 61, 32, 102, 110, 10]⟩, .string ⟨#[61, 61, 32, 97, 10, 61, 61, 61, 32, 98, 10]⟩, .string ⟨#[61, 61, 32, 97, 32, 10]⟩, .string ⟨#[32, 61, 61, 32, 97, 10]⟩] 9)).alloc (.cells #[.int .i64 0, .int .i64 0, .int .i64 0, .int .i64 40, .int .i64 40, .int .i64 40, .int .i64 40, .int .i64 40, .int .i64 40, .int .i64 40, .int .i64 40, .int .i64 23, .int .i64 23, .int .i64 40, .int .i64 40, .int .i64 40, .int .i64 40] 3)) #[.int .i64 0, .int .i64 0, .int .i64 0, .int .i64 0, .int .i64 0, .int .i64 0, .int .i64 0, .int .i64 0, .int .i64 0, .int .i64 0, .int .i64 0, .int .i64 5, .int .i64 0, .int .i64 0, .int .i64 5, .int .i64 0, .int .i64 0] 3
  have B3' : Blk _ _ ((ats17.map fun (n : Nat) => intV n)).toArray 3 := B3
  have g1 : (texts17.map txV)[k]? = some (txV (texts17.getD k [])) := by
    rw [List.getElem?_map, List.getD, List.getElem?_eq_getElem (show k < texts17.length from hlt)]; rfl
  have g2 : (codes17.map intV)[k]? = some (intV (codes17.getD k 0)) := by
    rw [List.getElem?_map, List.getD, List.getElem?_eq_getElem (show k < codes17.length from hlt)]; rfl
  have g3 : ((ats17.map fun (n : Nat) => intV n))[k]? = some (intV ((ats17.getD k 0 : Nat) : Int)) := by
    rw [List.getElem?_map, List.getD, List.getElem?_eq_getElem (show k < ats17.length from hlt)]; rfl
  have c1 := b2.cell (b.cell (lst_cell B1' g1) (fun h => h)) (fun h => h)
  have c2 := b2.cell (lst_cell B2' g2) (fun h => h)
  have c3 := lst_cell B3' g3
  simp only [World.size_alloc] at c2 c3
  have K3 := (ka.trans b (fun _ h _ => h)).trans b2 (fun _ h _ => h)
  have hp := parse_any _ (texts17.getD k []) (hM.keeps K3) (by omega)
  generalize parseL (texts17.getD k []) = r at *
  generalize texts17.getD k [] = tx at *
  obtain ⟨rc, rp, rl⟩ := r
  simp only at t1 t2 t3
  have hsz : w.heap.size + 1 + 1 = w.heap.size + 1 + 1 := rfl
  subst t1 t2
  generalize codes17.getD k 0 = cc at *
  generalize ats17.getD k 0 = pp at *
  clear B1 B1' B2 B2' B3 B3' b b2 ka g1 g2 g3 hl
  unfold txV at c1
  unfold intV at c2 c3
  have m1 : (k : Int) < 17 := by omega
  have m0 : (0 : Int) ≤ k := by omega
  have T3 := shut t3
  have HM := shut hM
  clear t3 hM
  go_enter Tryd.func3, Tryd.ntmps3
  go_wp2_with fail
  refine hp.mono ?_
  rintro e w1 ⟨K1, hor⟩
  have d2 := K1.cell c2 (fun h => h)
  have d3 := K1.cell c3 (fun h => h)
  have KW := K3.trans K1 (fun _ h _ => h)
  clear hp c1 c2 c3 K1 K3
  rcases hor with ⟨hc, ao, cap, rfl, -, -⟩ | ⟨hc, ev, rfl, ⟨b, rfl⟩, hE⟩
  · have hc' : cc = 0 := hc
    subst hc'
    obtain ⟨hl0, hp0⟩ : 0 < rl.length ∧ pp = 0 := by
      rcases T3.out with h | h
      · exact absurd rfl h
      · exact h
    subst hp0
    have m3 : (0 : Int) < rl.length := by omega
    clear hc hl0 T3
    have hE : IsErr 0 w1 .nilIface 0 0 := .inl ⟨rfl, rfl, rfl⟩
    have HE := shut hE
    clear hE
    go_upto_region 6 with fail
    refine wp_region_mix (fun V => Keeps Nothing w1 V) [(false, 0), (true, 1), (true, 2), (true, 3), (true, 4), (true, 5), (true, 6), (true, 7), (true, 8), (true, 9), (true, 10), (false, 11), (true, 12), (true, 13), (true, 14), (true, 15), (true, 16), (true, 17), (true, 18), (true, 19), (true, 20), (true, 21)] (by kernel_rfl) (by kernel_rfl) (Keeps.refl _ _).drew ?_
    simp only [mixItems, List.map_cons, List.map_nil, List.getD_cons_zero, List.getD_cons_succ]
    have kk : Keeps Nothing w1 w1.drew := (Keeps.refl Nothing w1).drew
    have hct := told10_any w1.drew (HM.out.keeps (KW.trans kk (fun _ h _ => h)))
    refine wpMix_one (fun K hK => ?_)
    go_wp2_with fail
    refine hct.mono ?_
    rintro e w2 ⟨rfl, k2⟩
    have kk := kk.trans k2 (fun _ h _ => h)
    clear hct k2
    go_wp2_with fail
    refine hK _ _ kk ?_
    clear hK K
    repeat (refine wpMix_free (fun K hK => ?_); go_simp; refine hK _ ?_; clear hK K)
    refine wpMix_yield (v := .int .i64 0) (fun V hV => ?_) (fun K hK => ?_)
    · have zz := hV.cell d2 (fun h => h)
      go_simp
    go_simp
    refine hK _ ?_
    clear hK K
    repeat (refine wpMix_free (fun K hK => ?_); go_simp; refine hK _ ?_; clear hK K)
    refine wpMix_yield (v := .int .i64 0) (fun V hV => ?_) (fun K hK => ?_)
    · have zz := hV.cell d3 (fun h => h)
      go_simp
    go_simp
    refine hK _ ?_
    clear hK K
    repeat (refine wpMix_free (fun K hK => ?_); go_simp; refine hK _ ?_; clear hK K)
    have hi := is_any (HE.out.keeps kk (fun _ h => h.elim)) 0 0
    rw [decide_eq_true (by simp)] at hi
    refine wpMix_one (fun K hK => ?_)
    go_wp2_with fail
    refine hi.mono ?_
    rintro e w3 ⟨rfl, n3, rfl⟩
    have kk := kk.trans ((Keeps.refl Nothing w2).drewN n3) (fun _ h _ => h)
    clear hi
    go_wp2_with fail
    refine hK _ _ kk ?_
    clear hK K
    repeat (refine wpMix_free (fun K hK => ?_); go_simp; refine hK _ ?_; clear hK K)
    refine wpMix_nil ?_
    have KF := KW.trans kk (fun _ h _ => h)
    go_wp2_with fail
    go_ret
    exact ⟨ret_bool (by first | rfl | (show decide _ = true; rw [decide_eq_true_iff]; omega)), KF⟩

  · have HE := shut hE
    clear hE hc T3
    simp only at HE
    go_upto_region 6 with fail
    refine wp_region_mix (fun V => Keeps Nothing w1 V) [(false, 0), (true, 1), (true, 2), (true, 3), (true, 4), (true, 5), (true, 6), (true, 7), (true, 8), (true, 9), (true, 10), (false, 11), (true, 12), (true, 13), (true, 14), (true, 15), (true, 16), (true, 17), (true, 18), (true, 19), (true, 20), (true, 21)] (by kernel_rfl) (by kernel_rfl) (Keeps.refl _ _).drew ?_
    simp only [mixItems, List.map_cons, List.map_nil, List.getD_cons_zero, List.getD_cons_succ]
    have kk : Keeps Nothing w1 w1.drew := (Keeps.refl Nothing w1).drew
    have hct := told10_any w1.drew (HM.out.keeps (KW.trans kk (fun _ h _ => h)))
    refine wpMix_one (fun K hK => ?_)
    go_wp2_with fail
    refine hct.mono ?_
    rintro e w2 ⟨rfl, k2⟩
    have kk := kk.trans k2 (fun _ h _ => h)
    clear hct k2
    go_wp2_with fail
    refine hK _ _ kk ?_
    clear hK K
    repeat (refine wpMix_free (fun K hK => ?_); go_simp; refine hK _ ?_; clear hK K)
    refine wpMix_yield (v := .int .i64 cc) (fun V hV => ?_) (fun K hK => ?_)
    · have zz := hV.cell d2 (fun h => h)
      go_simp
    go_simp
    refine hK _ ?_
    clear hK K
    repeat (refine wpMix_free (fun K hK => ?_); go_simp; refine hK _ ?_; clear hK K)
    refine wpMix_yield (v := .int .i64 (pp : Int)) (fun V hV => ?_) (fun K hK => ?_)
    · have zz := hV.cell d3 (fun h => h)
      go_simp
    go_simp
    refine hK _ ?_
    clear hK K
    repeat (refine wpMix_free (fun K hK => ?_); go_simp; refine hK _ ?_; clear hK K)
    have hi := is_any (HE.out.keeps kk (fun _ h => h.elim)) cc (pp : Int)
    rw [decide_eq_true (by simp)] at hi
    refine wpMix_one (fun K hK => ?_)
    go_wp2_with fail
    refine hi.mono ?_
    rintro e w3 ⟨rfl, n3, rfl⟩
    have kk := kk.trans ((Keeps.refl Nothing w2).drewN n3) (fun _ h _ => h)
    clear hi
    go_wp2_with fail
    refine hK _ _ kk ?_
    clear hK K
    repeat (refine wpMix_free (fun K hK => ?_); go_simp; refine hK _ ?_; clear hK K)
    refine wpMix_nil ?_
    have KF := KW.trans kk (fun _ h _ => h)
    go_wp2_with fail
    go_ret
    exact ⟨ret_bool (by first | rfl | (show decide _ = true; rw [decide_eq_true_iff]; omega)), KF⟩


set_option maxRecDepth 100000 in
theorem lifted (os : Os) (started : os.Started) (H : Type) (enc : TypeId × Value → H) :
    ReturnsInHanded {} Tryd.checked os 3 .any (fun w args => (Rows.manifestKnownSpec.pre enc Tryd.prog Tryd.f3 [] false w args ∧ laidMetH Tryd.prog laidP w) ∧ sizedMet enc Tryd.prog Tryd.f3 (OpenSpec.ofChange Rows.manifestKnownSpec) false w args) (Rows.manifestKnownSpec.post enc Tryd.prog Tryd.f3 false true false false) := by
  refine change_shaped (C := Tryd.checked) (X := fun w _ => laidMetH Tryd.prog laidP w) own started (by kernel_rfl) Tryd.func3
    (ChangeSpec.witness_shaped (enc := enc) (C := Tryd.checked) (os := os) (X := fun w _ => laidMetH Tryd.prog laidP w) false (World.laidAll Tryd.prog os laidP) #[.int .i64 0] 8 (World.laidAll_os _ _ _)
      (World.shaped_of_ZipB (by kernel_rfl) (by kernel_rfl)) (by kernel_rfl) (by kernel_rfl) (by kernel_rfl)
      (by rw [MakeChecks.laidMetH_plain _ _ _ (by kernel_rfl)]; exact laidMet_laidAll _ (by kernel_rfl) (by kernel_rfl))) ?_
  intro W base args ds gs before hval0 hW hsh
  have hmax := max_of_shaped hsh
  have hval : ∀ (j : Nat) t v, Tryd.f3.params[j]? = some t → args[j]? = some v → Value.okWide Tryd.prog W .any base t v := hval0
  have hW' := hW
  obtain ⟨p, q, hA0, hV, rfl, hfz, hnd⟩ := hW
  have hA : DataW.TrodAll enc Tryd.prog W 0 (fun _ => true) true Tryd.f3.params.toList args.toList ds p := hA0
  rw [Tryd.params3] at hA hval
  obtain ⟨v0, vs0, d0, ds0, p0, q0, hargs, rfl, rfl, h0, r0⟩ := trodAll_cons hA
  obtain ⟨rfl, rfl, rfl⟩ := trodAll_nil r0
  obtain rfl : args = #[v0] := by cases args; simp_all
  obtain ⟨rfl, rfl⟩ := trodVars_none hV
  have k0 := h0
  have lt0 : ∀ x ∈ p0, x.block < W.heap.size := by obtain ⟨m, hm⟩ := k0; exact DataW.trod_lt m _ _ _ hm
  obtain ⟨a0, rfl, rfl, rfl, w0⟩ := open_int Tryd.underlying3 (hval 0 3 v0 rfl rfl) h0
  have b0 := bounds_i64 w0
  clear hA0 hval0
  refine (walk W a0 hmax).mono fun e W' ⟨he, hk⟩ => ?_
  subst he
  have bel : Below W.heap.size W W' := hk.below (Nat.le_refl _) (fun _ h => h.elim)
  exact ⟨_, rfl, _, _, _, [], _, [], hW', trodAll_mk1 (shut_bool Tryd.underlying4 _), (trodAll_cons_mk (Below.trod laidOut (by kernel_rfl) (of_decide_eq_true (by kernel_rfl)) k0 bel lt0) trodAll_mk0), rfl, bel.frame _, fun h => by cases h⟩

theorem bare : Rows.ManifestKnownSaid :=
  OpenClaim.holds_of_wide 3 Tryd.f3 rfl rfl rfl rfl rfl rfl rfl ⟨rfl, rfl, rfl, rfl, rfl⟩ rfl rfl rfl rfl rfl (by kernel_rfl) Tryd.func3 (by kernel_rfl)
    (of_decide_eq_true (by kernel_rfl)) (by unfold Func.isWrapper; first | (rw [if_pos (by decide +kernel)]; kernel_rfl) | (rw [if_neg (by decide +kernel)]; exact ⟨rfl, rfl⟩))
    (fun os started H enc _ => lifted os started H enc)

/-- For every input the law returns true, and its arguments read as before; the one package-level variable that it reads is tied to the program's text. -/
theorem proved : Rows.ManifestKnownCardSaid :=
  Claim7.holds_tied_plain_at .later [] [.data, .pinned] true _ true
    bare (fun _ h => by cases h) (by kernel_rfl) (fun _ h => by cases h) manifestKnown_row_tie rfl ⟨rfl, rfl⟩ (by kernel_rfl) rfl
    (fun f fn hf hfn => by
      obtain rfl : f = 3 := Option.some.inj ((show Tryd.prog.funcNamed "usufruct/usufructlaw10.ManifestKnown" = some 3 by kernel_rfl).symm.trans hf) |>.symm
      obtain rfl : fn = Tryd.f3 := (Option.some.inj (Tryd.func3.symm.trans hfn)).symm
      exact ⟨by kernel_rfl, fun j t ht => by
        rw [Tryd.params3] at ht
        have hm := Array.mem_of_getElem? ht
        simp only [List.mem_toArray, List.mem_cons, List.not_mem_nil, or_false] at hm
        subst hm
        all_goals exact (show Tryd.prog.wantsStandIn _ = false by kernel_rfl)⟩)
    (by kernel_rfl)
#print axioms proved

end Go.Proofs.YtiliajnijjkcdaaDoor.manifestKnown
