/- '==' on two sums. -/
import Derived.Test.YteifmkfkekglpaaDoorRead2
namespace Go.Proofs.YteifmkfkekglpaaDoor
open Go.RowKit

theorem sizeOf8 (w : World) : (sizeOf 5).run Tryd.prog w = .ok 1 w := by kernel_rfl

theorem forIn_all {P : Program} {w : World} (p : Nat → Bool) (f : Nat → Option Bool × Unit → Sem (ForInStep (Option Bool × Unit))) : ∀ (l : List Nat),
    (∀ i, i ∈ l → (f i (none, ())).run P w = .ok (if p i then .yield (none, ()) else .done (some false, ())) w) →
    (forIn l (none, ()) f).run P w = .ok (if l.all p then (none, ()) else (some false, ())) w := by
  intro l
  induction l with
  | nil => intro _; rfl
  | cons a l ih =>
    intro h
    rw [List.forIn_cons, Sem.run_bind, h a (by simp)]
    by_cases hp : p a
    · simp only [hp, if_true, Result.andThen_ok, List.all_cons, Bool.true_and]
      exact ih (fun i hi => h i (by simp [hi]))
    · simp only [hp, Result.andThen_ok, List.all_cons, Bool.false_and]
      rfl

theorem all_range_eq {α : Type} [BEq α] [LawfulBEq α] (a b : List α) (n : Nat) (h1 : a.length = n) (h2 : b.length = n) : (List.range' 0 n).all (fun i => a[i]? == b[i]?) = (a == b) := by
  rw [Bool.eq_iff_iff, List.all_eq_true, beq_iff_eq]
  constructor
  · intro h
    apply List.ext_getElem?
    intro i
    by_cases hi : i < n
    · have := h i (by simp [List.mem_range']; omega)
      simpa using this
    · rw [List.getElem?_eq_none (by omega), List.getElem?_eq_none (by omega)]
  · rintro rfl i _
    simp

theorem eql_hash_run (hx hy : List UInt8) (h1 : hx.length = 32) (h2 : hy.length = 32) (w : World) :
    (Op.equalIn 10000 70 (.agg (hx.map byteV).toArray) (.agg (hy.map byteV).toArray)).run Tryd.prog w = .ok (hx == hy) w := by
  show (Op.equalIn (9999 + 1) _ _ _).run _ _ = _
  rw [Op.equalIn]
  simp only [Sem.run_bind, run_underlying Tryd.underlying70, Result.andThen_ok, sizeOf8]
  rw [Std.Legacy.Range.forIn_eq_forIn_range']
  have hb : ∀ i, i ∈ List.range' 0 32 → ((do
            let a ← part 5 (hx.map byteV).toArray (i * 1)
            let b ← part 5 (hy.map byteV).toArray (i * 1)
            let c ← Op.equalIn 9999 5 a b
            if (!c) = true then pure (ForInStep.done (some false, ())) else pure (ForInStep.yield (none, ())) : Sem (ForInStep (Option Bool × Unit)))).run Tryd.prog w =
          .ok (if (hx[i]? == hy[i]?) then .yield (none, ()) else .done (some false, ())) w := by
    intro i hi
    rw [List.mem_range'_1] at hi
    have hix : i < hx.length := by omega
    have hiy : i < hy.length := by omega
    have heq : (Op.equalIn 9999 5 (byteV hx[i]) (byteV hy[i])).run Tryd.prog w = .ok (((hx[i].toNat : Int)) == (hy[i].toNat : Int)) w := run_equalIn_int w 9998 5 .u8 .u8 _ _ Tryd.underlying5
    rw [List.getElem?_eq_getElem hix, List.getElem?_eq_getElem hiy]
    go_simp
    by_cases hab : hx[i] = hy[i]
    · simp [hab]
    · have hn : ¬ (hx[i].toNat : Int) = (hy[i].toNat : Int) := fun h => hab (UInt8.toNat_inj.1 (by omega))
      simp [hab, hn]
  have e : List.range' ([:32] : Std.Legacy.Range).start ([:32] : Std.Legacy.Range).size ([:32] : Std.Legacy.Range).step = List.range' 0 32 := rfl
  rw [e, forIn_all (fun i => hx[i]? == hy[i]?) (fun i _ => (do
            let a ← part 5 (hx.map byteV).toArray (i * 1)
            let b ← part 5 (hy.map byteV).toArray (i * 1)
            let c ← Op.equalIn 9999 5 a b
            if (!c) = true then pure (ForInStep.done (some false, ())) else pure (ForInStep.yield (none, ())) : Sem (ForInStep (Option Bool × Unit)))) (List.range' 0 32) hb, all_range_eq hx hy 32 h1 h2]
  cases hx == hy <;> rfl

end Go.Proofs.YteifmkfkekglpaaDoor
