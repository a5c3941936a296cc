/- Rows of ints: owned, read, append; usufructref1.Ints. -/
import Derived.Test.YteifmkfkekglpaaDoorBytes
import Derived.ProofKit
import Derived.OpenShut
import Derived.Deep.Slices
namespace Go.Proofs.YteifmkfkekglpaaDoor
open Go.RowKit Go.ChangeShapes Go.WideShapes

def intV (z : Int) : Value := .int .i64 z
theorem intV_one (xs : List Int) : ∀ u ∈ xs.map intV, u.oneCell' = true := by
  intro u hu; obtain ⟨_, _, rfl⟩ := List.mem_map.1 hu; rfl
theorem infoInt : (Tryd.prog.info? 3).map (fun i => (i.zero, i.size, i.bytes)) = some (some (.int .i64 0), 1, 8) := by kernel_rfl
abbrev OwnI (w : World) (ao : Option Addr) (cap : Nat) (xs : List Int) : Prop := w.ownsRow 0 3 1 (.slice ao xs.length cap) xs.length (xs.map intV)
/-- A slice's ints, as they lie. -/
structure IntsAt (w : World) (ao : Option Addr) (xs : List Int) : Prop where
  emp : ao = none → xs = []
  cel : ∀ a, ao = some a → ∀ (j : Nat) (z : Int), xs[j]? = some z → w.cell? (a.add j) = some (.int .i64 z)
theorem IntsAt.keeps {w w' : World} {ao : Option Addr} {xs : List Int} (h : IntsAt w ao xs) (k : Keeps Nothing w w') : IntsAt w' ao xs :=
  ⟨h.emp, fun a e j z hj => k.cell (h.cel a e j z hj) (fun h => h)⟩
theorem IntsAt.head {w : World} {ao : Option Addr} {xs : List Int} (h : IntsAt w ao xs) (hl : 0 < xs.length) : ∃ a, ao = some a := by
  cases ao with
  | none => rw [h.emp rfl] at hl; simp at hl
  | some a => exact ⟨a, rfl⟩
theorem ownI_nil (w : World) : OwnI w none 0 [] := World.ownsRow_nil w _ _ _
theorem ownI_at {w : World} {ao : Option Addr} {cap : Nat} {xs : List Int} (h : OwnI w ao cap xs) : IntsAt w ao xs := by
  refine ⟨fun e => ?_, fun a e j z hj => ?_⟩
  · subst e
    rcases h.2 with ⟨_, hn⟩ | ⟨g, cap', cur, hv, _⟩
    · exact List.eq_nil_of_length_eq_zero hn
    · simp at hv
  · subst e
    rcases h.2 with ⟨hv, _⟩ | ⟨g, cap', cur, hv, _⟩
    · simp at hv
    · simp only [Value.slice.injEq, Option.some.injEq] at hv
      obtain ⟨rfl, _⟩ := hv
      exact World.ownsRow.cells h (g := g) rfl j (intV z) (by rw [List.getElem?_map, hj]; rfl)
theorem ownI_cap {w : World} {ao : Option Addr} {cap : Nat} {xs : List Int} (h : OwnI w ao cap xs) : xs.length ≤ cap ∧ cap ≤ maxLen := by
  rcases h.2 with ⟨hv, hn⟩ | ⟨g, cap', cur, hv, _, _, h1, h2, _⟩
  · simp only [Value.slice.injEq] at hv
    obtain ⟨_, _, rfl⟩ := hv
    exact ⟨by omega, Nat.zero_le _⟩
  · simp only [Value.slice.injEq] at hv
    obtain ⟨_, _, rfl⟩ := hv
    exact ⟨h1, h2⟩
/-- append of one int. -/
theorem wpList_appI (w : World) {ops : Array Oper} {rest : List Oper} {o : Oper} {a : Act} {Q : Exit → Act → World → Prop} (hgd : o.guard = none) (s x : Operand)
    (ho : o.op = .call { callee := .builtin .append, args := #[s, x], argTypes := #[89, 89] })
    (ao : Option Addr) (cap : Nat) (xs : List Int) (n : Nat) (hn : xs.length = n) (hsv : a.eval s = .slice ao n cap) (hown : OwnI w ao cap xs) (g : Nat) (z : Int)
    (hx : a.eval x = .slice (some ⟨g, 0, none⟩) 1 1) (hg : Blk w g #[.int .i64 z] 3) (hb : n ≤ 1000000000)
    (h : ∀ ao' cap' w', OwnI w' ao' cap' (xs ++ [z]) → Keeps (fun k => blockOf ao = some k) w w' → Moved w.heap.size ao ao' → wpList Tryd.prog ops Q rest (a.put o.dst (.slice ao' (n + 1) cap')) w') : wpList Tryd.prog ops Q (o :: rest) a w := by
  subst hn
  obtain ⟨i0, hi, hz0, hz1, hz2⟩ := info_parts infoInt
  have hsr : Src Tryd.prog 1 89 (.slice (some ⟨g, 0, none⟩) 1 1) 1 [intV z] w := Src.ofSlice _ Tryd.underlying89 ⟨g, 0, none⟩ 1 1 _ rfl (fun j u hj => by
    match j, hj with
    | 0, hj => simp at hj; subst hj; exact blk_cell hg 0 rfl) (by intro u hu; simp at hu; subst hu; rfl)
  refine wpList_append_src w hgd s x 89 89 ho 3 i0 (.int .i64 0) 1 8 Tryd.underlying89 hi hz0 hz1 hz2 rfl ao xs.length cap (xs.map intV) hsv hown _ 1 [intV z] hx hsr
    (by unfold maxLen; omega) (by omega) fun ao' cap' w' h1 h2 h3 => ?_
  have e1 : xs.map intV ++ [intV z] = (xs ++ [z]).map intV := by rw [List.map_append]; rfl
  have e2 : xs.length + 1 = (xs ++ [z]).length := by rw [List.length_append]; rfl
  refine h ao' cap' w' ?_ ((Keeps.refl _ _).grown h2 (fun k hk _ => hk)) h3
  rw [e1, e2] at h1
  exact h1
theorem OwnI.keeps {w w' : World} {ao : Option Addr} {cap : Nat} {xs : List Int} (h : OwnI w ao cap xs) (k : Keeps Nothing w w') : OwnI w' ao cap xs := k.own h (fun _ _ h => h)

section
variable {H : Type} {enc : TypeId × Value → H} {w : World} {base : Nat} {spare : Nat → Bool} {held : Bool}
theorem cellsInt : Tryd.prog.cellsOf 3 = 1 := by kernel_rfl
theorem open_intsA {fuel : Nat} {v : Value} {ao : Option Addr} {len cap : Nat} {x : DataW H × List MemPlace} (hv : v = .slice ao len cap) (h : DataW.trod enc Tryd.prog w base spare held fuel 89 v.cells.toList = some x) :
    ∃ xs : List Int, xs.length = len ∧ IntsAt w ao xs ∧ len ≤ cap ∧ cap ≤ maxLen ∧ ∀ z ∈ xs, -9223372036854775808 ≤ z ∧ z ≤ 9223372036854775807 := by
  subst hv
  rcases open_ints Tryd.underlying89 Tryd.underlying3 cellsInt h with ⟨hcs, _⟩ | ⟨a, l, c, zs, hcs, _, hl, hm, hz, _, hcell, hwz⟩
  · simp [Value.cells] at hcs
    obtain ⟨rfl, rfl, rfl⟩ := hcs
    exact ⟨[], rfl, ⟨fun _ => rfl, fun a e => by simp at e⟩, Nat.le_refl _, Nat.zero_le _, by simp⟩
  · simp [Value.cells] at hcs
    obtain ⟨rfl, rfl, rfl⟩ := hcs
    have hlz : len ≤ zs.length := by rw [hz]; split <;> omega
    refine ⟨zs.take len, by simp; omega, ⟨fun e => by simp at e, fun a' e j c hj => ?_⟩, hl, hm, fun z hz => by have := bounds_i64 (hwz z (List.mem_of_mem_take hz)); omega⟩
    obtain rfl := Option.some.inj e
    rw [List.getElem?_take] at hj
    split at hj
    · rename_i hjl
      rw [hcell j (by omega)]
      simp [List.getD, hj]
    · cases hj
end

end Go.Proofs.YteifmkfkekglpaaDoor
