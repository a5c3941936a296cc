/- Rows of messages as arguments. -/
import Derived.Test.YteifmkfkekglpaaNet13
import Derived.Test.YteifmkfkekglpaaOwnC
namespace Go.Proofs.Yteifmkfkekglpaa
open Go.RowKit Go.ChangeShapes Go.WideShapes

/-- A message as data: itself, where its sums lie, their room. -/
structure MsgD where
  m : MsgT
  ao : Option Addr
  cap : Nat
instance : Inhabited MsgD := ⟨⟨⟨0, 0, 0, 0, 0, [], [], [], [], []⟩, none, 0⟩⟩
def MsgD.cells (d : MsgD) : List Value := msgCells d.m d.ao d.cap
/-- It may stand so in this world. -/
structure MsgD.Ok (w : World) (d : MsgD) : Prop where
  h32 : d.m.hash.length = 32
  at' : MsgAt w d.m d.ao d.cap
theorem MsgD.Ok.is {w : World} {d : MsgD} (h : d.Ok w) : MsgC d.cells.toArray d.m d.ao d.cap := msgCells_is _ _ _ h.h32
theorem MsgD.Ok.len {w : World} {d : MsgD} (h : d.Ok w) : d.cells.length = 41 := msgCells_len _ _ _ h.h32
theorem MsgD.Ok.keepsN {w w' : World} {d : MsgD} (h : d.Ok w) (k : Keeps Nothing w w') : d.Ok w' := ⟨h.h32, h.at'.keepsN k⟩
theorem MsgD.Ok.one {w : World} {d : MsgD} (h : d.Ok w) : ∀ u ∈ d.cells, u.oneCell' = true := by
  have := h.is.one
  rwa [List.all_toArray, List.all_eq_true] at this
/-- A row of messages that was handed in. -/
def MsgsAt (w : World) (ao : Option Addr) (l : List MsgD) : Prop :=
  (ao = none → l = []) ∧ ∀ a, ao = some a → ∀ j d, l[j]? = some d → a.spot = none ∧ d.Ok w ∧ w.rangeAt a.block (a.off + j * 41) d.cells
theorem MsgsAt.keepsN {w w' : World} {ao : Option Addr} {l : List MsgD} (h : MsgsAt w ao l) (k : Keeps Nothing w w') : MsgsAt w' ao l :=
  ⟨h.1, fun a e j x hx => ⟨(h.2 a e j x hx).1, (h.2 a e j x hx).2.1.keepsN k, rangeAt_keeps (h.2 a e j x hx).2.2 k (fun h => h)⟩⟩
theorem MsgsAt.head {w : World} {ao : Option Addr} {l : List MsgD} (h : MsgsAt w ao l) (h1 : 1 ≤ l.length) : ∃ b o, ao = some ⟨b, o, none⟩ := by
  cases ao with
  | none => rw [h.1 rfl] at h1; simp at h1
  | some a =>
    obtain ⟨hs0, _⟩ := h.2 a rfl 0 l[0] (List.getElem?_eq_getElem (by omega))
    obtain ⟨b, o, s⟩ := a
    simp only at hs0
    subst hs0
    exact ⟨b, o, rfl⟩

section
variable {H : Type} {enc : TypeId × Value → H} {w W : World} {base : Nat} {spare : Nat → Bool} {held : Bool}
theorem trod_msgD {fuel : Nat} {cs : List Value} {x : DataW H × List MemPlace} (h : DataW.trod enc Try.prog w base spare held fuel 26 cs = some x) : ∃ d : MsgD, cs = d.cells ∧ d.Ok w := by
  obtain ⟨m, ao, cap, hc, h32, hM, _⟩ := trod_msg h
  exact ⟨⟨m, ao, cap⟩, hc, ⟨h32, hM⟩⟩
theorem open_msgs {fuel : Nat} {v : Value} {ao : Option Addr} {len cap : Nat} {x : DataW H × List MemPlace} (hv : v = .slice ao len cap) (h : DataW.trod enc Try.prog w base spare held fuel 60 v.cells.toList = some x) :
    ∃ l : List MsgD, l.length = len ∧ MsgsAt w ao l ∧ len ≤ cap ∧ cap ≤ maxLen := by
  subst hv
  rcases Deep.open_slice Try.underlying60 h with ⟨hcs, _⟩ | ⟨a, len', cap', m, n, D, Pl, hcs, hb, hl, hm, hmm, hx, hel⟩
  · simp [Value.cells] at hcs
    obtain ⟨rfl, rfl, rfl⟩ := hcs
    exact ⟨[], rfl, ⟨fun _ => rfl, fun a e => by simp at e⟩, Nat.le_refl _, Nat.zero_le _⟩
  · simp [Value.cells] at hcs
    obtain ⟨rfl, rfl, rfl⟩ := hcs
    have hlm : len ≤ m := by rw [hmm]; split <;> omega
    have hel' : ∀ i, i < m → ∃ cs', w.cells? base (a.add (i * 41)) 41 = some cs' ∧ DataW.trod enc Try.prog w base spare held n 26 cs' = some (D i, Pl i) := fun i hi => by
      obtain ⟨cs', hc, ht⟩ := hel i hi
      rw [cellsMsg] at hc
      exact ⟨cs', hc, ht⟩
    have hspot : 0 < len → a.spot = none := by
      intro h0
      obtain ⟨cs', hc, ht⟩ := hel' 0 (by omega)
      obtain ⟨_, hlen, hcell⟩ := World.cells?_some hc
      obtain ⟨d, rfl, hd⟩ := trod_msgD ht
      have h1 : w.cell? ((a.add 0).add 0) = some (.int .i64 d.m.kind) := hcell 0 (by omega)
      have hs0 := World.cell?_spot h1
      rw [Deep.add_add] at hs0
      unfold Addr.add at hs0
      simpa using hs0
    have hex : ∀ i, i < len → ∃ d : MsgD, a.spot = none ∧ d.Ok w ∧ w.rangeAt a.block (a.off + i * 41) d.cells := by
      intro i hi
      obtain ⟨cs', hc, ht⟩ := hel' i (by omega)
      obtain ⟨_, hlen, hcell⟩ := World.cells?_some hc
      obtain ⟨d, rfl, hd⟩ := trod_msgD ht
      have hsp := hspot (by omega)
      refine ⟨d, hsp, hd, fun j v hj => ?_⟩
      have hjl : j < 41 := by
        have := (List.getElem?_eq_some_iff.1 hj).1
        rw [hd.len] at this; exact this
      have := hcell j hjl
      rw [Deep.add_add, ad_add a hsp, hj, ← Nat.add_assoc] at this
      exact this
    obtain ⟨f, hf⟩ := Deep.choose_lt hex
    refine ⟨(List.range len).map f, by simp, ⟨fun e => by simp at e, fun a' e i o hi => ?_⟩, hl, hm⟩
    obtain rfl := Option.some.inj e
    rw [List.getElem?_map] at hi
    by_cases hlt : i < len
    · rw [List.getElem?_range hlt] at hi
      obtain rfl := Option.some.inj hi
      exact hf i hlt
    · rw [List.getElem?_eq_none (by simp; omega)] at hi
      cases hi
end
theorem infoMsg3 : (Try.prog.info? 26).map (fun i => (i.zero, i.size, i.bytes)) = some (some (.agg zeroC), 41, 144) := by kernel_rfl
/-- append of one message. -/
theorem wpList_appM (w : World) {ops : Array Oper} {rest : List Oper} {o : Oper} {a : Act} {Q : Exit → Act → World → Prop} (hgd : o.guard = none) (s x : Operand)
    (ho : o.op = .call { callee := .builtin .append, args := #[s, x], argTypes := #[60, 60] })
    (ao : Option Addr) (cap : Nat) (L : List MsgD) (n : Nat) (hn : L.length = n) (hsv : a.eval s = .slice ao n cap) (hown : OwnC w 26 41 ao cap (L.map MsgD.cells)) (g : Nat) (C : Array Value) (d : MsgD) {w0 : World} (hd : d.Ok w0) (hC : C = d.cells.toArray)
    (hx : a.eval x = .slice (some ⟨g, 0, none⟩) 1 1) (hg : Blk w g C 26) (hb : n ≤ 1000000000)
    (h : ∀ ao' cap' w', OwnC w' 26 41 ao' cap' ((L ++ [d]).map MsgD.cells) → Keeps (fun k => blockOf ao = some k) w w' → Moved w.heap.size ao ao' → wpList Try.prog ops Q rest (a.put o.dst (.slice ao' (n + 1) cap')) w') : wpList Try.prog ops Q (o :: rest) a w := by
  obtain ⟨i0, hi, hz0, hz1, hz2⟩ := info_parts3 infoMsg3
  refine wpList_appC w hgd s x 60 ho 26 i0 (.agg zeroC) 41 144 Try.underlying60 hi hz0 hz1 hz2 (by rfl) (by omega) ao cap (L.map MsgD.cells) n (by rw [List.length_map, hn]) hsv hown g C d.cells hC hd.len hd.one hx hg hb fun ao' cap' w' h1 h2 h3 => ?_
  exact h ao' cap' w' (by rw [List.map_append]; exact h1) h2 h3

end Go.Proofs.Yteifmkfkekglpaa
