/- Rows of sums: owned, read, append, as arguments (gathered out of the texts on sums over many). -/
import Derived.Test.YteifmkfkekglpaaHash
import Derived.Test.YteifmkfkekglpaaMid
import Derived.Test.YteifmkfkekglpaaArgs
namespace Go.Proofs.Yteifmkfkekglpaa
open Go.RowKit

theorem ad_add (a : Addr) (h : a.spot = none) (i : Nat) : a.add i = ⟨a.block, a.off + i, none⟩ := by
  obtain ⟨b, o, s⟩ := a
  simp only at h
  subst h
  unfold Addr.add
  split
  · rename_i h; subst h; rfl
  · rfl
theorem Addr.add_mid' (b o i : Nat) : (⟨b, o, none⟩ : Addr).add i = ⟨b, o + i, none⟩ := by
  unfold Addr.add
  split
  · rename_i h; subst h; rfl
  · rfl
/-- A row of sums of its own. -/
abbrev OwnH (w : World) (ao : Option Addr) (cap : Nat) (hs : List (List UInt8)) : Prop := w.ownsRow 0 23 32 (.slice ao hs.length cap) hs.length (hs.flatMap (·.map byteV))
theorem infoH3 : (Try.prog.info? 23).map (fun i => (i.zero, i.size, i.bytes)) = some (some (hashV zeros32), 32, 32) := by kernel_rfl
theorem info_parts3 {α β γ : Type} {x : Option TypeInfo} {f : TypeInfo → α} {g : TypeInfo → β} {h : TypeInfo → γ} {a : α} {b : β} {c : γ} (e : x.map (fun i => (f i, g i, h i)) = some (a, b, c)) : ∃ i, x = some i ∧ f i = a ∧ g i = b ∧ h i = c := by
  cases x with
  | none => cases e
  | some i =>
    simp only [Option.map_some, Option.some.injEq, Prod.mk.injEq] at e
    exact ⟨i, rfl, e.1, e.2.1, e.2.2⟩
theorem wpList_appH (w : World) {ops : Array Oper} {rest : List Oper} {o : Oper} {a : Act} {Q : Exit → Act → World → Prop} (hgd : o.guard = none) (s x : Operand)
    (ho : o.op = .call { callee := .builtin .append, args := #[s, x], argTypes := #[24, 24] })
    (ao : Option Addr) (cap : Nat) (hs : List (List UInt8)) (n : Nat) (hn : hs.length = n) (hsv : a.eval s = .slice ao n cap) (hown : OwnH w ao cap hs) (g : Nat) (t : List UInt8) (ht : t.length = 32) {C : Array Value} (hC : C = (t.map byteV).toArray)
    (hx : a.eval x = .slice (some ⟨g, 0, none⟩) 1 1) (hg : Blk w g C 23) (hb : n ≤ 1000000000)
    (h : ∀ ao' cap' w', OwnH w' ao' cap' (hs ++ [t]) → Keeps (fun k => blockOf ao = some k) w w' → Moved w.heap.size ao ao' → wpList Try.prog ops Q rest (a.put o.dst (.slice ao' (n + 1) cap')) w') : wpList Try.prog ops Q (o :: rest) a w := by
  subst hn
  obtain ⟨i0, hi, hz0, hz1, hz2⟩ := info_parts3 infoH3
  have hsr : Src Try.prog 32 24 (.slice (some ⟨g, 0, none⟩) 1 1) 1 (t.map byteV) w := Src.ofSlice _ Try.underlying24 ⟨g, 0, none⟩ 1 1 _ (by simp [ht]) (fun j u hj => by
    rw [Addr.add_mid', Nat.zero_add]
    exact blk_cell hg j (by rw [hC]; simpa using hj)) (byteV_one t)
  refine wpList_append_src w hgd s x 24 24 ho 23 i0 (hashV zeros32) 32 32 Try.underlying24 hi hz0 hz1 hz2 (by rfl) ao hs.length cap (hs.flatMap (·.map byteV)) hsv hown _ 1 (t.map byteV) hx hsr
    (by unfold maxLen; omega) (by omega) fun ao' cap' w' h1 h2 h3 => ?_
  have e1 : hs.flatMap (·.map byteV) ++ t.map byteV = (hs ++ [t]).flatMap (·.map byteV) := by rw [List.flatMap_append]; simp
  have e2 : hs.length + 1 = (hs ++ [t]).length := by rw [List.length_append]; rfl
  refine h ao' cap' w' ?_ ((Keeps.refl _ _).grown h2 (fun k hk _ => hk)) h3
  rw [e1, e2] at h1
  exact h1
/-- A row of sums that was handed in. -/
def HashesAt (w : World) (ao : Option Addr) (hs : List (List UInt8)) : Prop :=
  (ao = none → hs = []) ∧ ∀ a, ao = some a → ∀ j h, hs[j]? = some h → a.spot = none ∧ h.length = 32 ∧ w.rangeAt a.block (a.off + j * 32) (h.map byteV)
theorem HashesAt.keepsN {w w' : World} {ao : Option Addr} {hs : List (List UInt8)} (h : HashesAt w ao hs) (k : Keeps Nothing w w') : HashesAt w' ao hs :=
  ⟨h.1, fun a e j x hx => ⟨(h.2 a e j x hx).1, (h.2 a e j x hx).2.1, rangeAt_keeps (h.2 a e j x hx).2.2 k (fun h => h)⟩⟩
theorem HashesAt.head {w : World} {ao : Option Addr} {hs : List (List UInt8)} (h : HashesAt w ao hs) (h1 : 1 ≤ hs.length) : ∃ b o, ao = some ⟨b, o, none⟩ := by
  cases ao with
  | none => rw [h.1 rfl] at h1; simp at h1
  | some a =>
    obtain ⟨hs0, _⟩ := h.2 a rfl 0 hs[0] (List.getElem?_eq_getElem (by omega))
    obtain ⟨b, o, s⟩ := a
    simp only at hs0
    subst hs0
    exact ⟨b, o, rfl⟩
theorem exec_mid_hash (ρ : Operand → Value) (dst : Option Tmp) (x : Operand) (ty' : TypeId) (pos : String) (af : Array Edge) (gd : Option (Nat × Bool)) (w : World) (h : midOkV w 32 (ρ x) = true) :
    (execOp ρ ⟨dst, .load 23 x, ty', pos, af, gd⟩).run Try.prog w = .ok (.value (.agg (midOfV w 32 (ρ x)))) w :=
  exec_load_mid _ 32 _ Try.underlying23 rfl infoHash ρ dst x ty' pos af gd w h
theorem ownH_at {w : World} {ao : Option Addr} {cap : Nat} {hs : List (List UInt8)} (h : OwnH w ao cap hs) (h32 : ∀ x ∈ hs, x.length = 32) : HashesAt w ao hs := by
  rcases h.2 with ⟨hv, hn⟩ | ⟨g, cap', cur, hv, _⟩
  · simp only [Value.slice.injEq] at hv
    obtain ⟨rfl, _, _⟩ := hv
    have : hs = [] := List.eq_nil_of_length_eq_zero hn
    subst this
    exact ⟨fun _ => rfl, fun a e => by cases e⟩
  · simp only [Value.slice.injEq] at hv
    obtain ⟨rfl, _, rfl⟩ := hv
    refine ⟨fun e => (by cases e), fun a e j x hx => ?_⟩
    obtain rfl := Option.some.inj e
    have hx32 := h32 x (List.mem_of_getElem? hx)
    refine ⟨rfl, hx32, fun t v hv => ?_⟩
    have hf : ∀ (l : List (List UInt8)) (j : Nat) (x : List UInt8), (∀ y ∈ l, y.length = 32) → l[j]? = some x → ∀ t v, (x.map byteV)[t]? = some v → (l.flatMap (·.map byteV))[j * 32 + t]? = some v := by
      intro l
      induction l with
      | nil => intro j x _ h; simp at h
      | cons y l ih =>
        intro j x hall hj t v ht
        rw [List.flatMap_cons]
        have hy : (y.map byteV).length = 32 := by rw [List.length_map]; exact hall y (by simp)
        cases j with
        | zero =>
          obtain rfl : y = x := by simpa using hj
          have htl : t < (y.map byteV).length := (List.getElem?_eq_some_iff.1 ht).1
          rw [Nat.zero_mul, Nat.zero_add, List.getElem?_append_left htl]
          exact ht
        | succ j =>
          rw [List.getElem?_append_right (by rw [hy]; omega), hy, show (j + 1) * 32 + t - 32 = j * 32 + t by omega]
          exact ih j x (fun z hz => hall z (List.mem_cons_of_mem _ hz)) (by simpa using hj) t v ht
    have hc := World.ownsRow.cells h (g := g) rfl (j * 32 + t) v (hf hs j x h32 hx t v hv)
    rw [Addr.add_mid', Nat.zero_add] at hc
    show w.cell? ⟨g, 0 + j * 32 + t, none⟩ = some v
    rw [Nat.zero_add]
    exact hc
theorem ownH_cap {w : World} {ao : Option Addr} {cap : Nat} {hs : List (List UInt8)} (h : OwnH w ao cap hs) : hs.length ≤ cap ∧ cap ≤ maxLen := by
  rcases h.2 with ⟨hv, hn⟩ | ⟨g, cap', cur, hv, _, _, h1, h2, _⟩
  · simp only [Value.slice.injEq] at hv
    obtain ⟨_, _, rfl⟩ := hv
    exact ⟨by omega, Nat.zero_le _⟩
  · simp only [Value.slice.injEq] at hv
    obtain ⟨_, _, rfl⟩ := hv
    exact ⟨h1, h2⟩

end Go.Proofs.Yteifmkfkekglpaa

namespace Go.Proofs.Yteifmkfkekglpaa
open Go.RowKit Go.ChangeShapes Go.WideShapes

section
variable {H : Type} {enc : TypeId × Value → H} {w W : World} {base : Nat} {spare : Nat → Bool} {held : Bool}
theorem cellsH5 : Try.prog.cellsOf 23 = 32 := by kernel_rfl
theorem open_hashes {fuel : Nat} {cs : List Value} {x : DataW H × List MemPlace} (h : DataW.trod enc Try.prog w base spare held fuel 24 cs = some x) :
    ∃ (ao : Option Addr) (len cap : Nat) (hs : List (List UInt8)), cs = [.slice ao len cap] ∧ hs.length = len ∧ HashesAt w ao hs ∧ len ≤ cap ∧ cap ≤ maxLen := by
  rcases Deep.open_slice Try.underlying24 h with ⟨hcs, _⟩ | ⟨a, len, cap, m, n, D, Pl, hcs, hb, hl, hm, hmm, hx, hel⟩
  · exact ⟨none, 0, 0, [], hcs, rfl, ⟨fun _ => rfl, fun a e => (by cases e)⟩, Nat.le_refl _, Nat.zero_le _⟩
  · have hlm : len ≤ m := by rw [hmm]; split <;> omega
    have hel' : ∀ i, i < m → ∃ cs', w.cells? base (a.add (i * 32)) 32 = some cs' ∧ DataW.trod enc Try.prog w base spare held n 23 cs' = some (D i, Pl i) := fun i hi => by
      obtain ⟨cs', hc, ht⟩ := hel i hi
      rw [cellsH5] at hc
      exact ⟨cs', hc, ht⟩
    have hspot : 0 < len → a.spot = none := by
      intro h0
      obtain ⟨cs', hc, ht⟩ := hel' 0 (by omega)
      obtain ⟨_, hlen, hcell⟩ := World.cells?_some hc
      obtain ⟨bs, hbl, rfl⟩ := trod_bytes Try.underlying23 Try.underlying5 cells8 cellsH5 ht
      have h1 : w.cell? ((a.add 0).add 0) = some (byteV (bs[0]'(by omega))) := (hcell 0 (by omega)).trans (by rw [List.getElem?_map, List.getElem?_eq_getElem (by omega)]; rfl)
      have hs0 := World.cell?_spot h1
      rw [Deep.add_add] at hs0
      unfold Addr.add at hs0
      simpa using hs0
    have hex : ∀ i, i < len → ∃ o : List UInt8, a.spot = none ∧ o.length = 32 ∧ w.rangeAt a.block (a.off + i * 32) (o.map byteV) := by
      intro i hi
      obtain ⟨cs', hc, ht⟩ := hel' i (by omega)
      obtain ⟨_, hlen, hcell⟩ := World.cells?_some hc
      obtain ⟨bs, hbl, rfl⟩ := trod_bytes Try.underlying23 Try.underlying5 cells8 cellsH5 ht
      have hsp := hspot (by omega)
      refine ⟨bs, hsp, hbl, fun j v hj => ?_⟩
      have hjl : j < 32 := by
        have := (List.getElem?_eq_some_iff.1 hj).1
        rw [List.length_map] at this; omega
      have := hcell j hjl
      rw [Deep.add_add, ad_add a hsp, hj, ← Nat.add_assoc] at this
      exact this
    have : Inhabited (List UInt8) := ⟨[]⟩
    obtain ⟨f, hf⟩ := Deep.choose_lt hex
    refine ⟨some a, len, cap, (List.range len).map f, hcs, by simp, ⟨fun e => (by cases e), fun a' e i o hi => ?_⟩, hl, hm⟩
    obtain rfl := Option.some.inj e
    rw [List.getElem?_map] at hi
    by_cases hlt : i < len
    · rw [List.getElem?_range hlt] at hi
      obtain rfl := Option.some.inj hi
      exact hf i hlt
    · rw [List.getElem?_eq_none (by simp; omega)] at hi
      cases hi
end

end Go.Proofs.Yteifmkfkekglpaa
