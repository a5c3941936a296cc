/- Rows of bytes: append, what is written and read of them, what a slice of bytes reads as. -/
import Derived.Test.YtjbcagbnagefcaaFault
import Derived.Test.YtjbcagbnagefcaaMem
import Derived.Lib.Hide
import Derived.Lib.Strings
import Derived.Laws.DeepStrings4
namespace Go.Proofs.Ytjbcagbnagefcaa
open Go.RowKit

theorem info8 : (Try.prog.info? 5).map (fun i => (i.zero, i.size, i.bytes)) = some (some (.int .u8 0), 1, 1) := by kernel_rfl

theorem own8_ne {w : World} {e : TypeId} {ao : Option Addr} {cap : Nat} {bs : List UInt8} (ho : Own8 w e ao cap bs) {p : Nat} {cs : Array Value} {t : TypeId} (hp : Blk w p cs t) (hne : e ≠ t) : blockOf ao ≠ some p := by
  have := own_ne ho hp hne
  rwa [ownBlock_eq] at this

def WrF (p : Nat) (ao : Option Addr) : Nat → Prop := fun k => k = p ∨ blockOf ao = some k

theorem wrF_back {B p : Nat} {ao ao1 : Option Addr} (hM : Moved B ao ao1) : ∀ i, WrF p ao1 i → i < B → WrF p ao i := by
  intro i hi hlt
  rcases hi with hi | hi
  · exact .inl hi
  · rcases hM with h | ⟨g, h, hg⟩
    · exact .inr (h ▸ hi)
    · rw [h] at hi; obtain rfl := Option.some.inj hi; omega

def bytesOf (s : ByteArray) : List UInt8 := s.data.toList

theorem bytesOf_length (s : ByteArray) : (bytesOf s).length = s.size := by unfold bytesOf; rw [Array.length_toList]; rfl

theorem byteCells_of (s : ByteArray) : byteCells s = (bytesOf s).map byteV := rfl

theorem src_string (w : World) (s : ByteArray) : Src Try.prog 1 9 (.string s) (bytesOf s).length ((bytesOf s).map byteV) w := by
  have := Src.ofString (P := Try.prog) w Try.underlying9 s
  rw [byteCells_of] at this
  rw [bytesOf_length]
  exact this

/-- A slice of new memory that holds bytes. -/
def NewBytes (w : World) (bs : List UInt8) (e : Ending) (w' : World) : Prop :=
  ∃ ao' cap', e = .returned (.slice ao' bs.length cap') ∧ Own8 w' 5 ao' cap' bs ∧ Keeps Nothing w w' ∧ (∀ g, blockOf ao' = some g → w.heap.size ≤ g)

theorem own8_empty (w : World) : Own8 (w.alloc (.cells #[] 5)) 5 (some ⟨w.heap.size, 0, none⟩) 0 [] :=
  ⟨rfl, .inr ⟨w.heap.size, 0, #[], rfl, Nat.zero_le _, heap_alloc_new w _, Nat.zero_le _, Nat.zero_le _, rfl, rfl⟩⟩

/-- The bytes bs lie behind the address. -/
def BytesAt (w : World) (ao : Option Addr) (bs : List UInt8) : Prop := (ao = none → bs = []) ∧ ∀ a, ao = some a → ∀ j c, bs[j]? = some c → w.cell? (a.add j) = some (.int .u8 (c.toNat : Int))

theorem bytesAt_nil {w : World} (ao : Option Addr) : BytesAt w ao [] := ⟨fun _ => rfl, fun _ _ _ _ hj => by simp at hj⟩

theorem own8_at {w : World} {ao : Option Addr} {cap : Nat} {bs : List UInt8} (h : Own8 w 5 ao cap bs) : BytesAt w ao bs := by
  refine ⟨fun e => ?_, fun a e j c hj => ?_⟩
  · subst e
    rcases h.2 with ⟨_, hn⟩ | ⟨g, cap', cur, hv, _⟩
    · exact List.eq_nil_of_length_eq_zero hn
    · simp at hv
  · have hne : bs ≠ [] := by intro e'; subst e'; simp at hj
    obtain ⟨g, hg⟩ := own8_head h hne
    rw [hg] at e h
    obtain rfl := Option.some.inj e
    rw [Addr.add_lit, Nat.zero_add]
    exact own8_cell h hj

theorem own8_cap {w : World} {e : TypeId} {ao : Option Addr} {cap : Nat} {bs : List UInt8} (h : Own8 w e ao cap bs) : bs.length ≤ cap ∧ cap ≤ 9223372036854775807 := by
  rcases h.2 with ⟨hv, hn⟩ | ⟨g, cap', cur, hv, _, _, hnc, hcm, _⟩
  · simp only [Value.slice.injEq] at hv; omega
  · simp only [Value.slice.injEq] at hv
    unfold maxLen at hcm
    omega

theorem bytesAt_take {w : World} {g off : Nat} {bs : List UInt8} (h : BytesAt w (some ⟨g, off, none⟩) bs) (k v : Nat) : BytesAt w (some ⟨g, off + k, none⟩) ((bs.drop k).take v) := by
  refine ⟨fun e => by simp at e, fun a e j c hj => ?_⟩
  obtain rfl := Option.some.inj e
  rw [List.getElem?_take] at hj
  split at hj
  · rw [List.getElem?_drop] at hj
    have := h.2 _ rfl (k + j) c hj
    rw [Addr.add_lit] at this ⊢
    rwa [Nat.add_assoc]
  · cases hj

/-- The place that an error bears: none, if there is none. -/
def posOf (c k : Nat) : Int := if c = 0 then 0 else k

theorem drop_cons {bs : List UInt8} {j : Nat} {c : UInt8} (h : bs[j]? = some c) : bs.drop j = c :: bs.drop (j + 1) := by
  obtain ⟨hlt, hc⟩ := List.getElem?_eq_some_iff.1 h
  rw [List.drop_eq_getElem_cons hlt, hc]

theorem Keeps.put {S : Nat → Prop} {a b : World} (h : Keeps S a b) {p : Nat} (hp : S p) (i : Nat) (u : Value) : Keeps S a (b.setCell ⟨p, i, none⟩ u) := h.setCell (fun _ => hp) u

theorem beq_one (n : Nat) : ((n : Int) == 1) = (n == 1) := by rw [Bool.eq_iff_iff]; simp; omega

theorem drop_head {bs : List UInt8} {k : Nat} {c : UInt8} (h : bs[k]? = some c) : bs.drop k = c :: bs.drop (k + 1) := drop_cons h

theorem BytesAt.keeps {S : Nat → Prop} {w w' : World} {ao : Option Addr} {bs : List UInt8} (h : BytesAt w ao bs) (hK : Keeps S w w') (hS : ∀ b, blockOf ao = some b → ¬ S b) : BytesAt w' ao bs :=
  ⟨h.1, fun a e j c hj => hK.cell (h.2 a e j c hj) (by
    have : (a.add j).block = a.block := by unfold Addr.add; split <;> rfl
    rw [this]
    exact hS a.block (by rw [e]; rfl))⟩

theorem bytesAt_lit (w : World) (cs : List UInt8) (t : TypeId) : BytesAt (w.alloc (.cells (cs.map byteV).toArray t)) (some ⟨w.heap.size, 0, none⟩) cs := by
  refine ⟨fun e => by simp at e, fun a e j c hj => ?_⟩
  obtain rfl := Option.some.inj e
  rw [Addr.add_lit, Nat.zero_add, World.cell?_alloc_new]
  simp [hj, byteV]

theorem Moved.new {B B' : Nat} {a b : Option Addr} (h : Moved B' a b) (hB : B ≤ B') (ha : ∀ g, blockOf a = some g → B ≤ g) : ∀ g, blockOf b = some g → B ≤ g := by
  intro g hg
  rcases h with h | ⟨g', h, hg'⟩
  · exact ha g (h ▸ hg)
  · rw [h] at hg; obtain rfl := Option.some.inj hg; omega

/-- True, and nothing that was there has turned. -/
def SaysTrue (w : World) (e : Ending) (w' : World) : Prop := e = .returned (.bool true) ∧ Keeps Nothing w w'

theorem own8_take {w : World} {e : TypeId} {ao : Option Addr} {cap : Nat} {bs : List UInt8} (h : Own8 w e ao cap bs) (n : Nat) : Own8 w e ao cap (bs.take n) := by
  rcases h.2 with ⟨hv, hn⟩ | ⟨g, cap', cur, hv, hb, hg, hnc, hcm, hcs, htake⟩
  · simp only [Value.slice.injEq] at hv
    obtain ⟨rfl, hz, rfl⟩ := hv
    have hb : bs = [] := List.eq_nil_of_length_eq_zero hz
    subst hb
    rw [List.take_nil]
    exact h
  · simp only [Value.slice.injEq] at hv
    obtain ⟨rfl, _, rfl⟩ := hv
    refine ⟨by simp, .inr ⟨g, cap, cur, rfl, hb, hg, ?_, hcm, hcs, ?_⟩⟩
    · rw [List.length_take]; omega
    · rw [List.map_take, ← htake, List.take_take, List.length_take]
      congr 1
      omega

theorem bytesAt_lit2 (w : World) (cs : List UInt8) (t : TypeId) (r : Nat × Nat) : BytesAt (w.alloc (.cells (cs.map byteV).toArray t r)) (some ⟨w.heap.size, 0, none⟩) cs := by
  refine ⟨fun e => by simp at e, fun a e j c hj => ?_⟩
  obtain rfl := Option.some.inj e
  rw [Addr.add_lit, Nat.zero_add]
  have hb : (w.alloc (.cells (cs.map byteV).toArray t r)).heap[w.heap.size]? = some (.cells (cs.map byteV).toArray t r) := heap_alloc_new w _
  simp only [World.cell?]
  rw [hb]
  simp [hj, byteV]

/-- A text, and nothing that was there has turned. -/
def SaysText (w : World) (l : List UInt8) (e : Ending) (w' : World) : Prop := e = .returned (.string ⟨l.toArray⟩) ∧ Keeps Nothing w w'

theorem take_succ_snoc {h : List UInt8} {i : Nat} {c : UInt8} (hc : h[i]? = some c) : h.take (i + 1) = h.take i ++ [c] := by
  rw [List.take_add_one, hc]; rfl

/-- A byte of the caller's own row, turned. -/
theorem own8_store {w : World} {g cap : Nat} {bs : List UInt8} (h : Own8 w 5 (some ⟨g, 0, none⟩) cap bs) {j : Nat} (hj : j < bs.length) (c : UInt8) :
    (∃ v, w.cell? ⟨g, j, none⟩ = some v) ∧ w.frozen? ⟨g, j, none⟩ = false ∧ Own8 (w.setCell ⟨g, j, none⟩ (byteV c)) 5 (some ⟨g, 0, none⟩) cap (bs.set j c) ∧ Keeps (fun i => i = g) w (w.setCell ⟨g, j, none⟩ (byteV c)) := by
  refine ⟨⟨_, own8_cell h (List.getElem?_eq_getElem hj)⟩, World.ownsRow.frozenAt h j, ?_, Keeps.setCell (S := fun i => i = g) (Keeps.refl _ _) (fun _ => rfl) _⟩
  have := (World.ownsRow.stored h j (byteV c)).1
  unfold Own8
  rw [List.length_set, List.map_set]
  exact this

theorem text_eta (s : ByteArray) : (⟨(bytesOf s).toArray⟩ : ByteArray) = s := by
  unfold bytesOf
  cases s
  simp

theorem extract_eq (bs : List UInt8) (a n : Nat) : (ByteArray.extract ⟨bs.toArray⟩ a (a + n)) = (⟨((bs.drop a).take n).toArray⟩ : ByteArray) := by
  rw [← text_eta (ByteArray.extract ⟨bs.toArray⟩ a (a + n))]
  unfold bytesOf
  rw [Lib.extract_data, Nat.add_sub_cancel_left]

theorem cat_eq (a b : List UInt8) : Value.string (⟨a.toArray⟩ ++ ⟨b.toArray⟩) = .string ⟨(a ++ b).toArray⟩ := by
  rw [ByteArray.mk_append_mk]

end Go.Proofs.Ytjbcagbnagefcaa
