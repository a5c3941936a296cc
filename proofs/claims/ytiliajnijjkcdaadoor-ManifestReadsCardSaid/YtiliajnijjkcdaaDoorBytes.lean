/- Rows of bytes: append, what is written and read of them, what a slice of bytes reads as. -/
import Derived.Test.YtiliajnijjkcdaaDoorFault
import Derived.Test.YtiliajnijjkcdaaDoorMem
import Derived.Lib.Hide
import Derived.Lib.Strings
import Derived.Laws.DeepStrings4
namespace Go.Proofs.YtiliajnijjkcdaaDoor
open Go.RowKit

theorem info8 : (Tryd.prog.info? 5).map (fun i => (i.zero, i.size, i.bytes)) = some (some (.int .u8 0), 1, 1) := by kernel_rfl

/-- append onto an owned row of bytes. -/
theorem wpList_app8 (w : World) {ops : Array Oper} {rest : List Oper} {o : Oper} {a : Act} {Q : Exit → Act → World → Prop} (hgd : o.guard = none) (s x : Operand) (tx : TypeId)
    (ho : o.op = .call { callee := .builtin .append, args := #[s, x], argTypes := #[59, tx] })
    (ao : Option Addr) (cap : Nat) (bs : List UInt8) (hsv : a.eval s = .slice ao bs.length cap) (hown : Own8 w 5 ao cap bs)
    (xv : Value) (hx : a.eval x = xv) (cs : List UInt8) (hs : Src Tryd.prog 1 tx xv cs.length (cs.map byteV) w) (hb : bs.length ≤ 1000000000000) (hc : cs.length ≤ 1000000000000)
    (h : ∀ ao' cap' w', Own8 w' 5 ao' cap' (bs ++ cs) → Keeps (fun k => blockOf ao = some k) w w' → Moved w.heap.size ao ao' → wpList Tryd.prog ops Q rest (a.put o.dst (.slice ao' (bs ++ cs).length cap')) w') : wpList Tryd.prog ops Q (o :: rest) a w := by
  obtain ⟨i0, hi, hz0, hz1, hz2⟩ := info_parts info8
  refine wpList_append_src w hgd s x 59 tx ho 5 i0 (.int .u8 0) 1 1 Tryd.underlying59 hi hz0 hz1 hz2 rfl ao bs.length cap (bs.map byteV) hsv hown xv cs.length (cs.map byteV) hx hs
    (by unfold maxLen; omega) (by omega) fun ao' cap' w' h1 h2 h3 => ?_
  rw [← List.length_append, ← List.map_append] at h1
  rw [← List.length_append]
  exact h ao' cap' w' h1 ((Keeps.refl _ _).grown h2 (fun k hk _ => hk)) h3

theorem step_app8 (w : World) {ops : Array Oper} {o : Oper} {a : Act} {K : Act → World → Prop} {Q : Exit → Act → World → Prop} {E : Prop} (hgd : o.guard = none) (s x : Operand) (tx : TypeId)
    (ho : o.op = .call { callee := .builtin .append, args := #[s, x], argTypes := #[59, tx] })
    (ao : Option Addr) (cap : Nat) (bs : List UInt8) (hsv : a.eval s = .slice ao bs.length cap) (hown : Own8 w 5 ao cap bs)
    (xv : Value) (hx : a.eval x = xv) (cs : List UInt8) (hs : Src Tryd.prog 1 tx xv cs.length (cs.map byteV) w) (hb : bs.length ≤ 1000000000000) (hc : cs.length ≤ 1000000000000)
    (h : ∀ ao' cap' w', Own8 w' 5 ao' cap' (bs ++ cs) → Keeps (fun k => blockOf ao = some k) w w' → Moved w.heap.size ao ao' → K (a.put o.dst (.slice ao' (bs ++ cs).length cap')) w') :
    if Region.wanted o (yielded ops a.tmps) = true then Oper.wp Tryd.prog o a w K Q else E := by
  obtain ⟨i0, hi, hz0, hz1, hz2⟩ := info_parts info8
  refine step_append_src w hgd s x 59 tx ho 5 i0 (.int .u8 0) 1 1 Tryd.underlying59 hi hz0 hz1 hz2 rfl ao bs.length cap (bs.map byteV) hsv hown xv cs.length (cs.map byteV) hx hs
    (by unfold maxLen; omega) (by omega) fun ao' cap' w' h1 h2 h3 => ?_
  rw [← List.length_append, ← List.map_append] at h1
  rw [← List.length_append]
  exact h ao' cap' w' h1 ((Keeps.refl _ _).grown h2 (fun k hk _ => hk)) h3

/-- One byte in a block that has just been laid. -/
theorem src_new (w : World) (b : UInt8) {u : Value} (hu : u = byteV b) : Src Tryd.prog 1 59 (.slice (some ⟨w.heap.size, 0, none⟩) 1 1) [b].length ([b].map byteV) (w.alloc (.cells #[u] 5)) := by
  subst hu
  refine Src.ofSlice _ Tryd.underlying59 ⟨w.heap.size, 0, none⟩ 1 1 _ rfl ?_ (byteV_one _)
  intro j u hj
  match j, hj with
  | 0, hj => simp at hj; subst hj; simp [Addr.add]

theorem own8_ne {w : World} {e : TypeId} {ao : Option Addr} {cap : Nat} {bs : List UInt8} (ho : Own8 w e ao cap bs) {p : Nat} {cs : Array Value} {t : TypeId} (hp : Blk w p cs t) (hne : e ≠ t) : blockOf ao ≠ some p := by
  have := own_ne ho hp hne
  rwa [ownBlock_eq] at this

def WrF (p : Nat) (ao : Option Addr) : Nat → Prop := fun k => k = p ∨ blockOf ao = some k

theorem wrF_back {B p : Nat} {ao ao1 : Option Addr} (hM : Moved B ao ao1) : ∀ i, WrF p ao1 i → i < B → WrF p ao i := by
  intro i hi hlt
  rcases hi with hi | hi
  · exact .inl hi
  · rcases hM with h | ⟨g, h, hg⟩
    · exact .inr (h ▸ hi)
    · rw [h] at hi; obtain rfl := Option.some.inj hi; omega

def bytesOf (s : ByteArray) : List UInt8 := s.data.toList

theorem bytesOf_length (s : ByteArray) : (bytesOf s).length = s.size := by unfold bytesOf; rw [Array.length_toList]; rfl

theorem byteCells_of (s : ByteArray) : byteCells s = (bytesOf s).map byteV := rfl

theorem src_string (w : World) (s : ByteArray) : Src Tryd.prog 1 9 (.string s) (bytesOf s).length ((bytesOf s).map byteV) w := by
  have := Src.ofString (P := Tryd.prog) w Tryd.underlying9 s
  rw [byteCells_of] at this
  rw [bytesOf_length]
  exact this

/-- A slice of new memory that holds bytes. -/
def NewBytes (w : World) (bs : List UInt8) (e : Ending) (w' : World) : Prop :=
  ∃ ao' cap', e = .returned (.slice ao' bs.length cap') ∧ Own8 w' 5 ao' cap' bs ∧ Keeps Nothing w w' ∧ (∀ g, blockOf ao' = some g → w.heap.size ≤ g)

theorem src_own {w : World} {ao : Option Addr} {cap : Nat} {bs : List UInt8} (h : Own8 w 5 ao cap bs) : Src Tryd.prog 1 59 (.slice ao bs.length cap) bs.length (bs.map byteV) w := by
  rcases h.2 with ⟨hv, hn⟩ | ⟨g, cap', cur, hv, _, hg, hnc, hcm, hcs, htake⟩
  · simp only [Value.slice.injEq] at hv
    obtain ⟨rfl, _, rfl⟩ := hv
    have : bs = [] := List.eq_nil_of_length_eq_zero hn
    subst this
    exact Src.ofNil _ Tryd.underlying59 0
  · have hv' := hv
    simp only [Value.slice.injEq] at hv
    obtain ⟨rfl, _, rfl⟩ := hv
    exact Src.ofSlice _ Tryd.underlying59 ⟨g, 0, none⟩ _ _ _ (by simp) (World.ownsRow.cells h rfl) (byteV_one _)

theorem own8_empty (w : World) : Own8 (w.alloc (.cells #[] 5)) 5 (some ⟨w.heap.size, 0, none⟩) 0 [] :=
  ⟨rfl, .inr ⟨w.heap.size, 0, #[], rfl, Nat.zero_le _, heap_alloc_new w _, Nat.zero_le _, Nat.zero_le _, rfl, rfl⟩⟩

/-- The bytes bs lie behind the address. -/
def BytesAt (w : World) (ao : Option Addr) (bs : List UInt8) : Prop := (ao = none → bs = []) ∧ ∀ a, ao = some a → ∀ j c, bs[j]? = some c → w.cell? (a.add j) = some (.int .u8 (c.toNat : Int))

theorem run_str (w : World) {ao : Option Addr} {l : Nat} (c : Nat) (bs : List UInt8) (hl : bs.length = l) (h : BytesAt w ao bs) :
    (convert 59 9 (.slice ao l c)).run Tryd.prog w = .ok (.string ⟨bs.toArray⟩) w := by
  subst hl
  cases ao with
  | none =>
    have hb := h.1 rfl
    subst hb
    exact run_convert_bytes_nil w 59 5 Tryd.underlying59 Tryd.underlying5 _ c 9 Tryd.underlying9
  | some a =>
    exact run_convert_bytes_back w 59 9 5 a c bs Tryd.underlying59 Tryd.underlying5 Tryd.underlying9 fun j hj => h.2 a rfl j _ (List.getElem?_eq_getElem hj)

theorem bytesAt_nil {w : World} (ao : Option Addr) : BytesAt w ao [] := ⟨fun _ => rfl, fun _ _ _ _ hj => by simp at hj⟩

theorem own8_at {w : World} {ao : Option Addr} {cap : Nat} {bs : List UInt8} (h : Own8 w 5 ao cap bs) : BytesAt w ao bs := by
  refine ⟨fun e => ?_, fun a e j c hj => ?_⟩
  · subst e
    rcases h.2 with ⟨_, hn⟩ | ⟨g, cap', cur, hv, _⟩
    · exact List.eq_nil_of_length_eq_zero hn
    · simp at hv
  · have hne : bs ≠ [] := by intro e'; subst e'; simp at hj
    obtain ⟨g, hg⟩ := own8_head h hne
    rw [hg] at e h
    obtain rfl := Option.some.inj e
    rw [Addr.add_lit, Nat.zero_add]
    exact own8_cell h hj

theorem own8_cap {w : World} {e : TypeId} {ao : Option Addr} {cap : Nat} {bs : List UInt8} (h : Own8 w e ao cap bs) : bs.length ≤ cap ∧ cap ≤ 9223372036854775807 := by
  rcases h.2 with ⟨hv, hn⟩ | ⟨g, cap', cur, hv, _, _, hnc, hcm, _⟩
  · simp only [Value.slice.injEq] at hv; omega
  · simp only [Value.slice.injEq] at hv
    unfold maxLen at hcm
    omega

theorem bytesAt_take {w : World} {g off : Nat} {bs : List UInt8} (h : BytesAt w (some ⟨g, off, none⟩) bs) (k v : Nat) : BytesAt w (some ⟨g, off + k, none⟩) ((bs.drop k).take v) := by
  refine ⟨fun e => by simp at e, fun a e j c hj => ?_⟩
  obtain rfl := Option.some.inj e
  rw [List.getElem?_take] at hj
  split at hj
  · rw [List.getElem?_drop] at hj
    have := h.2 _ rfl (k + j) c hj
    rw [Addr.add_lit] at this ⊢
    rwa [Nat.add_assoc]
  · cases hj

/-- The place that an error bears: none, if there is none. -/
def posOf (c k : Nat) : Int := if c = 0 then 0 else k

/-- An error alone. -/
def ErrPost (w : World) (code pos : Int) (e : Ending) (w' : World) : Prop := ∃ ev, e = .returned ev ∧ IsErr w.heap.size w' ev code pos ∧ Keeps Nothing w w'

theorem drop_cons {bs : List UInt8} {j : Nat} {c : UInt8} (h : bs[j]? = some c) : bs.drop j = c :: bs.drop (j + 1) := by
  obtain ⟨hlt, hc⟩ := List.getElem?_eq_some_iff.1 h
  rw [List.drop_eq_getElem_cons hlt, hc]

theorem IsErr.drewN {B : Nat} {w : World} {v : Value} {c p : Int} (h : IsErr B w v c p) (n : Nat) : IsErr B (w.drewN n) v c p := h

theorem IsErr.mono {B B' : Nat} {w : World} {v : Value} {c p : Int} (h : IsErr B w v c p) (hB : B' ≤ B) : IsErr B' w v c p := by
  rcases h with h | ⟨b, hb, h⟩
  · exact .inl h
  · exact .inr ⟨b, Nat.le_trans hB hb, h⟩

theorem Keeps.put {S : Nat → Prop} {a b : World} (h : Keeps S a b) {p : Nat} (hp : S p) (i : Nat) (u : Value) : Keeps S a (b.setCell ⟨p, i, none⟩ u) := h.setCell (fun _ => hp) u

theorem beq_one (n : Nat) : ((n : Int) == 1) = (n == 1) := by rw [Bool.eq_iff_iff]; simp; omega

theorem drop_head {bs : List UInt8} {k : Nat} {c : UInt8} (h : bs[k]? = some c) : bs.drop k = c :: bs.drop (k + 1) := drop_cons h

theorem src_at {w : World} {ao : Option Addr} (c : Nat) {bs : List UInt8} (h : BytesAt w ao bs) : Src Tryd.prog 1 59 (.slice ao bs.length c) bs.length (bs.map byteV) w := by
  cases ao with
  | none =>
    have hb := h.1 rfl
    subst hb
    exact Src.ofNil _ Tryd.underlying59 c
  | some a =>
    refine Src.ofSlice _ Tryd.underlying59 a _ _ _ (by simp) (fun j u hj => ?_) (byteV_one _)
    rw [List.getElem?_map] at hj
    obtain ⟨x, hx, rfl⟩ := Option.map_eq_some_iff.1 hj
    exact h.2 a rfl j x hx

theorem BytesAt.keeps {S : Nat → Prop} {w w' : World} {ao : Option Addr} {bs : List UInt8} (h : BytesAt w ao bs) (hK : Keeps S w w') (hS : ∀ b, blockOf ao = some b → ¬ S b) : BytesAt w' ao bs :=
  ⟨h.1, fun a e j c hj => hK.cell (h.2 a e j c hj) (by
    have : (a.add j).block = a.block := by unfold Addr.add; split <;> rfl
    rw [this]
    exact hS a.block (by rw [e]; rfl))⟩

theorem bytesAt_lit (w : World) (cs : List UInt8) (t : TypeId) : BytesAt (w.alloc (.cells (cs.map byteV).toArray t)) (some ⟨w.heap.size, 0, none⟩) cs := by
  refine ⟨fun e => by simp at e, fun a e j c hj => ?_⟩
  obtain rfl := Option.some.inj e
  rw [Addr.add_lit, Nat.zero_add, World.cell?_alloc_new]
  simp [hj, byteV]

theorem Moved.new {B B' : Nat} {a b : Option Addr} (h : Moved B' a b) (hB : B ≤ B') (ha : ∀ g, blockOf a = some g → B ≤ g) : ∀ g, blockOf b = some g → B ≤ g := by
  intro g hg
  rcases h with h | ⟨g', h, hg'⟩
  · exact ha g (h ▸ hg)
  · rw [h] at hg; obtain rfl := Option.some.inj hg; omega

/-- True, and nothing that was there has turned. -/
def SaysTrue (w : World) (e : Ending) (w' : World) : Prop := e = .returned (.bool true) ∧ Keeps Nothing w w'

theorem own8_take {w : World} {e : TypeId} {ao : Option Addr} {cap : Nat} {bs : List UInt8} (h : Own8 w e ao cap bs) (n : Nat) : Own8 w e ao cap (bs.take n) := by
  rcases h.2 with ⟨hv, hn⟩ | ⟨g, cap', cur, hv, hb, hg, hnc, hcm, hcs, htake⟩
  · simp only [Value.slice.injEq] at hv
    obtain ⟨rfl, hz, rfl⟩ := hv
    have hb : bs = [] := List.eq_nil_of_length_eq_zero hz
    subst hb
    rw [List.take_nil]
    exact h
  · simp only [Value.slice.injEq] at hv
    obtain ⟨rfl, _, rfl⟩ := hv
    refine ⟨by simp, .inr ⟨g, cap, cur, rfl, hb, hg, ?_, hcm, hcs, ?_⟩⟩
    · rw [List.length_take]; omega
    · rw [List.map_take, ← htake, List.take_take, List.length_take]
      congr 1
      omega

theorem bytesAt_lit2 (w : World) (cs : List UInt8) (t : TypeId) (r : Nat × Nat) : BytesAt (w.alloc (.cells (cs.map byteV).toArray t r)) (some ⟨w.heap.size, 0, none⟩) cs := by
  refine ⟨fun e => by simp at e, fun a e j c hj => ?_⟩
  obtain rfl := Option.some.inj e
  rw [Addr.add_lit, Nat.zero_add]
  have hb : (w.alloc (.cells (cs.map byteV).toArray t r)).heap[w.heap.size]? = some (.cells (cs.map byteV).toArray t r) := heap_alloc_new w _
  simp only [World.cell?]
  rw [hb]
  simp [hj, byteV]

/-- A text, and nothing that was there has turned. -/
def SaysText (w : World) (l : List UInt8) (e : Ending) (w' : World) : Prop := e = .returned (.string ⟨l.toArray⟩) ∧ Keeps Nothing w w'

theorem take_succ_snoc {h : List UInt8} {i : Nat} {c : UInt8} (hc : h[i]? = some c) : h.take (i + 1) = h.take i ++ [c] := by
  rw [List.take_add_one, hc]; rfl

/-- A byte of the caller's own row, turned. -/
theorem own8_store {w : World} {g cap : Nat} {bs : List UInt8} (h : Own8 w 5 (some ⟨g, 0, none⟩) cap bs) {j : Nat} (hj : j < bs.length) (c : UInt8) :
    (∃ v, w.cell? ⟨g, j, none⟩ = some v) ∧ w.frozen? ⟨g, j, none⟩ = false ∧ Own8 (w.setCell ⟨g, j, none⟩ (byteV c)) 5 (some ⟨g, 0, none⟩) cap (bs.set j c) ∧ Keeps (fun i => i = g) w (w.setCell ⟨g, j, none⟩ (byteV c)) := by
  refine ⟨⟨_, own8_cell h (List.getElem?_eq_getElem hj)⟩, World.ownsRow.frozenAt h j, ?_, Keeps.setCell (S := fun i => i = g) (Keeps.refl _ _) (fun _ => rfl) _⟩
  have := (World.ownsRow.stored h j (byteV c)).1
  unfold Own8
  rw [List.length_set, List.map_set]
  exact this

theorem text_eta (s : ByteArray) : (⟨(bytesOf s).toArray⟩ : ByteArray) = s := by
  unfold bytesOf
  cases s
  simp

theorem extract_eq (bs : List UInt8) (a n : Nat) : (ByteArray.extract ⟨bs.toArray⟩ a (a + n)) = (⟨((bs.drop a).take n).toArray⟩ : ByteArray) := by
  rw [← text_eta (ByteArray.extract ⟨bs.toArray⟩ a (a + n))]
  unfold bytesOf
  rw [Lib.extract_data, Nat.add_sub_cancel_left]

theorem cat_eq (a b : List UInt8) : Value.string (⟨a.toArray⟩ ++ ⟨b.toArray⟩) = .string ⟨(a ++ b).toArray⟩ := by
  rw [ByteArray.mk_append_mk]

end Go.Proofs.YtiliajnijjkcdaaDoor
