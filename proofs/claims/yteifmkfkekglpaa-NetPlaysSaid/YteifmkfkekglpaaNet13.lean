/- Messages as arguments. -/
import Derived.Test.YteifmkfkekglpaaNet7
import Derived.Deep.Strs
namespace Go.Proofs.Yteifmkfkekglpaa
open Go.RowKit Go.ChangeShapes Go.WideShapes

def msgCells (m : MsgT) (ao : Option Addr) (cap : Nat) : List Value := [.int .i64 m.kind, .int .i64 m.frm, .int .i64 m.to, .int .i64 m.crate, .int .i64 m.epoch, .string ⟨m.name.toArray⟩] ++ m.hash.map byteV ++ [.slice ao m.hashes.length cap, .string ⟨m.blob.toArray⟩, .string ⟨m.sig.toArray⟩]
theorem msgCells_len (m : MsgT) (ao : Option Addr) (cap : Nat) (h32 : m.hash.length = 32) : (msgCells m ao cap).length = 41 := by
  unfold msgCells
  simp [h32]
theorem msgCells_is (m : MsgT) (ao : Option Addr) (cap : Nat) (h32 : m.hash.length = 32) : MsgC (msgCells m ao cap).toArray m ao cap := by
  have hl := msgCells_len m ao cap h32
  have hm : (m.hash.map byteV).length = 32 := by rw [List.length_map]; exact h32
  have hlo : ∀ j v, ([.int .i64 m.kind, .int .i64 m.frm, .int .i64 m.to, .int .i64 m.crate, .int .i64 m.epoch, .string ⟨m.name.toArray⟩] : List Value)[j]? = some v → (msgCells m ao cap).toArray[j]? = some v := fun j v hj => by
    have := (List.getElem?_eq_some_iff.1 hj).1
    unfold msgCells
    rw [List.getElem?_toArray, List.append_assoc, List.getElem?_append_left this]
    exact hj
  have hhi : ∀ j v, ([.slice ao m.hashes.length cap, .string ⟨m.blob.toArray⟩, .string ⟨m.sig.toArray⟩] : List Value)[j]? = some v → (msgCells m ao cap).toArray[38 + j]? = some v := fun j v hj => by
    unfold msgCells
    rw [List.getElem?_toArray, List.getElem?_append_right (by simp [h32])]
    simp only [List.length_append, List.length_cons, List.length_nil, hm]
    rw [show 38 + j - (0 + 1 + 1 + 1 + 1 + 1 + 1 + 32) = j by omega]
    exact hj
  refine ⟨by simpa using hl, ?_, hlo 0 _ rfl, hlo 1 _ rfl, hlo 2 _ rfl, hlo 3 _ rfl, hlo 4 _ rfl, hlo 5 _ rfl, h32, fun j v hj => ?_, hhi 0 _ rfl, hhi 1 _ rfl, hhi 2 _ rfl⟩
  · rw [List.all_toArray, List.all_eq_true]
    intro v hv
    unfold msgCells at hv
    rcases List.mem_append.1 hv with hv | hv
    · rcases List.mem_append.1 hv with hv | hv
      · simp only [List.mem_cons, List.not_mem_nil, or_false] at hv
        rcases hv with rfl | rfl | rfl | rfl | rfl | rfl <;> rfl
      · exact byteV_one _ v hv
    · simp only [List.mem_cons, List.not_mem_nil, or_false] at hv
      rcases hv with rfl | rfl | rfl <;> rfl
  · have := (List.getElem?_eq_some_iff.1 hj).1
    unfold msgCells
    rw [List.getElem?_toArray, List.getElem?_append_left (by simp only [List.length_append, List.length_cons, List.length_nil, hm]; omega), List.getElem?_append_right (by simp)]
    simp only [List.length_cons, List.length_nil]
    rw [show 6 + j - (0 + 1 + 1 + 1 + 1 + 1 + 1) = j by omega]
    exact hj

section
variable {H : Type} {enc : TypeId × Value → H} {w W : World} {base : Nat} {spare : Nat → Bool} {held : Bool}
theorem cellsInt9 : Try.prog.cellsOf 3 = 1 := by kernel_rfl
theorem cellsStr9 : Try.prog.cellsOf 9 = 1 := by kernel_rfl
theorem cellsHs9 : Try.prog.cellsOf 24 = 1 := by kernel_rfl
theorem cellsMsg : Try.prog.cellsOf 26 = 41 := by kernel_rfl
theorem trod_msg {fuel : Nat} {cs : List Value} {x : DataW H × List MemPlace} (h : DataW.trod enc Try.prog w base spare held fuel 26 cs = some x) :
    ∃ (m : MsgT) (ao : Option Addr) (cap : Nat), cs = msgCells m ao cap ∧ m.hash.length = 32 ∧ MsgAt w m ao cap ∧ m.name.length ≤ maxLen ∧ m.blob.length ≤ maxLen ∧ m.sig.length ≤ maxLen := by
  obtain ⟨xs, n, rfl, rfl, hlen, hxs, hf⟩ := DataW.trod_struct Try.underlying26 h
  rw [cellsMsg] at hlen
  have hx : xs.length = 10 := hxs
  have g : ∀ i (hi : i < 10), xs[i]? = some (xs[i]'(by omega)) := fun i hi => List.getElem?_eq_getElem (by omega)
  have f0 : DataW.trod enc Try.prog w base spare held n 3 ((cs.drop 0).take 1) = some (xs[0]'(by omega)) := by
    have h := (hf 0 _ rfl).trans (g 0 (by omega))
    exact (cellsInt9 ▸ h : _)
  have f1 : DataW.trod enc Try.prog w base spare held n 3 ((cs.drop 1).take 1) = some (xs[1]'(by omega)) := by
    have h := (hf 1 _ rfl).trans (g 1 (by omega))
    exact (cellsInt9 ▸ h : _)
  have f2 : DataW.trod enc Try.prog w base spare held n 3 ((cs.drop 2).take 1) = some (xs[2]'(by omega)) := by
    have h := (hf 2 _ rfl).trans (g 2 (by omega))
    exact (cellsInt9 ▸ h : _)
  have f3 : DataW.trod enc Try.prog w base spare held n 3 ((cs.drop 3).take 1) = some (xs[3]'(by omega)) := by
    have h := (hf 3 _ rfl).trans (g 3 (by omega))
    exact (cellsInt9 ▸ h : _)
  have f4 : DataW.trod enc Try.prog w base spare held n 3 ((cs.drop 4).take 1) = some (xs[4]'(by omega)) := by
    have h := (hf 4 _ rfl).trans (g 4 (by omega))
    exact (cellsInt9 ▸ h : _)
  have f5 : DataW.trod enc Try.prog w base spare held n 9 ((cs.drop 5).take 1) = some (xs[5]'(by omega)) := by
    have h := (hf 5 _ rfl).trans (g 5 (by omega))
    exact (cellsStr9 ▸ h : _)
  have f6 : DataW.trod enc Try.prog w base spare held n 23 ((cs.drop 6).take 32) = some (xs[6]'(by omega)) := by
    have h := (hf 6 _ rfl).trans (g 6 (by omega))
    exact (cellsH5 ▸ h : _)
  have f7 : DataW.trod enc Try.prog w base spare held n 24 ((cs.drop 38).take 1) = some (xs[7]'(by omega)) := by
    have h := (hf 7 _ rfl).trans (g 7 (by omega))
    exact (cellsHs9 ▸ h : _)
  have f8 : DataW.trod enc Try.prog w base spare held n 9 ((cs.drop 39).take 1) = some (xs[8]'(by omega)) := by
    have h := (hf 8 _ rfl).trans (g 8 (by omega))
    exact (cellsStr9 ▸ h : _)
  have f9 : DataW.trod enc Try.prog w base spare held n 9 ((cs.drop 40).take 1) = some (xs[9]'(by omega)) := by
    have h := (hf 9 _ rfl).trans (g 9 (by omega))
    exact (cellsStr9 ▸ h : _)
  obtain ⟨kd, e0, _, w0⟩ := DataW.trod_int Try.underlying3 f0
  obtain ⟨fr, e1, _, w1⟩ := DataW.trod_int Try.underlying3 f1
  obtain ⟨tt, e2, _, w2⟩ := DataW.trod_int Try.underlying3 f2
  obtain ⟨cr, e3, _, w3⟩ := DataW.trod_int Try.underlying3 f3
  obtain ⟨ep, e4, _, w4⟩ := DataW.trod_int Try.underlying3 f4
  obtain ⟨nm, e5, _, ws5⟩ := DataW.trod_string Try.underlying9 f5
  obtain ⟨hb, hbl, e6⟩ := trod_bytes Try.underlying23 Try.underlying5 cells8 cellsH5 f6
  obtain ⟨ao, len, cap, hs, e7, h1, h2, h3, h4⟩ := open_hashes f7
  obtain ⟨bl, e8, _, ws8⟩ := DataW.trod_string Try.underlying9 f8
  obtain ⟨sg, e9, _, ws9⟩ := DataW.trod_string Try.underlying9 f9
  have b0 := bounds_i64 w0
  have b1 := bounds_i64 w1
  have b2 := bounds_i64 w2
  have b3 := bounds_i64 w3
  have b4 := bounds_i64 w4
  have hh32 : ∀ h ∈ hs, h.length = 32 := fun h hh => by
    obtain ⟨j, hj⟩ := List.getElem?_of_mem hh
    cases ao with
    | none => rw [h2.1 rfl] at hj; simp at hj
    | some a => exact (h2.2 a rfl j h hj).2.1
  refine ⟨⟨kd, fr, tt, cr, ep, bytesOf nm, hb, hs, bytesOf bl, bytesOf sg⟩, ao, cap, ?_, hbl, ⟨b0.1, ?_, b1.1, ?_, b2.1, ?_, b3.1, ?_, b4.1, ?_, h2, hh32, ?_, h4⟩, ?_, ?_, ?_⟩
  · have d38 : cs.drop 38 = [.slice ao len cap, .string bl, .string sg] := by
      rw [take1 e7, take1 e8, take1 e9, List.drop_eq_nil_of_le (by omega)]
    have d6 : cs.drop 6 = hb.map byteV ++ cs.drop 38 := by
      rw [← e6, show cs.drop 38 = (cs.drop 6).drop 32 by rw [List.drop_drop], List.take_append_drop]
    have := take1 e0
    rw [take1 e1, take1 e2, take1 e3, take1 e4, take1 e5, d6, d38, List.drop_zero] at this
    rw [this]
    unfold msgCells
    simp only [text_eta, h1, List.cons_append, List.nil_append]
  · show kd < _; omega
  · show fr < _; omega
  · show tt < _; omega
  · show cr < _; omega
  · show ep < _; omega
  · show hs.length ≤ cap; omega
  · show (bytesOf nm).length ≤ _; rw [bytesOf_length]; exact ws5
  · show (bytesOf bl).length ≤ _; rw [bytesOf_length]; exact ws8
  · show (bytesOf sg).length ≤ _; rw [bytesOf_length]; exact ws9
set_option maxRecDepth 100000 in
theorem open_msg {r : Reach} {b0 : Nat} {v : Value} {d : DataW H} {ps : List MemPlace} (hval : Value.okWide Try.prog W r b0 26 v) (h : DataW.Trod enc Try.prog w base spare held 26 v d ps) :
    ∃ (m : MsgT) (C : Array Value) (ao : Option Addr) (cap : Nat), v = .agg C ∧ MsgC C m ao cap ∧ MsgAt w m ao cap ∧ m.name.length ≤ maxLen ∧ m.blob.length ≤ maxLen ∧ m.sig.length ≤ maxLen := by
  obtain ⟨cs, rfl, hsz⟩ := okWide_struct Try.underlying26 hval
  obtain ⟨fuel, hf⟩ := h
  obtain ⟨m, ao, cap, hc, h32, hM, h1, h2, h3⟩ := trod_msg hf
  refine ⟨m, cs, ao, cap, rfl, ?_, hM, h1, h2, h3⟩
  have : cs = (msgCells m ao cap).toArray := by
    apply Array.ext'
    rw [← hc]
    rfl
  rw [this]
  exact msgCells_is m ao cap h32
end

end Go.Proofs.Yteifmkfkekglpaa
