/- A message's cells, turned field by field; the empty message. -/
import Derived.Test.YteifmkfkekglpaaNet4
import Derived.Test.YteifmkfkekglpaaMidS
namespace Go.Proofs.Yteifmkfkekglpaa
open Go.RowKit

theorem set_get {C : Array Value} (hs : C.size = 41) (i j : Nat) (hi : i < 41) (v : Value) : (C.setIfInBounds i v)[j]? = if i = j then some v else C[j]? := by
  rw [Array.getElem?_setIfInBounds]
  by_cases h : i = j
  · subst h; rw [if_pos rfl, if_pos rfl, if_pos (by omega)]
  · rw [if_neg h, if_neg h]
theorem set_one {C : Array Value} (h : C.all (·.oneCell') = true) (i : Nat) {v : Value} (hv : v.oneCell' = true) : (C.setIfInBounds i v).all (·.oneCell') = true := by
  rw [Array.all_eq_true_iff_forall_mem] at *
  intro u hu
  rcases Array.mem_or_eq_of_mem_setIfInBounds hu with hu | rfl
  · exact h u hu
  · exact hv
theorem MsgC.setKind {C : Array Value} {m : MsgT} {ao : Option Addr} {cap : Nat} (h : MsgC C m ao cap) (z : Int) : MsgC (C.setIfInBounds 0 (.int .i64 z)) { m with kind := z } ao cap :=
  ⟨by rw [Array.size_setIfInBounds]; exact h.size, set_one h.one 0 rfl, by rw [set_get h.size 0 0 (by decide)]; rfl, by rw [set_get h.size 0 1 (by decide)]; exact h.c1, by rw [set_get h.size 0 2 (by decide)]; exact h.c2, by rw [set_get h.size 0 3 (by decide)]; exact h.c3, by rw [set_get h.size 0 4 (by decide)]; exact h.c4, by rw [set_get h.size 0 5 (by decide)]; exact h.c5, h.h32, fun j v hj => by
    have hlt : j < 32 := by have := (List.getElem?_eq_some_iff.1 hj).1; rw [List.length_map, h.h32] at this; exact this
    rw [set_get h.size 0 (6 + j) (by decide), if_neg (by omega)]; exact h.ch j v hj, by rw [set_get h.size 0 38 (by decide)]; exact h.c38, by rw [set_get h.size 0 39 (by decide)]; exact h.c39, by rw [set_get h.size 0 40 (by decide)]; exact h.c40⟩
theorem MsgC.setFrm {C : Array Value} {m : MsgT} {ao : Option Addr} {cap : Nat} (h : MsgC C m ao cap) (z : Int) : MsgC (C.setIfInBounds 1 (.int .i64 z)) { m with frm := z } ao cap :=
  ⟨by rw [Array.size_setIfInBounds]; exact h.size, set_one h.one 1 rfl, by rw [set_get h.size 1 0 (by decide)]; exact h.c0, by rw [set_get h.size 1 1 (by decide)]; rfl, by rw [set_get h.size 1 2 (by decide)]; exact h.c2, by rw [set_get h.size 1 3 (by decide)]; exact h.c3, by rw [set_get h.size 1 4 (by decide)]; exact h.c4, by rw [set_get h.size 1 5 (by decide)]; exact h.c5, h.h32, fun j v hj => by
    have hlt : j < 32 := by have := (List.getElem?_eq_some_iff.1 hj).1; rw [List.length_map, h.h32] at this; exact this
    rw [set_get h.size 1 (6 + j) (by decide), if_neg (by omega)]; exact h.ch j v hj, by rw [set_get h.size 1 38 (by decide)]; exact h.c38, by rw [set_get h.size 1 39 (by decide)]; exact h.c39, by rw [set_get h.size 1 40 (by decide)]; exact h.c40⟩
theorem MsgC.setTo {C : Array Value} {m : MsgT} {ao : Option Addr} {cap : Nat} (h : MsgC C m ao cap) (z : Int) : MsgC (C.setIfInBounds 2 (.int .i64 z)) ⟨m.kind, m.frm, z, m.crate, m.epoch, m.name, m.hash, m.hashes, m.blob, m.sig⟩ ao cap :=
  ⟨by rw [Array.size_setIfInBounds]; exact h.size, set_one h.one 2 rfl, by rw [set_get h.size 2 0 (by decide)]; exact h.c0, by rw [set_get h.size 2 1 (by decide)]; exact h.c1, by rw [set_get h.size 2 2 (by decide)]; rfl, by rw [set_get h.size 2 3 (by decide)]; exact h.c3, by rw [set_get h.size 2 4 (by decide)]; exact h.c4, by rw [set_get h.size 2 5 (by decide)]; exact h.c5, h.h32, fun j v hj => by
    have hlt : j < 32 := by have := (List.getElem?_eq_some_iff.1 hj).1; rw [List.length_map, h.h32] at this; exact this
    rw [set_get h.size 2 (6 + j) (by decide), if_neg (by omega)]; exact h.ch j v hj, by rw [set_get h.size 2 38 (by decide)]; exact h.c38, by rw [set_get h.size 2 39 (by decide)]; exact h.c39, by rw [set_get h.size 2 40 (by decide)]; exact h.c40⟩
theorem MsgC.setCrate {C : Array Value} {m : MsgT} {ao : Option Addr} {cap : Nat} (h : MsgC C m ao cap) (z : Int) : MsgC (C.setIfInBounds 3 (.int .i64 z)) { m with crate := z } ao cap :=
  ⟨by rw [Array.size_setIfInBounds]; exact h.size, set_one h.one 3 rfl, by rw [set_get h.size 3 0 (by decide)]; exact h.c0, by rw [set_get h.size 3 1 (by decide)]; exact h.c1, by rw [set_get h.size 3 2 (by decide)]; exact h.c2, by rw [set_get h.size 3 3 (by decide)]; rfl, by rw [set_get h.size 3 4 (by decide)]; exact h.c4, by rw [set_get h.size 3 5 (by decide)]; exact h.c5, h.h32, fun j v hj => by
    have hlt : j < 32 := by have := (List.getElem?_eq_some_iff.1 hj).1; rw [List.length_map, h.h32] at this; exact this
    rw [set_get h.size 3 (6 + j) (by decide), if_neg (by omega)]; exact h.ch j v hj, by rw [set_get h.size 3 38 (by decide)]; exact h.c38, by rw [set_get h.size 3 39 (by decide)]; exact h.c39, by rw [set_get h.size 3 40 (by decide)]; exact h.c40⟩
theorem MsgC.setEpoch {C : Array Value} {m : MsgT} {ao : Option Addr} {cap : Nat} (h : MsgC C m ao cap) (z : Int) : MsgC (C.setIfInBounds 4 (.int .i64 z)) { m with epoch := z } ao cap :=
  ⟨by rw [Array.size_setIfInBounds]; exact h.size, set_one h.one 4 rfl, by rw [set_get h.size 4 0 (by decide)]; exact h.c0, by rw [set_get h.size 4 1 (by decide)]; exact h.c1, by rw [set_get h.size 4 2 (by decide)]; exact h.c2, by rw [set_get h.size 4 3 (by decide)]; exact h.c3, by rw [set_get h.size 4 4 (by decide)]; rfl, by rw [set_get h.size 4 5 (by decide)]; exact h.c5, h.h32, fun j v hj => by
    have hlt : j < 32 := by have := (List.getElem?_eq_some_iff.1 hj).1; rw [List.length_map, h.h32] at this; exact this
    rw [set_get h.size 4 (6 + j) (by decide), if_neg (by omega)]; exact h.ch j v hj, by rw [set_get h.size 4 38 (by decide)]; exact h.c38, by rw [set_get h.size 4 39 (by decide)]; exact h.c39, by rw [set_get h.size 4 40 (by decide)]; exact h.c40⟩
theorem MsgC.setName {C : Array Value} {m : MsgT} {ao : Option Addr} {cap : Nat} (h : MsgC C m ao cap) (z : List UInt8) : MsgC (C.setIfInBounds 5 (.string ⟨z.toArray⟩)) { m with name := z } ao cap :=
  ⟨by rw [Array.size_setIfInBounds]; exact h.size, set_one h.one 5 rfl, by rw [set_get h.size 5 0 (by decide)]; exact h.c0, by rw [set_get h.size 5 1 (by decide)]; exact h.c1, by rw [set_get h.size 5 2 (by decide)]; exact h.c2, by rw [set_get h.size 5 3 (by decide)]; exact h.c3, by rw [set_get h.size 5 4 (by decide)]; exact h.c4, by rw [set_get h.size 5 5 (by decide)]; rfl, h.h32, fun j v hj => by
    have hlt : j < 32 := by have := (List.getElem?_eq_some_iff.1 hj).1; rw [List.length_map, h.h32] at this; exact this
    rw [set_get h.size 5 (6 + j) (by decide), if_neg (by omega)]; exact h.ch j v hj, by rw [set_get h.size 5 38 (by decide)]; exact h.c38, by rw [set_get h.size 5 39 (by decide)]; exact h.c39, by rw [set_get h.size 5 40 (by decide)]; exact h.c40⟩
theorem MsgC.setHashes {C : Array Value} {m : MsgT} {ao : Option Addr} {cap : Nat} (h : MsgC C m ao cap) (z : List (List UInt8)) (ao2 : Option Addr) (cap2 : Nat) : MsgC (C.setIfInBounds 38 (.slice ao2 z.length cap2)) { m with hashes := z } ao2 cap2 :=
  ⟨by rw [Array.size_setIfInBounds]; exact h.size, set_one h.one 38 rfl, by rw [set_get h.size 38 0 (by decide)]; exact h.c0, by rw [set_get h.size 38 1 (by decide)]; exact h.c1, by rw [set_get h.size 38 2 (by decide)]; exact h.c2, by rw [set_get h.size 38 3 (by decide)]; exact h.c3, by rw [set_get h.size 38 4 (by decide)]; exact h.c4, by rw [set_get h.size 38 5 (by decide)]; exact h.c5, h.h32, fun j v hj => by
    have hlt : j < 32 := by have := (List.getElem?_eq_some_iff.1 hj).1; rw [List.length_map, h.h32] at this; exact this
    rw [set_get h.size 38 (6 + j) (by decide), if_neg (by omega)]; exact h.ch j v hj, by rw [set_get h.size 38 38 (by decide)]; rfl, by rw [set_get h.size 38 39 (by decide)]; exact h.c39, by rw [set_get h.size 38 40 (by decide)]; exact h.c40⟩
theorem MsgC.setBlob {C : Array Value} {m : MsgT} {ao : Option Addr} {cap : Nat} (h : MsgC C m ao cap) (z : List UInt8) : MsgC (C.setIfInBounds 39 (.string ⟨z.toArray⟩)) { m with blob := z } ao cap :=
  ⟨by rw [Array.size_setIfInBounds]; exact h.size, set_one h.one 39 rfl, by rw [set_get h.size 39 0 (by decide)]; exact h.c0, by rw [set_get h.size 39 1 (by decide)]; exact h.c1, by rw [set_get h.size 39 2 (by decide)]; exact h.c2, by rw [set_get h.size 39 3 (by decide)]; exact h.c3, by rw [set_get h.size 39 4 (by decide)]; exact h.c4, by rw [set_get h.size 39 5 (by decide)]; exact h.c5, h.h32, fun j v hj => by
    have hlt : j < 32 := by have := (List.getElem?_eq_some_iff.1 hj).1; rw [List.length_map, h.h32] at this; exact this
    rw [set_get h.size 39 (6 + j) (by decide), if_neg (by omega)]; exact h.ch j v hj, by rw [set_get h.size 39 38 (by decide)]; exact h.c38, by rw [set_get h.size 39 39 (by decide)]; rfl, by rw [set_get h.size 39 40 (by decide)]; exact h.c40⟩
theorem MsgC.setSig {C : Array Value} {m : MsgT} {ao : Option Addr} {cap : Nat} (h : MsgC C m ao cap) (z : List UInt8) : MsgC (C.setIfInBounds 40 (.string ⟨z.toArray⟩)) { m with sig := z } ao cap :=
  ⟨by rw [Array.size_setIfInBounds]; exact h.size, set_one h.one 40 rfl, by rw [set_get h.size 40 0 (by decide)]; exact h.c0, by rw [set_get h.size 40 1 (by decide)]; exact h.c1, by rw [set_get h.size 40 2 (by decide)]; exact h.c2, by rw [set_get h.size 40 3 (by decide)]; exact h.c3, by rw [set_get h.size 40 4 (by decide)]; exact h.c4, by rw [set_get h.size 40 5 (by decide)]; exact h.c5, h.h32, fun j v hj => by
    have hlt : j < 32 := by have := (List.getElem?_eq_some_iff.1 hj).1; rw [List.length_map, h.h32] at this; exact this
    rw [set_get h.size 40 (6 + j) (by decide), if_neg (by omega)]; exact h.ch j v hj, by rw [set_get h.size 40 38 (by decide)]; exact h.c38, by rw [set_get h.size 40 39 (by decide)]; exact h.c39, by rw [set_get h.size 40 40 (by decide)]; rfl⟩
theorem MsgC.setHash {C : Array Value} {m : MsgT} {ao : Option Addr} {cap : Nat} (h : MsgC C m ao cap) (z : List UInt8) (hz : z.length = 32) : MsgC (midCs C (z.map byteV).toArray 6) { m with hash := z } ao cap := by
  have hH : (z.map byteV).toArray.size = 32 := by simp [hz]
  have hf : 6 + (z.map byteV).toArray.size ≤ C.size := by rw [hH, h.size]; decide
  refine ⟨by rw [midCs_size hf]; exact h.size, midCs_one h.one (bytes_all _), ?_, ?_, ?_, ?_, ?_, ?_, hz, fun j v hj => ?_, ?_, ?_, ?_⟩
  · rw [midCs_low hf (by decide)]; exact h.c0
  · rw [midCs_low hf (by decide)]; exact h.c1
  · rw [midCs_low hf (by decide)]; exact h.c2
  · rw [midCs_low hf (by decide)]; exact h.c3
  · rw [midCs_low hf (by decide)]; exact h.c4
  · rw [midCs_low hf (by decide)]; exact h.c5
  · have hlt := (List.getElem?_eq_some_iff.1 hj).1
    rw [midCs_mid hf (by simpa using hlt)]
    simpa using hj
  · rw [midCs_high hf (by omega)]; exact h.c38
  · rw [midCs_high hf (by omega)]; exact h.c39
  · rw [midCs_high hf (by omega)]; exact h.c40

def zeroM : MsgT := ⟨0, 0, 0, 0, 0, [], zeros32, [], [], []⟩
def zeroC : Array Value := #[.int .i64 0, .int .i64 0, .int .i64 0, .int .i64 0, .int .i64 0, .string ⟨#[]⟩] ++ (zeros32.map byteV).toArray ++ #[.slice none 0 0, .string ⟨#[]⟩, .string ⟨#[]⟩]
theorem zeroC_lit : zeroC = #[.int .i64 0, .int .i64 0, .int .i64 0, .int .i64 0, .int .i64 0, .string ⟨#[]⟩, .int .u8 0, .int .u8 0, .int .u8 0, .int .u8 0, .int .u8 0, .int .u8 0, .int .u8 0, .int .u8 0, .int .u8 0, .int .u8 0, .int .u8 0, .int .u8 0, .int .u8 0, .int .u8 0, .int .u8 0, .int .u8 0, .int .u8 0, .int .u8 0, .int .u8 0, .int .u8 0, .int .u8 0, .int .u8 0, .int .u8 0, .int .u8 0, .int .u8 0, .int .u8 0, .int .u8 0, .int .u8 0, .int .u8 0, .int .u8 0, .int .u8 0, .int .u8 0, .slice none 0 0, .string ⟨#[]⟩, .string ⟨#[]⟩] := rfl
theorem zeroC_is : MsgC zeroC zeroM none 0 :=
  ⟨rfl, by rw [zeroC_lit]; simp [Value.oneCell'], rfl, rfl, rfl, rfl, rfl, rfl, rfl, fun j v hj => by
    have hlt := (List.getElem?_eq_some_iff.1 hj).1
    have h32 : ((zeroM.hash.map byteV)).length = 32 := rfl
    rw [h32] at hlt
    unfold zeroC
    rw [Array.append_assoc, Array.getElem?_append_right (by show 6 ≤ 6 + j; omega)]
    show ((zeros32.map byteV).toArray ++ _)[6 + j - 6]? = _
    rw [Nat.add_sub_cancel_left, Array.getElem?_append_left (by show j < 32; exact hlt)]
    have e : zeroM.hash = zeros32 := rfl
    rw [e] at hj
    simpa using hj, rfl, rfl, rfl⟩
def MsgP (w : World) (g : Nat) (m : MsgT) (ao : Option Addr) (cap : Nat) : Prop := ∃ C, Blk w g C 26 ∧ MsgC C m ao cap
theorem MsgP.keeps {S : Nat → Prop} {w w' : World} {g : Nat} {m : MsgT} {ao : Option Addr} {cap : Nat} (h : MsgP w g m ao cap) (k : Keeps S w w') (hg : ¬ S g) : MsgP w' g m ao cap := by
  obtain ⟨C, hB, hC⟩ := h
  exact ⟨C, k.blk hB hg, hC⟩

end Go.Proofs.Yteifmkfkekglpaa
