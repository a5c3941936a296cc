/- Towards usufructref3.Sum: plain facts. -/
import Derived.Test.YtdmfomjgmmkaeaaSha14
namespace Go.Proofs.Ytdmfomjgmmkaeaa
open Go.RowKit

/-- The first bytes of a word. -/
def partW (cs : List UInt8) (t : Nat) : Nat → Nat
  | 0 => 0
  | j + 1 => partW cs t j * 256 + (cs.getD (4 * t + j) 0).toNat
theorem partW_four (cs : List UInt8) (t : Nat) : partW cs t 4 = word4 cs t := by
  unfold word4
  simp only [partW]
  rw [Nat.add_zero]
  omega
theorem partW_lt (cs : List UInt8) (t : Nat) : ∀ j, j < 4 → partW cs t j < 16777216
  | 0, _ => by simp only [partW]; omega
  | 1, _ => by simp only [partW]; have h0 := (cs.getD (4 * t + 0) 0).toNat_lt; omega
  | 2, _ => by simp only [partW]; have h0 := (cs.getD (4 * t + 0) 0).toNat_lt; have h1 := (cs.getD (4 * t + 1) 0).toNat_lt; omega
  | 3, _ => by simp only [partW]; have h0 := (cs.getD (4 * t + 0) 0).toNat_lt; have h1 := (cs.getD (4 * t + 1) 0).toNat_lt; have h2 := (cs.getD (4 * t + 2) 0).toNat_lt; omega
  | j + 4, h => by omega
theorem part_bits (p : Nat) (c : UInt8) (hp : p < 16777216) : bits .or .u32 (IntKind.u32.wrap ((p : Int) * 256)) (IntKind.u32.wrap (c.toNat : Int)) = ((p * 256 + c.toNat : Nat) : Int) := by
  have hc := c.toNat_lt
  generalize c.toNat = c at *
  rw [show IntKind.u32.wrap ((p : Int) * 256) = ((p * 256 : Nat) : Int) by rw [IntKind.wrap_u32]; omega, show IntKind.u32.wrap (c : Int) = ((c : Nat) : Int) by rw [IntKind.wrap_u32]; omega]
  rw [u32_or_nat _ _ (by omega) (by omega), nat_join 8 _ _ (by omega) (by omega)]
theorem rowW_pad {n : Nat} {l : List Nat} (h : l.length < n) : rowW n (l ++ [0]) = rowW n l := by
  unfold rowW
  rw [List.append_assoc]
  congr 3
  rw [List.length_append, List.length_singleton]
  obtain ⟨m, hm⟩ : ∃ m, n - l.length = m + 1 := ⟨n - l.length - 1, by omega⟩
  rw [hm, show n - (l.length + 1) = m by omega, List.replicate_succ]
  rfl
theorem rowW_put {n : Nat} {l : List Nat} (h : l.length < n) (a v : Nat) : (rowW n (l ++ [a])).setIfInBounds l.length (u32V v) = rowW n (l ++ [v]) := by
  rw [← rowW_set h a, ← rowW_set h v]
  apply Array.ext_getElem?
  intro i
  rw [Array.getElem?_setIfInBounds, Array.getElem?_setIfInBounds, Array.getElem?_setIfInBounds, Array.size_setIfInBounds]
  by_cases e : l.length = i
  · rw [if_pos e, if_pos e]
  · rw [if_neg e, if_neg e, if_neg e]
theorem words16_snoc (cs : List UInt8) {t : Nat} (ht : t < 16) : (words16 cs).take (t + 1) = (words16 cs).take t ++ [word4 cs t] := by
  unfold words16
  rw [List.take_add_one, List.getElem?_map, List.getElem?_range ht]
  rfl

theorem rowW_last {n : Nat} {l : List Nat} (p : Nat) : (rowW n (l ++ [p]))[l.length]? = some (u32V p) := by
  rw [rowW_get (by simp)]
  simp [at0, List.getD]
theorem sched_step (n : Nat) (l : List Nat) : sched (n + 1) l = sched n (l ++ [nextW l]) := by rw [sched]
theorem sched_zero (l : List Nat) : sched 0 l = l := by rw [sched]
theorem rounds_step (ks ws : List Nat) (n : Nat) (s : St) : rounds64 ks ws (n + 1) s = rounds64 ks ws n (s.next (at0 ks (63 - n)) (at0 ws (63 - n))) := by rw [rounds64]
theorem rounds_zero (ks ws : List Nat) (s : St) : rounds64 ks ws 0 s = s := by rw [rounds64]
theorem blockOf64_eq (ks : List Nat) (bs : List UInt8) (s : St) : blockOf64 ks bs s = s.add (rounds64 ks (sched 48 (words16 bs)) 64 s) := by rw [blockOf64]

/-- A padded row of bytes being made. -/
structure RP (w0 w : World) (H : Nat) (ao : Option Addr) (cap : Nat) (P : List UInt8) : Prop where
  h : Blk w H (zeros32.map byteV).toArray 25
  own : Own8 w 5 ao cap P
  fresh : ∀ g, blockOf ao = some g → w0.heap.size ≤ g
  keep : Keeps Nothing w0 w
  hn : w0.heap.size ≤ H
theorem RP.app {w0 w wa w1 : World} {H : Nat} {ao ao' : Option Addr} {cap cap' : Nat} {P P' : List UInt8} (h : RP w0 w H ao cap P) (ka : Keeps Nothing w wa) (ho : Own8 w1 5 ao' cap' P') (k : Keeps (fun k => blockOf ao = some k) wa w1) {B : Nat} (m : Moved B ao ao') (hB : w.heap.size ≤ B) :
    RP w0 w1 H ao' cap' P' := by
  have oa := ka.own h.own (fun _ _ h => h)
  exact ⟨k.blk (ka.blk h.h (fun h => h)) (own8_ne oa (ka.blk h.h (fun h => h)) (by decide)), ho, m.new (by have := h.keep.size; omega) h.fresh,
    (h.keep.trans ka (fun _ h _ => h)).trans k (fun i hi hlt => by have := h.fresh i hi; omega), h.hn⟩
theorem ShaP.turn {w0 w w' : World} {H K V : Nat} {s t : St} {ao : Option Addr} {cap : Nat} {P : List UInt8} (h : ShaP w0 w H K V s ao cap P) (k : Keeps (fun i => i = V) w w') (hv : Blk w' V t.val 65) : ShaP w0 w' H K V t ao cap P :=
  ⟨⟨k.blk h.sha.h h.sha.hv, k.blk h.sha.k h.sha.kv, hv, h.sha.keep.trans k (fun i hi hlt => by have := h.sha.vn; omega), h.sha.hn, h.sha.kn, h.sha.vn, h.sha.hk, h.sha.hv, h.sha.kv⟩,
    k.own h.own (fun g hg h2 => own8_ne h.own h.sha.v (by decide) (show blockOf ao = some V from by cases ao with | none => cases hg | some a => rw [← h2]; exact hg)), h.fresh⟩

end Go.Proofs.Ytdmfomjgmmkaeaa
