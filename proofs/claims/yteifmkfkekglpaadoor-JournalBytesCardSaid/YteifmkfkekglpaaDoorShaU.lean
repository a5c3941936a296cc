/- Two sums that the document tells. sha.Hex. sha.digit, sha.Less. sha.Parse. usufructlaw3.told. Plain laws of the sums' texts. The order of strings in the model is the order of their bytes. usufructref3.Less, usufructref3.Hex. usufructref3.Parse. Towards usufructref3.Sum: plain facts. -/
import Derived.Test.YteifmkfkekglpaaDoorSha5
import Derived.Lib.SlBytesConst
import Derived.Laws.Strings2
import Derived.BigQuiet
import Derived.Deep.QuietTactic
namespace Go.Proofs.YteifmkfkekglpaaDoor
open Go.RowKit

set_option maxRecDepth 100000 in
theorem sha_nil : shaOf [] = [0xe3, 0xb0, 0xc4, 0x42, 0x98, 0xfc, 0x1c, 0x14, 0x9a, 0xfb, 0xf4, 0xc8, 0x99, 0x6f, 0xb9, 0x24, 0x27, 0xae, 0x41, 0xe4, 0x64, 0x9b, 0x93, 0x4c, 0xa4, 0x95, 0x99, 0x1b, 0x78, 0x52, 0xb8, 0x55] := by decide +kernel
set_option maxRecDepth 100000 in
theorem sha_abc : shaOf [97, 98, 99] = [0xba, 0x78, 0x16, 0xbf, 0x8f, 0x01, 0xcf, 0xea, 0x41, 0x41, 0x40, 0xde, 0x5d, 0xae, 0x22, 0x23, 0xb0, 0x03, 0x61, 0xa3, 0x96, 0x17, 0x7a, 0x9c, 0xb4, 0x10, 0xff, 0x61, 0xf2, 0x00, 0x15, 0xad] := by decide +kernel

end Go.Proofs.YteifmkfkekglpaaDoor

namespace Go.Proofs.YteifmkfkekglpaaDoor
open Go.RowKit

attribute [local go_sem ↓] exec_load_hash exec_store_hash
attribute [local go_sem] rowOk_new World.setRow_alloc_new rowOk_new2 setRow_new2

def hexD (n : Nat) : UInt8 := if n < 10 then UInt8.ofNat (48 + n) else UInt8.ofNat (87 + n)
def hexC (c : UInt8) : List UInt8 := [hexD (c.toNat / 16), hexD (c.toNat % 16)]
def hexOf (h : List UInt8) : List UInt8 := h.flatMap hexC
theorem hexOf_snoc (l : List UInt8) (c : UInt8) : hexOf (l ++ [c]) = hexOf l ++ hexC c := by
  unfold hexOf; rw [List.flatMap_append]; simp
theorem hexOf_len (l : List UInt8) : (hexOf l).length = 2 * l.length := by
  induction l with
  | nil => rfl
  | cons c l ih => show (hexC c ++ hexOf l).length = _; rw [List.length_append, ih, List.length_cons]; show 2 + _ = _; omega

theorem bits_15 (c : UInt8) : bits BinOp.and IntKind.u8 (c.toNat : Int) 15 = (c.toNat : Int) % 16 := by
  have h : ∀ n : Nat, n < 256 → bits BinOp.and IntKind.u8 (n : Int) 15 = (n : Int) % 16 := by decide +kernel
  exact h c.toNat c.toNat_lt
/-- A digit out of the row of digits. -/
theorem dig_at (k : IntKind) (n : Nat) (hn : n < 16) (W : World) : (Instr.index 9 (.string ⟨#[48, 49, 50, 51, 52, 53, 54, 55, 56, 57, 97, 98, 99, 100, 101, 102]⟩) (.int k (n : Int))).run Tryd.prog W = .ok (byteV (hexD n)) W := by
  rcases (by omega : n = 0 ∨ n = 1 ∨ n = 2 ∨ n = 3 ∨ n = 4 ∨ n = 5 ∨ n = 6 ∨ n = 7 ∨ n = 8 ∨ n = 9 ∨ n = 10 ∨ n = 11 ∨ n = 12 ∨ n = 13 ∨ n = 14 ∨ n = 15) with rfl | rfl | rfl | rfl | rfl | rfl | rfl | rfl | rfl | rfl | rfl | rfl | rfl | rfl | rfl | rfl
  all_goals (rw [run_index_string W _ _ _ _ Tryd.underlying9]; rfl)
theorem dig_hi (k : IntKind) (c : UInt8) (W : World) : (Instr.index 9 (.string ⟨#[48, 49, 50, 51, 52, 53, 54, 55, 56, 57, 97, 98, 99, 100, 101, 102]⟩) (.int k ((c.toNat : Int) / 16))).run Tryd.prog W = .ok (.int .u8 ((hexD (c.toNat / 16)).toNat : Int)) W := by
  have h := c.toNat_lt
  have := dig_at k (c.toNat / 16) (by omega) W
  rw [show ((c.toNat / 16 : Nat) : Int) = (c.toNat : Int) / 16 by simp] at this
  exact this
theorem dig_lo (k : IntKind) (c : UInt8) (W : World) : (Instr.index 9 (.string ⟨#[48, 49, 50, 51, 52, 53, 54, 55, 56, 57, 97, 98, 99, 100, 101, 102]⟩) (.int k ((c.toNat : Int) % 16))).run Tryd.prog W = .ok (.int .u8 ((hexD (c.toNat % 16)).toNat : Int)) W := by
  have := dig_at k (c.toNat % 16) (by omega) W
  rw [show ((c.toNat % 16 : Nat) : Int) = (c.toNat : Int) % 16 by simp] at this
  exact this

theorem own8_nil (w : World) : Own8 w 5 none 0 [] := World.ownsRow_nil w _ _ _
theorem src_two (w : World) (b c : UInt8) {u v : Value} (hu : u = byteV b) (hv : v = byteV c) : Src Tryd.prog 1 25 (.slice (some ⟨w.heap.size, 0, none⟩) 2 2) [b, c].length ([b, c].map byteV) (w.alloc (.cells #[u, v] 5)) := by
  subst hu hv
  refine Src.ofSlice _ Tryd.underlying25 ⟨w.heap.size, 0, none⟩ 2 2 _ rfl ?_ (byteV_one _)
  intro j u hj
  match j, hj with
  | 0, hj => simp at hj; subst hj; simp [Addr.add]
  | 1, hj => simp at hj; subst hj; simp [Addr.add]
theorem idx_hash (W : World) {Y : Array Value} {t : Nat} {c : UInt8} (hY : Y[t]? = some (byteV c)) (ht : t < 32) (k : IntKind) : (Instr.index 70 (.agg Y) (.int k (t : Int))).run Tryd.prog W = .ok (byteV c) W := by
  have h8 : (sizeOf 5).run Tryd.prog W = .ok 1 W := by kernel_rfl
  simp [Instr.index, run_underlying Tryd.underlying70, asIntOf, ht, hY, h8, go_sem]

end Go.Proofs.YteifmkfkekglpaaDoor

namespace Go.Proofs.YteifmkfkekglpaaDoor
open Go.RowKit

/-- What a digit stands for. -/
def digF (c : UInt8) : Option UInt8 := if 48 ≤ c.toNat ∧ c.toNat ≤ 57 then some (UInt8.ofNat (c.toNat - 48)) else if 97 ≤ c.toNat ∧ c.toNat ≤ 102 then some (UInt8.ofNat (c.toNat - 87)) else none
/-- A row of bytes below another one. -/
def ltL : List UInt8 → List UInt8 → Bool
  | a :: l, b :: m => if a = b then ltL l m else decide (a.toNat < b.toNat)
  | _, _ => false

attribute [local go_sem ↓] exec_load_hash exec_store_hash
attribute [local go_sem] rowOk_new World.setRow_alloc_new rowOk_new2 setRow_new2

end Go.Proofs.YteifmkfkekglpaaDoor

namespace Go.Proofs.YteifmkfkekglpaaDoor
open Go.RowKit

/-- What the digit at a place stands for. -/
def dv (s : List UInt8) (j : Nat) : Nat := ((digF (s.getD j 0)).getD 0).toNat
/-- The sum after so many digits. -/
def packTo (s : List UInt8) (t : Nat) : List UInt8 := (List.range 32).map fun i => if 2 * i + 1 < t then UInt8.ofNat (dv s (2 * i) * 16 + dv s (2 * i + 1)) else if 2 * i < t then UInt8.ofNat (dv s (2 * i)) else 0
/-- Where the first one lies that is no digit. -/
def badAt (t : Nat) : List UInt8 → Option Nat
  | [] => none
  | c :: l => if (digF c).isSome then badAt (t + 1) l else some t
def parseF (s : List UInt8) : Nat × Nat × List UInt8 :=
  match badAt 0 (s.take 64) with
  | some i => (4, i, zeros32)
  | none => if s.length = 64 then (0, 0, packTo s 64) else (4, min s.length 64, zeros32)

theorem digF_lt (c : UInt8) : ((digF c).getD 0).toNat < 16 := by
  have h : ∀ n : Nat, n < 256 → ((digF (UInt8.ofNat n)).getD 0).toNat < 16 := by decide +kernel
  have := h c.toNat c.toNat_lt
  rwa [UInt8.ofNat_toNat] at this
theorem dv_lt (s : List UInt8) (j : Nat) : dv s j < 16 := digF_lt _
theorem packTo_zero (s : List UInt8) : packTo s 0 = zeros32 := by unfold packTo; simp; rfl
theorem packTo_size (s : List UInt8) (t : Nat) : ((packTo s t).map byteV).toArray.size = 32 := by unfold packTo; simp
/-- What lies where the next digit goes. -/
def oldN (s : List UInt8) (t : Nat) : Nat := if t % 2 = 0 then 0 else dv s (t - 1)
theorem oldN_lt (s : List UInt8) (t : Nat) : oldN s t < 16 := by
  unfold oldN
  split
  · decide
  · exact dv_lt _ _
theorem packTo_at (s : List UInt8) {t : Nat} (ht : t < 64) : ((packTo s t).map byteV).toArray[t / 2]? = some (.int .u8 (oldN s t : Int)) := by
  rw [byteV_nat (by have := oldN_lt s t; omega)]
  unfold packTo oldN
  simp only [List.getElem?_toArray, List.getElem?_map]
  rw [List.getElem?_range (by omega)]
  simp only [Option.map_some]
  by_cases h : t % 2 = 0
  · rw [if_neg (by omega), if_neg (by omega), if_pos h]; rfl
  · rw [if_neg (by omega), if_pos (by omega), if_neg h, show 2 * (t / 2) = t - 1 by omega]
theorem packTo_set (s : List UInt8) {t : Nat} (ht : t < 64) : ((packTo s t).map byteV).toArray.setIfInBounds (t / 2) (.int .u8 ((oldN s t * 16 + dv s t : Nat) : Int)) = ((packTo s (t + 1)).map byteV).toArray := by
  rw [byteV_nat (by have := oldN_lt s t; have := dv_lt s t; omega)]
  apply Array.ext_getElem?
  intro i
  rw [Array.getElem?_setIfInBounds]
  unfold packTo oldN
  simp only [List.size_toArray, List.length_map, List.length_range, List.getElem?_toArray, List.getElem?_map]
  by_cases hi : i < 32
  · rw [List.getElem?_range hi]
    simp only [Option.map_some]
    by_cases e : t / 2 = i
    · rw [if_pos e, if_pos (by omega)]
      by_cases h : t % 2 = 0
      · rw [if_pos h, if_neg (by omega), if_pos (by omega), show 2 * i = t by omega, Nat.zero_mul, Nat.zero_add]
      · rw [if_neg h, if_pos (by omega), show 2 * i = t - 1 by omega, show t - 1 + 1 = t by omega]
    · rw [if_neg e]
      by_cases h1 : 2 * i + 1 < t
      · rw [if_pos h1, if_pos (by omega)]
      · rw [if_neg h1, if_neg (show ¬ 2 * i + 1 < t + 1 by omega)]
        by_cases h2 : 2 * i < t
        · rw [if_pos h2, if_pos (by omega)]
        · rw [if_neg h2, if_neg (by omega)]
  · rw [List.getElem?_eq_none (by simp; omega)]
    simp
    omega
theorem or_digit (x d : Nat) (hx : x < 16) (hd : d < 16) : bits BinOp.or IntKind.u8 ((x : Int) * 16) (d : Int) = ((x * 16 + d : Nat) : Int) := by
  have h : ∀ x : Nat, x < 16 → ∀ d : Nat, d < 16 → bits BinOp.or IntKind.u8 ((x : Int) * 16) (d : Int) = ((x * 16 + d : Nat) : Int) := by decide +kernel
  exact h x hx d hd

def ParsePost (w : World) (r : Nat × Nat × List UInt8) (e : Ending) (w' : World) : Prop := ∃ ev, e = .returned (.tuple #[hashV r.2.2, ev]) ∧ IsErr w.heap.size w' ev r.1 r.2.1 ∧ Keeps Nothing w w'

attribute [local go_sem ↓] exec_load_hash exec_store_hash
attribute [local go_sem] rowOk_new World.setRow_alloc_new rowOk_new2 setRow_new2

theorem new_post (w : World) (c p : Int) (hc : (c == 0) = false) : Calls Tryd.prog 28 #[.int .i64 c, .int .i64 p] w (ErrPost w c p) := by
  refine (new_err c p w hc).mono ?_
  rintro e w' ⟨rfl, rfl⟩
  exact ⟨_, rfl, isErr_new w c p hc, (Keeps.refl _ _).alloc _⟩
theorem err_row {w wr w2 : World} {g : Nat} {Z Y : Array Value} {t : TypeId} {ev : Value} {c p : Int} (hev : IsErr wr.heap.size w2 ev c p) (hb : Blk wr g Y t) (hk : w.heap.size ≤ wr.heap.size) : IsErr w.heap.size (w2.setRow g Z) ev c p :=
  (hev.keeps (S := fun i => i = g) (Keeps.setRow (S := fun i => i = g) (g := g) (Keeps.refl _ w2) (fun _ => rfl) Z) (fun i hi => by subst hi; exact lt_of_block hb)).mono hk
theorem str_at (s : List UInt8) {t : Nat} {c : UInt8} (hc : s[t]? = some c) (k : IntKind) (W : World) : (Instr.index 9 (.string ⟨s.toArray⟩) (.int k (t : Int))).run Tryd.prog W = .ok (.int .u8 (c.toNat : Int)) W := by
  obtain ⟨h1, h2⟩ := List.getElem?_eq_some_iff.1 hc
  rw [run_index_string W _ _ _ _ Tryd.underlying9, dif_pos ⟨by omega, by show (t : Int) < s.length; omega⟩]
  subst h2
  rfl
theorem parse_bad {s : List UInt8} {t : Nat} {c : UInt8} (hb : badAt 0 (s.take 64) = badAt t ((s.take 64).drop t)) (ht : t < 64) (hc : s[t]? = some c) (hd : (digF c).isSome = false) : parseF s = (4, t, zeros32) := by
  have h1 : (s.take 64)[t]? = some c := by rw [List.getElem?_take, if_pos ht, hc]
  rw [drop_cons h1, badAt, if_neg (by rw [hd]; decide)] at hb
  unfold parseF
  rw [hb]
theorem bad_step {s : List UInt8} {t : Nat} {c : UInt8} (hb : badAt 0 (s.take 64) = badAt t ((s.take 64).drop t)) (ht : t < 64) (hc : s[t]? = some c) (hd : (digF c).isSome = true) : badAt 0 (s.take 64) = badAt (t + 1) ((s.take 64).drop (t + 1)) := by
  have h1 : (s.take 64)[t]? = some c := by rw [List.getElem?_take, if_pos ht, hc]
  rw [drop_cons h1, badAt, if_pos hd] at hb
  exact hb
theorem parse_end {s : List UInt8} {t : Nat} (hb : badAt 0 (s.take 64) = badAt t ((s.take 64).drop t)) (ht : t = min s.length 64) : parseF s = if s.length = 64 then (0, 0, packTo s 64) else (4, min s.length 64, zeros32) := by
  rw [List.drop_of_length_le (by rw [List.length_take]; omega)] at hb
  unfold parseF
  rw [hb]
  rfl

end Go.Proofs.YteifmkfkekglpaaDoor

namespace Go.Proofs.YteifmkfkekglpaaDoor
open Go.RowKit

theorem hex_nil : hexOf (shaOf []) = [101, 51, 98, 48, 99, 52, 52, 50, 57, 56, 102, 99, 49, 99, 49, 52, 57, 97, 102, 98, 102, 52, 99, 56, 57, 57, 54, 102, 98, 57, 50, 52, 50, 55, 97, 101, 52, 49, 101, 52, 54, 52, 57, 98, 57, 51, 52, 99, 97, 52, 57, 53, 57, 57, 49, 98, 55, 56, 53, 50, 98, 56, 53, 53] := by rw [sha_nil]; decide +kernel
theorem hex_abc : hexOf (shaOf [97, 98, 99]) = [98, 97, 55, 56, 49, 54, 98, 102, 56, 102, 48, 49, 99, 102, 101, 97, 52, 49, 52, 49, 52, 48, 100, 101, 53, 100, 97, 101, 50, 50, 50, 51, 98, 48, 48, 51, 54, 49, 97, 51, 57, 54, 49, 55, 55, 97, 57, 99, 98, 52, 49, 48, 102, 102, 54, 49, 102, 50, 48, 48, 49, 53, 97, 100] := by rw [sha_abc]; decide +kernel
theorem shaOf_len (bs : List UInt8) : (shaOf bs).length = 32 := by unfold shaOf outOf; simp
theorem bytes_abc (w : World) : BytesAt (w.alloc (.cells #[.int .u8 97, .int .u8 98, .int .u8 99] 5 (3, 4))) (some ⟨w.heap.size, 0, none⟩) [97, 98, 99] := by
  refine ⟨fun e => (by cases e), fun a e j c hc => ?_⟩
  obtain rfl := Option.some.inj e
  have h := heap_alloc_new w (.cells #[.int .u8 97, .int .u8 98, .int .u8 99] 5 (3, 4))
  match j, hc with
  | 0, hc => simp at hc; subst hc; show World.cell? _ ⟨w.heap.size, 0, none⟩ = _; unfold World.cell?; dsimp only; rw [h]; rfl
  | 1, hc => simp at hc; subst hc; show World.cell? _ ⟨w.heap.size, 1, none⟩ = _; unfold World.cell?; dsimp only; rw [h]; rfl
  | 2, hc => simp at hc; subst hc; show World.cell? _ ⟨w.heap.size, 2, none⟩ = _; unfold World.cell?; dsimp only; rw [h]; rfl
theorem conv_abc (w : World) : (convert 25 25 (.slice (some ⟨w.heap.size, 0, none⟩) 3 3)).run Tryd.prog (w.alloc (.cells #[.int .u8 97, .int .u8 98, .int .u8 99] 5)) = .ok (.slice (some ⟨w.heap.size, 0, none⟩) 3 3) (w.alloc (.cells #[.int .u8 97, .int .u8 98, .int .u8 99] 5 (3, 4))) :=
  Lib.run_convert_bytes_const w 25 5 #[.int .u8 97, .int .u8 98, .int .u8 99] 3 3 Tryd.underlying25 Tryd.underlying5

end Go.Proofs.YteifmkfkekglpaaDoor

namespace Go.Proofs.YteifmkfkekglpaaDoor
open Go.RowKit

theorem digF_hexD (n : Nat) (h : n < 16) : digF (hexD n) = some (UInt8.ofNat n) := by
  have k : ∀ n : Nat, n < 16 → digF (hexD n) = some (UInt8.ofNat n) := by decide +kernel
  exact k n h
theorem hexD_digF (c : UInt8) (h : (digF c).isSome = true) : hexD ((digF c).getD 0).toNat = c := by
  have k : ∀ n : Nat, n < 256 → (digF (UInt8.ofNat n)).isSome = true → hexD ((digF (UInt8.ofNat n)).getD 0).toNat = UInt8.ofNat n := by decide +kernel
  have := k c.toNat c.toNat_lt
  rw [UInt8.ofNat_toNat] at this
  exact this h
theorem hexOf_even (l : List UInt8) : ∀ (i : Nat) (c : UInt8), l[i]? = some c → (hexOf l)[2 * i]? = some (hexD (c.toNat / 16)) ∧ (hexOf l)[2 * i + 1]? = some (hexD (c.toNat % 16)) := by
  induction l with
  | nil => intro i c h; simp at h
  | cons x l ih =>
    intro i c h
    have e : hexOf (x :: l) = hexD (x.toNat / 16) :: hexD (x.toNat % 16) :: hexOf l := rfl
    rw [e]
    cases i with
    | zero => simp at h; subst h; exact ⟨rfl, rfl⟩
    | succ i =>
      have := ih i c (by simpa using h)
      rw [show 2 * (i + 1) = 2 * i + 1 + 1 by omega, show 2 * i + 1 + 1 + 1 = (2 * i + 1) + 1 + 1 by omega]
      exact this
theorem badAt_none (l : List UInt8) : ∀ t, (∀ c ∈ l, (digF c).isSome = true) → badAt t l = none := by
  induction l with
  | nil => intro t _; rfl
  | cons c l ih => intro t h; rw [badAt, if_pos (h c List.mem_cons_self)]; exact ih _ (fun d hd => h d (List.mem_cons_of_mem _ hd))
theorem none_badAt (l : List UInt8) : ∀ t, badAt t l = none → ∀ c ∈ l, (digF c).isSome = true := by
  induction l with
  | nil => intro t _ c hc; cases hc
  | cons c l ih =>
    intro t h d hd
    rw [badAt] at h
    by_cases hc : (digF c).isSome = true
    · rw [if_pos hc] at h
      rcases List.mem_cons.1 hd with rfl | hd
      · exact hc
      · exact ih _ h d hd
    · rw [if_neg hc] at h; cases h
theorem hexOf_dig (l : List UInt8) : ∀ c ∈ hexOf l, (digF c).isSome = true := by
  intro c hc
  unfold hexOf at hc
  obtain ⟨x, _, hx⟩ := List.mem_flatMap.1 hc
  have hx2 := x.toNat_lt
  simp only [hexC, List.mem_cons, List.not_mem_nil, or_false] at hx
  rcases hx with rfl | rfl
  · rw [digF_hexD _ (by omega)]; rfl
  · rw [digF_hexD _ (by omega)]; rfl

theorem dv_hexD {s : List UInt8} {j n : Nat} (h : s[j]? = some (hexD n)) (hn : n < 16) : dv s j = n := by
  unfold dv
  rw [List.getD_eq_getElem?_getD, h, Option.getD_some, digF_hexD n hn, Option.getD_some, UInt8.toNat_ofNat_of_lt' (show n < UInt8.size by unfold UInt8.size; omega)]
theorem pack_hex {a : List UInt8} (ha : a.length = 32) : packTo (hexOf a) 64 = a := by
  apply List.ext_getElem?
  intro i
  unfold packTo
  rw [List.getElem?_map]
  by_cases hi : i < 32
  · obtain ⟨c, hc⟩ : ∃ c, a[i]? = some c := ⟨_, List.getElem?_eq_getElem (by omega)⟩
    obtain ⟨h1, h2⟩ := hexOf_even a i c hc
    have hlt := c.toNat_lt
    rw [List.getElem?_range hi, Option.map_some, if_pos (by omega), dv_hexD h1 (by omega), dv_hexD h2 (by omega), hc, show c.toNat / 16 * 16 + c.toNat % 16 = c.toNat by omega, UInt8.ofNat_toNat]
  · rw [List.getElem?_eq_none (by simp; omega), List.getElem?_eq_none (by omega)]
    rfl
/-- What Hex says is read back. -/
theorem parse_hex {a : List UInt8} (ha : a.length = 32) : parseF (hexOf a) = (0, 0, a) := by
  have hl : (hexOf a).length = 64 := by rw [hexOf_len, ha]
  unfold parseF
  rw [List.take_of_length_le (by omega), badAt_none _ 0 (hexOf_dig a)]
  dsimp only
  rw [if_pos hl, pack_hex ha]
/-- What was read is said back. -/
theorem hex_pack {s : List UInt8} (hl : s.length = 64) (hd : ∀ c ∈ s, (digF c).isSome = true) : hexOf (packTo s 64) = s := by
  have hp : (packTo s 64).length = 32 := by unfold packTo; simp
  have hdig : ∀ j c, s[j]? = some c → hexD (dv s j) = c := fun j c hc => by
    unfold dv
    rw [List.getD_eq_getElem?_getD, hc, Option.getD_some]
    exact hexD_digF c (hd c (List.mem_of_getElem? hc))
  apply List.ext_getElem?
  intro j
  by_cases hj : j < 64
  · obtain ⟨c, hc⟩ : ∃ c, s[j]? = some c := ⟨_, List.getElem?_eq_getElem (by omega)⟩
    have hx := dv_lt s (2 * (j / 2))
    have hy := dv_lt s (2 * (j / 2) + 1)
    have hpi : (packTo s 64)[j / 2]? = some (UInt8.ofNat (dv s (2 * (j / 2)) * 16 + dv s (2 * (j / 2) + 1))) := by
      unfold packTo
      rw [List.getElem?_map, List.getElem?_range (by omega), Option.map_some, if_pos (by omega)]
    obtain ⟨h1, h2⟩ := hexOf_even _ _ _ hpi
    rw [UInt8.toNat_ofNat_of_lt' (show _ < UInt8.size by unfold UInt8.size; omega)] at h1 h2
    rw [show (dv s (2 * (j / 2)) * 16 + dv s (2 * (j / 2) + 1)) / 16 = dv s (2 * (j / 2)) by omega] at h1
    rw [show (dv s (2 * (j / 2)) * 16 + dv s (2 * (j / 2) + 1)) % 16 = dv s (2 * (j / 2) + 1) by omega] at h2
    rw [hc, ← hdig j c hc]
    by_cases he : j % 2 = 0
    · rw [show 2 * (j / 2) = j by omega] at h1
      exact h1
    · rw [show 2 * (j / 2) + 1 = j by omega] at h2
      exact h2
  · rw [List.getElem?_eq_none (by rw [hexOf_len, hp]; omega), List.getElem?_eq_none (by omega)]
theorem hex_parse {s h : List UInt8} {p : Nat} (hp : parseF s = (0, p, h)) : hexOf h = s := by
  unfold parseF at hp
  cases hb : badAt 0 (s.take 64) with
  | some i => rw [hb] at hp; simp at hp
  | none =>
    rw [hb] at hp
    dsimp only at hp
    by_cases h64 : s.length = 64
    · rw [if_pos h64] at hp
      rw [List.take_of_length_le (by omega)] at hb
      simp only [Prod.mk.injEq] at hp
      rw [← hp.2.2]
      exact hex_pack h64 (none_badAt s 0 hb)
    · rw [if_neg h64] at hp
      simp at hp
theorem parse_fail {s : List UInt8} (hp : (parseF s).1 ≠ 0) : (parseF s).2.2 = zeros32 := by
  unfold parseF at hp ⊢
  split
  · rfl
  · rename_i h
    rw [h] at hp
    dsimp only at hp
    split
    · rename_i h64; rw [if_pos h64] at hp; exact absurd rfl hp
    · rfl

theorem ltL_irrefl : ∀ a : List UInt8, ltL a a = false
  | [] => rfl
  | x :: l => by rw [ltL, if_pos rfl]; exact ltL_irrefl l
theorem ltL_asymm : ∀ a b : List UInt8, ltL a b = true → ltL b a = false
  | [], _, h => by simp [ltL] at h
  | _ :: _, [], h => by simp [ltL] at h
  | x :: l, y :: m, h => by
    rw [ltL] at h ⊢
    by_cases e : x = y
    · rw [if_pos e] at h; rw [if_pos e.symm]; exact ltL_asymm l m h
    · rw [if_neg e] at h
      rw [if_neg (fun q => e q.symm)]
      have := of_decide_eq_true h
      exact decide_eq_false (by omega)
theorem ltL_total : ∀ a b : List UInt8, a.length = b.length → a ≠ b → ltL a b = true ∨ ltL b a = true
  | [], [], _, h => absurd rfl h
  | [], _ :: _, h, _ => by simp at h
  | _ :: _, [], h, _ => by simp at h
  | x :: l, y :: m, h, hn => by
    rw [ltL, ltL]
    by_cases e : x = y
    · rw [if_pos e, if_pos e.symm]
      exact ltL_total l m (by simpa using h) (fun q => hn (by rw [e, q]))
    · rw [if_neg e, if_neg (fun q => e q.symm)]
      have : x.toNat ≠ y.toNat := fun q => e (UInt8.toNat_inj.mp q)
      rcases Nat.lt_or_gt_of_ne this with h1 | h1
      · exact .inl (decide_eq_true h1)
      · exact .inr (decide_eq_true h1)
theorem ltL_or (a b : List UInt8) (h : a.length = b.length) : (ltL a b || ltL b a) = decide (a ≠ b) := by
  by_cases e : a = b
  · subst e; rw [ltL_irrefl]; simp
  · rcases ltL_total a b h e with k | k
    · rw [k]; simp [e]
    · rw [k]; simp [e]
theorem ltL_and (a b : List UInt8) : (ltL a b && ltL b a) = false := by
  cases h : ltL a b
  · rfl
  · rw [ltL_asymm a b h]; rfl
/-- The order of the texts. -/
theorem hexD_lt {m n : Nat} (hm : m < 16) (hn : n < 16) : (hexD m).toNat < (hexD n).toNat ↔ m < n := by
  have k : ∀ m : Nat, m < 16 → ∀ n : Nat, n < 16 → ((hexD m).toNat < (hexD n).toNat ↔ m < n) := by decide +kernel
  exact k m hm n hn
theorem ltL_hex : ∀ a b : List UInt8, ltL (hexOf a) (hexOf b) = ltL a b
  | [], [] => rfl
  | [], _ :: _ => rfl
  | _ :: _, [] => rfl
  | x :: l, y :: m => by
    have hx := x.toNat_lt
    have hy := y.toNat_lt
    show ltL (hexD (x.toNat / 16) :: hexD (x.toNat % 16) :: hexOf l) (hexD (y.toNat / 16) :: hexD (y.toNat % 16) :: hexOf m) = _
    have a1 := hexD_lt (m := x.toNat / 16) (n := y.toNat / 16) (by omega) (by omega)
    have a2 := hexD_lt (m := y.toNat / 16) (n := x.toNat / 16) (by omega) (by omega)
    have a3 := hexD_lt (m := x.toNat % 16) (n := y.toNat % 16) (by omega) (by omega)
    have a4 := hexD_lt (m := y.toNat % 16) (n := x.toNat % 16) (by omega) (by omega)
    rw [ltL, ltL, ltL, ltL_hex l m]
    by_cases e : x = y
    · subst e; simp
    · have hne : x.toNat ≠ y.toNat := fun q => e (UInt8.toNat_inj.mp q)
      rw [if_neg e]
      by_cases h1 : hexD (x.toNat / 16) = hexD (y.toNat / 16)
      · rw [if_pos h1]
        rw [h1] at a1 a2
        have h2 : ¬ hexD (x.toNat % 16) = hexD (y.toNat % 16) := fun q => by rw [q] at a3 a4; omega
        rw [if_neg h2]
        exact decide_eq_decide.2 (a3.trans (by omega))
      · rw [if_neg h1]
        have h3 : x.toNat / 16 ≠ y.toNat / 16 := fun q => h1 (by rw [q])
        exact decide_eq_decide.2 (a1.trans (by omega))

end Go.Proofs.YteifmkfkekglpaaDoor

namespace Go.Proofs.YteifmkfkekglpaaDoor
open Go.RowKit

theorem less_ltL : ∀ a b : List UInt8, a.length = b.length → Op.bytesLess a b = ltL a b
  | [], [], _ => rfl
  | [], _ :: _, h => by simp at h
  | _ :: _, [], h => by simp at h
  | x :: l, y :: m, h => by
    have ih := less_ltL l m (by simpa using h)
    rw [ltL, Op.bytesLess]
    by_cases e : x = y
    · subst e; simp [ih]
    · have hne : x.toNat ≠ y.toNat := fun q => e (UInt8.toNat_inj.mp q)
      rw [if_neg e]
      simp [e, UInt8.lt_iff_toNat_lt]

end Go.Proofs.YteifmkfkekglpaaDoor

namespace Go.Proofs.YteifmkfkekglpaaDoor
open Go.RowKit

attribute [local go_sem ↓] exec_load_hash exec_store_hash
attribute [local go_sem] rowOk_new World.setRow_alloc_new rowOk_new2 setRow_new2

/-- One digit, as a text. -/
theorem cut_at (n : Nat) (hn : n < 16) (W : World) : (Instr.slice 9 (.string ⟨#[48, 49, 50, 51, 52, 53, 54, 55, 56, 57, 97, 98, 99, 100, 101, 102]⟩) (some (.int .u8 (n : Int))) (some (.int .u8 ((n : Int) + 1))) none).run Tryd.prog W = .ok (.string ⟨[hexD n].toArray⟩) W := by
  rw [run_slice_string W 9 _ .u8 .u8 _ _ Tryd.underlying9 (by omega) (by omega) (by show (n : Int) + 1 ≤ 16; omega)]
  rcases (by omega : n = 0 ∨ n = 1 ∨ n = 2 ∨ n = 3 ∨ n = 4 ∨ n = 5 ∨ n = 6 ∨ n = 7 ∨ n = 8 ∨ n = 9 ∨ n = 10 ∨ n = 11 ∨ n = 12 ∨ n = 13 ∨ n = 14 ∨ n = 15) with rfl | rfl | rfl | rfl | rfl | rfl | rfl | rfl | rfl | rfl | rfl | rfl | rfl | rfl | rfl | rfl
  all_goals rfl
theorem cut_hi (c : UInt8) (W : World) : (Instr.slice 9 (.string ⟨#[48, 49, 50, 51, 52, 53, 54, 55, 56, 57, 97, 98, 99, 100, 101, 102]⟩) (some (.int .u8 ((c.toNat : Int) / 16))) (some (.int .u8 ((c.toNat : Int) / 16 + 1))) none).run Tryd.prog W = .ok (.string ⟨[hexD (c.toNat / 16)].toArray⟩) W := by
  have h := c.toNat_lt
  have := cut_at (c.toNat / 16) (by omega) W
  rw [show ((c.toNat / 16 : Nat) : Int) = (c.toNat : Int) / 16 by simp] at this
  exact this
theorem cut_lo (c : UInt8) (W : World) : (Instr.slice 9 (.string ⟨#[48, 49, 50, 51, 52, 53, 54, 55, 56, 57, 97, 98, 99, 100, 101, 102]⟩) (some (.int .u8 ((c.toNat : Int) % 16))) (some (.int .u8 ((c.toNat : Int) % 16 + 1))) none).run Tryd.prog W = .ok (.string ⟨[hexD (c.toNat % 16)].toArray⟩) W := by
  have := cut_at (c.toNat % 16) (by omega) W
  rw [show ((c.toNat % 16 : Nat) : Int) = (c.toNat : Int) % 16 by simp] at this
  exact this

end Go.Proofs.YteifmkfkekglpaaDoor

namespace Go.Proofs.YteifmkfkekglpaaDoor
open Go.RowKit

theorem results_row_tmp2 {P : Program} {fn : Func} {p u v : Tmp} {ty : TypeId} (h : fn.results = #[.cell p ty, .tmp u, .tmp v]) (tmps : Array Value) (w : World) (g : Nat) (cs : Array Value) (x y : Value)
    (hp : tmps.getD p undef = .pointer (some ⟨g, 0, none⟩)) (hu : tmps.getD u undef = x) (hv : tmps.getD v undef = y) (hl : (loadVar ty ⟨g, 0, none⟩).run P w = .ok (.agg cs) w) : (results fn tmps).run P w = .ok (.tuple #[.agg cs, x, y]) w := by
  have e : (results fn tmps).run P w =
      ((asAddr (tmps.getD p undef)).run P w).andThen fun a w₁ => ((loadVar ty a).run P w₁).andThen fun b w₂ => .ok (.tuple #[b, tmps.getD u undef, tmps.getD v undef]) w₂ := by
    simp only [results, h]
    simp [Sem.run_bind, Result.andThen]
  rw [e, hp, hu, hv]
  simp [asAddr, hl]

/-- A sum, a number and a place, as they come back. -/
def RParsePost (w : World) (r : Nat × Nat × List UInt8) (e : Ending) (w' : World) : Prop := e = .returned (.tuple #[hashV r.2.2, .int .i64 r.1, .int .i64 r.2.1]) ∧ Keeps Nothing w w'

attribute [local go_sem ↓] exec_load_hash exec_store_hash
attribute [local go_sem] rowOk_new World.setRow_alloc_new rowOk_new2 setRow_new2

end Go.Proofs.YteifmkfkekglpaaDoor

namespace Go.Proofs.YteifmkfkekglpaaDoor
open Go.RowKit

/-- The first bytes of a word. -/
def partW (cs : List UInt8) (t : Nat) : Nat → Nat
  | 0 => 0
  | j + 1 => partW cs t j * 256 + (cs.getD (4 * t + j) 0).toNat
theorem partW_four (cs : List UInt8) (t : Nat) : partW cs t 4 = word4 cs t := by
  unfold word4
  simp only [partW]
  rw [Nat.add_zero]
  omega
theorem partW_lt (cs : List UInt8) (t : Nat) : ∀ j, j < 4 → partW cs t j < 16777216
  | 0, _ => by simp only [partW]; omega
  | 1, _ => by simp only [partW]; have h0 := (cs.getD (4 * t + 0) 0).toNat_lt; omega
  | 2, _ => by simp only [partW]; have h0 := (cs.getD (4 * t + 0) 0).toNat_lt; have h1 := (cs.getD (4 * t + 1) 0).toNat_lt; omega
  | 3, _ => by simp only [partW]; have h0 := (cs.getD (4 * t + 0) 0).toNat_lt; have h1 := (cs.getD (4 * t + 1) 0).toNat_lt; have h2 := (cs.getD (4 * t + 2) 0).toNat_lt; omega
  | j + 4, h => by omega
theorem part_bits (p : Nat) (c : UInt8) (hp : p < 16777216) : bits .or .u32 (IntKind.u32.wrap ((p : Int) * 256)) (IntKind.u32.wrap (c.toNat : Int)) = ((p * 256 + c.toNat : Nat) : Int) := by
  have hc := c.toNat_lt
  generalize c.toNat = c at *
  rw [show IntKind.u32.wrap ((p : Int) * 256) = ((p * 256 : Nat) : Int) by rw [IntKind.wrap_u32]; omega, show IntKind.u32.wrap (c : Int) = ((c : Nat) : Int) by rw [IntKind.wrap_u32]; omega]
  rw [u32_or_nat _ _ (by omega) (by omega), nat_join 8 _ _ (by omega) (by omega)]
theorem rowW_pad {n : Nat} {l : List Nat} (h : l.length < n) : rowW n (l ++ [0]) = rowW n l := by
  unfold rowW
  rw [List.append_assoc]
  congr 3
  rw [List.length_append, List.length_singleton]
  obtain ⟨m, hm⟩ : ∃ m, n - l.length = m + 1 := ⟨n - l.length - 1, by omega⟩
  rw [hm, show n - (l.length + 1) = m by omega, List.replicate_succ]
  rfl
theorem rowW_put {n : Nat} {l : List Nat} (h : l.length < n) (a v : Nat) : (rowW n (l ++ [a])).setIfInBounds l.length (u32V v) = rowW n (l ++ [v]) := by
  rw [← rowW_set h a, ← rowW_set h v]
  apply Array.ext_getElem?
  intro i
  rw [Array.getElem?_setIfInBounds, Array.getElem?_setIfInBounds, Array.getElem?_setIfInBounds, Array.size_setIfInBounds]
  by_cases e : l.length = i
  · rw [if_pos e, if_pos e]
  · rw [if_neg e, if_neg e, if_neg e]
theorem words16_snoc (cs : List UInt8) {t : Nat} (ht : t < 16) : (words16 cs).take (t + 1) = (words16 cs).take t ++ [word4 cs t] := by
  unfold words16
  rw [List.take_add_one, List.getElem?_map, List.getElem?_range ht]
  rfl

theorem rowW_last {n : Nat} {l : List Nat} (p : Nat) : (rowW n (l ++ [p]))[l.length]? = some (u32V p) := by
  rw [rowW_get (by simp)]
  simp [at0, List.getD]
theorem sched_step (n : Nat) (l : List Nat) : sched (n + 1) l = sched n (l ++ [nextW l]) := by rw [sched]
theorem sched_zero (l : List Nat) : sched 0 l = l := by rw [sched]
theorem rounds_step (ks ws : List Nat) (n : Nat) (s : St) : rounds64 ks ws (n + 1) s = rounds64 ks ws n (s.next (at0 ks (63 - n)) (at0 ws (63 - n))) := by rw [rounds64]
theorem rounds_zero (ks ws : List Nat) (s : St) : rounds64 ks ws 0 s = s := by rw [rounds64]
theorem blockOf64_eq (ks : List Nat) (bs : List UInt8) (s : St) : blockOf64 ks bs s = s.add (rounds64 ks (sched 48 (words16 bs)) 64 s) := by rw [blockOf64]

/-- A padded row of bytes being made. -/
structure RP (w0 w : World) (H : Nat) (ao : Option Addr) (cap : Nat) (P : List UInt8) : Prop where
  h : Blk w H (zeros32.map byteV).toArray 70
  own : Own8 w 5 ao cap P
  fresh : ∀ g, blockOf ao = some g → w0.heap.size ≤ g
  keep : Keeps Nothing w0 w
  hn : w0.heap.size ≤ H
theorem RP.app {w0 w wa w1 : World} {H : Nat} {ao ao' : Option Addr} {cap cap' : Nat} {P P' : List UInt8} (h : RP w0 w H ao cap P) (ka : Keeps Nothing w wa) (ho : Own8 w1 5 ao' cap' P') (k : Keeps (fun k => blockOf ao = some k) wa w1) {B : Nat} (m : Moved B ao ao') (hB : w.heap.size ≤ B) :
    RP w0 w1 H ao' cap' P' := by
  have oa := ka.own h.own (fun _ _ h => h)
  exact ⟨k.blk (ka.blk h.h (fun h => h)) (own8_ne oa (ka.blk h.h (fun h => h)) (by decide)), ho, m.new (by have := h.keep.size; omega) h.fresh,
    (h.keep.trans ka (fun _ h _ => h)).trans k (fun i hi hlt => by have := h.fresh i hi; omega), h.hn⟩
theorem ShaP.turn {w0 w w' : World} {H K V : Nat} {s t : St} {ao : Option Addr} {cap : Nat} {P : List UInt8} (h : ShaP w0 w H K V s ao cap P) (k : Keeps (fun i => i = V) w w') (hv : Blk w' V t.val 96) : ShaP w0 w' H K V t ao cap P :=
  ⟨⟨k.blk h.sha.h h.sha.hv, k.blk h.sha.k h.sha.kv, hv, h.sha.keep.trans k (fun i hi hlt => by have := h.sha.vn; omega), h.sha.hn, h.sha.kn, h.sha.vn, h.sha.hk, h.sha.hv, h.sha.kv⟩,
    k.own h.own (fun g hg h2 => own8_ne h.own h.sha.v (by decide) (show blockOf ao = some V from by cases ao with | none => cases hg | some a => rw [← h2]; exact hg)), h.fresh⟩

end Go.Proofs.YteifmkfkekglpaaDoor
