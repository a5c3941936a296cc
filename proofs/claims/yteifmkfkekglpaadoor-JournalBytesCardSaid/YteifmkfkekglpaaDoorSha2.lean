/- sha.spread. -/
import Derived.Test.YteifmkfkekglpaaDoorSha1
import Derived.Test.YteifmkfkekglpaaDoorMix
import Derived.Test.YteifmkfkekglpaaDoorHash
import Derived.StillTailTactics
import Derived.Deep.QuietTactic
import Derived.BigQuiet
import Derived.Laws.Rows
import Derived.Outline
namespace Go.Proofs.YteifmkfkekglpaaDoor
open Go.RowKit

def u32V (n : Nat) : Value := .int .u32 (n : Int)
/-- An array of so many words, the first ones of it known. -/
def rowW (n : Nat) (l : List Nat) : Array Value := ((l ++ List.replicate (n - l.length) 0).map u32V).toArray
def sig0 (x : Nat) : Nat := rot x 7 ^^^ rot x 18 ^^^ x >>> 3
def sig1 (x : Nat) : Nat := rot x 17 ^^^ rot x 19 ^^^ x >>> 10
def at0 (l : List Nat) (i : Nat) : Nat := l.getD i 0
/-- The next word. -/
def nextW (l : List Nat) : Nat := (sig1 (at0 l (l.length - 2)) + at0 l (l.length - 7) + sig0 (at0 l (l.length - 15)) + at0 l (l.length - 16)) % 4294967296
def sched : Nat → List Nat → List Nat
  | 0, l => l
  | n + 1, l => sched n (l ++ [nextW l])
/-- Four bytes as a word. -/
def word4 (bs : List UInt8) (t : Nat) : Nat := (bs.getD (4 * t) 0).toNat * 16777216 + (bs.getD (4 * t + 1) 0).toNat * 65536 + (bs.getD (4 * t + 2) 0).toNat * 256 + (bs.getD (4 * t + 3) 0).toNat
def words16 (bs : List UInt8) : List Nat := (List.range 16).map (word4 bs)

theorem rowW_size {n : Nat} {l : List Nat} (h : l.length ≤ n) : (rowW n l).size = n := by
  unfold rowW; simp; omega
theorem rowW_get {n i : Nat} {l : List Nat} (h : i < l.length) : (rowW n l)[i]? = some (u32V (at0 l i)) := by
  unfold rowW at0
  rw [List.getElem?_toArray, List.getElem?_map, List.getElem?_append_left h, List.getElem?_eq_getElem h]
  simp [List.getD, h]
theorem rowW_free {n i : Nat} {l : List Nat} (h : l.length ≤ i) (hi : i < n) : (rowW n l)[i]? = some (u32V 0) := by
  unfold rowW
  rw [List.getElem?_toArray, List.getElem?_map, List.getElem?_append_right h, List.getElem?_replicate, if_pos (by omega)]
  rfl
theorem rowW_set {n : Nat} {l : List Nat} (h : l.length < n) (v : Nat) : (rowW n l).setIfInBounds l.length (u32V v) = rowW n (l ++ [v]) := by
  unfold rowW
  rw [List.setIfInBounds_toArray, List.map_append, List.set_append_right _ _ (by simp), List.length_map, Nat.sub_self]
  congr 1
  rw [show n - l.length = (n - (l ++ [v]).length) + 1 by rw [List.length_append, List.length_singleton]; omega, List.replicate_succ]
  simp
theorem rowW_zero (n : Nat) : rowW n [] = ((List.replicate n 0).map u32V).toArray := by unfold rowW; simp
theorem rowW_one (n : Nat) (l : List Nat) : (rowW n l).all (·.oneCell') = true := by
  unfold rowW
  rw [List.all_toArray, List.all_eq_true]
  intro v hv
  obtain ⟨_, _, rfl⟩ := List.mem_map.1 hv
  rfl

theorem rowW_lit64 : rowW 64 [] = #[.int .u32 0, .int .u32 0, .int .u32 0, .int .u32 0, .int .u32 0, .int .u32 0, .int .u32 0, .int .u32 0, .int .u32 0, .int .u32 0, .int .u32 0, .int .u32 0, .int .u32 0, .int .u32 0, .int .u32 0, .int .u32 0, .int .u32 0, .int .u32 0, .int .u32 0, .int .u32 0, .int .u32 0, .int .u32 0, .int .u32 0, .int .u32 0, .int .u32 0, .int .u32 0, .int .u32 0, .int .u32 0, .int .u32 0, .int .u32 0, .int .u32 0, .int .u32 0, .int .u32 0, .int .u32 0, .int .u32 0, .int .u32 0, .int .u32 0, .int .u32 0, .int .u32 0, .int .u32 0, .int .u32 0, .int .u32 0, .int .u32 0, .int .u32 0, .int .u32 0, .int .u32 0, .int .u32 0, .int .u32 0, .int .u32 0, .int .u32 0, .int .u32 0, .int .u32 0, .int .u32 0, .int .u32 0, .int .u32 0, .int .u32 0, .int .u32 0, .int .u32 0, .int .u32 0, .int .u32 0, .int .u32 0, .int .u32 0, .int .u32 0, .int .u32 0] := rfl
theorem rowW_lit8 : rowW 8 [] = #[.int .u32 0, .int .u32 0, .int .u32 0, .int .u32 0, .int .u32 0, .int .u32 0, .int .u32 0, .int .u32 0] := rfl

theorem word_bits (a b c d : UInt8) : bits .or .u32 (bits .or .u32 (bits .or .u32 (IntKind.u32.wrap (IntKind.u32.wrap (a.toNat : Int) * 16777216)) (IntKind.u32.wrap (IntKind.u32.wrap (b.toNat : Int) * 65536)))
    (IntKind.u32.wrap (IntKind.u32.wrap (c.toNat : Int) * 256))) (IntKind.u32.wrap (d.toNat : Int)) = ((a.toNat * 16777216 + b.toNat * 65536 + c.toNat * 256 + d.toNat : Nat) : Int) := by
  have ha := a.toNat_lt
  have hb := b.toNat_lt
  have hc := c.toNat_lt
  have hd := d.toNat_lt
  generalize a.toNat = a at *
  generalize b.toNat = b at *
  generalize c.toNat = c at *
  generalize d.toNat = d at *
  rw [show IntKind.u32.wrap (IntKind.u32.wrap (a : Int) * 16777216) = ((a * 16777216 : Nat) : Int) by rw [IntKind.wrap_u32, IntKind.wrap_u32]; omega,
    show IntKind.u32.wrap (IntKind.u32.wrap (b : Int) * 65536) = ((b * 65536 : Nat) : Int) by rw [IntKind.wrap_u32, IntKind.wrap_u32]; omega,
    show IntKind.u32.wrap (IntKind.u32.wrap (c : Int) * 256) = ((c * 256 : Nat) : Int) by rw [IntKind.wrap_u32, IntKind.wrap_u32]; omega,
    show IntKind.u32.wrap (d : Int) = ((d : Nat) : Int) by rw [IntKind.wrap_u32]; omega]
  rw [u32_or_nat _ _ (by omega) (by omega), nat_join 24 _ _ (by omega) (by omega), u32_or_nat _ _ (by omega) (by omega), nat_join 16 _ _ (by omega) (by omega), u32_or_nat _ _ (by omega) (by omega), nat_join 8 _ _ (by omega) (by omega)]

theorem word4_lt (bs : List UInt8) (t : Nat) : word4 bs t < 4294967296 := by
  unfold word4
  have h0 := (bs.getD (4 * t) 0).toNat_lt
  have h1 := (bs.getD (4 * t + 1) 0).toNat_lt
  have h2 := (bs.getD (4 * t + 2) 0).toNat_lt
  have h3 := (bs.getD (4 * t + 3) 0).toNat_lt
  omega
theorem at0_map_lt {α : Type} (l : List α) (f : α → Nat) (h : ∀ x, f x < 4294967296) (i : Nat) : at0 (l.map f) i < 4294967296 := by
  unfold at0 List.getD
  rw [List.getElem?_map]
  cases l[i]? with
  | none => show (0 : Nat) < 4294967296; decide
  | some x => exact h x
theorem words16_lt (bs : List UInt8) (i : Nat) : at0 (words16 bs) i < 4294967296 := at0_map_lt _ _ (word4_lt bs) i

theorem turn_at (x : Nat) (hx : x < 4294967296) (m : Int) (n : Nat) (hm : m = n) (h0 : 0 < n) (h1 : n < 32) (w : World) :
    Calls Tryd.prog 66 #[.int .u32 x, .int .i64 m] w fun e w' => e = .returned (.int .u32 (rot x n)) ∧ w' = w := by
  subst hm; exact turn_of x hx n h0 h1 w
theorem rturn_at (x : Nat) (hx : x < 4294967296) (m : Int) (n : Nat) (hm : m = n) (h0 : 0 < n) (h1 : n < 32) (w : World) :
    Calls Tryd.prog 50 #[.int .u32 x, .int .i64 m] w fun e w' => e = .returned (.int .u32 (rot x n)) ∧ w' = w := by
  subst hm; exact rturn_of x hx n h0 h1 w
theorem shr_lt {x : Nat} (hx : x < 4294967296) (n : Nat) : x >>> n < 4294967296 := by
  rw [Nat.shiftRight_eq_div_pow]; exact Nat.lt_of_le_of_lt (Nat.div_le_self _ _) hx
theorem sig_lt {a b c : Nat} (ha : a < 4294967296) (hb : b < 4294967296) (hc : c < 4294967296) : a ^^^ b ^^^ c < 4294967296 := Nat.xor_lt_two_pow (n := 32) (Nat.xor_lt_two_pow (n := 32) ha hb) hc
theorem xor3 {a b c : Nat} (ha : a < 4294967296) (hb : b < 4294967296) (hc : c < 4294967296) : bits .xor .u32 (bits .xor .u32 (a : Int) (b : Int)) (c : Int) = ((a ^^^ b ^^^ c : Nat) : Int) := by
  rw [u32_xor_nat _ _ ha hb, u32_xor_nat _ _ (Nat.xor_lt_two_pow (n := 32) ha hb) hc]
theorem shr_int (x n : Nat) (k : Int) (hk : k = ((2 ^ n : Nat) : Int)) : (x : Int) / k = ((x >>> n : Nat) : Int) := by
  subst hk; rw [Nat.shiftRight_eq_div_pow]; simp
theorem next_bits {a2 a7 a15 a16 : Nat} (h2 : a2 < 4294967296) (_h7 : a7 < 4294967296) (h15 : a15 < 4294967296) (_h16 : a16 < 4294967296) :
    IntKind.u32.wrap (IntKind.u32.wrap (IntKind.u32.wrap (bits .xor .u32 (bits .xor .u32 (rot a2 17 : Int) (rot a2 19 : Int)) ((a2 : Int) / 1024) + (a7 : Int)) + bits .xor .u32 (bits .xor .u32 (rot a15 7 : Int) (rot a15 18 : Int)) ((a15 : Int) / 8)) + (a16 : Int)) =
      (((sig1 a2 + a7 + sig0 a15 + a16) % 4294967296 : Nat) : Int) := by
  rw [shr_int a2 10 1024 rfl, shr_int a15 3 8 rfl, xor3 (rot_lt _ _ h2) (rot_lt _ _ h2) (shr_lt h2 _), xor3 (rot_lt _ _ h15) (rot_lt _ _ h15) (shr_lt h15 _)]
  show _ = (((((rot a2 17 ^^^ rot a2 19 ^^^ a2 >>> 10) + a7 + (rot a15 7 ^^^ rot a15 18 ^^^ a15 >>> 3) + a16) % 4294967296 : Nat)) : Int)
  generalize (rot a2 17 ^^^ rot a2 19 ^^^ a2 >>> 10) = x
  generalize (rot a15 7 ^^^ rot a15 18 ^^^ a15 >>> 3) = y
  rw [IntKind.wrap_u32, IntKind.wrap_u32, IntKind.wrap_u32]
  omega

theorem at0_snoc_lt {l : List Nat} {v : Nat} (h : ∀ i, at0 l i < 4294967296) (hv : v < 4294967296) (i : Nat) : at0 (l ++ [v]) i < 4294967296 := by
  unfold at0 List.getD
  rcases Nat.lt_or_ge i l.length with h1 | h1
  · rw [List.getElem?_append_left h1]; exact h i
  · rw [List.getElem?_append_right h1]
    cases i - l.length with
    | zero => exact hv
    | succ n => show (0 : Nat) < 4294967296; decide

theorem infoW64 : (Tryd.prog.info? 97).map (·.size) = some 64 := by kernel_rfl
theorem exec_load_w64 (ρ : Operand → Value) (dst : Option Tmp) (x : Operand) (ty' : TypeId) (pos : String) (af : Array Edge) (gd : Option (Nat × Bool)) (w : World) (h : rowOkV w 64 (ρ x) = true) :
    (execOp ρ ⟨dst, .load 97 x, ty', pos, af, gd⟩).run Tryd.prog w = .ok (.value (.agg (rowOfV w (ρ x)))) w :=
  exec_load _ _ 64 Tryd.underlying97 infoW64 ρ dst x ty' pos af gd w h
theorem exec_store_w64 (ρ : Operand → Value) (dst : Option Tmp) (x y : Operand) (ty' : TypeId) (pos : String) (af : Array Edge) (gd : Option (Nat × Bool)) (w : World) (h : rowOkV w 64 (ρ x) = true) (hy : aggOk 64 (ρ y) = true) :
    (execOp ρ ⟨dst, .store 97 x y, ty', pos, af, gd⟩).run Tryd.prog w = .ok .skip (rowSetV w (ρ x) (aggOf (ρ y))) :=
  exec_store _ 64 infoW64 ρ dst x y ty' pos af gd w h hy
theorem infoW8 : (Tryd.prog.info? 96).map (·.size) = some 8 := by kernel_rfl
theorem exec_load_w8 (ρ : Operand → Value) (dst : Option Tmp) (x : Operand) (ty' : TypeId) (pos : String) (af : Array Edge) (gd : Option (Nat × Bool)) (w : World) (h : rowOkV w 8 (ρ x) = true) :
    (execOp ρ ⟨dst, .load 96 x, ty', pos, af, gd⟩).run Tryd.prog w = .ok (.value (.agg (rowOfV w (ρ x)))) w :=
  exec_load _ _ 8 Tryd.underlying96 infoW8 ρ dst x ty' pos af gd w h
theorem exec_store_w8 (ρ : Operand → Value) (dst : Option Tmp) (x y : Operand) (ty' : TypeId) (pos : String) (af : Array Edge) (gd : Option (Nat × Bool)) (w : World) (h : rowOkV w 8 (ρ x) = true) (hy : aggOk 8 (ρ y) = true) :
    (execOp ρ ⟨dst, .store 96 x y, ty', pos, af, gd⟩).run Tryd.prog w = .ok .skip (rowSetV w (ρ x) (aggOf (ρ y))) :=
  exec_store _ 8 infoW8 ρ dst x y ty' pos af gd w h hy

attribute [local go_sem ↓] exec_load_w64 exec_store_w64

theorem Addr.add_mid' (b o i : Nat) : (⟨b, o, none⟩ : Addr).add i = ⟨b, o + i, none⟩ := by
  unfold Addr.add
  split
  · rename_i h; subst h; rfl
  · rfl

set_option maxRecDepth 100000 in
set_option maxHeartbeats 1000000 in
theorem spread_any {w : World} {g off : Nat} (c : Nat) {bs : List UInt8} (hB : BytesAt w (some ⟨g, off, none⟩) bs) (hl : bs.length = 64) :
    Calls Tryd.prog 65 #[.slice (some ⟨g, off, none⟩) 64 c] w fun e w' => e = .returned (.agg (rowW 64 (sched 48 (words16 bs)))) ∧ Keeps Nothing w w' := by
  have HL := Lib.hid hl
  clear hl
  go_enter Tryd.func65, Tryd.ntmps65
  go_wp2_with fail
  rw [← rowW_lit64]
  obtain ⟨W, hW⟩ : ∃ W, W = (w.alloc (.cells (rowW 64 []) 97)).alloc (.cells (rowW 64 []) 97) := ⟨_, rfl⟩
  rw [← hW]
  have b1 : Blk W w.heap.size (rowW 64 []) 97 := hW ▸ (blk_alloc (blk_new w _ _) _)
  have b2 : Blk W (w.heap.size + 1) (rowW 64 []) 97 := by rw [hW]; have := blk_new (w.alloc (.cells (rowW 64 []) 97)) (rowW 64 []) 97; rw [World.size_alloc] at this; exact this
  have hK : Keeps Nothing w W := hW ▸ (((Keeps.refl _ _).alloc _).alloc _)
  clear hW
  go_loopw [8] (fun s wr => ∃ t : Nat, s = .int .i64 t ∧ t ≤ 16 ∧ Blk wr w.heap.size (rowW 64 []) 97 ∧ Blk wr (w.heap.size + 1) (rowW 64 ((words16 bs).take t)) 97 ∧ Keeps Nothing w wr) (fun s _ => 16 - (intOf s).toNat)
  case atStart => exact ⟨0, rfl, by omega, b1, b2, hK⟩
  case round =>
    clear b1 b2 hK
    obtain ⟨t, rfl, ht, b1, b2, hK⟩ := hrel
    by_cases hlt : t < 16
    · have hBr := hB.keeps hK (fun _ _ h => h)
      have hlen : ((words16 bs).take t).length = t := by unfold words16; simp; omega
      have hcw := blk_cell b2 t (rowW_free (n := 64) (l := (words16 bs).take t) (by omega) (by omega))
      have hfw := blk_free b2 t
      obtain ⟨q, hq⟩ : ∃ q, q = 4 * t := ⟨_, rfl⟩
      have hg : ∀ j, j < 4 → ∃ x : UInt8, bs.getD (q + j) 0 = x ∧ wr.cell? ⟨g, off + (q + j), none⟩ = some (.int .u8 (x.toNat : Int)) := fun j hj => by
        have hlt : q + j < bs.length := by rw [HL.out]; omega
        refine ⟨bs[q + j], by simp [List.getD, hlt], ?_⟩
        have := hBr.2 _ rfl (q + j) _ (List.getElem?_eq_getElem hlt)
        rw [Addr.add_mid'] at this
        exact this
      obtain ⟨x0, y0, c0⟩ := hg 0 (by omega)
      obtain ⟨x1, y1, c1⟩ := hg 1 (by omega)
      obtain ⟨x2, y2, c2⟩ := hg 2 (by omega)
      obtain ⟨x3, y3, c3⟩ := hg 3 (by omega)
      have Y0 := Lib.hid y0
      have Y1 := Lib.hid y1
      have Y2 := Lib.hid y2
      have Y3 := Lib.hid y3
      have HLEN := Lib.hid hlen
      clear y0 y1 y2 y3 hg hBr hlen
      rw [Nat.add_zero] at c0
      have e0 : IntKind.i64.wrap (4 * (t : Int)) = (q : Int) := by rw [IntKind.wrap_i64]; omega
      have e1 : IntKind.i64.wrap ((q : Int) + 1) = (q : Int) + 1 := by rw [IntKind.wrap_i64]; omega
      have e2 : IntKind.i64.wrap ((q : Int) + 2) = (q : Int) + 2 := by rw [IntKind.wrap_i64]; omega
      have e3 : IntKind.i64.wrap ((q : Int) + 3) = (q : Int) + 3 := by rw [IntKind.wrap_i64]; omega
      have hq60 : q ≤ 60 := by omega
      have i0 : (0 : Int) ≤ (q : Int) := by omega
      have i1 : (0 : Int) ≤ (q : Int) + 1 := by omega
      have i2 : (0 : Int) ≤ (q : Int) + 2 := by omega
      have i3 : (0 : Int) ≤ (q : Int) + 3 := by omega
      have j0 : (q : Int) < 64 := by omega
      have j1 : (q : Int) + 1 < 64 := by omega
      have j2 : (q : Int) + 2 < 64 := by omega
      have j3 : (q : Int) + 3 < 64 := by omega
      have n1 : ((q : Int) + 1).toNat = q + 1 := by omega
      have n2 : ((q : Int) + 2).toNat = q + 2 := by omega
      have n3 : ((q : Int) + 3).toNat = q + 3 := by omega
      have i4 : (0 : Int) ≤ (t : Int) := by omega
      have j4 : (t : Int) < 64 := by omega
      have HQ := Lib.hid hq
      clear hq
      go_wp2_with fail
      go_still_tail 35, (by kernel_rfl)
      rw [word_bits x0 x1 x2 x3]
      change wpList _ _ _ _ _ wr.drew
      have b1' : Blk wr.drew w.heap.size (rowW 64 []) 97 := b1
      have b2' : Blk wr.drew (w.heap.size + 1) (rowW 64 ((words16 bs).take t)) 97 := b2
      have hK' := hK.drew
      have hcw' : wr.drew.cell? ⟨w.heap.size + 1, t, none⟩ = some (u32V 0) := hcw
      have hfw' : wr.drew.frozen? ⟨w.heap.size + 1, t, none⟩ = false := hfw
      have hwd : (words16 bs).take (t + 1) = (words16 bs).take t ++ [x0.toNat * 16777216 + x1.toNat * 65536 + x2.toNat * 256 + x3.toNat] := by
        unfold words16
        rw [List.take_add_one, List.getElem?_map, List.getElem?_range hlt]
        simp only [Option.map_some, Option.toList_some]
        have z0 : bs.getD (4 * t) 0 = x0 := by rw [← HQ.out]; exact Y0.out
        have z1 : bs.getD (4 * t + 1) 0 = x1 := by rw [← HQ.out]; exact Y1.out
        have z2 : bs.getD (4 * t + 2) 0 = x2 := by rw [← HQ.out]; exact Y2.out
        have z3 : bs.getD (4 * t + 3) 0 = x3 := by rw [← HQ.out]; exact Y3.out
        unfold word4
        rw [z0, z1, z2, z3]
      have HWD := Lib.hid hwd
      clear b1 b2 hK hcw hfw c0 c1 c2 c3 e0 e1 e2 e3 n1 n2 n3 hwd
      generalize wr.drew = V at *
      generalize x0.toNat * 16777216 + x1.toNat * 65536 + x2.toNat * 256 + x3.toNat = X at *
      go_wp2_with fail
      go_roundw
      case rel =>
        refine ⟨t + 1, by go_num, by omega, blk_other b1' _ (by simp) _, ?_, hK'.setCell (fun h => absurd h (by show ¬ (w.heap.size + 1 < w.heap.size); omega)) _⟩
        have hs := blk_set b2' t (u32V X)
        have e := rowW_set (n := 64) (l := (words16 bs).take t) (by have := HLEN.out; omega) X
        rw [HLEN.out, ← HWD.out] at e
        rw [e] at hs
        exact hs
      case measure => simp [intOf]; omega
    · have ht16 : t = 16 := by omega
      have htk : (words16 bs).take t = words16 bs := by rw [ht16]; exact List.take_of_length_le (by unfold words16; simp)
      rw [htk] at b2
      clear htk ht16
      go_wp2_with fail
      go_loopw [5] (fun s wx => ∃ (k : Nat) (l : List Nat), s = .int .i64 k ∧ 16 ≤ k ∧ k ≤ 64 ∧ Hid (l.length = k) ∧ Hid (sched (64 - k) l = sched 48 (words16 bs)) ∧ Hid (∀ i, at0 l i < 4294967296) ∧ Blk wx w.heap.size (rowW 64 []) 97 ∧ Blk wx (w.heap.size + 1) (rowW 64 l) 97 ∧ Keeps Nothing w wx) (fun s _ => 64 - (intOf s).toNat)
      case atStart => exact ⟨16, words16 bs, rfl, by omega, by omega, Lib.hid (by unfold words16; simp), Lib.hid rfl, Lib.hid (words16_lt bs), b1, b2, hK⟩
      case round =>
        clear b1 b2 hK
        obtain ⟨k, l, rfl, hk0, hk1, HLL, HS, HLT, b1, b2, hK⟩ := hrel
        by_cases hlt : k < 64
        · obtain ⟨k2, h2⟩ : ∃ k2, k2 = k - 2 := ⟨_, rfl⟩
          obtain ⟨k15, h15⟩ : ∃ k15, k15 = k - 15 := ⟨_, rfl⟩
          obtain ⟨k7, h7⟩ : ∃ k7, k7 = k - 7 := ⟨_, rfl⟩
          obtain ⟨k16, h16⟩ : ∃ k16, k16 = k - 16 := ⟨_, rfl⟩
          have hx2 := blk_cell b2 k2 (rowW_get (n := 64) (l := l) (i := k2) (by rw [HLL.out]; omega))
          have hx15 := blk_cell b2 k15 (rowW_get (n := 64) (l := l) (i := k15) (by rw [HLL.out]; omega))
          have hx7 := blk_cell b2 k7 (rowW_get (n := 64) (l := l) (i := k7) (by rw [HLL.out]; omega))
          have hx16 := blk_cell b2 k16 (rowW_get (n := 64) (l := l) (i := k16) (by rw [HLL.out]; omega))
          unfold u32V at hx2 hx15 hx7 hx16
          have q2 := HLT.out k2
          have q15 := HLT.out k15
          have q7 := HLT.out k7
          have q16 := HLT.out k16
          have hnx : nextW l = (sig1 (at0 l k2) + at0 l k7 + sig0 (at0 l k15) + at0 l k16) % 4294967296 := by unfold nextW; rw [HLL.out, h2, h15, h7, h16]
          have HNX := Lib.hid hnx
          obtain ⟨a2, ha2⟩ : ∃ a2, at0 l k2 = a2 := ⟨_, rfl⟩
          obtain ⟨a15, ha15⟩ : ∃ a15, at0 l k15 = a15 := ⟨_, rfl⟩
          obtain ⟨a7, ha7⟩ : ∃ a7, at0 l k7 = a7 := ⟨_, rfl⟩
          obtain ⟨a16, ha16⟩ : ∃ a16, at0 l k16 = a16 := ⟨_, rfl⟩
          rw [ha2] at hx2 q2 HNX
          rw [ha15] at hx15 q15 HNX
          rw [ha7] at hx7 q7 HNX
          rw [ha16] at hx16 q16 HNX
          have e2 : IntKind.i64.wrap ((k : Int) - 2) = (k2 : Int) := by rw [IntKind.wrap_i64]; omega
          have e15 : IntKind.i64.wrap ((k : Int) - 15) = (k15 : Int) := by rw [IntKind.wrap_i64]; omega
          have e7 : IntKind.i64.wrap ((k : Int) - 7) = (k7 : Int) := by rw [IntKind.wrap_i64]; omega
          have e16 : IntKind.i64.wrap ((k : Int) - 16) = (k16 : Int) := by rw [IntKind.wrap_i64]; omega
          have l2 : (k2 : Int) < 64 := by omega
          have l15 : (k15 : Int) < 64 := by omega
          have l7 : (k7 : Int) < 64 := by omega
          have l16 : (k16 : Int) < 64 := by omega
          have lk : (k : Int) < 64 := by omega
          have g2 : (0 : Int) ≤ k2 := by omega
          have g15 : (0 : Int) ≤ k15 := by omega
          have g7 : (0 : Int) ≤ k7 := by omega
          have g16 : (0 : Int) ≤ k16 := by omega
          have gk : (0 : Int) ≤ k := by omega
          have hcw := blk_cell b2 k (rowW_free (n := 64) (l := l) (by rw [HLL.out]; exact Nat.le_refl _) hlt)
          have hfw := blk_free b2 k
          have lt7 : k7 < k := by omega
          have lt16 : k16 < k := by omega
          clear hnx h2 h15 h7 h16 ha2 ha15 ha7 ha16
          go_wp2_with fail
          go_quiet (fail)
          go_wp2_with fail
          refine wp_region_mix (fun W => W.cell? ⟨w.heap.size + 1, k7, none⟩ = some (.int .u32 a7) ∧ W.cell? ⟨w.heap.size + 1, k16, none⟩ = some (.int .u32 a16)) [(true, 0), (true, 1), (true, 3), (true, 6), (true, 7), (true, 9), (true, 10), (true, 11), (true, 12), (true, 14), (true, 16), (true, 19), (true, 20), (true, 23), (true, 24), (true, 25), (true, 26), (false, 2), (false, 4), (true, 5), (true, 8), (true, 13), (false, 15), (false, 17), (true, 18), (true, 21), (true, 22), (true, 27), (true, 28), (false, 29)] (by kernel_rfl) (by kernel_rfl) ⟨hx7, hx16⟩ ?_
          simp only [mixItems, List.map_cons, List.map_nil, List.getD_cons_zero, List.getD_cons_succ]
          have b1u : Blk (wr.drewN nq).drew w.heap.size (rowW 64 []) 97 := b1
          have b2u : Blk (wr.drewN nq).drew (w.heap.size + 1) (rowW 64 l) 97 := b2
          have hKu : Keeps Nothing w (wr.drewN nq).drew := (hK.drewN nq).drew
          have s7 : (wr.drewN nq).drew.cell? ⟨w.heap.size + 1, k7, none⟩ = some (.int .u32 a7) := hx7
          have s16 : (wr.drewN nq).drew.cell? ⟨w.heap.size + 1, k16, none⟩ = some (.int .u32 a16) := hx16
          have su : (wr.drewN nq).drew.cell? ⟨w.heap.size + 1, k, none⟩ = some (u32V 0) := hcw
          have sf : (wr.drewN nq).drew.frozen? ⟨w.heap.size + 1, k, none⟩ = false := hfw
          clear b1 b2 hK hx7 hx16 hx2 hx15 hcw hfw
          generalize (wr.drewN nq).drew = U at *
          repeat (refine wpMix_free (fun K hK => ?_); go_simp; refine hK _ ?_; clear hK K)
          refine wpMix_yield (v := .int .u32 a7) (fun W hW => ?_) (fun K hK => ?_)
          · obtain ⟨z1, z2⟩ := hW
            go_simp
          go_simp
          refine hK _ ?_
          clear hK K
          repeat (refine wpMix_free (fun K hK => ?_); go_simp; refine hK _ ?_; clear hK K)
          refine wpMix_yield (v := .int .u32 a16) (fun W hW => ?_) (fun K hK => ?_)
          · obtain ⟨z1, z2⟩ := hW
            go_simp
          go_simp
          refine hK _ ?_
          clear hK K
          refine wpMix_one (fun K hK => ?_)
          go_wp2_with fail
          refine (turn_at a2 q2 17 17 rfl (by omega) (by omega) _).mono ?_
          rintro e w' ⟨rfl, rfl⟩
          go_wp2_with fail
          refine hK _ _ ⟨s7, s16⟩ ?_
          clear hK K
          refine wpMix_one (fun K hK => ?_)
          go_wp2_with fail
          refine (turn_at a2 q2 19 19 rfl (by omega) (by omega) _).mono ?_
          rintro e w' ⟨rfl, rfl⟩
          go_wp2_with fail
          refine hK _ _ ⟨s7, s16⟩ ?_
          clear hK K
          repeat (refine wpMix_free (fun K hK => ?_); go_simp; refine hK _ ?_; clear hK K)
          refine wpMix_one (fun K hK => ?_)
          go_wp2_with fail
          refine (turn_at a15 q15 7 7 rfl (by omega) (by omega) _).mono ?_
          rintro e w' ⟨rfl, rfl⟩
          go_wp2_with fail
          refine hK _ _ ⟨s7, s16⟩ ?_
          clear hK K
          refine wpMix_one (fun K hK => ?_)
          go_wp2_with fail
          refine (turn_at a15 q15 18 18 rfl (by omega) (by omega) _).mono ?_
          rintro e w' ⟨rfl, rfl⟩
          go_wp2_with fail
          refine hK _ _ ⟨s7, s16⟩ ?_
          clear hK K
          repeat (refine wpMix_free (fun K hK => ?_); go_simp; refine hK _ ?_; clear hK K)
          rw [next_bits q2 q7 q15 q16, ← HNX.out]
          refine wpMix_one (fun K hK => ?_)
          have hss : sched (64 - (k + 1)) (l ++ [nextW l]) = sched 48 (words16 bs) := by
            rw [← HS.out, show 64 - k = (64 - (k + 1)) + 1 by omega]; rfl
          have HSS := Lib.hid hss
          clear hss
          generalize nextW l = X at *
          go_wp2_with fail
          have bs2 := blk_set b2u k (u32V X)
          refine hK _ _ ⟨?_, ?_⟩ ?_
          · exact (World.cell?_setCell_other _ _ _ _ (by intro e; have e3 : k = k7 := congrArg Addr.off e; omega)).trans s7
          · exact (World.cell?_setCell_other _ _ _ _ (by intro e; have e3 : k = k16 := congrArg Addr.off e; omega)).trans s16
          clear hK K
          refine wpMix_nil ?_
          go_wp2_with fail
          go_roundw
          case rel =>
            have e := rowW_set (n := 64) (l := l) (by rw [HLL.out]; exact hlt) X
            rw [HLL.out] at e
            rw [e] at bs2
            have hlen : (l ++ [X]).length = k + 1 := by rw [List.length_append, HLL.out]; rfl
            have hX : X < 4294967296 := by rw [HNX.out]; exact Nat.mod_lt _ (by decide)
            exact ⟨k + 1, l ++ [X], by go_num, by omega, by omega, Lib.hid hlen, Lib.hid (HSS.out), Lib.hid (at0_snoc_lt HLT.out hX), blk_other b1u _ (by simp) _, bs2, hKu.setCell (fun h => absurd h (by show ¬ (w.heap.size + 1 < w.heap.size); omega)) _⟩
          case measure => simp [intOf]; omega
        · have hk64 : k = 64 := by omega
          have hfin : l = sched 48 (words16 bs) := by have := HS.out; rw [hk64] at this; exact this
          have HF := Lib.hid hfin
          clear hk64 hfin
          have hs64 : (rowW 64 l).size = 64 := rowW_size (by rw [HLL.out]; exact hk1)
          have hz64 : (rowW 64 []).size = 64 := rowW_size (by simp)
          have r1 := rowOk_blk b1 hz64
          have r2 := rowOk_blk b2 hs64
          have e2 := rowOf_blk b2
          have hag := aggOk_agg 64 (rowW 64 l) hs64 (rowW_one 64 l)
          generalize hZ : rowW 64 l = Z at *
          have HZ := Lib.hid hZ
          clear hZ
          go_wp2_with fail
          have b3 := blk_setRow (cs := Z) b1
          refine bodyPost_ret (v := .agg Z) (results_cell_row rfl _ _ w.heap.size _ Z (0, 0) _ rfl b3 Tryd.underlying97 rfl (by rw [infoW64, hs64])) rfl ?_
          exact ⟨by rw [← HZ.out, HF.out], hK.setRow (fun h => absurd h (Nat.lt_irrefl _)) Z⟩

theorem sched_len : ∀ (n : Nat) (l : List Nat), l.length = 64 - n → n ≤ 64 → (sched n l).length = 64
  | 0, l, h, _ => by simpa [sched] using h
  | n + 1, l, h, hn => sched_len n _ (by rw [List.length_append, h]; simp; omega) (by omega)
theorem sched_lt : ∀ (n : Nat) (l : List Nat), (∀ i, at0 l i < 4294967296) → ∀ i, at0 (sched n l) i < 4294967296
  | 0, _, h => h
  | n + 1, _, h => sched_lt n _ (fun i => at0_snoc_lt h (Nat.mod_lt _ (by decide)) i)
attribute [irreducible] sched

end Go.Proofs.YteifmkfkekglpaaDoor
