/- usufructlaw2.Op as data; usufructlaw2.write. -/
import Derived.Test.YtkhbepmaeegekaaBack2
import Derived.Test.YtkhbepmaeegekaaMid
namespace Go.Proofs.Ytkhbepmaeegekaa
open Go.RowKit

structure OpD where
  kind : Int
  n : Int
  most : Int
  v : Nat
  b : Bool
  s : ByteArray
  h : List UInt8

structure OpD.Fit (o : OpD) : Prop where
  n0 : -9223372036854775808 ≤ o.n
  n1 : o.n < 9223372036854775808
  m0 : -9223372036854775808 ≤ o.most
  m1 : o.most < 9223372036854775808
  v1 : o.v < 18446744073709551616
  h32 : o.h.length = 32

def opCells (o : OpD) : List Value := [.int .i64 o.kind, .int .i64 o.n, .int .i64 o.most, .int .u64 o.v, .bool o.b, .string o.s] ++ o.h.map byteV
/-- Which of six. -/
def kindN (o : OpD) : Int := ((o.kind.tmod 6) + 6).tmod 6
def encB (b : Bool) : List UInt8 := [if b then 1 else 0]
def encOp (o : OpD) : List UInt8 :=
  if kindN o = 0 ∨ kindN o = 2 then encU o.v else if kindN o = 1 then encI o.n else if kindN o = 3 then encB o.b else if kindN o = 4 then encS (bytesOf o.s) else o.h

theorem kindN_bd (o : OpD) : 0 ≤ kindN o ∧ kindN o ≤ 5 := by
  unfold kindN
  have h1 := Int.tmod_lt_of_pos o.kind (show (0 : Int) < 6 by decide)
  have h2 : -6 < o.kind.tmod 6 := by
    have := Int.lt_tmod_of_pos o.kind (show (0 : Int) < 6 by decide)
    omega
  rw [Int.tmod_eq_emod_of_nonneg (by omega)]
  omega

theorem kindN_walk (o : OpD) : (wrap64 (o.kind.tmod 6 + 6)).tmod 6 = kindN o := by
  have h1 := Int.tmod_lt_of_pos o.kind (show (0 : Int) < 6 by decide)
  have h2 := Int.lt_tmod_of_pos o.kind (show (0 : Int) < 6 by decide)
  rw [IntWalk.wrap64_in _ (by omega)]
  rfl

theorem opCells_length (o : OpD) (h : o.h.length = 32) : (opCells o).length = 38 := by simp [opCells, h]

/-- The end of 'write'. -/
def WrittenPost (w : World) (p : Nat) (ao : Option Addr) (bs l : List UInt8) (e : Ending) (w' : World) : Prop :=
  e = .returned (.string ⟨l.toArray⟩) ∧ ∃ ao' cap', Wr w' p ao' cap' (bs ++ l) ∧ Keeps (WrF p ao) w w' ∧ Moved w.heap.size ao ao'

theorem Written.of {w w1 w' : World} {p : Nat} {ao ao1 : Option Addr} {cap1 : Nat} {bs l : List UInt8} {wb : World} (hb : Keeps Nothing w wb) (h1 : Wr w1 p ao1 cap1 (bs ++ l)) (h2 : Keeps (WrF p ao) wb w1) (h3 : Moved wb.heap.size ao ao1) (h4 : Keeps Nothing w1 w') :
    ∃ ao' cap', Wr w' p ao' cap' (bs ++ l) ∧ Keeps (WrF p ao) w w' ∧ Moved w.heap.size ao ao' :=
  ⟨ao1, cap1, ⟨h4.blk h1.blk (fun h => h), h4.own h1.own (fun _ _ h => h)⟩, ((hb.mono (fun _ h _ => h.elim)).trans h2 (fun _ h _ => h)).trans h4 (fun _ h _ => h.elim), h3.mono hb.size⟩

theorem infoHash2 : (Try.prog.info? 59).map (·.size) = some 32 := by kernel_rfl
theorem exec_mid_hash (ρ : Operand → Value) (dst : Option Tmp) (x : Operand) (ty' : TypeId) (pos : String) (af : Array Edge) (gd : Option (Nat × Bool)) (w : World) (h : midOkV w 32 (ρ x) = true) :
    (execOp ρ ⟨dst, .load 59 x, ty', pos, af, gd⟩).run Try.prog w = .ok (.value (.agg (midOfV w 32 (ρ x)))) w :=
  exec_load_mid _ 32 _ Try.underlying59 rfl infoHash2 ρ dst x ty' pos af gd w h

attribute [local go_sem ↓] exec_mid_hash

set_option maxRecDepth 100000 in
set_option maxHeartbeats 2000000 in
theorem write_any {w : World} {p : Nat} {ao : Option Addr} {cap : Nat} {bs : List UInt8} (hW : Wr w p ao cap bs) (o : OpD) (ho : o.Fit) (hs : o.s.size ≤ 1000) (hl : bs.length ≤ 100000) :
    Calls Try.prog 36 #[.pointer (some ⟨p, 0, none⟩), .agg (opCells o).toArray] w (WrittenPost w p ao bs (encOp o)) := by
  have hk := kindN_bd o
  have hkd := kindN_walk o
  have hen : encOp o = if kindN o = 0 ∨ kindN o = 2 then encU o.v else if kindN o = 1 then encI o.n else if kindN o = 3 then encB o.b else if kindN o = 4 then encS (bytesOf o.s) else o.h := rfl
  have HEN := Lib.hid hen
  clear hen
  have hcs : (opCells o).toArray.size = 38 := by simpa using opCells_length o ho.h32
  have hWlt : ∀ i, WrF p ao i → i < w.heap.size := fun i hi => hi.elim (fun h => h ▸ hW.lt.1) (fun h => hW.lt.2 i h)
  have c0 : (opCells o).toArray[0]? = some (.int .i64 o.kind) := rfl
  have c1 : (opCells o).toArray[1]? = some (.int .i64 o.n) := rfl
  have c3 : (opCells o).toArray[3]? = some (.int .u64 o.v) := rfl
  have c4 : (opCells o).toArray[4]? = some (.bool o.b) := rfl
  have c5 : (opCells o).toArray[5]? = some (.string o.s) := rfl
  have hr6 : ∀ j v, (o.h.map byteV)[j]? = some v → (opCells o)[6 + j]? = some v := fun j v hj => by
    unfold opCells
    rw [List.getElem?_append_right (by simp)]
    simpa using hj
  have HR6 := Lib.hid hr6
  clear hr6
  generalize hC : (opCells o).toArray = C at *
  have HC := Lib.hid hC
  clear hC
  have HCS := Lib.hid hcs
  clear hcs
  have hplt := hW.lt.1
  have W1 : Wr (w.alloc (.cells C 61)) p ao cap bs := ⟨blk_alloc hW.blk _, World.ownsRow.alloc hW.own _⟩
  have K1 : Keeps Nothing w (w.alloc (.cells C 61)) := (Keeps.refl _ _).alloc _
  have B1 : Blk (w.alloc (.cells C 61)) w.heap.size C 61 := blk_new w C _
  have hcase : kindN o = 0 ∨ kindN o = 1 ∨ kindN o = 2 ∨ kindN o = 3 ∨ kindN o = 4 ∨ kindN o = 5 := by omega
  rcases hcase with hc | hc | hc | hc | hc | hc
  · rw [hc] at hkd HEN
    have hen : encOp o = encU o.v := HEN.out
    rw [hen]
    clear HEN hen hk hc
    go_enter Try.func36, Try.ntmps36
    go_wp2_with fail
    refine (uint_any W1 o.v ho.v1 (by omega)).mono ?_
    rintro e w1 ⟨rfl, ao1, cap1, w1h, k1, m1⟩
    have B2 := k1.blk B1 (fun h => by have := hWlt _ h; omega)
    have d3 : w1.cell? ⟨w.heap.size, 3, none⟩ = some (.int .u64 o.v) := blk_cell B2 3 c3
    go_wp2_with fail
    refine (refUint o.v ho.v1 w1).mono ?_
    rintro e w2 ⟨rfl, k2⟩
    go_wp2_with fail
    go_ret
    exact ⟨rfl, Written.of K1 w1h k1 m1 k2⟩
  · rw [hc] at hkd HEN
    have hen : encOp o = encI o.n := HEN.out
    rw [hen]
    clear HEN hen hk hc
    go_enter Try.func36, Try.ntmps36
    go_wp2_with fail
    refine (int_any W1 o.n ho.n0 ho.n1 (by omega)).mono ?_
    rintro e w1 ⟨rfl, ao1, cap1, w1h, k1, m1⟩
    have B2 := k1.blk B1 (fun h => by have := hWlt _ h; omega)
    have d3 : w1.cell? ⟨w.heap.size, 1, none⟩ = some (.int .i64 o.n) := blk_cell B2 1 c1
    go_wp2_with fail
    refine (refInt o.n ho.n0 ho.n1 w1).mono ?_
    rintro e w2 ⟨rfl, k2⟩
    go_wp2_with fail
    go_ret
    exact ⟨rfl, Written.of K1 w1h k1 m1 k2⟩
  · rw [hc] at hkd HEN
    have hen : encOp o = encU o.v := HEN.out
    rw [hen]
    clear HEN hen hk hc
    go_enter Try.func36, Try.ntmps36
    go_wp2_with fail
    refine (uint_any W1 o.v ho.v1 (by omega)).mono ?_
    rintro e w1 ⟨rfl, ao1, cap1, w1h, k1, m1⟩
    have B2 := k1.blk B1 (fun h => by have := hWlt _ h; omega)
    have d3 : w1.cell? ⟨w.heap.size, 3, none⟩ = some (.int .u64 o.v) := blk_cell B2 3 c3
    go_wp2_with fail
    refine (refUint o.v ho.v1 w1).mono ?_
    rintro e w2 ⟨rfl, k2⟩
    go_wp2_with fail
    go_ret
    exact ⟨rfl, Written.of K1 w1h k1 m1 k2⟩
  · rw [hc] at hkd HEN
    have hen : encOp o = encB o.b := HEN.out
    rw [hen]
    clear HEN hen hk hc
    go_enter Try.func36, Try.ntmps36
    go_wp2_with fail
    refine Calls.mono (show Calls Try.prog 49 #[.pointer (some ⟨p, 0, none⟩), .bool o.b] _ (WrPost _ p ao (bs ++ encB o.b)) from bool_any W1 o.b (by omega)) ?_
    rintro e w1 ⟨rfl, ao1, cap1, w1h, k1, m1⟩
    have B2 := k1.blk B1 (fun h => by have := hWlt _ h; omega)
    have d3 : w1.cell? ⟨w.heap.size, 4, none⟩ = some (.bool o.b) := blk_cell B2 4 c4
    go_wp2_with fail
    refine Calls.mono (show Calls Try.prog 56 #[.bool o.b] _ (SaysText w1 (encB o.b)) from refBool o.b w1) ?_
    rintro e w2 ⟨rfl, k2⟩
    go_wp2_with fail
    go_ret
    exact ⟨rfl, Written.of K1 w1h k1 m1 k2⟩
  · rw [hc] at hkd HEN
    have hen : encOp o = encS (bytesOf o.s) := HEN.out
    rw [hen]
    clear HEN hen hk hc
    go_enter Try.func36, Try.ntmps36
    go_wp2_with fail
    refine (text_any W1 o.s (by omega) (by omega)).mono ?_
    rintro e w1 ⟨rfl, ao1, cap1, w1h, k1, m1⟩
    have B2 := k1.blk B1 (fun h => by have := hWlt _ h; omega)
    have d3 : w1.cell? ⟨w.heap.size, 5, none⟩ = some (.string o.s) := blk_cell B2 5 c5
    go_wp2_with fail
    refine (refText o.s (by omega) w1).mono ?_
    rintro e w2 ⟨rfl, k2⟩
    go_wp2_with fail
    go_ret
    exact ⟨rfl, Written.of K1 w1h k1 m1 k2⟩
  · rw [hc] at hkd HEN
    have hen : encOp o = o.h := HEN.out
    rw [hen]
    clear HEN hen hk hc
    have h32 := ho.h32
    have hr : ∀ (wx : World), Blk wx w.heap.size C 61 → wx.rangeAt w.heap.size 6 (o.h.map byteV) := fun wx hb => by
      have hb' : Blk wx w.heap.size (opCells o).toArray 61 := HC.out ▸ hb
      have := rangeAt_sub (rangeAt_blk hb') HR6.out
      rwa [Nat.zero_add] at this
    have HR := Lib.hid hr
    clear hr
    have hml : (o.h.map byteV).length = 32 := by rw [List.length_map, h32]
    have ok1 : midOk (w.alloc (.cells C 61)) w.heap.size 6 32 = true := by have := midOk_range (HR.out _ B1); rwa [hml] at this
    have of1 : midOf (w.alloc (.cells C 61)) w.heap.size 6 32 = (o.h.map byteV).toArray := by have := midOf_range (HR.out _ B1); rwa [hml] at this
    have H32 := Lib.hid h32
    have HML := Lib.hid hml
    clear h32 hml
    go_enter Try.func36, Try.ntmps36
    go_wp2_with fail
    refine (hash_any W1 o.h H32.out (by omega)).mono ?_
    rintro e w1 ⟨rfl, ao1, cap1, w1h, k1, m1⟩
    have B2 := k1.blk B1 (fun h => by have := hWlt _ h; omega)
    have ok2 : midOk w1 w.heap.size 6 32 = true := by have := midOk_range (HR.out _ B2); rwa [HML.out] at this
    have of2 : midOf w1 w.heap.size 6 32 = (o.h.map byteV).toArray := by have := midOf_range (HR.out _ B2); rwa [HML.out] at this
    go_wp2_with fail
    refine (refHash o.h H32.out w1).mono ?_
    rintro e w2 ⟨rfl, k2⟩
    go_wp2_with fail
    go_ret
    exact ⟨rfl, Written.of K1 w1h k1 m1 k2⟩

end Go.Proofs.Ytkhbepmaeegekaa
