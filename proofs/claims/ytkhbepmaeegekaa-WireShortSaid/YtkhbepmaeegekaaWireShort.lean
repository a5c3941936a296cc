/- usufructlaw2.WireShort: for any thing and any cut the law returns true; no condition. -/
import Derived.Test.YtkhbepmaeegekaaRows
import Derived.Test.YtkhbepmaeegekaaShortP2
import Derived.Lib.Strings
import Derived.ProofKit
import Derived.OpenShut
import Derived.ShutString
import Derived.ChangeOld
import Derived.Below
namespace Go.Proofs.Ytkhbepmaeegekaa.wireShort
open Go.ChangeShapes Go.WideShapes Go.ChangeAt Go.RowKit
open Go.ChangeMaps (open_string shut_string)

theorem own : ownKnob Try.prog.godebug = none := by kernel_rfl
theorem laidOut : laidOutB Try.prog = true := by kernel_rfl


theorem infoOp : (Try.prog.info? 61).map (·.size) = some 38 := by kernel_rfl
theorem exec_mid_op (ρ : Operand → Value) (dst : Option Tmp) (x : Operand) (ty' : TypeId) (pos : String) (af : Array Edge) (gd : Option (Nat × Bool)) (w : World) (h : midOkV w 38 (ρ x) = true) :
    (execOp ρ ⟨dst, .load 61 x, ty', pos, af, gd⟩).run Try.prog w = .ok (.value (.agg (midOfV w 38 (ρ x)))) w :=
  exec_load_mid _ 38 _ Try.underlying61 rfl infoOp ρ dst x ty' pos af gd w h

attribute [local go_sem ↓] exec_mid_op

theorem fits_of_len {l : List UInt8} (h : 0 < l.length) (hl : l.length ≤ 1000) (cut : Int) : ∃ n : Nat, n < l.length ∧ (wrap64 (cut.tmod l.length + l.length)).tmod l.length = n := by
  have hp : (0 : Int) < l.length := by omega
  have h1 := Int.tmod_lt_of_pos cut hp
  have h2 := Int.lt_tmod_of_pos cut hp
  rw [IntWalk.wrap64_in _ (by omega), Int.tmod_eq_emod_of_nonneg (by omega)]
  have h3 := Int.emod_nonneg (cut.tmod l.length + l.length) (show (l.length : Int) ≠ 0 by omega)
  have h4 := Int.emod_lt_of_pos (cut.tmod l.length + l.length) hp
  exact ⟨((cut.tmod l.length + l.length) % l.length).toNat, by omega, by omega⟩

set_option maxRecDepth 100000 in
set_option maxHeartbeats 1000000 in
theorem walk_long (o : OpD) (cut : Int) (hs : 200 < o.s.size) (w : World) :
    Calls Try.prog 12 #[.agg (opCells o).toArray, .int .i64 cut] w (SaysTrue w) := by
  have c5 : (opCells o).toArray[5]? = some (.string o.s) := rfl
  generalize hC : (opCells o).toArray = C at *
  clear hC
  go_enter Try.func12, Try.ntmps12
  go_wp2_with fail
  refine (newWriter_any _).mono ?_
  rintro e w0 ⟨rfl, rfl⟩
  go_wp2_with fail
  refine (told_true _).mono ?_
  rintro e w1 ⟨rfl, k1⟩
  go_wp2_with fail
  go_ret
  exact ⟨rfl, (((Keeps.refl _ _).alloc _).alloc _).trans k1 (fun _ h _ => h)⟩

set_option maxRecDepth 100000 in
set_option maxHeartbeats 2000000 in
theorem walk_uint0 (o : OpD) (ho : o.Fit) (cut : Int) (hs : o.s.size ≤ 200) (hkc : kindN o = 0) (w : World) :
    Calls Try.prog 12 #[.agg (opCells o).toArray, .int .i64 cut] w (SaysTrue w) := by
  have hkd := kindN_walk o
  rw [hkc] at hkd
  have c0 : (opCells o).toArray[0]? = some (.int .i64 o.kind) := rfl
  have c5 : (opCells o).toArray[5]? = some (.string o.s) := rfl
  have hlen := encOp_len o ho (by omega)
  have hen : encOp o = encU o.v := by unfold encOp; rw [hkc]; rfl
  obtain ⟨n, hn, hnw⟩ := fits_of_len (encOp_pos o ho) (by omega) cut
  have hsz : (opCells o).toArray.size = 38 := by simpa using opCells_length o ho.h32
  have HSZ := Lib.hid hsz
  clear hsz
  have hwr := fun (wx : World) (p : Nat) (hW : Wr wx p none 0 []) => write_any hW o ho (by omega) (by simp)
  have HWR := Lib.hid hwr
  clear hwr hkc
  generalize hC : (opCells o).toArray = C at *
  have HC := Lib.hid hC
  clear hC
  have hE0 : ¬ encOp o = [] := fun h => by rw [h] at hn; simp at hn
  have hE : bytesOf ⟨(encOp o).toArray⟩ = encOp o := rfl
  generalize hEE : encOp o = E at *
  have HE := Lib.hid hE
  have HEN := Lib.hid hen
  clear hE hen hEE
  go_enter Try.func12, Try.ntmps12
  go_wp2_with fail
  refine (newWriter_any _).mono ?_
  rintro e w0 ⟨rfl, hw0⟩
  have W0 : WrNew (w.alloc (.cells C 61)) w0 (w.alloc (.cells C 61)).heap.size none 0 [] := hw0 ▸ wrNew_new _
  have B0 : Blk w0 w.heap.size C 61 := by rw [hw0]; exact blk_alloc (blk_new w C _) _
  have K0 : Keeps Nothing w w0 := hw0 ▸ (((Keeps.refl _ _).alloc _).alloc _)
  clear hw0
  rw [World.size_alloc] at W0 ⊢
  have hr0 := rangeAt_blk (cs := C.toList) (by simpa using B0)
  have ok0 := midOk_range hr0
  have of0 := midOf_range hr0
  rw [Array.length_toList, HSZ.out] at ok0 of0
  rw [Array.toArray_toList] at of0
  have hl0 := W0.wr.lt
  have hWR := HWR.out w0 _ W0.wr
  have c0' : w0.cell? ⟨w.heap.size, 5, none⟩ = some (.string o.s) := blk_cell B0 5 c5
  clear hr0
  go_wp2_with fail
  refine hWR.mono ?_
  rintro e w1 ⟨rfl, ao1, cap1, h1, k1, m1⟩
  have W1 := W0.step h1 k1 m1
  have hp := W0.pn
  rw [World.size_alloc] at hp
  have B1 := k1.blk B0 (fun h => by
    rcases h with h | h
    · omega
    · have := W0.an _ h; rw [World.size_alloc] at this; omega)
  have d0 : w1.cell? ⟨w.heap.size, 0, none⟩ = some (.int .i64 o.kind) := blk_cell B1 0 c0
  have K1 : Keeps Nothing w w1 := ((Keeps.refl _ _).alloc _).trans W1.keep (fun _ h _ => h)
  clear W0 h1 k1 m1 hWR ok0 of0
  obtain ⟨cap2, w2, hrun, hat, K2, hs2⟩ := run_bytes w1 (ByteArray.extract ⟨E.toArray⟩ 0 n)
  have hxt : bytesOf (ByteArray.extract ⟨E.toArray⟩ 0 n) = E.take n := by
    unfold bytesOf
    rw [Lib.extract_data, List.drop_zero, Nat.sub_zero]
  rw [hxt] at hat
  have hxl : (ByteArray.extract ⟨E.toArray⟩ 0 n).size = n := by rw [← bytesOf_length, hxt, List.length_take]; omega
  rw [hxl] at hrun
  clear hxt hxl
  have hTl : (E.take n).length = n := by rw [List.length_take]; omega
  generalize hTT : E.take n = T at *
  have HTT := Lib.hid hTT
  have HTL := Lib.hid hTl
  clear hTT hTl
  go_wp2_with fail
  refine (newReader_len _ HTL.out hat (by have := HTL.out; omega)).mono ?_
  rintro e w3 ⟨q, ao3, cap3, rfl, R3, K3, hq, hqa⟩
  have d0' : w3.cell? ⟨w.heap.size, 0, none⟩ = some (.int .i64 o.kind) := K3.cell (K2.cell d0 (fun h => h)) (fun h => h)
  clear hrun hat d0
  have hS : Calls Try.prog 44 #[.pointer (some ⟨q, 0, none⟩)] w3 (RdPost w3 q ao3 cap3 T (.int .u64 (decU T).2.1) 3 (posOf 3 0) 0) := by
    have h := rUint R3 (by have := HTL.out; omega)
    have hd := decU_short o.v n ho.v1 (by rw [← HEN.out]; exact hn)
    rw [← HEN.out, HTT.out] at hd
    rw [List.drop_zero] at h
    rw [hd] at h ⊢
    exact h
  go_wp2_with fail
  refine hS.mono ?_
  rintro e w4 ⟨ev, rfl, hev, R4, K4⟩
  go_wp2_with fail
  refine (told_true w4).mono ?_
  rintro e w5 ⟨rfl, K5⟩
  have hev5 := hev.keeps K5 (fun _ h => h.elim)
  have R5 := R4.keepsN K5
  go_wp2_with fail
  refine (is_any hev5 3 0).mono ?_
  rintro e w6 ⟨rfl, n6, rfl⟩
  have R6 := R5.drewN n6
  go_wp2_with fail
  refine (rAt_any R6).mono ?_
  rintro e w7 ⟨rfl, rfl⟩
  go_wp2_with fail
  go_ret
  refine ⟨rfl, ?_⟩
  have hlt1 := K1.size
  have hlt2 := K2.size
  exact ((((K1.trans K2 (fun _ h _ => h)).trans K3 (fun _ h _ => h)).trans K4 (fun i h hlt => by subst h; omega)).trans K5 (fun _ h _ => h)).drewN n6

set_option maxRecDepth 100000 in
set_option maxHeartbeats 2000000 in
theorem walk_uint2 (o : OpD) (ho : o.Fit) (cut : Int) (hs : o.s.size ≤ 200) (hkc : kindN o = 2) (w : World) :
    Calls Try.prog 12 #[.agg (opCells o).toArray, .int .i64 cut] w (SaysTrue w) := by
  have hkd := kindN_walk o
  rw [hkc] at hkd
  have c0 : (opCells o).toArray[0]? = some (.int .i64 o.kind) := rfl
  have c5 : (opCells o).toArray[5]? = some (.string o.s) := rfl
  have hlen := encOp_len o ho (by omega)
  have hen : encOp o = encU o.v := by unfold encOp; rw [hkc]; rfl
  obtain ⟨n, hn, hnw⟩ := fits_of_len (encOp_pos o ho) (by omega) cut
  have hsz : (opCells o).toArray.size = 38 := by simpa using opCells_length o ho.h32
  have HSZ := Lib.hid hsz
  clear hsz
  have hwr := fun (wx : World) (p : Nat) (hW : Wr wx p none 0 []) => write_any hW o ho (by omega) (by simp)
  have HWR := Lib.hid hwr
  clear hwr hkc
  generalize hC : (opCells o).toArray = C at *
  have HC := Lib.hid hC
  clear hC
  have hE0 : ¬ encOp o = [] := fun h => by rw [h] at hn; simp at hn
  have hE : bytesOf ⟨(encOp o).toArray⟩ = encOp o := rfl
  generalize hEE : encOp o = E at *
  have HE := Lib.hid hE
  have HEN := Lib.hid hen
  clear hE hen hEE
  go_enter Try.func12, Try.ntmps12
  go_wp2_with fail
  refine (newWriter_any _).mono ?_
  rintro e w0 ⟨rfl, hw0⟩
  have W0 : WrNew (w.alloc (.cells C 61)) w0 (w.alloc (.cells C 61)).heap.size none 0 [] := hw0 ▸ wrNew_new _
  have B0 : Blk w0 w.heap.size C 61 := by rw [hw0]; exact blk_alloc (blk_new w C _) _
  have K0 : Keeps Nothing w w0 := hw0 ▸ (((Keeps.refl _ _).alloc _).alloc _)
  clear hw0
  rw [World.size_alloc] at W0 ⊢
  have hr0 := rangeAt_blk (cs := C.toList) (by simpa using B0)
  have ok0 := midOk_range hr0
  have of0 := midOf_range hr0
  rw [Array.length_toList, HSZ.out] at ok0 of0
  rw [Array.toArray_toList] at of0
  have hl0 := W0.wr.lt
  have hWR := HWR.out w0 _ W0.wr
  have c0' : w0.cell? ⟨w.heap.size, 5, none⟩ = some (.string o.s) := blk_cell B0 5 c5
  clear hr0
  go_wp2_with fail
  refine hWR.mono ?_
  rintro e w1 ⟨rfl, ao1, cap1, h1, k1, m1⟩
  have W1 := W0.step h1 k1 m1
  have hp := W0.pn
  rw [World.size_alloc] at hp
  have B1 := k1.blk B0 (fun h => by
    rcases h with h | h
    · omega
    · have := W0.an _ h; rw [World.size_alloc] at this; omega)
  have d0 : w1.cell? ⟨w.heap.size, 0, none⟩ = some (.int .i64 o.kind) := blk_cell B1 0 c0
  have K1 : Keeps Nothing w w1 := ((Keeps.refl _ _).alloc _).trans W1.keep (fun _ h _ => h)
  clear W0 h1 k1 m1 hWR ok0 of0
  obtain ⟨cap2, w2, hrun, hat, K2, hs2⟩ := run_bytes w1 (ByteArray.extract ⟨E.toArray⟩ 0 n)
  have hxt : bytesOf (ByteArray.extract ⟨E.toArray⟩ 0 n) = E.take n := by
    unfold bytesOf
    rw [Lib.extract_data, List.drop_zero, Nat.sub_zero]
  rw [hxt] at hat
  have hxl : (ByteArray.extract ⟨E.toArray⟩ 0 n).size = n := by rw [← bytesOf_length, hxt, List.length_take]; omega
  rw [hxl] at hrun
  clear hxt hxl
  have hTl : (E.take n).length = n := by rw [List.length_take]; omega
  generalize hTT : E.take n = T at *
  have HTT := Lib.hid hTT
  have HTL := Lib.hid hTl
  clear hTT hTl
  go_wp2_with fail
  refine (newReader_len _ HTL.out hat (by have := HTL.out; omega)).mono ?_
  rintro e w3 ⟨q, ao3, cap3, rfl, R3, K3, hq, hqa⟩
  have d0' : w3.cell? ⟨w.heap.size, 0, none⟩ = some (.int .i64 o.kind) := K3.cell (K2.cell d0 (fun h => h)) (fun h => h)
  clear hrun hat d0
  have hS : Calls Try.prog 44 #[.pointer (some ⟨q, 0, none⟩)] w3 (RdPost w3 q ao3 cap3 T (.int .u64 (decU T).2.1) 3 (posOf 3 0) 0) := by
    have h := rUint R3 (by have := HTL.out; omega)
    have hd := decU_short o.v n ho.v1 (by rw [← HEN.out]; exact hn)
    rw [← HEN.out, HTT.out] at hd
    rw [List.drop_zero] at h
    rw [hd] at h ⊢
    exact h
  go_wp2_with fail
  refine hS.mono ?_
  rintro e w4 ⟨ev, rfl, hev, R4, K4⟩
  go_wp2_with fail
  refine (told_true w4).mono ?_
  rintro e w5 ⟨rfl, K5⟩
  have hev5 := hev.keeps K5 (fun _ h => h.elim)
  have R5 := R4.keepsN K5
  go_wp2_with fail
  refine (is_any hev5 3 0).mono ?_
  rintro e w6 ⟨rfl, n6, rfl⟩
  have R6 := R5.drewN n6
  go_wp2_with fail
  refine (rAt_any R6).mono ?_
  rintro e w7 ⟨rfl, rfl⟩
  go_wp2_with fail
  go_ret
  refine ⟨rfl, ?_⟩
  have hlt1 := K1.size
  have hlt2 := K2.size
  exact ((((K1.trans K2 (fun _ h _ => h)).trans K3 (fun _ h _ => h)).trans K4 (fun i h hlt => by subst h; omega)).trans K5 (fun _ h _ => h)).drewN n6

set_option maxRecDepth 100000 in
set_option maxHeartbeats 2000000 in
theorem walk_int (o : OpD) (ho : o.Fit) (cut : Int) (hs : o.s.size ≤ 200) (hkc : kindN o = 1) (w : World) :
    Calls Try.prog 12 #[.agg (opCells o).toArray, .int .i64 cut] w (SaysTrue w) := by
  have hkd := kindN_walk o
  rw [hkc] at hkd
  have c0 : (opCells o).toArray[0]? = some (.int .i64 o.kind) := rfl
  have c5 : (opCells o).toArray[5]? = some (.string o.s) := rfl
  have hlen := encOp_len o ho (by omega)
  have hen : encOp o = encI o.n := by unfold encOp; rw [hkc]; rfl
  obtain ⟨n, hn, hnw⟩ := fits_of_len (encOp_pos o ho) (by omega) cut
  have hsz : (opCells o).toArray.size = 38 := by simpa using opCells_length o ho.h32
  have HSZ := Lib.hid hsz
  clear hsz
  have hwr := fun (wx : World) (p : Nat) (hW : Wr wx p none 0 []) => write_any hW o ho (by omega) (by simp)
  have HWR := Lib.hid hwr
  clear hwr hkc
  generalize hC : (opCells o).toArray = C at *
  have HC := Lib.hid hC
  clear hC
  have hE0 : ¬ encOp o = [] := fun h => by rw [h] at hn; simp at hn
  have hE : bytesOf ⟨(encOp o).toArray⟩ = encOp o := rfl
  generalize hEE : encOp o = E at *
  have HE := Lib.hid hE
  have HEN := Lib.hid hen
  clear hE hen hEE
  go_enter Try.func12, Try.ntmps12
  go_wp2_with fail
  refine (newWriter_any _).mono ?_
  rintro e w0 ⟨rfl, hw0⟩
  have W0 : WrNew (w.alloc (.cells C 61)) w0 (w.alloc (.cells C 61)).heap.size none 0 [] := hw0 ▸ wrNew_new _
  have B0 : Blk w0 w.heap.size C 61 := by rw [hw0]; exact blk_alloc (blk_new w C _) _
  have K0 : Keeps Nothing w w0 := hw0 ▸ (((Keeps.refl _ _).alloc _).alloc _)
  clear hw0
  rw [World.size_alloc] at W0 ⊢
  have hr0 := rangeAt_blk (cs := C.toList) (by simpa using B0)
  have ok0 := midOk_range hr0
  have of0 := midOf_range hr0
  rw [Array.length_toList, HSZ.out] at ok0 of0
  rw [Array.toArray_toList] at of0
  have hl0 := W0.wr.lt
  have hWR := HWR.out w0 _ W0.wr
  have c0' : w0.cell? ⟨w.heap.size, 5, none⟩ = some (.string o.s) := blk_cell B0 5 c5
  clear hr0
  go_wp2_with fail
  refine hWR.mono ?_
  rintro e w1 ⟨rfl, ao1, cap1, h1, k1, m1⟩
  have W1 := W0.step h1 k1 m1
  have hp := W0.pn
  rw [World.size_alloc] at hp
  have B1 := k1.blk B0 (fun h => by
    rcases h with h | h
    · omega
    · have := W0.an _ h; rw [World.size_alloc] at this; omega)
  have d0 : w1.cell? ⟨w.heap.size, 0, none⟩ = some (.int .i64 o.kind) := blk_cell B1 0 c0
  have K1 : Keeps Nothing w w1 := ((Keeps.refl _ _).alloc _).trans W1.keep (fun _ h _ => h)
  clear W0 h1 k1 m1 hWR ok0 of0
  obtain ⟨cap2, w2, hrun, hat, K2, hs2⟩ := run_bytes w1 (ByteArray.extract ⟨E.toArray⟩ 0 n)
  have hxt : bytesOf (ByteArray.extract ⟨E.toArray⟩ 0 n) = E.take n := by
    unfold bytesOf
    rw [Lib.extract_data, List.drop_zero, Nat.sub_zero]
  rw [hxt] at hat
  have hxl : (ByteArray.extract ⟨E.toArray⟩ 0 n).size = n := by rw [← bytesOf_length, hxt, List.length_take]; omega
  rw [hxl] at hrun
  clear hxt hxl
  have hTl : (E.take n).length = n := by rw [List.length_take]; omega
  generalize hTT : E.take n = T at *
  have HTT := Lib.hid hTT
  have HTL := Lib.hid hTl
  clear hTT hTl
  go_wp2_with fail
  refine (newReader_len _ HTL.out hat (by have := HTL.out; omega)).mono ?_
  rintro e w3 ⟨q, ao3, cap3, rfl, R3, K3, hq, hqa⟩
  have d0' : w3.cell? ⟨w.heap.size, 0, none⟩ = some (.int .i64 o.kind) := K3.cell (K2.cell d0 (fun h => h)) (fun h => h)
  clear hrun hat d0
  have hS : Calls Try.prog 45 #[.pointer (some ⟨q, 0, none⟩)] w3 (RdPost w3 q ao3 cap3 T (.int .i64 (decI T).2.1) 3 (posOf 3 0) 0) := by
    have h := rInt_any R3 (by have := HTL.out; omega)
    have hd := decI_short o.n n ho.n0 ho.n1 (by rw [← HEN.out]; exact hn)
    rw [← HEN.out, HTT.out] at hd
    rw [List.drop_zero] at h
    rw [hd.1, hd.2, Nat.add_zero] at h
    exact h
  go_wp2_with fail
  refine hS.mono ?_
  rintro e w4 ⟨ev, rfl, hev, R4, K4⟩
  go_wp2_with fail
  refine (told_true w4).mono ?_
  rintro e w5 ⟨rfl, K5⟩
  have hev5 := hev.keeps K5 (fun _ h => h.elim)
  have R5 := R4.keepsN K5
  go_wp2_with fail
  refine (is_any hev5 3 0).mono ?_
  rintro e w6 ⟨rfl, n6, rfl⟩
  have R6 := R5.drewN n6
  go_wp2_with fail
  refine (rAt_any R6).mono ?_
  rintro e w7 ⟨rfl, rfl⟩
  go_wp2_with fail
  go_ret
  refine ⟨rfl, ?_⟩
  have hlt1 := K1.size
  have hlt2 := K2.size
  exact ((((K1.trans K2 (fun _ h _ => h)).trans K3 (fun _ h _ => h)).trans K4 (fun i h hlt => by subst h; omega)).trans K5 (fun _ h _ => h)).drewN n6

set_option maxRecDepth 100000 in
set_option maxHeartbeats 2000000 in
theorem walk_bool (o : OpD) (ho : o.Fit) (cut : Int) (hs : o.s.size ≤ 200) (hkc : kindN o = 3) (w : World) :
    Calls Try.prog 12 #[.agg (opCells o).toArray, .int .i64 cut] w (SaysTrue w) := by
  have hkd := kindN_walk o
  rw [hkc] at hkd
  have c0 : (opCells o).toArray[0]? = some (.int .i64 o.kind) := rfl
  have c5 : (opCells o).toArray[5]? = some (.string o.s) := rfl
  have hlen := encOp_len o ho (by omega)
  have hen : encOp o = encB o.b := by unfold encOp; rw [hkc]; rfl
  obtain ⟨n, hn, hnw⟩ := fits_of_len (encOp_pos o ho) (by omega) cut
  have hsz : (opCells o).toArray.size = 38 := by simpa using opCells_length o ho.h32
  have HSZ := Lib.hid hsz
  clear hsz
  have hwr := fun (wx : World) (p : Nat) (hW : Wr wx p none 0 []) => write_any hW o ho (by omega) (by simp)
  have HWR := Lib.hid hwr
  clear hwr hkc
  generalize hC : (opCells o).toArray = C at *
  have HC := Lib.hid hC
  clear hC
  have hE0 : ¬ encOp o = [] := fun h => by rw [h] at hn; simp at hn
  have hE : bytesOf ⟨(encOp o).toArray⟩ = encOp o := rfl
  generalize hEE : encOp o = E at *
  have HE := Lib.hid hE
  have HEN := Lib.hid hen
  clear hE hen hEE
  go_enter Try.func12, Try.ntmps12
  go_wp2_with fail
  refine (newWriter_any _).mono ?_
  rintro e w0 ⟨rfl, hw0⟩
  have W0 : WrNew (w.alloc (.cells C 61)) w0 (w.alloc (.cells C 61)).heap.size none 0 [] := hw0 ▸ wrNew_new _
  have B0 : Blk w0 w.heap.size C 61 := by rw [hw0]; exact blk_alloc (blk_new w C _) _
  have K0 : Keeps Nothing w w0 := hw0 ▸ (((Keeps.refl _ _).alloc _).alloc _)
  clear hw0
  rw [World.size_alloc] at W0 ⊢
  have hr0 := rangeAt_blk (cs := C.toList) (by simpa using B0)
  have ok0 := midOk_range hr0
  have of0 := midOf_range hr0
  rw [Array.length_toList, HSZ.out] at ok0 of0
  rw [Array.toArray_toList] at of0
  have hl0 := W0.wr.lt
  have hWR := HWR.out w0 _ W0.wr
  have c0' : w0.cell? ⟨w.heap.size, 5, none⟩ = some (.string o.s) := blk_cell B0 5 c5
  clear hr0
  go_wp2_with fail
  refine hWR.mono ?_
  rintro e w1 ⟨rfl, ao1, cap1, h1, k1, m1⟩
  have W1 := W0.step h1 k1 m1
  have hp := W0.pn
  rw [World.size_alloc] at hp
  have B1 := k1.blk B0 (fun h => by
    rcases h with h | h
    · omega
    · have := W0.an _ h; rw [World.size_alloc] at this; omega)
  have d0 : w1.cell? ⟨w.heap.size, 0, none⟩ = some (.int .i64 o.kind) := blk_cell B1 0 c0
  have K1 : Keeps Nothing w w1 := ((Keeps.refl _ _).alloc _).trans W1.keep (fun _ h _ => h)
  clear W0 h1 k1 m1 hWR ok0 of0
  obtain ⟨cap2, w2, hrun, hat, K2, hs2⟩ := run_bytes w1 (ByteArray.extract ⟨E.toArray⟩ 0 n)
  have hxt : bytesOf (ByteArray.extract ⟨E.toArray⟩ 0 n) = E.take n := by
    unfold bytesOf
    rw [Lib.extract_data, List.drop_zero, Nat.sub_zero]
  rw [hxt] at hat
  have hxl : (ByteArray.extract ⟨E.toArray⟩ 0 n).size = n := by rw [← bytesOf_length, hxt, List.length_take]; omega
  rw [hxl] at hrun
  clear hxt hxl
  have hTl : (E.take n).length = n := by rw [List.length_take]; omega
  generalize hTT : E.take n = T at *
  have HTT := Lib.hid hTT
  have HTL := Lib.hid hTl
  clear hTT hTl
  go_wp2_with fail
  refine (newReader_len _ HTL.out hat (by have := HTL.out; omega)).mono ?_
  rintro e w3 ⟨q, ao3, cap3, rfl, R3, K3, hq, hqa⟩
  have d0' : w3.cell? ⟨w.heap.size, 0, none⟩ = some (.int .i64 o.kind) := K3.cell (K2.cell d0 (fun h => h)) (fun h => h)
  clear hrun hat d0
  have hS : Calls Try.prog 46 #[.pointer (some ⟨q, 0, none⟩)] w3 (RdPost w3 q ao3 cap3 T (.bool false) 3 (posOf 3 0) 0) := by
    have h := rBool_any R3 (by have := HTL.out; omega)
    have hd := decB_short o.b n (by rw [← HEN.out]; exact hn)
    rw [← HEN.out, HTT.out] at hd
    rw [List.drop_zero] at h
    rw [hd] at h
    exact h
  go_wp2_with fail
  refine hS.mono ?_
  rintro e w4 ⟨ev, rfl, hev, R4, K4⟩
  go_wp2_with fail
  refine (told_true w4).mono ?_
  rintro e w5 ⟨rfl, K5⟩
  have hev5 := hev.keeps K5 (fun _ h => h.elim)
  have R5 := R4.keepsN K5
  go_wp2_with fail
  refine (is_any hev5 3 0).mono ?_
  rintro e w6 ⟨rfl, n6, rfl⟩
  have R6 := R5.drewN n6
  go_wp2_with fail
  refine (rAt_any R6).mono ?_
  rintro e w7 ⟨rfl, rfl⟩
  go_wp2_with fail
  go_ret
  refine ⟨rfl, ?_⟩
  have hlt1 := K1.size
  have hlt2 := K2.size
  exact ((((K1.trans K2 (fun _ h _ => h)).trans K3 (fun _ h _ => h)).trans K4 (fun i h hlt => by subst h; omega)).trans K5 (fun _ h _ => h)).drewN n6

set_option maxRecDepth 100000 in
set_option maxHeartbeats 2000000 in
theorem walk_text (o : OpD) (ho : o.Fit) (cut : Int) (hs : o.s.size ≤ 200) (hkc : kindN o = 4) (w : World) :
    Calls Try.prog 12 #[.agg (opCells o).toArray, .int .i64 cut] w (SaysTrue w) := by
  have hkd := kindN_walk o
  rw [hkc] at hkd
  have c0 : (opCells o).toArray[0]? = some (.int .i64 o.kind) := rfl
  have c5 : (opCells o).toArray[5]? = some (.string o.s) := rfl
  have hlen := encOp_len o ho (by omega)
  have hen : encOp o = encS (bytesOf o.s) := by unfold encOp; rw [hkc]; rfl
  obtain ⟨n, hn, hnw⟩ := fits_of_len (encOp_pos o ho) (by omega) cut
  have hsz : (opCells o).toArray.size = 38 := by simpa using opCells_length o ho.h32
  have HSZ := Lib.hid hsz
  clear hsz
  have hwr := fun (wx : World) (p : Nat) (hW : Wr wx p none 0 []) => write_any hW o ho (by omega) (by simp)
  have HWR := Lib.hid hwr
  clear hwr hkc
  generalize hC : (opCells o).toArray = C at *
  have HC := Lib.hid hC
  clear hC
  have hE0 : ¬ encOp o = [] := fun h => by rw [h] at hn; simp at hn
  have hE : bytesOf ⟨(encOp o).toArray⟩ = encOp o := rfl
  generalize hEE : encOp o = E at *
  have HE := Lib.hid hE
  have HEN := Lib.hid hen
  clear hE hen hEE
  go_enter Try.func12, Try.ntmps12
  go_wp2_with fail
  refine (newWriter_any _).mono ?_
  rintro e w0 ⟨rfl, hw0⟩
  have W0 : WrNew (w.alloc (.cells C 61)) w0 (w.alloc (.cells C 61)).heap.size none 0 [] := hw0 ▸ wrNew_new _
  have B0 : Blk w0 w.heap.size C 61 := by rw [hw0]; exact blk_alloc (blk_new w C _) _
  have K0 : Keeps Nothing w w0 := hw0 ▸ (((Keeps.refl _ _).alloc _).alloc _)
  clear hw0
  rw [World.size_alloc] at W0 ⊢
  have hr0 := rangeAt_blk (cs := C.toList) (by simpa using B0)
  have ok0 := midOk_range hr0
  have of0 := midOf_range hr0
  rw [Array.length_toList, HSZ.out] at ok0 of0
  rw [Array.toArray_toList] at of0
  have hl0 := W0.wr.lt
  have hWR := HWR.out w0 _ W0.wr
  have c0' : w0.cell? ⟨w.heap.size, 5, none⟩ = some (.string o.s) := blk_cell B0 5 c5
  clear hr0
  go_wp2_with fail
  refine hWR.mono ?_
  rintro e w1 ⟨rfl, ao1, cap1, h1, k1, m1⟩
  have W1 := W0.step h1 k1 m1
  have hp := W0.pn
  rw [World.size_alloc] at hp
  have B1 := k1.blk B0 (fun h => by
    rcases h with h | h
    · omega
    · have := W0.an _ h; rw [World.size_alloc] at this; omega)
  have d0 : w1.cell? ⟨w.heap.size, 0, none⟩ = some (.int .i64 o.kind) := blk_cell B1 0 c0
  have K1 : Keeps Nothing w w1 := ((Keeps.refl _ _).alloc _).trans W1.keep (fun _ h _ => h)
  clear W0 h1 k1 m1 hWR ok0 of0
  obtain ⟨cap2, w2, hrun, hat, K2, hs2⟩ := run_bytes w1 (ByteArray.extract ⟨E.toArray⟩ 0 n)
  have hxt : bytesOf (ByteArray.extract ⟨E.toArray⟩ 0 n) = E.take n := by
    unfold bytesOf
    rw [Lib.extract_data, List.drop_zero, Nat.sub_zero]
  rw [hxt] at hat
  have hxl : (ByteArray.extract ⟨E.toArray⟩ 0 n).size = n := by rw [← bytesOf_length, hxt, List.length_take]; omega
  rw [hxl] at hrun
  clear hxt hxl
  have hTl : (E.take n).length = n := by rw [List.length_take]; omega
  generalize hTT : E.take n = T at *
  have HTT := Lib.hid hTT
  have HTL := Lib.hid hTl
  clear hTT hTl
  go_wp2_with fail
  refine (newReader_len _ HTL.out hat (by have := HTL.out; omega)).mono ?_
  rintro e w3 ⟨q, ao3, cap3, rfl, R3, K3, hq, hqa⟩
  have d0' : w3.cell? ⟨w.heap.size, 0, none⟩ = some (.int .i64 o.kind) := K3.cell (K2.cell d0 (fun h => h)) (fun h => h)
  clear hrun hat d0
  have hS : Calls Try.prog 47 #[.pointer (some ⟨q, 0, none⟩), .int .i64 200] w3 (RdPost w3 q ao3 cap3 T (.string ⟨([] : List UInt8).toArray⟩) 3 (posOf 3 0) 0) := by
    have h := rText_any R3 (by have := HTL.out; omega) 200 (by omega)
    have hd := decS_short (bytesOf o.s) n 200 (by rw [bytesOf_length]; omega) (by rw [bytesOf_length]; omega) (by rw [← HEN.out]; exact hn)
    rw [← HEN.out, HTT.out] at hd
    rw [List.drop_zero] at h
    rw [hd] at h
    exact h
  go_wp2_with fail
  refine hS.mono ?_
  rintro e w4 ⟨ev, rfl, hev, R4, K4⟩
  go_wp2_with fail
  refine (told_true w4).mono ?_
  rintro e w5 ⟨rfl, K5⟩
  have hev5 := hev.keeps K5 (fun _ h => h.elim)
  have R5 := R4.keepsN K5
  go_wp2_with fail
  refine (is_any hev5 3 0).mono ?_
  rintro e w6 ⟨rfl, n6, rfl⟩
  have R6 := R5.drewN n6
  go_wp2_with fail
  refine (rAt_any R6).mono ?_
  rintro e w7 ⟨rfl, rfl⟩
  go_wp2_with fail
  go_ret
  refine ⟨rfl, ?_⟩
  have hlt1 := K1.size
  have hlt2 := K2.size
  exact ((((K1.trans K2 (fun _ h _ => h)).trans K3 (fun _ h _ => h)).trans K4 (fun i h hlt => by subst h; omega)).trans K5 (fun _ h _ => h)).drewN n6

set_option maxRecDepth 100000 in
set_option maxHeartbeats 2000000 in
theorem walk_hash (o : OpD) (ho : o.Fit) (cut : Int) (hs : o.s.size ≤ 200) (hkc : kindN o = 5) (w : World) :
    Calls Try.prog 12 #[.agg (opCells o).toArray, .int .i64 cut] w (SaysTrue w) := by
  have hkd := kindN_walk o
  rw [hkc] at hkd
  have c0 : (opCells o).toArray[0]? = some (.int .i64 o.kind) := rfl
  have c5 : (opCells o).toArray[5]? = some (.string o.s) := rfl
  have hlen := encOp_len o ho (by omega)
  have hen : encOp o = o.h := by unfold encOp; rw [hkc]; rfl
  obtain ⟨n, hn, hnw⟩ := fits_of_len (encOp_pos o ho) (by omega) cut
  have hsz : (opCells o).toArray.size = 38 := by simpa using opCells_length o ho.h32
  have HSZ := Lib.hid hsz
  clear hsz
  have hwr := fun (wx : World) (p : Nat) (hW : Wr wx p none 0 []) => write_any hW o ho (by omega) (by simp)
  have HWR := Lib.hid hwr
  clear hwr hkc
  generalize hC : (opCells o).toArray = C at *
  have HC := Lib.hid hC
  clear hC
  have hE0 : ¬ encOp o = [] := fun h => by rw [h] at hn; simp at hn
  have hE : bytesOf ⟨(encOp o).toArray⟩ = encOp o := rfl
  generalize hEE : encOp o = E at *
  have HE := Lib.hid hE
  have HEN := Lib.hid hen
  clear hE hen hEE
  go_enter Try.func12, Try.ntmps12
  go_wp2_with fail
  refine (newWriter_any _).mono ?_
  rintro e w0 ⟨rfl, hw0⟩
  have W0 : WrNew (w.alloc (.cells C 61)) w0 (w.alloc (.cells C 61)).heap.size none 0 [] := hw0 ▸ wrNew_new _
  have B0 : Blk w0 w.heap.size C 61 := by rw [hw0]; exact blk_alloc (blk_new w C _) _
  have K0 : Keeps Nothing w w0 := hw0 ▸ (((Keeps.refl _ _).alloc _).alloc _)
  clear hw0
  rw [World.size_alloc] at W0 ⊢
  have hr0 := rangeAt_blk (cs := C.toList) (by simpa using B0)
  have ok0 := midOk_range hr0
  have of0 := midOf_range hr0
  rw [Array.length_toList, HSZ.out] at ok0 of0
  rw [Array.toArray_toList] at of0
  have hl0 := W0.wr.lt
  have hWR := HWR.out w0 _ W0.wr
  have c0' : w0.cell? ⟨w.heap.size, 5, none⟩ = some (.string o.s) := blk_cell B0 5 c5
  clear hr0
  go_wp2_with fail
  refine hWR.mono ?_
  rintro e w1 ⟨rfl, ao1, cap1, h1, k1, m1⟩
  have W1 := W0.step h1 k1 m1
  have hp := W0.pn
  rw [World.size_alloc] at hp
  have B1 := k1.blk B0 (fun h => by
    rcases h with h | h
    · omega
    · have := W0.an _ h; rw [World.size_alloc] at this; omega)
  have d0 : w1.cell? ⟨w.heap.size, 0, none⟩ = some (.int .i64 o.kind) := blk_cell B1 0 c0
  have K1 : Keeps Nothing w w1 := ((Keeps.refl _ _).alloc _).trans W1.keep (fun _ h _ => h)
  clear W0 h1 k1 m1 hWR ok0 of0
  obtain ⟨cap2, w2, hrun, hat, K2, hs2⟩ := run_bytes w1 (ByteArray.extract ⟨E.toArray⟩ 0 n)
  have hxt : bytesOf (ByteArray.extract ⟨E.toArray⟩ 0 n) = E.take n := by
    unfold bytesOf
    rw [Lib.extract_data, List.drop_zero, Nat.sub_zero]
  rw [hxt] at hat
  have hxl : (ByteArray.extract ⟨E.toArray⟩ 0 n).size = n := by rw [← bytesOf_length, hxt, List.length_take]; omega
  rw [hxl] at hrun
  clear hxt hxl
  have hTl : (E.take n).length = n := by rw [List.length_take]; omega
  generalize hTT : E.take n = T at *
  have HTT := Lib.hid hTT
  have HTL := Lib.hid hTl
  clear hTT hTl
  go_wp2_with fail
  refine (newReader_len _ HTL.out hat (by have := HTL.out; omega)).mono ?_
  rintro e w3 ⟨q, ao3, cap3, rfl, R3, K3, hq, hqa⟩
  have d0' : w3.cell? ⟨w.heap.size, 0, none⟩ = some (.int .i64 o.kind) := K3.cell (K2.cell d0 (fun h => h)) (fun h => h)
  clear hrun hat d0
  have hS : Calls Try.prog 48 #[.pointer (some ⟨q, 0, none⟩)] w3 (RdPost w3 q ao3 cap3 T (hashV zeros32) 3 (posOf 3 0) 0) := by
    have h := rHash_any R3 (by have := HTL.out; omega)
    have hd := decH_short o.h n ho.h32 (by rw [← HEN.out]; exact hn)
    rw [← HEN.out, HTT.out] at hd
    rw [List.drop_zero] at h
    rw [hd] at h
    exact h
  go_wp2_with fail
  refine hS.mono ?_
  rintro e w4 ⟨ev, rfl, hev, R4, K4⟩
  go_wp2_with fail
  refine (told_true w4).mono ?_
  rintro e w5 ⟨rfl, K5⟩
  have hev5 := hev.keeps K5 (fun _ h => h.elim)
  have R5 := R4.keepsN K5
  go_wp2_with fail
  refine (is_any hev5 3 0).mono ?_
  rintro e w6 ⟨rfl, n6, rfl⟩
  have R6 := R5.drewN n6
  go_wp2_with fail
  refine (rAt_any R6).mono ?_
  rintro e w7 ⟨rfl, rfl⟩
  go_wp2_with fail
  go_ret
  refine ⟨rfl, ?_⟩
  have hlt1 := K1.size
  have hlt2 := K2.size
  exact ((((K1.trans K2 (fun _ h _ => h)).trans K3 (fun _ h _ => h)).trans K4 (fun i h hlt => by subst h; omega)).trans K5 (fun _ h _ => h)).drewN n6

theorem walk (o : OpD) (ho : o.Fit) (cut : Int) (w : World) :
    Calls Try.prog 12 #[.agg (opCells o).toArray, .int .i64 cut] w (SaysTrue w) := by
  by_cases hs : 200 < o.s.size
  · exact walk_long o cut hs w
  · have hk := kindN_bd o
    have hs' : o.s.size ≤ 200 := by omega
    have hc : kindN o = 0 ∨ kindN o = 1 ∨ kindN o = 2 ∨ kindN o = 3 ∨ kindN o = 4 ∨ kindN o = 5 := by omega
    rcases hc with h | h | h | h | h | h
    · exact walk_uint0 o ho cut hs' h w
    · exact walk_int o ho cut hs' h w
    · exact walk_uint2 o ho cut hs' h w
    · exact walk_bool o ho cut hs' h w
    · exact walk_text o ho cut hs' h w
    · exact walk_hash o ho cut hs' h w

set_option maxRecDepth 100000 in
theorem lifted (os : Os) (started : os.Started) (H : Type) (enc : TypeId × Value → H) :
    ReturnsInHanded {} Try.checked os 12 .any (Rows.wireShortSpec.pre6 enc Try.prog Try.f12 Rows.wireShortRow.domain false) (Rows.wireShortSpec.post enc Try.prog Try.f12 false true false false) := by
  refine returnsInHanded_of_change (C := Try.checked) own started (by kernel_rfl) Try.func12
    (ChangeSpec.witness6 (enc := enc) (C := Try.checked) false ⟨#[], #[.agg #[.int .i64 0, .int .i64 0, .int .i64 0, .int .u64 0, .bool false, .string ⟨#[]⟩, .int .u8 0, .int .u8 0, .int .u8 0, .int .u8 0, .int .u8 0, .int .u8 0, .int .u8 0, .int .u8 0, .int .u8 0, .int .u8 0, .int .u8 0, .int .u8 0, .int .u8 0, .int .u8 0, .int .u8 0, .int .u8 0, .int .u8 0, .int .u8 0, .int .u8 0, .int .u8 0, .int .u8 0, .int .u8 0, .int .u8 0, .int .u8 0, .int .u8 0, .int .u8 0, .int .u8 0, .int .u8 0, .int .u8 0, .int .u8 0, .int .u8 0, .int .u8 0], .int .i64 0], []⟩ 8 (by kernel_rfl) (by kernel_rfl) (by kernel_rfl) (by kernel_rfl)) ?_
  intro W base args ds gs before hval0 hW hcnd _
  have hval : ∀ (j : Nat) t v, Try.f12.params[j]? = some t → args[j]? = some v → Value.okWide Try.prog W .any base t v := hval0
  have hW' := hW
  obtain ⟨p, q, hA0, hV, rfl, hfz, hnd⟩ := hW
  have hA : DataW.TrodAll enc Try.prog W 0 (fun _ => true) true Try.f12.params.toList args.toList ds p := hA0
  rw [Try.params12] at hA hval
  obtain ⟨v0, vs0, d0, ds0, p0, q0, hargs, rfl, rfl, h0, r0⟩ := trodAll_cons hA
  obtain ⟨v1, vs1, d1, ds1, p1, q1, rfl, rfl, rfl, h1, r1⟩ := trodAll_cons r0
  obtain ⟨rfl, rfl, rfl⟩ := trodAll_nil r1
  obtain rfl : args = #[v0, v1] := by cases args; simp_all
  obtain ⟨rfl, rfl⟩ := trodVars_none hV
  have k0 := h0
  have lt0 : ∀ x ∈ p0, x.block < W.heap.size := by obtain ⟨m, hm⟩ := k0; exact DataW.trod_lt m _ _ _ hm
  have k1 := h1
  have lt1 : ∀ x ∈ p1, x.block < W.heap.size := by obtain ⟨m, hm⟩ := k1; exact DataW.trod_lt m _ _ _ hm
  obtain ⟨C, rfl, hsz⟩ := okWide_struct Try.underlying61 (hval 0 61 v0 rfl rfl)
  obtain ⟨fuel, hf⟩ := h0
  obtain ⟨o, ho, hcs, _⟩ := trod_op hf
  obtain rfl : C = (opCells o).toArray := by rw [← hcs]; simp [Value.cells]
  obtain ⟨a1, rfl, rfl, rfl, w1⟩ := open_int Try.underlying3 (hval 1 3 v1 rfl rfl) h1
  have b1 := bounds_i64 w1
  clear hA0 hval0
  refine (walk o ho a1 W).mono fun e W' ⟨he, hk⟩ => ?_
  subst he
  have bel : Below W.heap.size W W' := hk.below (Nat.le_refl _) (fun _ h => h.elim)
  exact ⟨_, rfl, _, _, _, [], _, [], hW', trodAll_mk1 (shut_bool Try.underlying4 _), (trodAll_cons_mk (Below.trod laidOut (by kernel_rfl) (of_decide_eq_true (by kernel_rfl)) k0 bel lt0) (trodAll_cons_mk (Below.trod laidOut (by kernel_rfl) (of_decide_eq_true (by kernel_rfl)) k1 bel lt1) trodAll_mk0)), rfl, bel.frame _, fun h => by cases h⟩

/-- For every input the law returns true, and its arguments read as before. -/
theorem proved : Rows.WireShortSaid :=
  OpenClaim.holds_of_wide 12 Try.f12 rfl rfl rfl rfl rfl rfl rfl ⟨rfl, rfl, rfl, rfl, rfl⟩ rfl rfl rfl rfl rfl (by kernel_rfl) Try.func12 (by kernel_rfl)
    (of_decide_eq_true (by kernel_rfl)) (by unfold Func.isWrapper; first | (rw [if_pos (by decide +kernel)]; kernel_rfl) | (rw [if_neg (by decide +kernel)]; exact ⟨rfl, rfl⟩))
    (fun os started H enc _ => lifted os started H enc)
#print axioms proved

end Go.Proofs.Ytkhbepmaeegekaa.wireShort
