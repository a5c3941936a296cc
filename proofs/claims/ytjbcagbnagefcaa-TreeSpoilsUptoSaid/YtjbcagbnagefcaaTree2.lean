/- Whole values of the tree's types. Rows of texts compared. -/
import Derived.Test.YtjbcagbnagefcaaTree1
import Derived.Test.YtjbcagbnagefcaaMixT
import Derived.BigQuiet
import Derived.Deep.QuietTactic
import Derived.Deep.WholeRow
import Derived.Deep.Cut
import Derived.Deep.CutBlock
namespace Go.Proofs.Ytjbcagbnagefcaa
open Go.RowKit

theorem infoTy : (Try.prog.info? 33).map (·.size) = some 4 := by kernel_rfl
theorem exec_mid_ty (ρ : Operand → Value) (dst : Option Tmp) (x : Operand) (ty' : TypeId) (pos : String) (af : Array Edge) (gd : Option (Nat × Bool)) (w : World) (h : midOkV w 4 (ρ x) = true) :
    (execOp ρ ⟨dst, .load 33 x, ty', pos, af, gd⟩).run Try.prog w = .ok (.value (.agg (midOfV w 4 (ρ x)))) w :=
  exec_load_mid _ 4 _ Try.underlying33 rfl infoTy ρ dst x ty' pos af gd w h
theorem exec_store_ty (ρ : Operand → Value) (dst : Option Tmp) (x y : Operand) (ty' : TypeId) (pos : String) (af : Array Edge) (gd : Option (Nat × Bool)) (w : World) (h : rowOkV w 4 (ρ x) = true) (hy : aggOk 4 (ρ y) = true) :
    (execOp ρ ⟨dst, .store 33 x y, ty', pos, af, gd⟩).run Try.prog w = .ok .skip (rowSetV w (ρ x) (aggOf (ρ y))) :=
  exec_store _ 4 infoTy ρ dst x y ty' pos af gd w h hy
theorem infoPl : (Try.prog.info? 39).map (·.size) = some 2 := by kernel_rfl
theorem exec_mid_pl (ρ : Operand → Value) (dst : Option Tmp) (x : Operand) (ty' : TypeId) (pos : String) (af : Array Edge) (gd : Option (Nat × Bool)) (w : World) (h : midOkV w 2 (ρ x) = true) :
    (execOp ρ ⟨dst, .load 39 x, ty', pos, af, gd⟩).run Try.prog w = .ok (.value (.agg (midOfV w 2 (ρ x)))) w :=
  exec_load_mid _ 2 _ Try.underlying39 rfl infoPl ρ dst x ty' pos af gd w h
theorem exec_store_pl (ρ : Operand → Value) (dst : Option Tmp) (x y : Operand) (ty' : TypeId) (pos : String) (af : Array Edge) (gd : Option (Nat × Bool)) (w : World) (h : rowOkV w 2 (ρ x) = true) (hy : aggOk 2 (ρ y) = true) :
    (execOp ρ ⟨dst, .store 39 x y, ty', pos, af, gd⟩).run Try.prog w = .ok .skip (rowSetV w (ρ x) (aggOf (ρ y))) :=
  exec_store _ 2 infoPl ρ dst x y ty' pos af gd w h hy
theorem infoOpr : (Try.prog.info? 41).map (·.size) = some 4 := by kernel_rfl
theorem exec_mid_opr (ρ : Operand → Value) (dst : Option Tmp) (x : Operand) (ty' : TypeId) (pos : String) (af : Array Edge) (gd : Option (Nat × Bool)) (w : World) (h : midOkV w 4 (ρ x) = true) :
    (execOp ρ ⟨dst, .load 41 x, ty', pos, af, gd⟩).run Try.prog w = .ok (.value (.agg (midOfV w 4 (ρ x)))) w :=
  exec_load_mid _ 4 _ Try.underlying41 rfl infoOpr ρ dst x ty' pos af gd w h
theorem exec_store_opr (ρ : Operand → Value) (dst : Option Tmp) (x y : Operand) (ty' : TypeId) (pos : String) (af : Array Edge) (gd : Option (Nat × Bool)) (w : World) (h : rowOkV w 4 (ρ x) = true) (hy : aggOk 4 (ρ y) = true) :
    (execOp ρ ⟨dst, .store 41 x y, ty', pos, af, gd⟩).run Try.prog w = .ok .skip (rowSetV w (ρ x) (aggOf (ρ y))) :=
  exec_store _ 4 infoOpr ρ dst x y ty' pos af gd w h hy
theorem infoVal : (Try.prog.info? 44).map (·.size) = some 15 := by kernel_rfl
theorem exec_mid_val (ρ : Operand → Value) (dst : Option Tmp) (x : Operand) (ty' : TypeId) (pos : String) (af : Array Edge) (gd : Option (Nat × Bool)) (w : World) (h : midOkV w 15 (ρ x) = true) :
    (execOp ρ ⟨dst, .load 44 x, ty', pos, af, gd⟩).run Try.prog w = .ok (.value (.agg (midOfV w 15 (ρ x)))) w :=
  exec_load_mid _ 15 _ Try.underlying44 rfl infoVal ρ dst x ty' pos af gd w h
theorem exec_store_val (ρ : Operand → Value) (dst : Option Tmp) (x y : Operand) (ty' : TypeId) (pos : String) (af : Array Edge) (gd : Option (Nat × Bool)) (w : World) (h : rowOkV w 15 (ρ x) = true) (hy : aggOk 15 (ρ y) = true) :
    (execOp ρ ⟨dst, .store 44 x y, ty', pos, af, gd⟩).run Try.prog w = .ok .skip (rowSetV w (ρ x) (aggOf (ρ y))) :=
  exec_store _ 15 infoVal ρ dst x y ty' pos af gd w h hy
theorem infoSt : (Try.prog.info? 46).map (·.size) = some 32 := by kernel_rfl
theorem exec_mid_st (ρ : Operand → Value) (dst : Option Tmp) (x : Operand) (ty' : TypeId) (pos : String) (af : Array Edge) (gd : Option (Nat × Bool)) (w : World) (h : midOkV w 32 (ρ x) = true) :
    (execOp ρ ⟨dst, .load 46 x, ty', pos, af, gd⟩).run Try.prog w = .ok (.value (.agg (midOfV w 32 (ρ x)))) w :=
  exec_load_mid _ 32 _ Try.underlying46 rfl infoSt ρ dst x ty' pos af gd w h
theorem exec_store_st (ρ : Operand → Value) (dst : Option Tmp) (x y : Operand) (ty' : TypeId) (pos : String) (af : Array Edge) (gd : Option (Nat × Bool)) (w : World) (h : rowOkV w 32 (ρ x) = true) (hy : aggOk 32 (ρ y) = true) :
    (execOp ρ ⟨dst, .store 46 x y, ty', pos, af, gd⟩).run Try.prog w = .ok .skip (rowSetV w (ρ x) (aggOf (ρ y))) :=
  exec_store _ 32 infoSt ρ dst x y ty' pos af gd w h hy
theorem infoFld : (Try.prog.info? 50).map (·.size) = some 6 := by kernel_rfl
theorem exec_mid_fld (ρ : Operand → Value) (dst : Option Tmp) (x : Operand) (ty' : TypeId) (pos : String) (af : Array Edge) (gd : Option (Nat × Bool)) (w : World) (h : midOkV w 6 (ρ x) = true) :
    (execOp ρ ⟨dst, .load 50 x, ty', pos, af, gd⟩).run Try.prog w = .ok (.value (.agg (midOfV w 6 (ρ x)))) w :=
  exec_load_mid _ 6 _ Try.underlying50 rfl infoFld ρ dst x ty' pos af gd w h
theorem exec_store_fld (ρ : Operand → Value) (dst : Option Tmp) (x y : Operand) (ty' : TypeId) (pos : String) (af : Array Edge) (gd : Option (Nat × Bool)) (w : World) (h : rowOkV w 6 (ρ x) = true) (hy : aggOk 6 (ρ y) = true) :
    (execOp ρ ⟨dst, .store 50 x y, ty', pos, af, gd⟩).run Try.prog w = .ok .skip (rowSetV w (ρ x) (aggOf (ρ y))) :=
  exec_store _ 6 infoFld ρ dst x y ty' pos af gd w h hy
theorem infoStr : (Try.prog.info? 48).map (·.size) = some 5 := by kernel_rfl
theorem exec_mid_str (ρ : Operand → Value) (dst : Option Tmp) (x : Operand) (ty' : TypeId) (pos : String) (af : Array Edge) (gd : Option (Nat × Bool)) (w : World) (h : midOkV w 5 (ρ x) = true) :
    (execOp ρ ⟨dst, .load 48 x, ty', pos, af, gd⟩).run Try.prog w = .ok (.value (.agg (midOfV w 5 (ρ x)))) w :=
  exec_load_mid _ 5 _ Try.underlying48 rfl infoStr ρ dst x ty' pos af gd w h
theorem exec_store_str (ρ : Operand → Value) (dst : Option Tmp) (x y : Operand) (ty' : TypeId) (pos : String) (af : Array Edge) (gd : Option (Nat × Bool)) (w : World) (h : rowOkV w 5 (ρ x) = true) (hy : aggOk 5 (ρ y) = true) :
    (execOp ρ ⟨dst, .store 48 x y, ty', pos, af, gd⟩).run Try.prog w = .ok .skip (rowSetV w (ρ x) (aggOf (ρ y))) :=
  exec_store _ 5 infoStr ρ dst x y ty' pos af gd w h hy
theorem infoLif : (Try.prog.info? 75).map (·.size) = some 2 := by kernel_rfl
theorem exec_mid_lif (ρ : Operand → Value) (dst : Option Tmp) (x : Operand) (ty' : TypeId) (pos : String) (af : Array Edge) (gd : Option (Nat × Bool)) (w : World) (h : midOkV w 2 (ρ x) = true) :
    (execOp ρ ⟨dst, .load 75 x, ty', pos, af, gd⟩).run Try.prog w = .ok (.value (.agg (midOfV w 2 (ρ x)))) w :=
  exec_load_mid _ 2 _ Try.underlying75 rfl infoLif ρ dst x ty' pos af gd w h
theorem exec_store_lif (ρ : Operand → Value) (dst : Option Tmp) (x y : Operand) (ty' : TypeId) (pos : String) (af : Array Edge) (gd : Option (Nat × Bool)) (w : World) (h : rowOkV w 2 (ρ x) = true) (hy : aggOk 2 (ρ y) = true) :
    (execOp ρ ⟨dst, .store 75 x y, ty', pos, af, gd⟩).run Try.prog w = .ok .skip (rowSetV w (ρ x) (aggOf (ρ y))) :=
  exec_store _ 2 infoLif ρ dst x y ty' pos af gd w h hy
theorem infoFun : (Try.prog.info? 36).map (·.size) = some 10 := by kernel_rfl
theorem exec_mid_fun (ρ : Operand → Value) (dst : Option Tmp) (x : Operand) (ty' : TypeId) (pos : String) (af : Array Edge) (gd : Option (Nat × Bool)) (w : World) (h : midOkV w 10 (ρ x) = true) :
    (execOp ρ ⟨dst, .load 36 x, ty', pos, af, gd⟩).run Try.prog w = .ok (.value (.agg (midOfV w 10 (ρ x)))) w :=
  exec_load_mid _ 10 _ Try.underlying36 rfl infoFun ρ dst x ty' pos af gd w h
theorem exec_store_fun (ρ : Operand → Value) (dst : Option Tmp) (x y : Operand) (ty' : TypeId) (pos : String) (af : Array Edge) (gd : Option (Nat × Bool)) (w : World) (h : rowOkV w 10 (ρ x) = true) (hy : aggOk 10 (ρ y) = true) :
    (execOp ρ ⟨dst, .store 36 x y, ty', pos, af, gd⟩).run Try.prog w = .ok .skip (rowSetV w (ρ x) (aggOf (ρ y))) :=
  exec_store _ 10 infoFun ρ dst x y ty' pos af gd w h hy
theorem infoCr : (Try.prog.info? 25).map (·.size) = some 2 := by kernel_rfl
theorem exec_mid_cr (ρ : Operand → Value) (dst : Option Tmp) (x : Operand) (ty' : TypeId) (pos : String) (af : Array Edge) (gd : Option (Nat × Bool)) (w : World) (h : midOkV w 2 (ρ x) = true) :
    (execOp ρ ⟨dst, .load 25 x, ty', pos, af, gd⟩).run Try.prog w = .ok (.value (.agg (midOfV w 2 (ρ x)))) w :=
  exec_load_mid _ 2 _ Try.underlying25 rfl infoCr ρ dst x ty' pos af gd w h
theorem exec_store_cr (ρ : Operand → Value) (dst : Option Tmp) (x y : Operand) (ty' : TypeId) (pos : String) (af : Array Edge) (gd : Option (Nat × Bool)) (w : World) (h : rowOkV w 2 (ρ x) = true) (hy : aggOk 2 (ρ y) = true) :
    (execOp ρ ⟨dst, .store 25 x y, ty', pos, af, gd⟩).run Try.prog w = .ok .skip (rowSetV w (ρ x) (aggOf (ρ y))) :=
  exec_store _ 2 infoCr ρ dst x y ty' pos af gd w h hy
/-- A function with a body is entered. -/
def Entered (f : FuncId) : Prop := ∀ (args : Array Value) (W : World), (callFunc f args).run Try.prog W = .ok (.enter f args) W
theorem entered_of {f : FuncId} {fn : Func} (hf : Try.prog.funcs[f]? = some fn) (hn : (fn.name == "runtime.NumGoroutine") = false) (hb : fn.body.isNone = false) : Entered f := by
  intro args W
  unfold callFunc
  have h1 : ¬ fn.name = "runtime.NumGoroutine" := by simpa using hn
  have h2 : ¬ fn.body = none := by intro h; rw [h] at hb; cases hb
  simp [Sem.run_bind, hf, h1, h2]
/-- It tells whether p holds, and keeps all that there was. -/
def Tells (w : World) (p : Prop) (e : Ending) (w' : World) : Prop := (∃ z, e = .returned (.bool z) ∧ (z = true ↔ p)) ∧ Keeps Nothing w w'
theorem tells_t {w w' : World} {p : Prop} (h : p) (K : Keeps Nothing w w') : Tells w p (.returned (.bool true)) w' := ⟨⟨true, rfl, ⟨fun _ => h, fun _ => rfl⟩⟩, K⟩
theorem tells_f {w w' : World} {p : Prop} (h : ¬ p) (K : Keeps Nothing w w') : Tells w p (.returned (.bool false)) w' := ⟨⟨false, rfl, ⟨fun hf => (by cases hf), fun hp => absurd hp h⟩⟩, K⟩
theorem tells_z {w w' : World} {p : Prop} {z : Bool} (h : z = true ↔ p) (K : Keeps Nothing w w') : Tells w p (.returned (.bool z)) w' := ⟨⟨z, rfl, h⟩, K⟩
theorem Tells.mono {w w' : World} {p q : Prop} {e : Ending} (h : Tells w p e w') (hq : p ↔ q) : Tells w q e w' := by
  obtain ⟨⟨z, he, hz⟩, K⟩ := h
  exact ⟨⟨z, he, hz.trans hq⟩, K⟩
/-- A whole value that was read may be stored. -/
theorem agg_ok {n : Nat} {cs : List Value} (hl : cs.length = n) (h1 : ∀ u ∈ cs, u.oneCell' = true) : aggOk n (.agg cs.toArray) = true :=
  aggOk_agg n _ (by simpa using hl) (by rw [Array.all_eq_true]; intro i hi; exact h1 _ (by simp))
theorem blk_inv {w : World} {g : Nat} {C : Array Value} {t : TypeId} (h : Blk w g C t) {j : Nat} {v : Value} (hv : w.cell? ⟨g, j, none⟩ = some v) : C[j]? = some v := by
  by_cases hj : j < C.size
  · have h2 := blk_cell h j (Array.getElem?_eq_getElem hj)
    rw [hv] at h2
    rw [Array.getElem?_eq_getElem hj]
    exact h2.symm
  · have h' : w.heap[g]? = some (.cells C t (0, 0)) := h
    unfold World.cell? at hv
    simp [h', Array.getElem?_eq_none (show C.size ≤ j by omega)] at hv
theorem tblk_mid {w : World} {g n : Nat} {C : Array Value} {t : TypeId} (h : Blk w g C t) (hn : C.size = n) : midOk w g 0 n = true ∧ midOf w g 0 n = C := by
  have hr : w.rangeAt g 0 C.toList := fun j v hj => blk_cell h (0 + j) (by simpa using hj)
  have h1 := midOk_range hr
  have h2 := midOf_range hr
  rw [Array.length_toList, hn] at h1 h2
  exact ⟨h1, by rw [h2]⟩
theorem take_eq {α : Type} {l m : List α} {t : Nat} {a b : α} (hl : l[t]? = some a) (hm : m[t]? = some b) (h : l.take t = m.take t) (hab : a = b) : l.take (t + 1) = m.take (t + 1) := by
  rw [List.take_add_one, List.take_add_one, hl, hm, h, hab]
theorem ne_at {α : Type} {l m : List α} {t : Nat} {a b : α} (hl : l[t]? = some a) (hm : m[t]? = some b) (hab : a ≠ b) : l ≠ m := by
  intro h
  subst h
  rw [hl] at hm
  exact hab (Option.some.inj hm)
theorem tx_cell {S : Nat → Prop} {w : World} {ao : Option Addr} {l : List (List UInt8)} (h : SlIs S w 1 TxIs ao l) {j : Nat} {d : List UInt8} (hd : l[j]? = some d) : ∃ b o, ao = some ⟨b, o, none⟩ ∧ w.cell? ⟨b, o + j, none⟩ = some (.string ⟨d.toArray⟩) ∧ d.length ≤ bigN := by
  obtain ⟨b, o, h1, _, cs, _, h2, h3⟩ := h.get hd
  obtain ⟨rfl, h4⟩ := h3
  have := h2 0 _ rfl
  rw [Nat.mul_one, Nat.add_zero] at this
  exact ⟨b, o, h1, this, h4⟩

set_option maxRecDepth 100000 in
set_option maxHeartbeats 2000000 in
theorem equal_tx (w : World) {S S' : Nat → Prop} {ax ay : Option Addr} {l m : List (List UInt8)} (cx cy : Nat) (hx : SlIs S w 1 TxIs ax l) (hy : SlIs S' w 1 TxIs ay m) :
    Calls Try.prog 37 #[.slice ax l.length cx, .slice ay m.length cy] w (Tells w (l = m)) := by
  have hlx := hx.1
  have hly := hy.1
  unfold bigN at hlx hly
  have HX := shut hx
  have HY := shut hy
  clear hx hy
  by_cases hne : l.length = m.length
  · obtain ⟨n, hn⟩ : ∃ n, l.length = n := ⟨_, rfl⟩
    have hm : m.length = n := by omega
    rw [hn, hm]
    rw [hn] at hlx
    clear hne hly
    have HN := shut hn
    have HM := shut hm
    clear hn hm
    go_enter Try.func37, Try.ntmps37
    go_wp2_with fail
    go_loopw [5, 13] (fun s5 s13 wx => ∃ t : Nat, s13 = .int .i64 t ∧ t ≤ n ∧ Keeps Nothing w wx ∧ Shut (l.take t = m.take t)) (fun _ s13 _ => n - (intOf s13).toNat)
    case atStart => exact ⟨0, rfl, Nat.zero_le _, Keeps.refl _ _, shut (by simp)⟩
    case round =>
      obtain ⟨t, rfl, ht, K, HT⟩ := hrel
      by_cases hlt : t < n
      · obtain ⟨a, ha⟩ : ∃ a, l[t]? = some a := ⟨_, List.getElem?_eq_getElem (by rw [HN.out]; exact hlt)⟩
        obtain ⟨b, hb⟩ : ∃ b, m[t]? = some b := ⟨_, List.getElem?_eq_getElem (by rw [HM.out]; exact hlt)⟩
        obtain ⟨g1, o1, rfl, e1, -⟩ := tx_cell (HX.out.keeps K (fun _ _ h => h) (fun _ h => h) (fun _ _ _ h => h)) ha
        obtain ⟨g2, o2, rfl, e2, -⟩ := tx_cell (HY.out.keeps K (fun _ _ h => h) (fun _ h => h) (fun _ _ _ h => h)) hb
        have HA := shut ha
        have HB := shut hb
        clear ha hb
        have m0 : (0 : Int) ≤ t := by omega
        have m1 : (t : Int) < n := by omega
        by_cases hab : a = b
        · subst hab
          have hbq : (a == a) = true := beq_self_eq_true _
          go_wp2_with fail
          go_quiet (fail)
          go_wp2_with fail
          go_roundw
          case rel => exact ⟨t + 1, by go_num, by omega, K.drewN _, shut (take_eq HA.out HB.out HT.out rfl)⟩
          case measure => simp [intOf]; omega
        · have hbq : (a == b) = false := by rw [beq_eq_false_iff_ne]; exact hab
          have HAB := shut hab
          clear hab
          go_wp2_with fail
          go_quiet (fail)
          go_wp2_with fail
          go_ret
          exact tells_f (ne_at HA.out HB.out HAB.out) (K.drewN _)
      · obtain rfl : t = n := by omega
        have m1 : ¬ (t : Int) < t := by omega
        go_wp2_with fail
        go_ret
        refine tells_t ?_ K
        have h := HT.out
        rwa [List.take_of_length_le (Nat.le_of_eq HN.out), List.take_of_length_le (Nat.le_of_eq HM.out)] at h
  · have hne' : ¬ (l.length : Int) = m.length := by omega
    have hl : l ≠ m := fun h => hne (by rw [h])
    go_enter Try.func37, Try.ntmps37
    go_wp2_with fail
    go_ret
    exact tells_f hl (Keeps.refl _ _)

end Go.Proofs.Ytjbcagbnagefcaa
