/- Chains of faults: errors.Is, and the functions of package fault, by contracts. -/
import Derived.Test.YteifmkfkekglpaaDoorAs2
import Derived.Deep.LoopGhost
namespace Go
section
variable {P : Program} (w : World)

theorem run_equalIn_iface_int (d : Nat) {ti tn : TypeId} {ms : Array (String × TypeId)} {i : TypeInfo} {k : IntKind} (a b : Int)
    (hi : P.underlying ti = some (.interface ms)) (hn : P.underlying tn = some (.int k)) (hinfo : P.info? tn = some i) (hcomp : i.comparable = true) :
    (Op.equalIn (d + 2) ti (.iface tn (.int k a)) (.iface tn (.int k b))).run P w = .ok (a == b) w := by
  simp [Op.equalIn, run_underlying hi, run_underlying hn, typeInfo, hinfo, hcomp]
theorem run_eql_iface_int {ti tn : TypeId} {ms : Array (String × TypeId)} {k : IntKind} (a b : Int)
    (hi : P.underlying ti = some (.interface ms)) (hn : P.underlying tn = some (.int k)) (hh : (P.info? tn).map (·.comparable) = some true) :
    (binOp .eql ti (.iface tn (.int k a)) (.iface tn (.int k b))).run P w = .ok (.bool (a == b)) w := by
  obtain ⟨i, hinfo, hcomp⟩ := Option.map_eq_some_iff.1 hh
  simp only [binOp]
  simp [Op.equal, Op.maxDepth, run_equalIn_iface_int w 9998 a b hi hn hinfo hcomp]
end
end Go
namespace Go.Proofs.YteifmkfkekglpaaDoor
open Go.RowKit Go.Extern.Stop Go.Stop Go.Extern

/-- An error that is a chain of faults of the number c, at the places ps from the outside to the inside; within it the number itself. -/
def FChain (w : World) (c : Int) : List Int → Value → Prop
  | [], v => v = .iface 59 (.int .i64 c)
  | p :: r, v => ∃ b : Nat, v = .iface 83 (.pointer (some ⟨b, 0, none⟩)) ∧ w.cell? ⟨b, 0, none⟩ = some (.int .i64 c) ∧ w.cell? ⟨b, 1, none⟩ = some (.int .i64 p) ∧ ∃ u, w.cell? ⟨b, 2, none⟩ = some u ∧ FChain w c r u
theorem FChain.keeps {w w' : World} (k : Keeps Nothing w w') {c : Int} : ∀ {ps : List Int} {v : Value}, FChain w c ps v → FChain w' c ps v
  | [], _, h => h
  | _ :: _, _, ⟨b, hv, h0, h1, u, h2, hr⟩ => ⟨b, hv, k.cell h0 (fun h => h), k.cell h1 (fun h => h), u, k.cell h2 (fun h => h), FChain.keeps k hr⟩
theorem FChain.shape {w : World} {c : Int} : ∀ {ps : List Int} {v : Value}, FChain w c ps v → ∃ T y, v = .iface T y
  | [], _, h => ⟨_, _, h⟩
  | _ :: _, _, ⟨_, hv, _⟩ => ⟨_, _, hv⟩
theorem chain_new (w : World) (c p : Int) : FChain (w.alloc (.cells #[.int .i64 c, .int .i64 p, .iface 59 (.int .i64 c)] 86)) c [p] (.iface 83 (.pointer (some ⟨w.heap.size, 0, none⟩))) :=
  ⟨w.heap.size, rfl, by simp, by simp, _, by simp, rfl⟩

theorem comparableN (w : World) : (ReflectliteType.method (fun t => do Rtype.noPackHeld "Comparable" t; (fun a => Value.bool a.comparable) <$> typeInfo t) #[.agg #[.pointer (some ⟨1, 59, none⟩)]]).run Tryd.prog w = .ok (.bool true) w := by kernel_rfl
theorem eqFE (v : Value) (x : Int) (w : World) : (binOp .eql 28 (.iface 83 v) (.iface 59 (.int .i64 x))).run Tryd.prog w = .ok (.bool false) w := run_eql_iface_types _ _ _ _ Tryd.underlying28 (by decide) w
theorem eqEE (c x : Int) (w : World) : (binOp .eql 28 (.iface 59 (.int .i64 c)) (.iface 59 (.int .i64 x))).run Tryd.prog w = .ok (.bool (c == x)) w := run_eql_iface_int w c x Tryd.underlying28 Tryd.underlying59 (by kernel_rfl)

/-- fault.first of a fault. -/
theorem first_fault (b : Nat) (w : World) (hg : ErrVar w) : Calls Tryd.prog 63 #[.iface 83 (.pointer (some ⟨b, 0, none⟩))] w fun e w' => e = .returned (.pointer (some ⟨b, 0, none⟩)) ∧ Keeps Nothing w w' := by
  have K0 := (Keeps.refl Nothing w).alloc (.cells #[.pointer none] 83)
  have B0 := blk_new w #[.pointer none] 83
  have hq := As_fault ⟨b, 0, none⟩ ⟨w.heap.size, 0, none⟩ (w.alloc (.cells #[.pointer none] 83)) (hg.keeps K0) (blk_cell B0 0 rfl) (blk_free B0 0)
  go_enter Tryd.func63, Tryd.ntmps63
  go_wp2_with fail
  refine hq.mono ?_
  rintro e w' ⟨rfl, w1, k1, rfl⟩
  have c1 := blk_cell (blk_set (k1.blk B0 (fun h => h)) 0 (.pointer (some ⟨b, 0, none⟩))) 0 rfl
  go_wp2_with fail
  go_ret
  exact ⟨rfl, (K0.trans k1 (fun _ h _ => h)).setCell (fun h => by simp at h) _⟩
/-- fault.first of a number. -/
theorem first_num (c : Int) (w : World) (hg : ErrVar w) : Calls Tryd.prog 63 #[.iface 59 (.int .i64 c)] w fun e w' => e = .returned (.pointer none) ∧ Keeps Nothing w w' := by
  have K0 := (Keeps.refl Nothing w).alloc (.cells #[.pointer none] 83)
  have hq := As_num c ⟨w.heap.size, 0, none⟩ (w.alloc (.cells #[.pointer none] 83)) (hg.keeps K0)
  go_enter Tryd.func63, Tryd.ntmps63
  go_wp2_with fail
  refine hq.mono ?_
  rintro e w' ⟨rfl, k1⟩
  go_wp2_with fail
  go_ret
  exact ⟨rfl, K0.trans k1 (fun _ h _ => h)⟩
theorem code_nil (w : World) : Calls Tryd.prog 56 #[.nilIface] w fun e w' => e = .returned (.int .i64 0) ∧ w' = w := by
  go_enter Tryd.func56, Tryd.ntmps56
  go_wp2_with fail
  go_ret
  exact ⟨rfl, rfl⟩
theorem code_chain {w : World} {c : Int} {ps : List Int} {v : Value} (h : FChain w c ps v) (hg : ErrVar w) : Calls Tryd.prog 56 #[v] w fun e w' => e = .returned (.int .i64 c) ∧ Keeps Nothing w w' := by
  cases ps with
  | nil =>
    obtain rfl := h
    go_enter Tryd.func56, Tryd.ntmps56
    go_wp2_with fail
    refine (first_num c w hg).mono ?_
    rintro e w1 ⟨rfl, k1⟩
    go_wp2_with fail
    have K1 := k1.alloc (.cells #[.int .i64 0] 59)
    have B1 := blk_new w1 #[.int .i64 0] 59
    refine (As_numE c ⟨w1.heap.size, 0, none⟩ _ (hg.keeps K1) (blk_cell B1 0 rfl) (blk_free B1 0)).mono ?_
    rintro e w2 ⟨rfl, w3, k3, rfl⟩
    have c1 := blk_cell (blk_set (k3.blk B1 (fun h => h)) 0 (.int .i64 c)) 0 rfl
    go_wp2_with fail
    go_ret
    exact ⟨rfl, (K1.trans k3 (fun _ h _ => h)).setCell (fun h => by have := k1.size; simp at h; omega) _⟩
  | cons p r =>
    obtain ⟨b, rfl, h0, h1, u, h2, hr⟩ := h
    go_enter Tryd.func56, Tryd.ntmps56
    go_wp2_with fail
    refine (first_fault b w hg).mono ?_
    rintro e w1 ⟨rfl, k1⟩
    have c1 := k1.cell h0 (fun h => h)
    go_wp2_with fail
    go_ret
    exact ⟨rfl, k1⟩
theorem in_nil (at' : Int) (w : World) : Calls Tryd.prog 43 #[.nilIface, .int .i64 at'] w fun e w' => e = .returned .nilIface ∧ w' = w := by
  go_enter Tryd.func43, Tryd.ntmps43
  go_wp2_with fail
  go_ret
  exact ⟨rfl, rfl⟩
theorem in_chain {w : World} {c : Int} {ps : List Int} {v : Value} (h : FChain w c ps v) (hg : ErrVar w) (at' : Int) :
    Calls Tryd.prog 43 #[v, .int .i64 at'] w fun e w' => ∃ b, e = .returned (.iface 83 (.pointer (some ⟨b, 0, none⟩))) ∧ w.heap.size ≤ b ∧ FChain w' c (at' :: ps) (.iface 83 (.pointer (some ⟨b, 0, none⟩))) ∧ Keeps Nothing w w' := by
  have hq := code_chain h hg
  obtain ⟨T, y, rfl⟩ := h.shape
  go_enter Tryd.func43, Tryd.ntmps43
  go_wp2_with fail
  refine hq.mono ?_
  rintro e w1 ⟨rfl, k1⟩
  go_wp2_with fail
  go_ret
  exact ⟨_, rfl, k1.size, ⟨_, rfl, by simp, by simp, _, by simp, (h.keeps k1).keeps ((Keeps.refl _ _).alloc _)⟩, k1.alloc _⟩
end Go.Proofs.YteifmkfkekglpaaDoor
