/- errors.as and errors.As by contracts, at errors that are faults or numbers. -/
import Derived.Test.YteifmkfkekglpaaDoorAs1
namespace Go.Proofs.YteifmkfkekglpaaDoor
open Go.RowKit Go.Extern.Stop Go.Stop Go.Extern

/-- The one package-level variable that errors.As reads. -/
def ErrVar (w : World) : Prop := w.cell? ⟨0, 0, none⟩ = some (.iface 135 (.agg #[.pointer (some ⟨1, 28, none⟩)]))
theorem ErrVar.keeps {w w' : World} (h : ErrVar w) (k : Keeps Nothing w w') : ErrVar w' := k.cell h (fun h => h)
theorem cell_lt {w : World} {a : Addr} {v : Value} (h : w.cell? a = some v) : a.block < w.heap.size := World.block_lt_of_cell? w a h
theorem cell_al {w : World} {a : Addr} {v : Value} (h : w.cell? a = some v) (o : Obj) : (w.alloc o).cell? a = some v := ((Keeps.refl Nothing w).alloc o).cell h (fun h => h)
theorem frozen_al {w : World} {a : Addr} (h : w.frozen? a = false) (ha : a.block < w.heap.size) (o : Obj) : (w.alloc o).frozen? a = false := by
  rw [World.frozen?_alloc_old _ _ a (Nat.ne_of_lt ha)]; exact h
theorem as_nil (t : Value) (w : World) : Calls Tryd.prog 64 #[.nilIface, t] w fun e w' => e = .returned (.bool false) ∧ w' = w := by
  go_enter Tryd.func64, Tryd.ntmps64
  go_wp2
  go_ret
  exact ⟨rfl, rfl⟩

set_option maxRecDepth 100000 in
set_option maxHeartbeats 1000000 in
theorem as_hitF (e : Addr) (a t : Addr) {old : Value} (w : World) (ha : w.cell? a = some (.pointer (some t))) (ht : w.cell? t = some old) (hf : w.frozen? t = false) :
    Calls Tryd.prog 70 #[.iface 83 (.pointer (some e)), .iface 121 (.pointer (some t)), .agg #[.pointer (some ⟨1, 121, none⟩), .pointer (some a), .int .u64 150], .iface 135 (.agg #[.pointer (some ⟨1, 83, none⟩)])] w
      fun ev w' => ev = .returned (.bool true) ∧ ∃ w1, Keeps Nothing w w1 ∧ w' = w1.setCell t (.pointer (some e)) := by
  have x6 := @run_callFunc_extern Tryd.prog 67 _ (fun args => ReflectliteValue.unpack (args.getD 0 (.tuple #[]))) Tryd.func67 (by kernel_rfl) (by kernel_rfl) (by kernel_rfl) (by kernel_rfl)
  have x10 := @run_callFunc_extern Tryd.prog 72 _ ReflectliteType.typeOf Tryd.func72 (by kernel_rfl) (by kernel_rfl) (by kernel_rfl) (by kernel_rfl)
  have x35 := @run_callFunc_extern Tryd.prog 100 _ (ReflectliteType.relation "AssignableTo" ReflectliteType.assignableTo) Tryd.func100 (by kernel_rfl) (by kernel_rfl) (by kernel_rfl) (by kernel_rfl)
  have x11 := @run_callFunc_extern Tryd.prog 73 _ (ReflectliteValue.method (ReflectliteValue.valueError "reflectlite.Value.Elem" 0) ReflectliteValue.elem) Tryd.func73 (by kernel_rfl) (by kernel_rfl) (by kernel_rfl) (by kernel_rfl)
  have x12 := @run_callFunc_extern Tryd.prog 74 _ ReflectliteValue.set Tryd.func74 (by kernel_rfl) (by kernel_rfl) (by kernel_rfl) (by kernel_rfl)
  have tO := typeOfEF
  have mA := methodAssignableTo
  have aE := assignEF
  have vE := valueOfEF
  have lt := cell_lt ht
  have el := elemVF a t (w.alloc (.cells #[.pointer (some ⟨1, 121, none⟩), .pointer (some a), .int .u64 150] 125)) (cell_al ha _)
  have st := setF t ⟨w.heap.size + 1, 0, none⟩ e old ((w.alloc (.cells #[.pointer (some ⟨1, 121, none⟩), .pointer (some a), .int .u64 150] 125)).alloc (.cells #[.pointer (some e)] 83)) (by rw [World.cell?_alloc_at _ _ _ _ (by simp)]; rfl) (cell_al (cell_al ht _) _) (frozen_al (frozen_al hf lt _) (by simp; omega) _)
  go_enter Tryd.func70, Tryd.ntmps70
  go_wp2
  refine wp_loop_rounds 1 ?_
  rw [rounds_succ]
  go_wp2
  go_ret
  exact ⟨rfl, _, ((Keeps.refl _ _).alloc _).alloc _, rfl⟩

set_option maxRecDepth 100000 in
set_option maxHeartbeats 1000000 in
theorem As_ofF {T : TypeId} {u : Value} {t : Addr} {w : World} {r : Bool} {Q : World → Prop} (hg : ErrVar w)
    (h : ∀ w1 a, Keeps Nothing w w1 → w1.cell? a = some (.pointer (some t)) → Calls Tryd.prog 70 #[.iface T u, .iface 121 (.pointer (some t)), .agg #[.pointer (some ⟨1, 121, none⟩), .pointer (some a), .int .u64 150], .iface 135 (.agg #[.pointer (some ⟨1, 83, none⟩)])] w1 fun e w' => e = .returned (.bool r) ∧ Q w') :
    Calls Tryd.prog 64 #[.iface T u, .iface 121 (.pointer (some t))] w fun e w' => e = .returned (.bool r) ∧ Q w' := by
  have x6 := @run_callFunc_extern Tryd.prog 67 _ (fun args => ReflectliteValue.unpack (args.getD 0 (.tuple #[]))) Tryd.func67 (by kernel_rfl) (by kernel_rfl) (by kernel_rfl) (by kernel_rfl)
  have x7 := @run_callFunc_extern Tryd.prog 68 _ (ReflectliteValue.methodAny (ReflectliteValue.valueError "reflectlite.Value.Type" 0) (fun t _ _ _ => ReflectliteType.toType t)) Tryd.func68 (by kernel_rfl) (by kernel_rfl) (by kernel_rfl) (by kernel_rfl)
  have x8 := @run_callFunc_extern Tryd.prog 69 _ (ReflectliteValue.method (ReflectliteValue.valueError "reflectlite.Value.IsNil" 0) ReflectliteValue.isNil) Tryd.func69 (by kernel_rfl) (by kernel_rfl) (by kernel_rfl) (by kernel_rfl)
  have x27 := @run_callFunc_extern Tryd.prog 89 _ (ReflectliteType.abiMethod fun t => do pure (.int .u8 (← Rtype.kind t))) Tryd.func89 (by kernel_rfl) (by kernel_rfl) (by kernel_rfl) (by kernel_rfl)
  have x37 := @run_callFunc_extern Tryd.prog 102 _ (ReflectliteType.method ReflectliteType.elem) Tryd.func102 (by kernel_rfl) (by kernel_rfl) (by kernel_rfl) (by kernel_rfl)
  have x38 := @run_callFunc_extern Tryd.prog 103 _ (ReflectliteType.relation "Implements" ReflectliteType.implements_) Tryd.func103 (by kernel_rfl) (by kernel_rfl) (by kernel_rfl) (by kernel_rfl)
  have f6 := valueOfPF
  have f7 := typePF
  have mK := methodKind
  have mE := methodElem
  have mI := methodImplements
  have k27 := kindPF
  have k25 := kindEF
  have e27 := elemPF
  have i25 := implementsEF
  have n8 := isNilPF ⟨w.heap.size, 0, none⟩ t ((w.alloc (.cells #[.pointer (some t)] 121)).alloc (.cells #[.pointer (some ⟨1, 121, none⟩), .pointer (some ⟨w.heap.size, 0, none⟩), .int .u64 150] 125)) (cell_al (by simp) _)
  have hg2 : ((w.alloc (.cells #[.pointer (some t)] 121)).alloc (.cells #[.pointer (some ⟨1, 121, none⟩), .pointer (some ⟨w.heap.size, 0, none⟩), .int .u64 150] 125)).cell? ⟨0, 0, none⟩ = some (.iface 135 (.agg #[.pointer (some ⟨1, 28, none⟩)])) := cell_al (cell_al hg _) _
  have hq := h ((w.alloc (.cells #[.pointer (some t)] 121)).alloc (.cells #[.pointer (some ⟨1, 121, none⟩), .pointer (some ⟨w.heap.size, 0, none⟩), .int .u64 150] 125)) ⟨w.heap.size, 0, none⟩ (((Keeps.refl _ _).alloc _).alloc _) (cell_al (by simp) _)
  clear h
  go_enter Tryd.func64, Tryd.ntmps64
  go_wp2_with (first | (go_at_call 70; refine hq.mono ?_; rintro e w' ⟨rfl, hQ⟩) | go_in)
  go_ret
  exact ⟨rfl, hQ⟩

set_option maxRecDepth 100000 in
set_option maxHeartbeats 1000000 in
theorem as_hitE (e : Int) (a t : Addr) {old : Value} (w : World) (ha : w.cell? a = some (.pointer (some t))) (ht : w.cell? t = some old) (hf : w.frozen? t = false) :
    Calls Tryd.prog 70 #[.iface 59 (.int .i64 e), .iface 119 (.pointer (some t)), .agg #[.pointer (some ⟨1, 119, none⟩), .pointer (some a), .int .u64 150], .iface 135 (.agg #[.pointer (some ⟨1, 59, none⟩)])] w
      fun ev w' => ev = .returned (.bool true) ∧ ∃ w1, Keeps Nothing w w1 ∧ w' = w1.setCell t (.int .i64 e) := by
  have x6 := @run_callFunc_extern Tryd.prog 67 _ (fun args => ReflectliteValue.unpack (args.getD 0 (.tuple #[]))) Tryd.func67 (by kernel_rfl) (by kernel_rfl) (by kernel_rfl) (by kernel_rfl)
  have x10 := @run_callFunc_extern Tryd.prog 72 _ ReflectliteType.typeOf Tryd.func72 (by kernel_rfl) (by kernel_rfl) (by kernel_rfl) (by kernel_rfl)
  have x35 := @run_callFunc_extern Tryd.prog 100 _ (ReflectliteType.relation "AssignableTo" ReflectliteType.assignableTo) Tryd.func100 (by kernel_rfl) (by kernel_rfl) (by kernel_rfl) (by kernel_rfl)
  have x11 := @run_callFunc_extern Tryd.prog 73 _ (ReflectliteValue.method (ReflectliteValue.valueError "reflectlite.Value.Elem" 0) ReflectliteValue.elem) Tryd.func73 (by kernel_rfl) (by kernel_rfl) (by kernel_rfl) (by kernel_rfl)
  have x12 := @run_callFunc_extern Tryd.prog 74 _ ReflectliteValue.set Tryd.func74 (by kernel_rfl) (by kernel_rfl) (by kernel_rfl) (by kernel_rfl)
  have tO := typeOfEE
  have mA := methodAssignableTo
  have aE := assignEE
  have vE := valueOfEE
  have lt := cell_lt ht
  have el := elemVE a t (w.alloc (.cells #[.pointer (some ⟨1, 119, none⟩), .pointer (some a), .int .u64 150] 125)) (cell_al ha _)
  have st := setE t ⟨w.heap.size + 1, 0, none⟩ e old ((w.alloc (.cells #[.pointer (some ⟨1, 119, none⟩), .pointer (some a), .int .u64 150] 125)).alloc (.cells #[.int .i64 e] 59)) (by rw [World.cell?_alloc_at _ _ _ _ (by simp)]; rfl) (cell_al (cell_al ht _) _) (frozen_al (frozen_al hf lt _) (by simp; omega) _)
  go_enter Tryd.func70, Tryd.ntmps70
  go_wp2
  refine wp_loop_rounds 1 ?_
  rw [rounds_succ]
  go_wp2
  go_ret
  exact ⟨rfl, _, ((Keeps.refl _ _).alloc _).alloc _, rfl⟩

set_option maxRecDepth 100000 in
set_option maxHeartbeats 1000000 in
theorem As_ofE {T : TypeId} {u : Value} {t : Addr} {w : World} {r : Bool} {Q : World → Prop} (hg : ErrVar w)
    (h : ∀ w1 a, Keeps Nothing w w1 → w1.cell? a = some (.pointer (some t)) → Calls Tryd.prog 70 #[.iface T u, .iface 119 (.pointer (some t)), .agg #[.pointer (some ⟨1, 119, none⟩), .pointer (some a), .int .u64 150], .iface 135 (.agg #[.pointer (some ⟨1, 59, none⟩)])] w1 fun e w' => e = .returned (.bool r) ∧ Q w') :
    Calls Tryd.prog 64 #[.iface T u, .iface 119 (.pointer (some t))] w fun e w' => e = .returned (.bool r) ∧ Q w' := by
  have x6 := @run_callFunc_extern Tryd.prog 67 _ (fun args => ReflectliteValue.unpack (args.getD 0 (.tuple #[]))) Tryd.func67 (by kernel_rfl) (by kernel_rfl) (by kernel_rfl) (by kernel_rfl)
  have x7 := @run_callFunc_extern Tryd.prog 68 _ (ReflectliteValue.methodAny (ReflectliteValue.valueError "reflectlite.Value.Type" 0) (fun t _ _ _ => ReflectliteType.toType t)) Tryd.func68 (by kernel_rfl) (by kernel_rfl) (by kernel_rfl) (by kernel_rfl)
  have x8 := @run_callFunc_extern Tryd.prog 69 _ (ReflectliteValue.method (ReflectliteValue.valueError "reflectlite.Value.IsNil" 0) ReflectliteValue.isNil) Tryd.func69 (by kernel_rfl) (by kernel_rfl) (by kernel_rfl) (by kernel_rfl)
  have x27 := @run_callFunc_extern Tryd.prog 89 _ (ReflectliteType.abiMethod fun t => do pure (.int .u8 (← Rtype.kind t))) Tryd.func89 (by kernel_rfl) (by kernel_rfl) (by kernel_rfl) (by kernel_rfl)
  have x37 := @run_callFunc_extern Tryd.prog 102 _ (ReflectliteType.method ReflectliteType.elem) Tryd.func102 (by kernel_rfl) (by kernel_rfl) (by kernel_rfl) (by kernel_rfl)
  have x38 := @run_callFunc_extern Tryd.prog 103 _ (ReflectliteType.relation "Implements" ReflectliteType.implements_) Tryd.func103 (by kernel_rfl) (by kernel_rfl) (by kernel_rfl) (by kernel_rfl)
  have f6 := valueOfPE
  have f7 := typePE
  have mK := methodKind
  have mE := methodElem
  have mI := methodImplements
  have k27 := kindPE
  have k25 := kindEE
  have e27 := elemPE
  have i25 := implementsEE
  have n8 := isNilPE ⟨w.heap.size, 0, none⟩ t ((w.alloc (.cells #[.pointer (some t)] 119)).alloc (.cells #[.pointer (some ⟨1, 119, none⟩), .pointer (some ⟨w.heap.size, 0, none⟩), .int .u64 150] 125)) (cell_al (by simp) _)
  have hg2 : ((w.alloc (.cells #[.pointer (some t)] 119)).alloc (.cells #[.pointer (some ⟨1, 119, none⟩), .pointer (some ⟨w.heap.size, 0, none⟩), .int .u64 150] 125)).cell? ⟨0, 0, none⟩ = some (.iface 135 (.agg #[.pointer (some ⟨1, 28, none⟩)])) := cell_al (cell_al hg _) _
  have hq := h ((w.alloc (.cells #[.pointer (some t)] 119)).alloc (.cells #[.pointer (some ⟨1, 119, none⟩), .pointer (some ⟨w.heap.size, 0, none⟩), .int .u64 150] 125)) ⟨w.heap.size, 0, none⟩ (((Keeps.refl _ _).alloc _).alloc _) (cell_al (by simp) _)
  clear h
  go_enter Tryd.func64, Tryd.ntmps64
  go_wp2_with (first | (go_at_call 70; refine hq.mono ?_; rintro e w' ⟨rfl, hQ⟩) | go_in)
  go_ret
  exact ⟨rfl, hQ⟩

set_option maxRecDepth 100000 in
set_option maxHeartbeats 1000000 in
theorem as_missFE (c : Int) (t : Value) (a : Addr) (w : World) :
    Calls Tryd.prog 70 #[.iface 59 (.int .i64 c), t, .agg #[.pointer (some ⟨1, 121, none⟩), .pointer (some a), .int .u64 150], .iface 135 (.agg #[.pointer (some ⟨1, 83, none⟩)])] w fun ev w' => ev = .returned (.bool false) ∧ Keeps Nothing w w' := by
  have x10 := @run_callFunc_extern Tryd.prog 72 _ ReflectliteType.typeOf Tryd.func72 (by kernel_rfl) (by kernel_rfl) (by kernel_rfl) (by kernel_rfl)
  have x35 := @run_callFunc_extern Tryd.prog 100 _ (ReflectliteType.relation "AssignableTo" ReflectliteType.assignableTo) Tryd.func100 (by kernel_rfl) (by kernel_rfl) (by kernel_rfl) (by kernel_rfl)
  have tO := typeOfEE
  have mA := methodAssignableTo
  have aE := assignXEF
  have n1 := noAsE
  have n2 := noUwE
  have n3 := noUwsE
  go_enter Tryd.func70, Tryd.ntmps70
  go_wp2
  refine wp_loop_rounds 1 ?_
  rw [rounds_succ]
  go_wp2
  go_ret
  exact ⟨rfl, (Keeps.refl _ _).alloc _⟩

/-- errors.As at a fault: it is the one. -/
theorem As_fault (e t : Addr) {old : Value} (w : World) (hg : ErrVar w) (ht : w.cell? t = some old) (hf : w.frozen? t = false) :
    Calls Tryd.prog 64 #[.iface 83 (.pointer (some e)), .iface 121 (.pointer (some t))] w fun ev w' => ev = .returned (.bool true) ∧ ∃ w1, Keeps Nothing w w1 ∧ w' = w1.setCell t (.pointer (some e)) :=
  As_ofF hg fun w1 a k ha => (as_hitF e a t w1 ha (k.cell ht (fun h => h)) (by rw [← hf]; unfold World.frozen?; rw [k.block t.block (cell_lt ht) (fun h => h)])).mono fun _ _ ⟨he, w2, k2, hw⟩ => ⟨he, w2, k.trans k2 (fun _ h _ => h), hw⟩
theorem As_num (c : Int) (t : Addr) (w : World) (hg : ErrVar w) :
    Calls Tryd.prog 64 #[.iface 59 (.int .i64 c), .iface 121 (.pointer (some t))] w fun ev w' => ev = .returned (.bool false) ∧ Keeps Nothing w w' :=
  As_ofF hg fun w1 a k _ => (as_missFE c _ a w1).mono fun _ _ ⟨he, k2⟩ => ⟨he, k.trans k2 (fun _ h _ => h)⟩
theorem As_numE (c : Int) (t : Addr) {old : Value} (w : World) (hg : ErrVar w) (ht : w.cell? t = some old) (hf : w.frozen? t = false) :
    Calls Tryd.prog 64 #[.iface 59 (.int .i64 c), .iface 119 (.pointer (some t))] w fun ev w' => ev = .returned (.bool true) ∧ ∃ w1, Keeps Nothing w w1 ∧ w' = w1.setCell t (.int .i64 c) :=
  As_ofE hg fun w1 a k ha => (as_hitE c a t w1 ha (k.cell ht (fun h => h)) (by rw [← hf]; unfold World.frozen?; rw [k.block t.block (cell_lt ht) (fun h => h)])).mono fun _ _ ⟨he, w2, k2, hw⟩ => ⟨he, w2, k.trans k2 (fun _ h _ => h), hw⟩

end Go.Proofs.YteifmkfkekglpaaDoor
