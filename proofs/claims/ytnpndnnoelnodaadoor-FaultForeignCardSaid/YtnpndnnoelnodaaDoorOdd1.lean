/- Errors that are none of the program's: what package fault tells of them. -/
import Derived.Test.YtnpndnnoelnodaaDoorAs5
namespace Go.Proofs.YtnpndnnoelnodaaDoor
open Go.RowKit Go.Extern.Stop Go.Stop Go.Extern

theorem noAsO (v : Value) (xT : TypeId) (w : World) : (Instr.typeAssert (.iface 41 v) xT 69 true).run Tryd.prog w = .ok (.tuple #[.nilIface, .bool false]) w := run_typeAssert_lacksB Tryd.underlying69 (by kernel_rfl) (by kernel_rfl) v xT w
theorem noIsO (v : Value) (xT : TypeId) (w : World) : (Instr.typeAssert (.iface 41 v) xT 77 true).run Tryd.prog w = .ok (.tuple #[.nilIface, .bool false]) w := run_typeAssert_lacksB Tryd.underlying77 (by kernel_rfl) (by kernel_rfl) v xT w
theorem hasUwO (v : Value) (xT : TypeId) (w : World) : (Instr.typeAssert (.iface 41 v) xT 72 true).run Tryd.prog w = .ok (.tuple #[.iface 41 v, .bool true]) w := run_typeAssert_hasB Tryd.underlying72 (by kernel_rfl) v xT w
theorem methodUwO (u : Value) (w : World) : (Go.method 210 41 (.agg #[u]) "Unwrap").run Tryd.prog w = .ok (48, .agg #[u]) w := by kernel_rfl
theorem typeOfO (v : Value) (w : World) : (ReflectliteType.typeOf #[.iface 41 v]).run Tryd.prog w = .ok (.iface 65 (.agg #[.pointer (some ⟨1, 41, none⟩)])) w := by kernel_rfl
theorem assignOF (w : World) : (ReflectliteType.relation "AssignableTo" ReflectliteType.assignableTo #[.agg #[.pointer (some ⟨1, 41, none⟩)], .iface 65 (.agg #[.pointer (some ⟨1, 34, none⟩)])]).run Tryd.prog w = .ok (.bool false) w := by kernel_rfl
theorem assignOE (w : World) : (ReflectliteType.relation "AssignableTo" ReflectliteType.assignableTo #[.agg #[.pointer (some ⟨1, 41, none⟩)], .iface 65 (.agg #[.pointer (some ⟨1, 27, none⟩)])]).run Tryd.prog w = .ok (.bool false) w := by kernel_rfl
theorem eqOE (v : Value) (x : Int) (w : World) : (binOp .eql 25 (.iface 41 v) (.iface 27 (.int .i64 x))).run Tryd.prog w = .ok (.bool false) w := run_eql_iface_types _ _ _ _ Tryd.underlying25 (by decide) w
theorem asFault_odd (v : Value) (xT : TypeId) (w : World) : (Instr.typeAssert (.iface 41 v) xT 34 true).run Tryd.prog w = .ok (.tuple #[.pointer none, .bool false]) w := by kernel_rfl

set_option maxRecDepth 100000 in
set_option maxHeartbeats 1000000 in
theorem asO_hitF (e : Addr) (a t : Addr) {old : Value} (w : World) (ha : w.cell? a = some (.pointer (some t))) (ht : w.cell? t = some old) (hf : w.frozen? t = false) :
    Calls Tryd.prog 22 #[.iface 41 (.agg #[.iface 34 (.pointer (some e))]), .iface 49 (.pointer (some t)), .agg #[.pointer (some ⟨1, 49, none⟩), .pointer (some a), .int .u64 150], .iface 65 (.agg #[.pointer (some ⟨1, 34, none⟩)])] w fun ev w' => ev = .returned (.bool true) ∧ ∃ w1, Keeps Nothing w w1 ∧ w' = w1.setCell t (.pointer (some e)) := by
  have x10 := @run_callFunc_extern Tryd.prog 23 _ ReflectliteType.typeOf Tryd.func23 (by kernel_rfl) (by kernel_rfl) (by kernel_rfl) (by kernel_rfl)
  have x35 := @run_callFunc_extern Tryd.prog 53 _ (ReflectliteType.relation "AssignableTo" ReflectliteType.assignableTo) Tryd.func53 (by kernel_rfl) (by kernel_rfl) (by kernel_rfl) (by kernel_rfl)
  have x6 := @run_callFunc_extern Tryd.prog 19 _ (fun args => ReflectliteValue.unpack (args.getD 0 (.tuple #[]))) Tryd.func19 (by kernel_rfl) (by kernel_rfl) (by kernel_rfl) (by kernel_rfl)
  have x11 := @run_callFunc_extern Tryd.prog 25 _ (ReflectliteValue.method (ReflectliteValue.valueError "reflectlite.Value.Elem" 0) ReflectliteValue.elem) Tryd.func25 (by kernel_rfl) (by kernel_rfl) (by kernel_rfl) (by kernel_rfl)
  have x12 := @run_callFunc_extern Tryd.prog 26 _ ReflectliteValue.set Tryd.func26 (by kernel_rfl) (by kernel_rfl) (by kernel_rfl) (by kernel_rfl)
  have tO := typeOfO
  have mA := methodAssignableTo
  have aO := assignOF
  have nA := noAsO
  have hU := hasUwO
  have mU := methodUwO
  have tE := typeOfEF
  have aE := assignEF
  have vE := valueOfEF
  have lt := cell_lt ht
  have el := elemVF a t (((w.alloc (.cells #[.pointer (some ⟨1, 49, none⟩), .pointer (some a), .int .u64 150] 53)).alloc (.cells #[.iface 34 (.pointer (some e))] 41)).alloc (.cells #[.agg #[]] 0)) (cell_al (cell_al (cell_al ha _) _) _)
  have el2 := elemVF a t ((w.alloc (.cells #[.pointer (some ⟨1, 49, none⟩), .pointer (some a), .int .u64 150] 53)).alloc (.cells #[.iface 34 (.pointer (some e))] 41)) (cell_al (cell_al ha _) _)
  clear el
  have st := setF t ⟨w.heap.size + 1 + 1, 0, none⟩ e old (((w.alloc (.cells #[.pointer (some ⟨1, 49, none⟩), .pointer (some a), .int .u64 150] 53)).alloc (.cells #[.iface 34 (.pointer (some e))] 41)).alloc (.cells #[.pointer (some e)] 34)) (by rw [World.cell?_alloc_at _ _ _ _ (by simp)]; rfl) (cell_al (cell_al (cell_al ht _) _) _) (frozen_al (frozen_al (frozen_al hf lt _) (by simp; omega) _) (by simp; omega) _)
  go_enter Tryd.func22, Tryd.ntmps22
  go_wp2
  refine wp_loop_rounds 2 ?_
  rw [rounds_succ]
  go_wp2
  rw [rounds_succ]
  go_wp2
  go_ret
  exact ⟨rfl, _, (((Keeps.refl _ _).alloc _).alloc _).alloc _, rfl⟩

set_option maxRecDepth 100000 in
set_option maxHeartbeats 1000000 in
theorem asO_missFE (e : Int) (a t : Addr) (w : World) :
    Calls Tryd.prog 22 #[.iface 41 (.agg #[.iface 27 (.int .i64 e)]), .iface 49 (.pointer (some t)), .agg #[.pointer (some ⟨1, 49, none⟩), .pointer (some a), .int .u64 150], .iface 65 (.agg #[.pointer (some ⟨1, 34, none⟩)])] w fun ev w' => ev = .returned (.bool false) ∧ Keeps Nothing w w' := by
  have x10 := @run_callFunc_extern Tryd.prog 23 _ ReflectliteType.typeOf Tryd.func23 (by kernel_rfl) (by kernel_rfl) (by kernel_rfl) (by kernel_rfl)
  have x35 := @run_callFunc_extern Tryd.prog 53 _ (ReflectliteType.relation "AssignableTo" ReflectliteType.assignableTo) Tryd.func53 (by kernel_rfl) (by kernel_rfl) (by kernel_rfl) (by kernel_rfl)
  have tO := typeOfO
  have mA := methodAssignableTo
  have aO := assignOF
  have nA := noAsO
  have hU := hasUwO
  have mU := methodUwO
  have tE := typeOfEE
  have aE := assignXEF
  have n1 := noAsE
  have n2 := noUwE
  have n3 := noUwsE
  go_enter Tryd.func22, Tryd.ntmps22
  go_wp2
  refine wp_loop_rounds 2 ?_
  rw [rounds_succ]
  go_wp2
  rw [rounds_succ]
  go_wp2
  go_ret
  exact ⟨rfl, ((Keeps.refl _ _).alloc _).alloc _⟩

set_option maxRecDepth 100000 in
set_option maxHeartbeats 1000000 in
theorem asO_missF0  (a t : Addr) (w : World) :
    Calls Tryd.prog 22 #[.iface 41 (.agg #[.nilIface]), .iface 49 (.pointer (some t)), .agg #[.pointer (some ⟨1, 49, none⟩), .pointer (some a), .int .u64 150], .iface 65 (.agg #[.pointer (some ⟨1, 34, none⟩)])] w fun ev w' => ev = .returned (.bool false) ∧ Keeps Nothing w w' := by
  have x10 := @run_callFunc_extern Tryd.prog 23 _ ReflectliteType.typeOf Tryd.func23 (by kernel_rfl) (by kernel_rfl) (by kernel_rfl) (by kernel_rfl)
  have x35 := @run_callFunc_extern Tryd.prog 53 _ (ReflectliteType.relation "AssignableTo" ReflectliteType.assignableTo) Tryd.func53 (by kernel_rfl) (by kernel_rfl) (by kernel_rfl) (by kernel_rfl)
  have tO := typeOfO
  have mA := methodAssignableTo
  have aO := assignOF
  have nA := noAsO
  have hU := hasUwO
  have mU := methodUwO
  go_enter Tryd.func22, Tryd.ntmps22
  go_wp2
  refine wp_loop_rounds 1 ?_
  rw [rounds_succ]
  go_wp2
  go_ret
  exact ⟨rfl, ((Keeps.refl _ _).alloc _).alloc _⟩

set_option maxRecDepth 100000 in
set_option maxHeartbeats 1000000 in
theorem asO_hitE (e : Int) (a t : Addr) {old : Value} (w : World) (ha : w.cell? a = some (.pointer (some t))) (ht : w.cell? t = some old) (hf : w.frozen? t = false) :
    Calls Tryd.prog 22 #[.iface 41 (.agg #[.iface 27 (.int .i64 e)]), .iface 46 (.pointer (some t)), .agg #[.pointer (some ⟨1, 46, none⟩), .pointer (some a), .int .u64 150], .iface 65 (.agg #[.pointer (some ⟨1, 27, none⟩)])] w fun ev w' => ev = .returned (.bool true) ∧ ∃ w1, Keeps Nothing w w1 ∧ w' = w1.setCell t (.int .i64 e) := by
  have x10 := @run_callFunc_extern Tryd.prog 23 _ ReflectliteType.typeOf Tryd.func23 (by kernel_rfl) (by kernel_rfl) (by kernel_rfl) (by kernel_rfl)
  have x35 := @run_callFunc_extern Tryd.prog 53 _ (ReflectliteType.relation "AssignableTo" ReflectliteType.assignableTo) Tryd.func53 (by kernel_rfl) (by kernel_rfl) (by kernel_rfl) (by kernel_rfl)
  have x6 := @run_callFunc_extern Tryd.prog 19 _ (fun args => ReflectliteValue.unpack (args.getD 0 (.tuple #[]))) Tryd.func19 (by kernel_rfl) (by kernel_rfl) (by kernel_rfl) (by kernel_rfl)
  have x11 := @run_callFunc_extern Tryd.prog 25 _ (ReflectliteValue.method (ReflectliteValue.valueError "reflectlite.Value.Elem" 0) ReflectliteValue.elem) Tryd.func25 (by kernel_rfl) (by kernel_rfl) (by kernel_rfl) (by kernel_rfl)
  have x12 := @run_callFunc_extern Tryd.prog 26 _ ReflectliteValue.set Tryd.func26 (by kernel_rfl) (by kernel_rfl) (by kernel_rfl) (by kernel_rfl)
  have tO := typeOfO
  have mA := methodAssignableTo
  have aO := assignOE
  have nA := noAsO
  have hU := hasUwO
  have mU := methodUwO
  have tE := typeOfEE
  have aE := assignEE
  have vE := valueOfEE
  have lt := cell_lt ht
  have el := elemVE a t (((w.alloc (.cells #[.pointer (some ⟨1, 46, none⟩), .pointer (some a), .int .u64 150] 53)).alloc (.cells #[.iface 27 (.int .i64 e)] 41)).alloc (.cells #[.agg #[]] 0)) (cell_al (cell_al (cell_al ha _) _) _)
  have el2 := elemVE a t ((w.alloc (.cells #[.pointer (some ⟨1, 46, none⟩), .pointer (some a), .int .u64 150] 53)).alloc (.cells #[.iface 27 (.int .i64 e)] 41)) (cell_al (cell_al ha _) _)
  clear el
  have st := setE t ⟨w.heap.size + 1 + 1, 0, none⟩ e old (((w.alloc (.cells #[.pointer (some ⟨1, 46, none⟩), .pointer (some a), .int .u64 150] 53)).alloc (.cells #[.iface 27 (.int .i64 e)] 41)).alloc (.cells #[.int .i64 e] 27)) (by rw [World.cell?_alloc_at _ _ _ _ (by simp)]; rfl) (cell_al (cell_al (cell_al ht _) _) _) (frozen_al (frozen_al (frozen_al hf lt _) (by simp; omega) _) (by simp; omega) _)
  go_enter Tryd.func22, Tryd.ntmps22
  go_wp2
  refine wp_loop_rounds 2 ?_
  rw [rounds_succ]
  go_wp2
  rw [rounds_succ]
  go_wp2
  go_ret
  exact ⟨rfl, _, (((Keeps.refl _ _).alloc _).alloc _).alloc _, rfl⟩

set_option maxRecDepth 100000 in
set_option maxHeartbeats 1000000 in
theorem asO_missE0  (a t : Addr) (w : World) :
    Calls Tryd.prog 22 #[.iface 41 (.agg #[.nilIface]), .iface 46 (.pointer (some t)), .agg #[.pointer (some ⟨1, 46, none⟩), .pointer (some a), .int .u64 150], .iface 65 (.agg #[.pointer (some ⟨1, 27, none⟩)])] w fun ev w' => ev = .returned (.bool false) ∧ Keeps Nothing w w' := by
  have x10 := @run_callFunc_extern Tryd.prog 23 _ ReflectliteType.typeOf Tryd.func23 (by kernel_rfl) (by kernel_rfl) (by kernel_rfl) (by kernel_rfl)
  have x35 := @run_callFunc_extern Tryd.prog 53 _ (ReflectliteType.relation "AssignableTo" ReflectliteType.assignableTo) Tryd.func53 (by kernel_rfl) (by kernel_rfl) (by kernel_rfl) (by kernel_rfl)
  have tO := typeOfO
  have mA := methodAssignableTo
  have aO := assignOE
  have nA := noAsO
  have hU := hasUwO
  have mU := methodUwO
  go_enter Tryd.func22, Tryd.ntmps22
  go_wp2
  refine wp_loop_rounds 1 ?_
  rw [rounds_succ]
  go_wp2
  go_ret
  exact ⟨rfl, ((Keeps.refl _ _).alloc _).alloc _⟩

end Go.Proofs.YtnpndnnoelnodaaDoor
