/- What package fault tells of errors that are none of the program's. -/
import Derived.Test.YtnpndnnoelnodaaDoorOdd1
namespace Go.Proofs.YtnpndnnoelnodaaDoor
open Go.RowKit Go.Extern.Stop Go.Stop Go.Extern

abbrev oddV (u : Value) : Value := .iface 41 (.agg #[u])
abbrev numV (c : Int) : Value := .iface 27 (.int .i64 c)
abbrev fltV (b : Nat) : Value := .iface 34 (.pointer (some ⟨b, 0, none⟩))

theorem frz_keeps {w w1 : World} {t : Addr} {old : Value} (k : Keeps Nothing w w1) (ht : w.cell? t = some old) (hf : w.frozen? t = false) : w1.frozen? t = false := by
  rw [← hf]; unfold World.frozen?; rw [k.block t.block (cell_lt ht) (fun h => h)]
theorem As_oddF (b : Nat) (t : Addr) {old : Value} (w : World) (hg : ErrVar w) (ht : w.cell? t = some old) (hf : w.frozen? t = false) :
    Calls Tryd.prog 16 #[oddV (fltV b), .iface 49 (.pointer (some t))] w fun ev w' => ev = .returned (.bool true) ∧ ∃ w1, Keeps Nothing w w1 ∧ w' = w1.setCell t (.pointer (some ⟨b, 0, none⟩)) :=
  As_ofF hg fun w1 a k ha => (asO_hitF ⟨b, 0, none⟩ a t w1 ha (k.cell ht (fun h => h)) (frz_keeps k ht hf)).mono fun _ _ ⟨he, w2, k2, hw⟩ => ⟨he, w2, k.trans k2 (fun _ h _ => h), hw⟩
theorem As_oddE (c : Int) (t : Addr) (w : World) (hg : ErrVar w) :
    Calls Tryd.prog 16 #[oddV (numV c), .iface 49 (.pointer (some t))] w fun ev w' => ev = .returned (.bool false) ∧ Keeps Nothing w w' :=
  As_ofF hg fun w1 a k _ => (asO_missFE c a t w1).mono fun _ _ ⟨he, k2⟩ => ⟨he, k.trans k2 (fun _ h _ => h)⟩
theorem As_odd0 (t : Addr) (w : World) (hg : ErrVar w) :
    Calls Tryd.prog 16 #[oddV .nilIface, .iface 49 (.pointer (some t))] w fun ev w' => ev = .returned (.bool false) ∧ Keeps Nothing w w' :=
  As_ofF hg fun w1 a k _ => (asO_missF0 a t w1).mono fun _ _ ⟨he, k2⟩ => ⟨he, k.trans k2 (fun _ h _ => h)⟩
theorem As_oddEE (c : Int) (t : Addr) {old : Value} (w : World) (hg : ErrVar w) (ht : w.cell? t = some old) (hf : w.frozen? t = false) :
    Calls Tryd.prog 16 #[oddV (numV c), .iface 46 (.pointer (some t))] w fun ev w' => ev = .returned (.bool true) ∧ ∃ w1, Keeps Nothing w w1 ∧ w' = w1.setCell t (.int .i64 c) :=
  As_ofE hg fun w1 a k ha => (asO_hitE c a t w1 ha (k.cell ht (fun h => h)) (frz_keeps k ht hf)).mono fun _ _ ⟨he, w2, k2, hw⟩ => ⟨he, w2, k.trans k2 (fun _ h _ => h), hw⟩
theorem As_oddE0 (t : Addr) (w : World) (hg : ErrVar w) :
    Calls Tryd.prog 16 #[oddV .nilIface, .iface 46 (.pointer (some t))] w fun ev w' => ev = .returned (.bool false) ∧ Keeps Nothing w w' :=
  As_ofE hg fun w1 a k _ => (asO_missE0 a t w1).mono fun _ _ ⟨he, k2⟩ => ⟨he, k.trans k2 (fun _ h _ => h)⟩

theorem first_oddF (b : Nat) (w : World) (hg : ErrVar w) : Calls Tryd.prog 15 #[oddV (fltV b)] w fun e w' => e = .returned (.pointer (some ⟨b, 0, none⟩)) ∧ Keeps Nothing w w' := by
  have K0 := (Keeps.refl Nothing w).alloc (.cells #[.pointer none] 34)
  have B0 := blk_new w #[.pointer none] 34
  have hq := As_oddF b ⟨w.heap.size, 0, none⟩ (w.alloc (.cells #[.pointer none] 34)) (hg.keeps K0) (blk_cell B0 0 rfl) (blk_free B0 0)
  go_enter Tryd.func15, Tryd.ntmps15
  go_wp2_with fail
  refine hq.mono ?_
  rintro e w' ⟨rfl, w1, k1, rfl⟩
  have c1 := blk_cell (blk_set (k1.blk B0 (fun h => h)) 0 (.pointer (some ⟨b, 0, none⟩))) 0 rfl
  go_wp2_with fail
  go_ret
  exact ⟨rfl, (K0.trans k1 (fun _ h _ => h)).setCell (fun h => by simp at h) _⟩
theorem first_miss {v : Value} {T : TypeId} {y : Value} (hv : v = .iface T y) (w : World) (hg : ErrVar w)
    (hm : ∀ (t : Addr) (w : World), ErrVar w → Calls Tryd.prog 16 #[v, .iface 49 (.pointer (some t))] w fun ev w' => ev = .returned (.bool false) ∧ Keeps Nothing w w') :
    Calls Tryd.prog 15 #[v] w fun e w' => e = .returned (.pointer none) ∧ Keeps Nothing w w' := by
  have K0 := (Keeps.refl Nothing w).alloc (.cells #[.pointer none] 34)
  have hq := hm ⟨w.heap.size, 0, none⟩ (w.alloc (.cells #[.pointer none] 34)) (hg.keeps K0)
  subst hv
  go_enter Tryd.func15, Tryd.ntmps15
  go_wp2_with fail
  refine hq.mono ?_
  rintro e w' ⟨rfl, k1⟩
  go_wp2_with fail
  go_ret
  exact ⟨rfl, K0.trans k1 (fun _ h _ => h)⟩
theorem code_oddE (c : Int) (w : World) (hg : ErrVar w) : Calls Tryd.prog 9 #[oddV (numV c)] w fun e w' => e = .returned (.int .i64 c) ∧ Keeps Nothing w w' := by
  go_enter Tryd.func9, Tryd.ntmps9
  go_wp2_with fail
  refine (first_miss rfl w hg (As_oddE c)).mono ?_
  rintro e w1 ⟨rfl, k1⟩
  go_wp2_with fail
  have K1 := k1.alloc (.cells #[.int .i64 0] 27)
  have B1 := blk_new w1 #[.int .i64 0] 27
  refine (As_oddEE c ⟨w1.heap.size, 0, none⟩ _ (hg.keeps K1) (blk_cell B1 0 rfl) (blk_free B1 0)).mono ?_
  rintro e w2 ⟨rfl, w3, k3, rfl⟩
  have c1 := blk_cell (blk_set (k3.blk B1 (fun h => h)) 0 (.int .i64 c)) 0 rfl
  go_wp2_with fail
  go_ret
  exact ⟨rfl, (K1.trans k3 (fun _ h _ => h)).setCell (fun h => by have := k1.size; simp at h; omega) _⟩
theorem code_odd0 (w : World) (hg : ErrVar w) : Calls Tryd.prog 9 #[oddV .nilIface] w fun e w' => e = .returned (.int .i64 1) ∧ Keeps Nothing w w' := by
  go_enter Tryd.func9, Tryd.ntmps9
  go_wp2_with fail
  refine (first_miss rfl w hg As_odd0).mono ?_
  rintro e w1 ⟨rfl, k1⟩
  go_wp2_with fail
  have K1 := k1.alloc (.cells #[.int .i64 0] 27)
  refine (As_oddE0 ⟨w1.heap.size, 0, none⟩ _ (hg.keeps K1)).mono ?_
  rintro e w2 ⟨rfl, k3⟩
  go_wp2_with fail
  go_ret
  exact ⟨rfl, K1.trans k3 (fun _ h _ => h)⟩
theorem code_hit {v : Value} {T : TypeId} {y : Value} (hv : v = .iface T y) {b : Nat} {c : Int} {w : World} (h0 : w.cell? ⟨b, 0, none⟩ = some (.int .i64 c))
    (hf : Calls Tryd.prog 15 #[v] w fun e w' => e = .returned (.pointer (some ⟨b, 0, none⟩)) ∧ Keeps Nothing w w') : Calls Tryd.prog 9 #[v] w fun e w' => e = .returned (.int .i64 c) ∧ Keeps Nothing w w' := by
  subst hv
  go_enter Tryd.func9, Tryd.ntmps9
  go_wp2_with fail
  refine hf.mono ?_
  rintro e w1 ⟨rfl, k1⟩
  have c1 := k1.cell h0 (fun h => h)
  go_wp2_with fail
  go_ret
  exact ⟨rfl, k1⟩
theorem in_of {v : Value} {T : TypeId} {y : Value} (hv : v = .iface T y) {c : Int} {w : World} (at' : Int) (hq : Calls Tryd.prog 9 #[v] w fun e w' => e = .returned (.int .i64 c) ∧ Keeps Nothing w w') :
    Calls Tryd.prog 8 #[v, .int .i64 at'] w fun e w' => ∃ b, e = .returned (fltV b) ∧ w'.cell? ⟨b, 0, none⟩ = some (.int .i64 c) ∧ w'.cell? ⟨b, 1, none⟩ = some (.int .i64 at') ∧ w'.cell? ⟨b, 2, none⟩ = some v ∧ Keeps Nothing w w' := by
  subst hv
  go_enter Tryd.func8, Tryd.ntmps8
  go_wp2_with fail
  refine hq.mono ?_
  rintro e w1 ⟨rfl, k1⟩
  go_wp2_with fail
  go_ret
  exact ⟨_, rfl, by simp, by simp, by simp, k1.alloc _⟩

/-- An error whose unwrapping ends in a number, or in nothing. -/
def UCh (w : World) (r : Option Int) : Nat → Value → Prop
  | 0, v => ∃ c, v = numV c ∧ r = some c
  | k + 1, v => (∃ b u, v = fltV b ∧ w.cell? ⟨b, 2, none⟩ = some u ∧ ((u = .nilIface ∧ r = none) ∨ UCh w r k u)) ∨ (∃ u, v = oddV u ∧ ((u = .nilIface ∧ r = none) ∨ UCh w r k u))
theorem UCh.keeps {w w' : World} (k : Keeps Nothing w w') {r : Option Int} : ∀ {n : Nat} {v : Value}, UCh w r n v → UCh w' r n v
  | 0, _, h => h
  | _ + 1, _, .inl ⟨b, u, hv, h2, h⟩ => .inl ⟨b, u, hv, k.cell h2 (fun h => h), h.imp id (UCh.keeps k)⟩
  | _ + 1, _, .inr ⟨u, hv, h⟩ => .inr ⟨u, hv, h.imp id (UCh.keeps k)⟩
theorem UCh.shape {w : World} {r : Option Int} : ∀ {n : Nat} {v : Value}, UCh w r n v → ∃ T y, v = .iface T y
  | 0, _, ⟨_, h, _⟩ => ⟨_, _, h⟩
  | _ + 1, _, .inl ⟨_, _, hv, _⟩ => ⟨_, _, hv⟩
  | _ + 1, _, .inr ⟨_, hv, _⟩ => ⟨_, _, hv⟩
theorem uch_of {w : World} {c : Int} : ∀ {ps : List Int} {v : Value}, FChain w c ps v → UCh w (some c) ps.length v
  | [], _, h => ⟨c, h, rfl⟩
  | _ :: _, _, ⟨b, hv, _, _, u, h2, hr⟩ => .inl ⟨b, u, hv, h2, .inr (uch_of hr)⟩

set_option maxRecDepth 100000 in
set_option maxHeartbeats 1000000 in
theorem is_u {w : World} {r : Option Int} (x : Int) {n : Nat} {v : Value} (h : UCh w r n v) :
    Calls Tryd.prog 24 #[v, .iface 27 (.int .i64 x), .bool true] w fun e w' => e = .returned (.bool (r == some x)) ∧ Keeps Nothing w w' := by
  have f1 := eqFE
  have f2 := eqEE
  have f3 := eqOE
  have n1 := noIsF
  have n2 := noIsE
  have n3 := hasUwF
  have n4 := noUwE
  have n5 := noUwsE
  have n6 := noIsO
  have n7 := hasUwO
  have mU := methodUwF
  have mO := methodUwO
  go_enter Tryd.func24, Tryd.ntmps24
  go_wp2
  go_loopg [0] n (fun g s0 wx => UCh w r g s0 ∧ Keeps Nothing w wx)
  case atStart => exact ⟨h, Keeps.refl _ _⟩
  case round =>
    obtain ⟨hr, K⟩ := hrel
    cases gk with
    | zero =>
      obtain ⟨c, rfl, rfl⟩ := hr
      by_cases hcx : c = x
      · subst hcx
        have e1 : (some c == some c) = true := by simp
        go_wp2
        go_ret
        exact ⟨by rw [e1]; rfl, K⟩
      · have e1 : (some c == some x) = false := by simpa using hcx
        have e2 : (c == x) = false := by simpa using hcx
        go_wp2
        go_ret
        exact ⟨by rw [e1]; rfl, K⟩
    | succ k =>
      have e0 : ((none : Option Int) == some x) = false := rfl
      rcases hr with ⟨b, u, rfl, h2, hu⟩ | ⟨u, rfl, hu⟩
      · have c2 := K.cell h2 (fun h => h)
        rcases hu with ⟨rfl, rfl⟩ | hu
        · go_wp2
          go_ret
          exact ⟨by rw [e0]; rfl, K⟩
        · obtain ⟨T, y, rfl⟩ := hu.shape
          go_wp2
          go_roundg k
          case measure => omega
          case rel => exact ⟨hu, K⟩
      · rcases hu with ⟨rfl, rfl⟩ | hu
        · go_wp2
          go_ret
          exact ⟨by rw [e0]; rfl, K.alloc _⟩
        · obtain ⟨T, y, rfl⟩ := hu.shape
          go_wp2
          go_roundg k
          case measure => omega
          case rel => exact ⟨hu, K.alloc _⟩

set_option maxRecDepth 100000 in
set_option maxHeartbeats 1000000 in
theorem Is_u {w : World} {r : Option Int} (x : Int) {n : Nat} {v : Value} (h : UCh w r n v) :
    Calls Tryd.prog 18 #[v, .iface 27 (.int .i64 x)] w fun e w' => e = .returned (.bool (r == some x)) ∧ Keeps Nothing w w' := by
  have x10 := @run_callFunc_extern Tryd.prog 23 _ ReflectliteType.typeOf Tryd.func23 (by kernel_rfl) (by kernel_rfl) (by kernel_rfl) (by kernel_rfl)
  have x40 := @run_callFunc_extern Tryd.prog 54 _ (ReflectliteType.method fun t => do Rtype.noPackHeld "Comparable" t; pure (.bool (← typeInfo t).comparable)) Tryd.func54 (by kernel_rfl) (by kernel_rfl) (by kernel_rfl) (by kernel_rfl)
  have tO := typeOfEE
  have cE := comparableN
  have mC := methodComparable
  have hq := is_u x h
  obtain ⟨T, y, rfl⟩ := h.shape
  clear h
  go_enter Tryd.func18, Tryd.ntmps18
  go_wp2_with (first | (go_at_call 24; refine hq.mono ?_; rintro e w' ⟨rfl, k1⟩) | go_in)
  go_ret
  exact ⟨rfl, k1⟩
theorem fis_u {w : World} {r : Option Int} (x : Int) {n : Nat} {v : Value} (h : UCh w r n v) :
    Calls Tryd.prog 14 #[v, .int .i64 x] w fun e w' => e = .returned (.bool (r == some x)) ∧ Keeps Nothing w w' := by
  have hq := Is_u x h
  obtain ⟨T, y, rfl⟩ := h.shape
  clear h
  go_enter Tryd.func14, Tryd.ntmps14
  go_wp2_with fail
  refine hq.mono ?_
  rintro e w' ⟨rfl, k1⟩
  go_wp2_with fail
  go_ret
  exact ⟨rfl, k1⟩

/-- fault.next of a fault that wraps no fault. -/
theorem next_not {w : World} (b : Nat) {u : Value} (h2 : w.cell? ⟨b, 2, none⟩ = some u) (hu : ∀ (xT : TypeId) (w : World), (Instr.typeAssert u xT 34 true).run Tryd.prog w = .ok (.tuple #[.pointer none, .bool false]) w) :
    Calls Tryd.prog 17 #[.pointer (some ⟨b, 0, none⟩)] w fun e w' => e = .returned (.pointer none) ∧ w' = w := by
  go_enter Tryd.func17, Tryd.ntmps17
  go_wp2_with fail
  go_ret
  exact ⟨rfl, rfl⟩
set_option maxRecDepth 100000 in
theorem path_single {w : World} (hg : ErrVar w) (b : Nat) {p : Int} {u : Value} (h1 : w.cell? ⟨b, 1, none⟩ = some (.int .i64 p)) (h2 : w.cell? ⟨b, 2, none⟩ = some u)
    (hu : ∀ (xT : TypeId) (w : World), (Instr.typeAssert u xT 34 true).run Tryd.prog w = .ok (.tuple #[.pointer none, .bool false]) w) :
    Calls Tryd.prog 12 #[.iface 34 (.pointer (some ⟨b, 0, none⟩))] w fun e w' => ∃ ao cap, e = .returned (.slice ao 1 cap) ∧ OwnI w' ao cap [p] ∧ Keeps Nothing w w' := by
  go_enter Tryd.func12, Tryd.ntmps12
  go_wp2_with fail
  refine (first_fault b w hg).mono ?_
  rintro e w1 ⟨rfl, k1⟩
  have c1 := k1.cell h1 (fun h => h)
  have c2 := k1.cell h2 (fun h => h)
  go_wp2_with fail
  refine wp_loop_rounds 2 ?_
  rw [rounds_succ]
  have ka := (Keeps.refl Nothing w1).alloc (.cells #[.int .i64 p] 3)
  have B := blk_new w1 #[.int .i64 p] 3
  go_wp2_with (at_builtin; refine wpList_appI _ rfl (.tmp 11) (.tmp 16) rfl none 0 [] 0 rfl rfl (ownI_nil _) w1.heap.size p rfl B (by omega) ?_)
  intro ao cap w2 o2 k2 m2
  have K2 : Keeps Nothing w1 w2 := ka.trans k2 (fun _ h _ => by cases h)
  have hn := next_not b (K2.cell c2 (fun h => h)) hu
  go_wp2_with fail
  refine hn.mono ?_
  rintro e w3 ⟨rfl, rfl⟩
  go_wp2_with fail
  rw [rounds_succ]
  go_wp2_with fail
  go_ret
  exact ⟨_, _, rfl, o2, k1.trans K2 (fun _ h _ => h)⟩

end Go.Proofs.YtnpndnnoelnodaaDoor
