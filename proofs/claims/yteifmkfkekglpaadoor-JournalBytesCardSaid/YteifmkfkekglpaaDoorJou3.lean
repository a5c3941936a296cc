/- journal: entry. -/
import Derived.Test.YteifmkfkekglpaaDoorJou2
import Derived.Laws.ResultCell
namespace Go.Proofs.YteifmkfkekglpaaDoor
open Go.RowKit

/-- The entry that stands in a body. -/
def parseE (b : List UInt8) : Option EntT :=
  if (decI b).1 = 0 ∧ (decI (b.drop (decI b).2.2)).1 = 0 ∧ (decText 4194304 (b.drop ((decI b).2.2 + (decI (b.drop (decI b).2.2)).2.2))).1 = 0 then
    some ⟨(decI b).2.1, (decI (b.drop (decI b).2.2)).2.1, (decText 4194304 (b.drop ((decI b).2.2 + (decI (b.drop (decI b).2.2)).2.2))).2.1⟩
  else none
theorem parseE_fit {b : List UInt8} {x : EntT} (h : parseE b = some x) : x.Fit ∧ x.data.length ≤ b.length := by
  unfold parseE at h
  split at h
  · obtain rfl := Option.some.inj h
    have b1 := decI_bd b
    have b2 := decI_bd (b.drop (decI b).2.2)
    have b3 := decText_bd 4194304 (b.drop ((decI b).2.2 + (decI (b.drop (decI b).2.2)).2.2))
    rw [List.length_drop] at b3
    exact ⟨⟨b1.1, b1.2, b2.1, b2.2⟩, by show (decText 4194304 _).2.1.length ≤ _; omega⟩
  · cases h
theorem infoEnt : (Tryd.prog.info? 23).map (·.size) = some 3 := by kernel_rfl
theorem loadVar_ent (w : World) (g : Nat) (cs : Array Value) (t : TypeId) (hb : Blk w g cs t) (hs : cs.size = 3) : (loadVar 23 ⟨g, 0, none⟩).run Tryd.prog w = .ok (.agg cs) w :=
  run_loadVar_row w g t _ cs (0, 0) _ hb Tryd.underlying23 rfl (by rw [infoEnt, hs])
theorem exec_store_ent (ρ : Operand → Value) (dst : Option Tmp) (x y : Operand) (ty' : TypeId) (pos : String) (af : Array Edge) (gd : Option (Nat × Bool)) (w : World) (h : rowOkV w 3 (ρ x) = true) (hy : aggOk 3 (ρ y) = true) :
    (execOp ρ ⟨dst, .store 23 x y, ty', pos, af, gd⟩).run Tryd.prog w = .ok .skip (rowSetV w (ρ x) (aggOf (ρ y))) :=
  exec_store _ 3 infoEnt ρ dst x y ty' pos af gd w h hy
theorem exec_mid_ent (ρ : Operand → Value) (dst : Option Tmp) (x : Operand) (ty' : TypeId) (pos : String) (af : Array Edge) (gd : Option (Nat × Bool)) (w : World) (h : midOkV w 3 (ρ x) = true) :
    (execOp ρ ⟨dst, .load 23 x, ty', pos, af, gd⟩).run Tryd.prog w = .ok (.value (.agg (midOfV w 3 (ρ x)))) w :=
  exec_load_mid _ 3 _ Tryd.underlying23 rfl infoEnt ρ dst x ty' pos af gd w h
theorem aggOk_ent (a b : Int) (s : ByteArray) : aggOk 3 (.agg #[.int .i64 a, .int .i64 b, .string s]) = true := by simp [aggOk, Value.oneCell']
def zeroEnt : EntT := ⟨0, 0, []⟩
def EntryPost (w : World) (b : List UInt8) (e : Ending) (w' : World) : Prop :=
  (∀ x, parseE b = some x → e = .returned (.tuple #[.agg x.cells.toArray, .bool true]) ∧ Keeps Nothing w w') ∧ (parseE b = none → e = .returned (.tuple #[.agg zeroEnt.cells.toArray, .bool false]) ∧ Keeps Nothing w w')

attribute [local go_sem ↓] exec_store_ent
attribute [local go_sem] rowOk_new World.setRow_alloc_new aggOk_ent

set_option maxRecDepth 100000 in
set_option maxHeartbeats 2000000 in
theorem entry_any {w : World} {ao : Option Addr} {c n : Nat} {b : List UInt8} (hn : b.length = n) (hB : BytesAt w ao b) (hl : n ≤ 1000000) : Calls Tryd.prog 37 #[.slice ao n c] w (EntryPost w b) := by
  have hP : parseE b = if (decI b).1 = 0 ∧ (decI (b.drop (decI b).2.2)).1 = 0 ∧ (decText 4194304 (b.drop ((decI b).2.2 + (decI (b.drop (decI b).2.2)).2.2))).1 = 0 then
    some ⟨(decI b).2.1, (decI (b.drop (decI b).2.2)).2.1, (decText 4194304 (b.drop ((decI b).2.2 + (decI (b.drop (decI b).2.2)).2.2))).2.1⟩ else none := rfl
  have B0 := blk_new w #[.int .i64 0, .int .i64 0, .string ⟨#[]⟩] 23
  have K0 := (Keeps.refl Nothing w).alloc (.cells #[.int .i64 0, .int .i64 0, .string ⟨#[]⟩] 23)
  have hrd := newReader_any c (hB.keeps K0 (fun _ _ h => h)) (by omega)
  rw [hn] at hrd
  have HN := shut hn
  clear hn
  go_enter Tryd.func37, Tryd.ntmps37
  go_wp2_with fail
  refine hrd.mono ?_
  rintro e w1 ⟨q, ar, cr, rfl, hR, k1, hqn, hfr⟩
  have B1 := k1.blk B0 (fun h => h)
  have K1 := K0.trans k1 (fun _ h _ => h)
  have hlb : b.length ≤ 1000000 := by rw [HN.out]; exact hl
  have hwq : w.heap.size < q := by have := hqn; have h2 : (w.alloc (.cells #[.int .i64 0, .int .i64 0, .string ⟨#[]⟩] 23)).heap.size = w.heap.size + 1 := World.size_alloc ..; omega
  clear hrd k1 B0 K0 hB hqn hfr
  have h1 := rInt_any hR hlb
  simp only [Nat.zero_add, List.drop_zero] at h1
  obtain ⟨⟨c1, z1, n1⟩, hd1⟩ : ∃ d, decI b = d := ⟨_, rfl⟩
  rw [hd1] at h1 hP
  simp only at h1 hP
  go_wp2_with fail
  refine h1.mono ?_
  rintro e w2 ⟨e1, rfl, hE1, hR2, k2⟩
  have h2 := rInt_any hR2 hlb
  obtain ⟨⟨c2, z2, n2⟩, hd2⟩ : ∃ d, decI (b.drop n1) = d := ⟨_, rfl⟩
  rw [hd2] at h2 hP
  simp only at h2 hP
  clear h1 hR
  go_wp2_with fail
  refine h2.mono ?_
  rintro e w3 ⟨e2, rfl, hE2, hR3, k3⟩
  have h3 := rText_any hR3 hlb 4194304 (by decide)
  obtain ⟨⟨c3, z3, n3⟩, hd3⟩ : ∃ d, decText 4194304 (b.drop (n1 + n2)) = d := ⟨_, rfl⟩
  rw [hd3] at h3 hP
  simp only at h3 hP
  clear h2 hR2
  go_wp2_with fail
  refine h3.mono ?_
  rintro e w4 ⟨e3, rfl, hE3, hR4, k4⟩
  have B4 := k4.blk (k3.blk (k2.blk B1 (fun h => by omega)) (fun h => by omega)) (fun h => by omega)
  have K4 : Keeps Nothing w w4 := ((K1.trans k2 (fun i hi hlt => by omega)).trans k3 (fun i hi hlt => by omega)).trans k4 (fun i hi hlt => by omega)
  have HP := shut hP
  clear h3 hR3 hR4 hP B1 K1 k2 k3 k4 hd1 hd2 hd3
  have rE := rowOk_blk (n := 3) B4 rfl
  rcases hE1 with ⟨rfl, h1, _⟩ | ⟨b1, _, h1, rfl, _⟩
  rotate_left
  · clear hE2 hE3
    have hno : Shut (parseE b = none) := shut (by rw [HP.out, if_neg (by omega)])
    clear HP
    go_wp2_with fail
    have b3 := blk_setRow (cs := #[.int .i64 0, .int .i64 0, .string ⟨#[]⟩]) B4
    refine bodyPost_ret (v := .tuple #[.agg #[.int .i64 0, .int .i64 0, .string ⟨#[]⟩], .bool false]) (results_row_tmp rfl _ _ w.heap.size #[.int .i64 0, .int .i64 0, .string ⟨#[]⟩] _ rfl rfl (loadVar_ent _ _ _ _ b3 rfl)) rfl ?_
    exact ⟨fun x hx => (by rw [hno.out] at hx; cases hx), fun _ => ⟨rfl, K4.trans ((Keeps.refl (fun i => i = w.heap.size) w4).setRow (fun _ => rfl) _) (fun i hi hlt => by omega)⟩⟩
  · rcases hE2 with ⟨rfl, h2, _⟩ | ⟨b2, _, h2, rfl, _⟩
    rotate_left
    · clear hE3
      have hno : Shut (parseE b = none) := shut (by rw [HP.out, if_neg (by omega)])
      clear HP
      go_wp2_with fail
      have b3 := blk_setRow (cs := #[.int .i64 0, .int .i64 0, .string ⟨#[]⟩]) B4
      refine bodyPost_ret (v := .tuple #[.agg #[.int .i64 0, .int .i64 0, .string ⟨#[]⟩], .bool false]) (results_row_tmp rfl _ _ w.heap.size #[.int .i64 0, .int .i64 0, .string ⟨#[]⟩] _ rfl rfl (loadVar_ent _ _ _ _ b3 rfl)) rfl ?_
      exact ⟨fun x hx => (by rw [hno.out] at hx; cases hx), fun _ => ⟨rfl, K4.trans ((Keeps.refl (fun i => i = w.heap.size) w4).setRow (fun _ => rfl) _) (fun i hi hlt => by omega)⟩⟩
    · rcases hE3 with ⟨rfl, h3, _⟩ | ⟨b3, _, h3, rfl, _⟩
      rotate_left
      · skip
        have hno : Shut (parseE b = none) := shut (by rw [HP.out, if_neg (by omega)])
        clear HP
        go_wp2_with fail
        have b3 := blk_setRow (cs := #[.int .i64 0, .int .i64 0, .string ⟨#[]⟩]) B4
        refine bodyPost_ret (v := .tuple #[.agg #[.int .i64 0, .int .i64 0, .string ⟨#[]⟩], .bool false]) (results_row_tmp rfl _ _ w.heap.size #[.int .i64 0, .int .i64 0, .string ⟨#[]⟩] _ rfl rfl (loadVar_ent _ _ _ _ b3 rfl)) rfl ?_
        exact ⟨fun x hx => (by rw [hno.out] at hx; cases hx), fun _ => ⟨rfl, K4.trans ((Keeps.refl (fun i => i = w.heap.size) w4).setRow (fun _ => rfl) _) (fun i hi hlt => by omega)⟩⟩
      · have hyes : Shut (parseE b = some ⟨z1, z2, z3⟩) := shut (by rw [HP.out, if_pos (by omega)])
        clear HP h1 h2 h3
        go_wp2_with fail
        have b3 := blk_setRow (cs := #[.int .i64 z1, .int .i64 z2, .string ⟨z3.toArray⟩]) B4
        refine bodyPost_ret (v := .tuple #[.agg #[.int .i64 z1, .int .i64 z2, .string ⟨z3.toArray⟩], .bool true]) (results_row_tmp rfl _ _ w.heap.size #[.int .i64 z1, .int .i64 z2, .string ⟨z3.toArray⟩] _ rfl rfl (loadVar_ent _ _ _ _ b3 rfl)) rfl ?_
        refine ⟨fun x hx => ?_, fun h => (by rw [hyes.out] at h; cases h)⟩
        rw [hyes.out] at hx
        obtain rfl := Option.some.inj hx
        exact ⟨rfl, K4.trans ((Keeps.refl (fun i => i = w.heap.size) w4).setRow (fun _ => rfl) _) (fun i hi hlt => by omega)⟩

end Go.Proofs.YteifmkfkekglpaaDoor
