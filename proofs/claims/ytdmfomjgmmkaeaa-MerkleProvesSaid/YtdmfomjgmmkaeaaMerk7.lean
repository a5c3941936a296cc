/- merkle.Prove. -/
import Derived.Test.YtdmfomjgmmkaeaaMerk6
import Derived.Laws.ResultCell
import Derived.Laws.EntriesVeiled
import Derived.Laws.ByValue
namespace Go.Proofs.Ytdmfomjgmmkaeaa
open Go.RowKit

theorem infoProof : (Try.prog.info? 46).map (·.size) = some 3 := by kernel_rfl
theorem exec_store_proof (ρ : Operand → Value) (dst : Option Tmp) (x y : Operand) (ty' : TypeId) (pos : String) (af : Array Edge) (gd : Option (Nat × Bool)) (w : World) (h : rowOkV w 3 (ρ x) = true) (hy : aggOk 3 (ρ y) = true) :
    (execOp ρ ⟨dst, .store 46 x y, ty', pos, af, gd⟩).run Try.prog w = .ok .skip (rowSetV w (ρ x) (aggOf (ρ y))) :=
  exec_store _ 3 infoProof ρ dst x y ty' pos af gd w h hy
theorem aggOk_proof (a b : Int) (ao : Option Addr) (n c : Nat) : aggOk 3 (.agg #[.int .i64 a, .int .i64 b, .slice ao n c]) = true := by simp [aggOk, Value.oneCell']
theorem loadVar_proof (w : World) (g : Nat) (cs : Array Value) (t : TypeId) (hb : Blk w g cs t) (hs : cs.size = 3) : (loadVar 46 ⟨g, 0, none⟩).run Try.prog w = .ok (.agg cs) w :=
  run_loadVar_row w g t _ cs (0, 0) _ hb Try.underlying46 rfl (by rw [infoProof, hs])
def proofV (ix ct : Int) (ao : Option Addr) (n c : Nat) : Value := .agg #[.int .i64 ix, .int .i64 ct, .slice ao n c]

theorem new_post (w : World) (c p : Int) (hc : (c == 0) = false) : Calls Try.prog 40 #[.int .i64 c, .int .i64 p] w (ErrPost w c p) := by
  refine (new_err c p w hc).mono ?_
  rintro e w' ⟨rfl, rfl⟩
  exact ⟨_, rfl, isErr_new w c p hc, (Keeps.refl _ _).alloc _⟩
/-- What Prove returns. -/
def ProvePost (w : World) (rows : List (List UInt8)) (i : Int) (e : Ending) (w' : World) : Prop :=
  (0 ≤ i ∧ i < rows.length → ∃ ao cap, e = .returned (.tuple #[proofV i rows.length ao (pathL rows i.toNat).length cap, .nilIface]) ∧ OwnH w' ao cap (pathL rows i.toNat) ∧ Keeps Nothing w w' ∧ (∀ g, blockOf ao = some g → w.heap.size ≤ g)) ∧
  (¬ (0 ≤ i ∧ i < rows.length) → ∃ ev, e = .returned (.tuple #[proofV 0 0 none 0 0, ev]) ∧ IsErr w.heap.size w' ev 2 0 ∧ Keeps Nothing w w')

attribute [local go_sem ↓] exec_store_proof
attribute [local go_sem] rowOk_new World.setRow_alloc_new aggOk_proof

set_option maxRecDepth 100000 in
set_option maxHeartbeats 2000000 in
theorem prove_any {w : World} {ao : Option Addr} {n c : Nat} {rows : List (List UInt8)} (hn : rows.length = n) (hn9 : n ≤ 1000000) (hc : n ≤ c) (hcm : c ≤ maxLen) (hR : RowsAt w ao rows) (hb : ∀ r ∈ rows, r.length ≤ 1000) (i : Int) :
    Calls Try.prog 27 #[.slice ao n c, .int .i64 i] w (ProvePost w rows i) := by
  by_cases hin : 0 ≤ i ∧ i < n
  · obtain ⟨b, o, rfl⟩ := hR.head (by omega)
    obtain ⟨i, rfl⟩ := Int.eq_ofNat_of_zero_le hin.1
    have m1 : ¬ (i : Int) < 0 := by omega
    have m2 : (i : Int) < n := by omega
    have hin' : 0 ≤ (i : Int) ∧ (i : Int) < rows.length := by rw [hn]; exact hin
    have hR0 := hR.keepsN ((Keeps.refl Nothing w).alloc (.cells #[.int .i64 0, .int .i64 0, .slice none 0 0] 46))
    have hdown := fun (w1 : World) (gd gp : Nat) (S : PvS (w.alloc (.cells #[.int .i64 0, .int .i64 0, .slice none 0 0] 46)) w1 gd gp i n none 0 []) => down_rec n (w.alloc (.cells #[.int .i64 0, .int .i64 0, .slice none 0 0] 46)) w1 gd gp i n none 0 [] b o n c i rows (Nat.le_refl _) hn (by omega) hn9 hc hcm (by omega) (by simp; omega) hR0 hb S
    have hfin : ∀ (W : World) (ao' : Option Addr) (cap' : Nat), OwnH W ao' cap' (pathL rows i) → Keeps Nothing w W → (∀ g, blockOf ao' = some g → w.heap.size ≤ g) → ProvePost w rows i (.returned (.tuple #[proofV i n ao' (pathL rows i).length cap', .nilIface])) W := fun W ao' cap' h1 h2 h3 =>
      ⟨fun _ => ⟨ao', cap', by rw [hn, Int.toNat_natCast], by rw [Int.toNat_natCast]; exact h1, h2, h3⟩, fun h => absurd hin' h⟩
    have HFIN := shut hfin
    clear hfin hin hin' hR hR0 hb hn
    have b7 : Blk (((w.alloc (.cells #[.int .i64 0, .int .i64 0, .slice none 0 0] 46)).alloc (.cells #[.int .i64 (i : Int), .int .i64 (n : Int), .slice none 0 0] 46)).alloc (.cells #[.func (.func 47) #[] #[.pointer (some ⟨w.heap.size + 1 + 1, 0, none⟩), .pointer (some ⟨w.heap.size + 1, 0, none⟩)]] 77)) (w.heap.size + 1 + 1) #[downV (w.heap.size + 1 + 1) (w.heap.size + 1)] 77 := by
      have h9 := blk_new ((w.alloc (.cells #[.int .i64 0, .int .i64 0, .slice none 0 0] 46)).alloc (.cells #[.int .i64 (i : Int), .int .i64 (n : Int), .slice none 0 0] 46)) #[.func (.func 47) #[] #[.pointer (some ⟨w.heap.size + 1 + 1, 0, none⟩), .pointer (some ⟨w.heap.size + 1, 0, none⟩)]] 77
      simp only [World.size_alloc] at h9
      exact h9
    have b6 : Blk (((w.alloc (.cells #[.int .i64 0, .int .i64 0, .slice none 0 0] 46)).alloc (.cells #[.int .i64 (i : Int), .int .i64 (n : Int), .slice none 0 0] 46)).alloc (.cells #[.func (.func 47) #[] #[.pointer (some ⟨w.heap.size + 1 + 1, 0, none⟩), .pointer (some ⟨w.heap.size + 1, 0, none⟩)]] 77)) (w.heap.size + 1) #[.int .i64 (i : Int), .int .i64 (n : Int), .slice none ([] : List (List UInt8)).length 0] 46 := by
      have h9 := blk_new (w.alloc (.cells #[.int .i64 0, .int .i64 0, .slice none 0 0] 46)) #[.int .i64 (i : Int), .int .i64 (n : Int), .slice none 0 0] 46
      rw [World.size_alloc] at h9
      exact blk_alloc h9 _
    have b4 : Blk (w.alloc (.cells #[.int .i64 0, .int .i64 0, .slice none 0 0] 46)) w.heap.size #[.int .i64 0, .int .i64 0, .slice none 0 0] 46 := blk_new w _ _
    have K0 : Keeps Nothing (w.alloc (.cells #[.int .i64 0, .int .i64 0, .slice none 0 0] 46)) (((w.alloc (.cells #[.int .i64 0, .int .i64 0, .slice none 0 0] 46)).alloc (.cells #[.int .i64 (i : Int), .int .i64 (n : Int), .slice none 0 0] 46)).alloc (.cells #[.func (.func 47) #[] #[.pointer (some ⟨w.heap.size + 1 + 1, 0, none⟩), .pointer (some ⟨w.heap.size + 1, 0, none⟩)]] 77)) := ((Keeps.refl _ _).alloc _).alloc _
    have KZ : Keeps Nothing w (w.alloc (.cells #[.int .i64 0, .int .i64 0, .slice none 0 0] 46)) := (Keeps.refl _ _).alloc _
    have S0 : PvS (w.alloc (.cells #[.int .i64 0, .int .i64 0, .slice none 0 0] 46)) (((w.alloc (.cells #[.int .i64 0, .int .i64 0, .slice none 0 0] 46)).alloc (.cells #[.int .i64 (i : Int), .int .i64 (n : Int), .slice none 0 0] 46)).alloc (.cells #[.func (.func 47) #[] #[.pointer (some ⟨w.heap.size + 1 + 1, 0, none⟩), .pointer (some ⟨w.heap.size + 1, 0, none⟩)]] 77)) (w.heap.size + 1 + 1) (w.heap.size + 1) (i : Int) (n : Int) none 0 [] := ⟨K0, b7, b6, ownH_nil _, by simp only [World.size_alloc]; omega, by simp only [World.size_alloc]; omega, fun g hg => by simp [blockOf] at hg⟩
    have hdn := hdown _ _ _ S0
    clear b7 b6 K0 S0 hdown
    go_enter Try.func27, Try.ntmps27
    go_wp2_with fail
    refine hdn.mono ?_
    rintro e w1 ⟨rfl, ao1, cap1, S1⟩
    rw [List.nil_append] at S1
    have B4 := S1.keep.blk b4 (fun h => h)
    have KW := KZ.trans S1.keep (fun _ h _ => h)
    obtain ⟨q0, q1, q2⟩ : (w1.cell? ⟨w.heap.size + 1, 0, none⟩ = some (.int .i64 (i : Int))) ∧ (w1.cell? ⟨w.heap.size + 1, 1, none⟩ = some (.int .i64 (n : Int))) ∧ (w1.cell? ⟨w.heap.size + 1, 2, none⟩ = some (.slice ao1 (pathL rows i).length cap1)) := ⟨blk_cell S1.blk 0 rfl, blk_cell S1.blk 1 rfl, blk_cell S1.blk 2 rfl⟩
    have r4 := rowOk_blk B4 (show (#[.int .i64 0, .int .i64 0, .slice none 0 0] : Array Value).size = 3 from rfl)
    have OW := S1.own
    have HA := shut (show ∀ g, blockOf ao1 = some g → w.heap.size ≤ g from fun g hg => by have := S1.a0 g hg; simp only [World.size_alloc] at this; omega)
    clear S1 b4 KZ hdn
    generalize hPL : pathL rows i = PL at *
    go_wp2_with fail
    have b5 := blk_setRow (cs := #[.int .i64 (i : Int), .int .i64 (n : Int), .slice ao1 PL.length cap1]) B4
    refine bodyPost_ret (v := .tuple #[proofV i n ao1 PL.length cap1, .nilIface]) (results_row_tmp rfl _ _ w.heap.size _ _ rfl rfl (loadVar_proof _ _ _ _ b5 rfl)) rfl ?_
    exact HFIN.out _ ao1 cap1 (((Keeps.refl (fun k => k = w.heap.size) w1).setRow (fun _ => rfl) _).own OW (fun g hg e => ownH_ne OW B4 (by decide) (by rw [ownBlock_eq] at hg; rw [hg, e]))) (KW.setRow (fun h => absurd h (Nat.lt_irrefl _)) _) HA.out
  · have hin' : ¬ (0 ≤ i ∧ i < (rows.length : Int)) := by rw [hn]; exact hin
    have hfin : ∀ (W W1 : World) (ev : Value), IsErr W1.heap.size W ev 2 0 → w.heap.size ≤ W1.heap.size → Keeps Nothing w W → ProvePost w rows i (.returned (.tuple #[proofV 0 0 none 0 0, ev])) W := fun W W1 ev h1 h2 h3 =>
      ⟨fun h => absurd h hin', fun _ => ⟨ev, rfl, h1.mono h2, h3⟩⟩
    have HFIN := shut hfin
    have hcase : i < 0 ∨ (¬ i < 0 ∧ ¬ i < n) := by omega
    clear hfin hin hin' hR hb hn
    have B4 := blk_new w #[.int .i64 0, .int .i64 0, .slice none 0 0] 46
    have K4 := (Keeps.refl Nothing w).alloc (.cells #[.int .i64 0, .int .i64 0, .slice none 0 0] 46)
    rcases hcase with m1 | ⟨m1, m2⟩
    all_goals
      go_enter Try.func27, Try.ntmps27
      go_wp2_with fail
      refine (new_post _ 2 0 rfl).mono ?_
      rintro e w1 ⟨ev, rfl, hev, k1⟩
      have B5 := k1.blk B4 (fun h => h)
      have K5 := K4.trans k1 (fun _ h _ => h)
      have r4 := rowOk_blk B5 (show (#[.int .i64 0, .int .i64 0, .slice none 0 0] : Array Value).size = 3 from rfl)
      have hev2 := hev.keeps ((Keeps.refl (fun k => k = w.heap.size) w1).setRow (fun _ => rfl) #[.int .i64 0, .int .i64 0, .slice none 0 0]) (fun i hi => by simp only [World.size_alloc]; omega)
      clear hev
      go_wp2_with fail
      have b5 := blk_setRow (cs := #[.int .i64 0, .int .i64 0, .slice none 0 0]) B5
      refine bodyPost_ret (v := .tuple #[proofV 0 0 none 0 0, ev]) (results_row_tmp rfl _ _ w.heap.size _ _ rfl rfl (loadVar_proof _ _ _ _ b5 rfl)) rfl ?_
      exact HFIN.out _ _ ev hev2 (by simp only [World.size_alloc]; omega) (K5.setRow (fun h => absurd h (Nat.lt_irrefl _)) _)

end Go.Proofs.Ytdmfomjgmmkaeaa
