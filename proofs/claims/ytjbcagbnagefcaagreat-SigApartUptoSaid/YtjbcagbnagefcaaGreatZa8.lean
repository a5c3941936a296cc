/- Sig13 Sig14 Sig6 -/
import Derived.Test.YtjbcagbnagefcaaGreatZa7
import Derived.Test.YtjbcagbnagefcaaGreatZa5
namespace Go.Proofs.YtjbcagbnagefcaaGreat
open Go.RowKit
attribute [local go_sem ↓] exec_mid_ty exec_store_ty exec_mid_pl exec_store_pl exec_mid_opr exec_store_opr exec_mid_val exec_store_val exec_mid_st exec_store_st exec_mid_fld exec_store_fld exec_mid_str exec_store_str exec_mid_lif exec_store_lif exec_mid_fun exec_store_fun exec_mid_cr exec_store_cr
attribute [local go_sem] rowOk_new World.setRow_alloc_new

theorem gt_set {w : World} {g p : Nat} {ao : Option Addr} {cap : Nat} {bs : List UInt8} {st st' : Option Nat} (h : Gt w g p ao cap bs st) (b : Bool) (hb : b = st'.isNone) (hs : ∀ j, st' = some j → st = some j) : Gt (w.setCell ⟨g, 1, none⟩ (.bool b)) g p ao cap bs st' ∧ Keeps (GF g p) w (w.setCell ⟨g, 1, none⟩ (.bool b)) ∧ w.cell? ⟨g, 1, none⟩ = some (.bool st.isNone) ∧ w.frozen? ⟨g, 1, none⟩ = false := by
  obtain ⟨h1, k, h2, h3⟩ := h
  have hne : g ≠ p := fun q => by
    subst q
    exact absurd (blk_ty h1 h2.blk) (by decide)
  subst hb
  exact ⟨⟨blk_set h1 1 _, k, ⟨blk_other h2.blk ⟨g, 1, none⟩ (fun q => hne q.symm) _, ownsRow_setCell_other h2.own (own_ne h2.own h1 (by decide)) _, h2.le⟩, fun j hj => h3 j (hs j hj)⟩, (Keeps.refl (GF g p) w).setCell (p := ⟨g, 1, none⟩) (fun _ => .inl rfl) _, blk_cell h1 1 rfl, blk_free h1 1⟩
theorem not_gT {t : TypeId} (h1 : t ≠ 82) (h2 : t ≠ 125) (h3 : t ≠ 5) : ¬ gT t := fun q => by
  rcases q with q | q | q
  · exact h1 q
  · exact h2 q
  · exact h3 q
/-- A store into a box. -/
theorem Gt.box {w w' : World} {g p : Nat} {ao : Option Addr} {cap : Nat} {bs : List UInt8} {st : Option Nat} (h : Gt w g p ao cap bs st) {q : Nat} {C : Array Value} {T : TypeId} (hb : Blk w q C T) (hT : ¬ gT T) (K : Keeps (fun i => i = q) w w') : Gt w' g p ao cap bs st := h.keeps K (box_not hb hT)
/-- What a type's reading leaves. -/
def GTy (w : World) (g p : Nat) (ao : Option Addr) (cap : Nat) (bs : List UInt8) (st : Option Nat) (deep : Int) (e : Ending) (w' : World) : Prop :=
  ∃ (z : TyD) (cs : List Value) (st' : Option Nat), e = .returned (.agg cs.toArray) ∧ TyIs (NewA w.heap.size w') w' z cs ∧ Gt w' g p ao cap bs st' ∧ Keeps (GF g p) w w' ∧ ∀ t, (TyP t deep ∨ t = .mk 0 [] [] []) → Got bs st (encT t) (z = t) st'
/-- The kind that was read. -/
theorem got_kind {bs : List UInt8} {st st' : Option Nat} {z : Nat} (h : ∀ n, n ≤ 5 → Got bs st (encU n) (z = n) st') {k : Int} (h0 : 0 ≤ k) (h5 : k ≤ 5) {E : List UInt8} {P : Prop} {st2 : Option Nat} (h2 : (z : Int) = k → Got bs st' E P st2) : Got bs st (encU k.toNat ++ E) P st2 :=
  ((h k.toNat (by omega)).then (fun q => h2 (by omega))).mono (fun q => q.2)
theorem Got.app {bs : List UInt8} {st st1 st2 : Option Nat} {E1 E2 : List UInt8} {P Q R : Prop} (h : Got bs st E1 P st1) (h2 : P → Got bs st1 E2 Q st2) (hr : P → Q → R) : Got bs st (E1 ++ E2) R st2 := (h.then h2).mono (fun q => hr q.1 q.2)
theorem tyNewA {N M : Nat} {w w' : World} {T : Nat → Prop} {z : TyD} {cs : List Value} (h : TyIs (NewA M w) w z cs) (hN : N ≤ M) (K : Keeps T w w') (hT : ∀ b, M ≤ b → ¬ T b) : TyIs (NewA N w') w' z cs := h.keeps K (fun b hb => hT b hb.1) (fun _ hb => ⟨Nat.le_trans hN hb.1, Nat.lt_of_lt_of_le hb.2 K.size⟩)
theorem txNewA {N M : Nat} {w w' : World} {T : Nat → Prop} {a : Option Addr} {l : List (List UInt8)} (h : SlIs (NewA M w) w 1 TxIs a l) (hN : N ≤ M) (K : Keeps T w w') (hT : ∀ b, M ≤ b → ¬ T b) : SlIs (NewA N w') w' 1 TxIs a l := h.keeps K (fun b hb => hT b hb.1) (fun _ hb => ⟨Nat.le_trans hN hb.1, Nat.lt_of_lt_of_le hb.2 K.size⟩) (fun _ _ _ h => h)

set_option maxRecDepth 100000 in
set_option linter.unusedSimpArgs false in
set_option maxHeartbeats 4000000 in
theorem gkind_of (n : Nat) (IH : ∀ (d : Int) {w : World} {g p : Nat} {ao : Option Addr} {cap : Nat} {bs : List UInt8} {st : Option Nat}, d + n = 66 → n ≠ 0 → 1 ≤ d → Gt w g p ao cap bs st → bs.length ≤ 1000000000 → Calls Tryz.prog 34 #[.pointer (some ⟨g, 0, none⟩), .int .i64 d] w (GTy w g p ao cap bs st d)) (deep : Int) {w : World} {g p : Nat} {ao : Option Addr} {cap : Nat} {bs : List UInt8} {st : Option Nat} (hdn : deep + n = 65) (hd1 : 1 ≤ deep) (h : Gt w g p ao cap bs st) (hl : bs.length ≤ 1000000000) :
    Calls Tryz.prog 34 #[.pointer (some ⟨g, 0, none⟩), .int .i64 deep] w (GTy w g p ao cap bs st deep) := by
  have hlt := h.lt
  have hgw : g < w.heap.size := hlt.1
  have hpw : p < w.heap.size := hlt.2
  have HIH := shut @IH
  clear IH
  have B4 := blk_new w #[.int .i64 0, .string ⟨#[]⟩, .slice none 0 0, .slice none 0 0] 53
  have KX : Keeps (GF g p) w (w.alloc (.cells #[.int .i64 0, .string ⟨#[]⟩, .slice none 0 0, .slice none 0 0] 53)) := (Keeps.refl _ w).alloc _
  have hG := h.keepsN ((Keeps.refl Nothing w).alloc (.cells #[.int .i64 0, .string ⟨#[]⟩, .slice none 0 0, .slice none 0 0] 53))
  obtain ⟨g4, hg4⟩ : ∃ g4, w.heap.size = g4 := ⟨_, rfl⟩
  have HN4 : Shut (w.heap.size ≤ g4) := shut (Nat.le_of_eq hg4)
  have hn4 : ¬ GF g p g4 := fun q => by rcases q with q | q <;> omega
  rw [hg4] at B4
  clear h hlt
  go_enter Tryz.func34, Tryz.ntmps34
  go_upto_region 1 with fail
  try rw [hg4]
  clear hg4
  generalize w.alloc (.cells #[.int .i64 0, .string ⟨#[]⟩, .slice none 0 0, .slice none 0 0] 53) = w0 at *
  have hc := gnum_any hG hl 5 (by omega)
  go_wp2_with fail
  refine hc.mono ?_
  rintro e w1 ⟨kz, st1, rfl, hkz, hG2, hK2, hgot⟩
  have HGOTw1 := shut hgot
  have KX2 := KX.trans hK2 (fun _ h _ => h)
  have B42 := hK2.blk B4 hn4
  clear hc KX hG hgot B4
  have KX := KX2
  have hG := hG2
  have B4 := B42
  clear KX2 hG2 B42
  go_upto_region 2 with fail
  have B5 := blk_new w1 #[.int .i64 kz, .string ⟨#[]⟩, .slice none 0 0, .slice none 0 0] 53
  have ka : Keeps Nothing w1 (w1.alloc (.cells #[.int .i64 kz, .string ⟨#[]⟩, .slice none 0 0, .slice none 0 0] 53)) := (Keeps.refl Nothing w1).alloc _
  have hG2 := hG.keepsN ka
  have KX2 := KX.trans ka (fun _ h _ => h.elim)
  have B42 := ka.blk B4 (fun h => h)
  have hw1 : Shut (w.heap.size ≤ w1.heap.size) := shut KX.size
  have h41 := lt_of_block B4
  clear hG KX B4 ka
  obtain ⟨g5, hg5⟩ : ∃ g5, w1.heap.size = g5 := ⟨_, rfl⟩
  rw [hg5] at B5 h41 hw1 ⊢
  have hn5 : ¬ GF g p g5 := fun q => by have := hw1.out; rcases q with q | q <;> omega
  clear hg5
  generalize w1.alloc (.cells #[.int .i64 kz, .string ⟨#[]⟩, .slice none 0 0, .slice none 0 0] 53) = w2 at *
  have hG := hG2
  have KX := KX2
  have B4 := B42
  clear hG2 KX2 B42
  have hkc : (kz = 0 ∨ kz = 1 ∨ kz = 2) ∨ kz = 3 ∨ (kz = 4 ∨ kz = 5) := by omega
  have e0 := blk_cell B5 0 (v := .int .i64 kz) rfl
  rcases hkc with k0 | k3 | k45
  · have HALL : Shut (∀ t, (TyP t deep ∨ t = .mk 0 [] [] []) → Got bs st (encT t) (TyD.mk kz [] [] [] = t) st1) := shut (fun t ht => by
      obtain ⟨k, nm, lv, el⟩ := t
      have hk5 : 0 ≤ k ∧ k ≤ 5 ∧ (k = 3 ∨ (k = 4 ∨ k = 5) ∨ (nm = [] ∧ lv = [] ∧ el = [])) := by
        rcases ht with ht | ht
        · unfold TyP at ht
          rcases ht.2 with q | q | q
          · omega
          · omega
          · exact ⟨by omega, by omega, .inr (.inr q.2)⟩
        · simp only [TyD.mk.injEq] at ht
          obtain ⟨rfl, rfl, rfl, rfl⟩ := ht
          exact ⟨by omega, by omega, .inr (.inr ⟨rfl, rfl, rfl⟩)⟩
      rw [encT_mk]
      refine got_kind HGOTw1.out hk5.1 hk5.2.1 (fun q => ?_)
      rw [if_neg (by omega), if_neg (by omega)]
      rcases hk5.2.2 with q2 | q2 | ⟨rfl, rfl, rfl⟩
      · omega
      · omega
      · rw [q]
        exact Got.nil rfl)
    have HTY : Shut (TyIs (fun b => False) w2 (.mk kz [] [] []) [.int .i64 kz, .string ⟨#[]⟩, .slice none 0 0, .slice none 0 0]) := shut (by
      rw [tyIs_iff]
      exact ⟨none, 0, none, 0, rfl, Nat.zero_le _, slIs_nil _ _ _ _ _, slIs_nil _ _ _ _ _⟩)
    have HT4 : Shut (∀ b, (fun b : Nat => False) b → ¬ (fun b => b = g4) b) := shut (fun b hb => hb.elim)
    have hb3 : ((kz : Int) == 3) = false := by rw [beq_eq_false_iff_ne]; omega
    have hb4 : ((kz : Int) == 4) = false := by rw [beq_eq_false_iff_ne]; omega
    have hb5 : ((kz : Int) == 5) = false := by rw [beq_eq_false_iff_ne]; omega
    have hq3 : ¬ (kz : Int) = 3 := by omega
    have hq4 : ¬ (kz : Int) = 4 := by omega
    have hq5 : ¬ (kz : Int) = 5 := by omega
    obtain ⟨y1, y2⟩ := tblk_mid B5 (n := 4) rfl
    have y3 := rowOk_blk B4 (n := 4) rfl
    have agf : aggOk 4 (.agg #[.int .i64 kz, .string ⟨#[]⟩, .slice none 0 0, .slice none 0 0]) = true := by simp [aggOk, Value.oneCell']
    obtain ⟨WF, hWF⟩ : ∃ W, W = World.setRow w2 g4 #[.int .i64 kz, .string ⟨#[]⟩, .slice none 0 0, .slice none 0 0] := ⟨_, rfl⟩
    have K2 : Keeps (fun b => b = g4) w2 WF := by rw [hWF]; exact (Keeps.refl (fun b => b = g4) w2).setRow (g := g4) (fun _ => rfl) _
    have BF : Blk WF g4 #[.int .i64 kz, .string ⟨#[]⟩, .slice none 0 0, .slice none 0 0] 53 := by rw [hWF]; exact blk_setRow B4
    have HF : Shut (GTy w g p ao cap bs st deep (.returned (.agg #[.int .i64 kz, .string ⟨#[]⟩, .slice none 0 0, .slice none 0 0])) WF) := shut ⟨.mk kz [] [] [], [.int .i64 kz, .string ⟨#[]⟩, .slice none 0 0, .slice none 0 0], st1, rfl, HTY.out.keeps K2 HT4.out (fun b hb => hb.elim), hG.box B4 (not_gT (by decide) (by decide) (by decide)) K2, KX.trans K2 (fun b hb hlt => by have hb' : b = g4 := hb; have := HN4.out; omega), HALL.out⟩
    clear K2 HTY HALL hG KX HT4
    go_wp2_with fail
    rw [← hWF]
    refine bodyPost_ret (v := .agg #[.int .i64 kz, .string ⟨#[]⟩, .slice none 0 0, .slice none 0 0]) (results_cell_row rfl _ _ g4 _ _ (0, 0) _ rfl BF Tryz.underlying53 rfl (by rw [infoTy]; rfl)) rfl ?_
    exact HF.out
  · subst k3
    have hc := gtext_any hG hl
    go_wp2_with fail
    refine hc.mono ?_
    rintro e w3 ⟨nm, st2, rfl, hnm, -, hG2, hK2, hgot⟩
    have HGOTw3 := shut hgot
    have KX2 := KX.trans hK2 (fun _ h _ => h)
    have B42 := hK2.blk B4 hn4
    have B52 := hK2.blk B5 hn5
    clear hc KX hG hgot e0 B4 B5
    have KX := KX2
    have hG := hG2
    have B4 := B42
    have B5 := B52
    clear KX2 hG2 B42 B52
    have e1 := blk_cell B5 1 (v := .string ⟨#[]⟩) rfl
    have f1 := blk_free B5 1
    have B52 : Blk (w3.setCell ⟨g5, 1, none⟩ (.string ⟨nm.toArray⟩)) g5 #[.int .i64 3, .string ⟨nm.toArray⟩, .slice none 0 0, .slice none 0 0] 53 := blk_set B5 1 (.string ⟨nm.toArray⟩)
    have ks : Keeps (fun b => b = g5) w3 (w3.setCell ⟨g5, 1, none⟩ (.string ⟨nm.toArray⟩)) := (Keeps.refl (fun b => b = g5) w3).setCell (p := ⟨g5, 1, none⟩) (fun _ => rfl) _
    have B42 := ks.blk B4 (fun q => by have q' : g4 = g5 := q; omega)
    have hG2 := hG.box B5 (not_gT (by decide) (by decide) (by decide)) ks
    have KX2 := KX.trans ks (fun b hb hlt => by have hb' : b = g5 := hb; have := hw1.out; omega)
    clear hG KX B4 B5
    go_upto_region 5 with fail
    any_goals try (rename_i hfz; simp [f1] at hfz; done)
    clear e1 f1 ks
    generalize w3.setCell ⟨g5, 1, none⟩ (.string ⟨nm.toArray⟩) = w4 at *
    have hG := hG2
    have KX := KX2
    have B4 := B42
    have B5 := B52
    clear hG2 KX2 B42 B52
    have HW4 := shut KX.size
    have H54 := shut (lt_of_block B5)
    have H44 := shut (lt_of_block B4)
    have hc := gtexts_any hG hl
    go_wp2_with fail
    refine hc.mono ?_
    rintro e w5 ⟨L, aL, cL, st3, rfl, hL, hG2, hK2, hgot⟩
    have HGOTw5 := shut hgot
    have KX2 := KX.trans hK2 (fun _ h _ => h)
    have B42 := hK2.blk B4 hn4
    have B52 := hK2.blk B5 hn5
    clear hc KX hG hgot B4 B5
    have KX := KX2
    have hG := hG2
    have B4 := B42
    have B5 := B52
    clear KX2 hG2 B42 B52
    have e1 := blk_cell B5 2 (v := .slice none 0 0) rfl
    have f1 := blk_free B5 2
    have B52 : Blk (w5.setCell ⟨g5, 2, none⟩ (.slice aL L.length cL)) g5 #[.int .i64 3, .string ⟨nm.toArray⟩, .slice aL L.length cL, .slice none 0 0] 53 := blk_set B5 2 (.slice aL L.length cL)
    have ks : Keeps (fun b => b = g5) w5 (w5.setCell ⟨g5, 2, none⟩ (.slice aL L.length cL)) := (Keeps.refl (fun b => b = g5) w5).setCell (p := ⟨g5, 2, none⟩) (fun _ => rfl) _
    have B42 := ks.blk B4 (fun q => by have q' : g4 = g5 := q; omega)
    have hG2 := hG.box B5 (not_gT (by decide) (by decide) (by decide)) ks
    have KX2 := KX.trans ks (fun b hb hlt => by have hb' : b = g5 := hb; have := hw1.out; omega)
    clear hG KX B4 B5
    have hN4 : w.heap.size ≤ w4.heap.size := HW4.out
    have HL := shut (txNewA (N := w4.heap.size) hL (Nat.le_refl _) ks (fun b hb q => by have q' : b = g5 := q; have := H54.out; omega))
    go_upto_region 12 with fail
    any_goals try (rename_i hfz; simp [f1] at hfz; done)
    clear e1 f1 ks hL
    generalize w5.setCell ⟨g5, 2, none⟩ (.slice aL L.length cL) = w6 at *
    have hG := hG2
    have KX := KX2
    have B4 := B42
    have B5 := B52
    clear hG2 KX2 B42 B52
    have HALL : Shut (∀ t, (TyP t deep ∨ t = .mk 0 [] [] []) → Got bs st (encT t) (TyD.mk 3 nm L [] = t) st3) := shut (fun t ht => by
      obtain ⟨k, nm', lv, el⟩ := t
      rw [encT_mk]
      have hk5 : 0 ≤ k ∧ k ≤ 5 := by
        rcases ht with ht | ht
        · unfold TyP at ht
          omega
        · simp only [TyD.mk.injEq] at ht
          omega
      refine got_kind HGOTw1.out hk5.1 hk5.2 (fun q => ?_)
      rcases ht with ht | ht
      · unfold TyP at ht
        rcases ht.2 with ⟨rfl, h1, h2, rfl⟩ | h1 | h1
        · rw [if_pos rfl]
          exact (HGOTw3.out nm' (double_len h1)).app (fun _ => HGOTw5.out lv (fun s hs => by have := life_len (h2.1 s hs); omega) h2.2) (fun p q => by rw [p, q])
        · omega
        · omega
      · simp only [TyD.mk.injEq] at ht
        omega)
    have HTY : Shut (TyIs (NewA w4.heap.size w6) w6 (.mk 3 nm L []) [.int .i64 3, .string ⟨nm.toArray⟩, .slice aL L.length cL, .slice none 0 0]) := shut (by
      rw [tyIs_iff]
      exact ⟨aL, cL, none, 0, rfl, by show nm.length ≤ bigN; unfold bigN; omega, HL.out, slIs_nil _ _ _ _ _⟩)
    have HT4 : Shut (∀ b, NewA w4.heap.size w6 b → ¬ (fun b => b = g4) b) := shut (fun b hb q => by have q' : b = g4 := q; have := hb.1; have := H44.out; omega)
    obtain ⟨y1, y2⟩ := tblk_mid B5 (n := 4) rfl
    have y3 := rowOk_blk B4 (n := 4) rfl
    have agf : aggOk 4 (.agg #[.int .i64 3, .string ⟨nm.toArray⟩, .slice aL L.length cL, .slice none 0 0]) = true := by simp [aggOk, Value.oneCell']
    obtain ⟨WF, hWF⟩ : ∃ W, W = World.setRow w6 g4 #[.int .i64 3, .string ⟨nm.toArray⟩, .slice aL L.length cL, .slice none 0 0] := ⟨_, rfl⟩
    have K2 : Keeps (fun b => b = g4) w6 WF := by rw [hWF]; exact (Keeps.refl (fun b => b = g4) w6).setRow (g := g4) (fun _ => rfl) _
    have BF : Blk WF g4 #[.int .i64 3, .string ⟨nm.toArray⟩, .slice aL L.length cL, .slice none 0 0] 53 := by rw [hWF]; exact blk_setRow B4
    have HF : Shut (GTy w g p ao cap bs st deep (.returned (.agg #[.int .i64 3, .string ⟨nm.toArray⟩, .slice aL L.length cL, .slice none 0 0])) WF) := shut ⟨.mk 3 nm L [], [.int .i64 3, .string ⟨nm.toArray⟩, .slice aL L.length cL, .slice none 0 0], st3, rfl, HTY.out.keeps K2 HT4.out (fun b hb => ⟨Nat.le_trans HW4.out hb.1, Nat.lt_of_lt_of_le hb.2 K2.size⟩), hG.box B4 (not_gT (by decide) (by decide) (by decide)) K2, KX.trans K2 (fun b hb hlt => by have hb' : b = g4 := hb; have := HN4.out; omega), HALL.out⟩
    clear K2 HTY HALL hG KX HT4
    go_wp2_with fail
    rw [← hWF]
    refine bodyPost_ret (v := .agg #[.int .i64 3, .string ⟨nm.toArray⟩, .slice aL L.length cL, .slice none 0 0]) (results_cell_row rfl _ _ g4 _ _ (0, 0) _ rfl BF Tryz.underlying53 rfl (by rw [infoTy]; rfl)) rfl ?_
    exact HF.out
  · have hk3 : ¬ kz = 3 := by omega
    have HW4 := shut KX.size
    have H54 := shut (lt_of_block B5)
    have H44 := shut (lt_of_block B4)
    rcases k45 with rfl | rfl
    · have hc := gtexts_any hG hl
      go_wp2_with fail
      refine hc.mono ?_
      rintro e w5 ⟨L, aL, cL, st3, rfl, hL, hG2, hK2, hgot⟩
      have HGOTw5 := shut hgot
      have HK25 := shut hK2.size
      have KX2 := KX.trans hK2 (fun _ h _ => h)
      have B42 := hK2.blk B4 hn4
      have B52 := hK2.blk B5 hn5
      clear hc KX hG hgot e0 B4 B5
      have KX := KX2
      have hG := hG2
      have B4 := B42
      have B5 := B52
      clear KX2 hG2 B42 B52
      have e1 := blk_cell B5 2 (v := .slice none 0 0) rfl
      have f1 := blk_free B5 2
      have B52 : Blk (w5.setCell ⟨g5, 2, none⟩ (.slice aL L.length cL)) g5 #[.int .i64 4, .string ⟨#[]⟩, .slice aL L.length cL, .slice none 0 0] 53 := blk_set B5 2 (.slice aL L.length cL)
      have ks : Keeps (fun b => b = g5) w5 (w5.setCell ⟨g5, 2, none⟩ (.slice aL L.length cL)) := (Keeps.refl (fun b => b = g5) w5).setCell (p := ⟨g5, 2, none⟩) (fun _ => rfl) _
      have B42 := ks.blk B4 (fun q => by have q' : g4 = g5 := q; omega)
      have hG2 := hG.box B5 (not_gT (by decide) (by decide) (by decide)) ks
      have KX2 := KX.trans ks (fun b hb hlt => by have hb' : b = g5 := hb; have := hw1.out; omega)
      clear hG KX B4 B5
      have HS26 : w2.heap.size ≤ (w5.setCell ⟨g5, 2, none⟩ (.slice aL L.length cL)).heap.size := by rw [World.size_setCell]; exact HK25.out
      have HL := shut (txNewA (N := w2.heap.size) hL (Nat.le_refl _) ks (fun b hb q => by have q' : b = g5 := q; have := H54.out; omega))
      go_upto_region 9 with fail
      any_goals try (rename_i hfz; simp [f1] at hfz; done)
      clear e1 f1 ks hL
      generalize w5.setCell ⟨g5, 2, none⟩ (.slice aL L.length cL) = w6 at *
      have hG := hG2
      have KX := KX2
      have B4 := B42
      have B5 := B52
      clear hG2 KX2 B42 B52
      have HW26 : Shut (w2.heap.size ≤ w6.heap.size) := shut HS26
      obtain ⟨st4, hst4⟩ : ∃ s : Option Nat, s = (if deep ≤ 64 then st3 else none) := ⟨_, rfl⟩
      have HST4 := shut hst4
      have hmk : Shut (∀ b : Bool, b = st4.isNone → Gt (w6.setCell ⟨g, 1, none⟩ (.bool b)) g p ao cap bs st4 ∧ Keeps (GF g p) w6 (w6.setCell ⟨g, 1, none⟩ (.bool b))) := shut (fun b hb => by
        have q := gt_set hG b hb (fun j hj => by rw [HST4.out] at hj; by_cases hd : deep ≤ 64; rw [if_pos hd] at hj; exact hj; rw [if_neg hd] at hj; cases hj)
        exact ⟨q.1, q.2.1⟩)
      have c1 := blk_cell hG.blk 1 rfl
      have f1 := blk_free hG.blk 1
      clear hst4
      have hcase : (st3 = none ∧ st4 = none) ∨ (∃ j, st3 = some j ∧ ¬ deep ≤ 64 ∧ st4 = none) ∨ (∃ j, st3 = some j ∧ deep ≤ 64 ∧ st4 = some j) := by
        rw [HST4.out]
        cases st3 with
        | none => exact .inl ⟨rfl, by split <;> rfl⟩
        | some j => by_cases hd : deep ≤ 64; exact .inr (.inr ⟨j, rfl, hd, by rw [if_pos hd]⟩); exact .inr (.inl ⟨j, rfl, hd, by rw [if_neg hd]⟩)
      have HTYL : Shut (TyIs (NewA w2.heap.size w6) w6 (.mk 4 [] L []) [.int .i64 4, .string ⟨#[]⟩, .slice aL L.length cL, .slice none 0 0]) := shut (by
        rw [tyIs_iff]
        exact ⟨aL, cL, none, 0, rfl, Nat.zero_le _, HL.out, slIs_nil _ _ _ _ _⟩)
      rcases hcase with ⟨rfl, rfl⟩ | ⟨j, rfl, hdp, rfl⟩ | ⟨j, rfl, hdp, rfl⟩
      · obtain ⟨hG2, hK2⟩ := hmk.out true rfl
        have KX2 := KX.trans hK2 (fun _ h _ => h)
        have B42 := hK2.blk B4 hn4
        have B52 := hK2.blk B5 hn5
        have HTY := shut (HTYL.out.keeps hK2 (fun b hb q => by have h1 := hb.1; have h2 := HW4.out; rcases q with q | q <;> omega) (fun b hb => ⟨hb.1, Nat.lt_of_lt_of_le hb.2 hK2.size⟩) : TyIs (NewA w2.heap.size (w6.setCell ⟨g, 1, none⟩ (.bool true))) (w6.setCell ⟨g, 1, none⟩ (.bool true)) (.mk 4 [] L []) [.int .i64 4, .string ⟨#[]⟩, .slice aL L.length cL, .slice none 0 0])
        have HALL : Shut (∀ t, (TyP t deep ∨ t = .mk 0 [] [] []) → Got bs st (encT t) (TyD.mk 4 [] L [] = t) none) := shut (fun t ht => by
          obtain ⟨k, nm', lv, el⟩ := t
          rw [encT_mk]
          have hk5 : 0 ≤ k ∧ k ≤ 5 := by
            rcases ht with ht | ht
            · unfold TyP at ht
              omega
            · simp only [TyD.mk.injEq] at ht
              omega
          refine got_kind HGOTw1.out hk5.1 hk5.2 (fun q => ?_)
          rcases ht with ht | ht
          · unfold TyP at ht
            rcases ht.2 with h1 | ⟨h0, rfl, h1, h2, h3⟩ | h1
            · omega
            · rw [if_neg (by omega), if_pos h0]
              intro k2 r2 hk2 hr2
              rw [List.append_assoc] at hr2
              have := (HGOTw5.out lv (fun s hs => by have := life_len (h2.1 s hs); omega) (by omega) k2 _ hk2 hr2).2
              cases this
            · omega
          · simp only [TyD.mk.injEq] at ht
            omega)
        have c2 := blk_cell hG2.blk 1 rfl
        have HT4 : Shut (∀ b, NewA w2.heap.size (w6.setCell ⟨g, 1, none⟩ (.bool true)) b → ¬ (fun b => b = g4) b) := shut (fun b hb q => by have q' : b = g4 := q; have := hb.1; have := H44.out; omega)
        clear hG KX B4 B5 hK2 hmk HTYL HL
        go_upto_region 10 with fail
        any_goals try (rename_i hfz; simp [f1] at hfz; done)
        clear c1 f1
        generalize w6.setCell ⟨g, 1, none⟩ (.bool true) = w7 at *
        have hG := hG2
        have KX := KX2
        have B4 := B42
        have B5 := B52
        clear hG2 KX2 B42 B52
        go_upto_region 12 with fail
        clear c2
        obtain ⟨y1, y2⟩ := tblk_mid B5 (n := 4) rfl
        have y3 := rowOk_blk B4 (n := 4) rfl
        have agf : aggOk 4 (.agg #[.int .i64 4, .string ⟨#[]⟩, .slice aL L.length cL, .slice none 0 0]) = true := by simp [aggOk, Value.oneCell']
        obtain ⟨WF, hWF⟩ : ∃ W, W = World.setRow w7 g4 #[.int .i64 4, .string ⟨#[]⟩, .slice aL L.length cL, .slice none 0 0] := ⟨_, rfl⟩
        have K2 : Keeps (fun b => b = g4) w7 WF := by rw [hWF]; exact (Keeps.refl (fun b => b = g4) w7).setRow (g := g4) (fun _ => rfl) _
        have BF : Blk WF g4 #[.int .i64 4, .string ⟨#[]⟩, .slice aL L.length cL, .slice none 0 0] 53 := by rw [hWF]; exact blk_setRow B4
        have HF : Shut (GTy w g p ao cap bs st deep (.returned (.agg #[.int .i64 4, .string ⟨#[]⟩, .slice aL L.length cL, .slice none 0 0])) WF) := shut ⟨.mk 4 [] L [], [.int .i64 4, .string ⟨#[]⟩, .slice aL L.length cL, .slice none 0 0], none, rfl, HTY.out.keeps K2 HT4.out (fun b hb => ⟨Nat.le_trans HW4.out hb.1, Nat.lt_of_lt_of_le hb.2 K2.size⟩), hG.box B4 (not_gT (by decide) (by decide) (by decide)) K2, KX.trans K2 (fun b hb hlt => by have hb' : b = g4 := hb; have := HN4.out; omega), HALL.out⟩
        clear K2 HTY HALL hG KX HT4
        go_wp2_with fail
        rw [← hWF]
        refine bodyPost_ret (v := .agg #[.int .i64 4, .string ⟨#[]⟩, .slice aL L.length cL, .slice none 0 0]) (results_cell_row rfl _ _ g4 _ _ (0, 0) _ rfl BF Tryz.underlying53 rfl (by rw [infoTy]; rfl)) rfl ?_
        exact HF.out
      · have m64 : 64 < deep := by omega
        obtain ⟨hG2, hK2⟩ := hmk.out true rfl
        have KX2 := KX.trans hK2 (fun _ h _ => h)
        have B42 := hK2.blk B4 hn4
        have B52 := hK2.blk B5 hn5
        have HTY := shut (HTYL.out.keeps hK2 (fun b hb q => by have h1 := hb.1; have h2 := HW4.out; rcases q with q | q <;> omega) (fun b hb => ⟨hb.1, Nat.lt_of_lt_of_le hb.2 hK2.size⟩) : TyIs (NewA w2.heap.size (w6.setCell ⟨g, 1, none⟩ (.bool true))) (w6.setCell ⟨g, 1, none⟩ (.bool true)) (.mk 4 [] L []) [.int .i64 4, .string ⟨#[]⟩, .slice aL L.length cL, .slice none 0 0])
        have HALL : Shut (∀ t, (TyP t deep ∨ t = .mk 0 [] [] []) → Got bs st (encT t) (TyD.mk 4 [] L [] = t) none) := shut (fun t ht => by
          obtain ⟨k, nm', lv, el⟩ := t
          rw [encT_mk]
          have hk5 : 0 ≤ k ∧ k ≤ 5 := by
            rcases ht with ht | ht
            · unfold TyP at ht
              omega
            · simp only [TyD.mk.injEq] at ht
              omega
          refine got_kind HGOTw1.out hk5.1 hk5.2 (fun q => ?_)
          rcases ht with ht | ht
          · unfold TyP at ht
            rcases ht.2 with h1 | ⟨h0, rfl, h1, h2, h3⟩ | h1
            · omega
            · rw [if_neg (by omega), if_pos h0]
              exact absurd ht.1 hdp
            · omega
          · simp only [TyD.mk.injEq] at ht
            omega)
        have c2 := blk_cell hG2.blk 1 rfl
        have HT4 : Shut (∀ b, NewA w2.heap.size (w6.setCell ⟨g, 1, none⟩ (.bool true)) b → ¬ (fun b => b = g4) b) := shut (fun b hb q => by have q' : b = g4 := q; have := hb.1; have := H44.out; omega)
        clear hG KX B4 B5 hK2 hmk HTYL HL
        go_upto_region 10 with fail
        any_goals try (rename_i hfz; simp [f1] at hfz; done)
        clear c1 f1
        generalize w6.setCell ⟨g, 1, none⟩ (.bool true) = w7 at *
        have hG := hG2
        have KX := KX2
        have B4 := B42
        have B5 := B52
        clear hG2 KX2 B42 B52
        go_upto_region 12 with fail
        clear c2
        obtain ⟨y1, y2⟩ := tblk_mid B5 (n := 4) rfl
        have y3 := rowOk_blk B4 (n := 4) rfl
        have agf : aggOk 4 (.agg #[.int .i64 4, .string ⟨#[]⟩, .slice aL L.length cL, .slice none 0 0]) = true := by simp [aggOk, Value.oneCell']
        obtain ⟨WF, hWF⟩ : ∃ W, W = World.setRow w7 g4 #[.int .i64 4, .string ⟨#[]⟩, .slice aL L.length cL, .slice none 0 0] := ⟨_, rfl⟩
        have K2 : Keeps (fun b => b = g4) w7 WF := by rw [hWF]; exact (Keeps.refl (fun b => b = g4) w7).setRow (g := g4) (fun _ => rfl) _
        have BF : Blk WF g4 #[.int .i64 4, .string ⟨#[]⟩, .slice aL L.length cL, .slice none 0 0] 53 := by rw [hWF]; exact blk_setRow B4
        have HF : Shut (GTy w g p ao cap bs st deep (.returned (.agg #[.int .i64 4, .string ⟨#[]⟩, .slice aL L.length cL, .slice none 0 0])) WF) := shut ⟨.mk 4 [] L [], [.int .i64 4, .string ⟨#[]⟩, .slice aL L.length cL, .slice none 0 0], none, rfl, HTY.out.keeps K2 HT4.out (fun b hb => ⟨Nat.le_trans HW4.out hb.1, Nat.lt_of_lt_of_le hb.2 K2.size⟩), hG.box B4 (not_gT (by decide) (by decide) (by decide)) K2, KX.trans K2 (fun b hb hlt => by have hb' : b = g4 := hb; have := HN4.out; omega), HALL.out⟩
        clear K2 HTY HALL hG KX HT4
        go_wp2_with fail
        rw [← hWF]
        refine bodyPost_ret (v := .agg #[.int .i64 4, .string ⟨#[]⟩, .slice aL L.length cL, .slice none 0 0]) (results_cell_row rfl _ _ g4 _ _ (0, 0) _ rfl BF Tryz.underlying53 rfl (by rw [infoTy]; rfl)) rfl ?_
        exact HF.out
      · have m64 : ¬ 64 < deep := by omega
        obtain ⟨hG2, hK2⟩ := hmk.out false rfl
        have KX2 := KX.trans hK2 (fun _ h _ => h)
        have B42 := hK2.blk B4 hn4
        have B52 := hK2.blk B5 hn5
        have HTY6 := shut (HL.out.keeps hK2 (fun b hb q => by have h1 := hb.1; have h2 := HW4.out; rcases q with q | q <;> omega) (fun b hb => ⟨hb.1, Nat.lt_of_lt_of_le hb.2 hK2.size⟩) (fun _ _ _ h => h) : SlIs (NewA w2.heap.size (w6.setCell ⟨g, 1, none⟩ (.bool false))) (w6.setCell ⟨g, 1, none⟩ (.bool false)) 1 TxIs aL L)
        have c2 := blk_cell hG2.blk 1 rfl
        have KW27 : w2.heap.size ≤ (w6.setCell ⟨g, 1, none⟩ (.bool false)).heap.size := by have := HW26.out; rw [World.size_setCell]; omega
        clear hG KX B4 B5 hK2 hmk HTYL HL
        go_upto_region 10 with fail
        any_goals try (rename_i hfz; simp [f1] at hfz; done)
        clear c1 f1
        generalize w6.setCell ⟨g, 1, none⟩ (.bool false) = w7 at *
        have hG := hG2
        have KX := KX2
        have B4 := B42
        have B5 := B52
        clear hG2 KX2 B42 B52
        have hn0 : n ≠ 0 := by omega
        have wd : IntKind.i64.wrap (deep + 1) = deep + 1 := by rw [IntKind.wrap_i64]; omega
        have HW7 : Shut (w.heap.size ≤ w7.heap.size) := shut KX.size
        have HW27 : Shut (w2.heap.size ≤ w7.heap.size) := shut KW27
        have H47 := shut (lt_of_block B4)
        have H57 := shut (lt_of_block B5)
        have hgp7 := hG.lt
        go_upto_region 11 with fail
        clear c2
        have hc := HIH.out (deep + 1) (by omega) hn0 (by omega) hG hl
        go_wp2_with fail
        refine hc.mono ?_
        rintro e w8 ⟨z, cs, st5, rfl, hTz, hG2, hK2, hgot⟩
        have HGOTw8 := shut hgot
        have KX2 := KX.trans hK2 (fun _ h _ => h)
        have B42 := hK2.blk B4 hn4
        have B52 := hK2.blk B5 hn5
        clear hc KX hG hgot B4 B5
        have KX := KX2
        have hG := hG2
        have B4 := B42
        have B5 := B52
        clear KX2 hG2 B42 B52
        have lz := hTz.len
        have agz := agg_ok lz hTz.one
        have HTX := shut (HTY6.out.keeps hK2 (fun b hb q => by have h1 := hb.1; have h2 := HW4.out; rcases q with q | q <;> omega) (fun b hb => ⟨hb.1, Nat.lt_of_lt_of_le hb.2 hK2.size⟩) (fun _ _ _ h => h) : SlIs (NewA w2.heap.size w8) w8 1 TxIs aL L)
        obtain ⟨Cz, hCz⟩ : ∃ C, C = cs.toArray := ⟨_, rfl⟩
        have hsz : Cz.size = 4 := by rw [hCz]; simpa using lz
        rw [← hCz] at agz ⊢
        have GCz := shut hCz
        have HTZ := shut hTz
        have e1 := blk_cell B5 3 (v := .slice none 0 0) rfl
        have f1 := blk_free B5 3
        have B52 : Blk (w8.setCell ⟨g5, 3, none⟩ (.slice (some ⟨w8.heap.size, 0, none⟩) 1 1)) g5 #[.int .i64 4, .string ⟨#[]⟩, .slice aL L.length cL, .slice (some ⟨w8.heap.size, 0, none⟩) 1 1] 53 := blk_set B5 3 (.slice (some ⟨w8.heap.size, 0, none⟩) 1 1)
        have ks : Keeps (fun b => b = g5) w8 (w8.setCell ⟨g5, 3, none⟩ (.slice (some ⟨w8.heap.size, 0, none⟩) 1 1)) := (Keeps.refl (fun b => b = g5) w8).setCell (p := ⟨g5, 3, none⟩) (fun _ => rfl) _
        have h58 := lt_of_block B5
        have h48 := lt_of_block B4
        have hsc : (w8.setCell ⟨g5, 3, none⟩ (.slice (some ⟨w8.heap.size, 0, none⟩) 1 1)).heap.size = w8.heap.size := World.size_setCell _ _ _
        have BE := blk_new (w8.setCell ⟨g5, 3, none⟩ (.slice (some ⟨w8.heap.size, 0, none⟩) 1 1)) Cz 53
        rw [hsc] at BE
        have kz2 : Keeps (fun b => b = g5) w8 ((w8.setCell ⟨g5, 3, none⟩ (.slice (some ⟨w8.heap.size, 0, none⟩) 1 1)).alloc (.cells Cz 53)) := ks.alloc _
        have B4n := kz2.blk B4 (fun q => by have q' : g4 = g5 := q; omega)
        have B5n := blk_alloc B52 (.cells Cz 53)
        have hGn := hG.box B5 (not_gT (by decide) (by decide) (by decide)) kz2
        have KXn := KX.trans kz2 (fun b hb hlt => by have hb' : b = g5 := hb; have := hw1.out; omega)
        have h78 : Shut (w7.heap.size ≤ w8.heap.size) := shut hK2.size
        have h26 : Shut (w2.heap.size ≤ w7.heap.size) := HW27
        clear hG KX B4 B5 hTz hCz hsc ks B52 hK2 HTY6
        go_upto_region 12 with fail
        any_goals try (rename_i hfz; simp [f1] at hfz; done)
        rw [fillN (n := 4) rfl hsz]
        clear e1 f1 agz
        have HTX9 := shut (HTX.out.keeps kz2 (fun b hb q => by have q' : b = g5 := q; have := hb.1; have := H54.out; omega) (fun b hb => ⟨hb.1, Nat.lt_of_lt_of_le hb.2 kz2.size⟩) (fun _ _ _ h => h) : SlIs (NewA w2.heap.size ((w8.setCell ⟨g5, 3, none⟩ (.slice (some ⟨w8.heap.size, 0, none⟩) 1 1)).alloc (.cells Cz 53))) ((w8.setCell ⟨g5, 3, none⟩ (.slice (some ⟨w8.heap.size, 0, none⟩) 1 1)).alloc (.cells Cz 53)) 1 TxIs aL L)
        have HTZ9 := shut (HTZ.out.keeps kz2 (fun b hb q => by have q' : b = g5 := q; have := hb.1; have := H57.out; omega) (fun b hb => ⟨by have := hb.1; have := h26.out; omega, Nat.lt_of_lt_of_le hb.2 kz2.size⟩) : TyIs (NewA w2.heap.size ((w8.setCell ⟨g5, 3, none⟩ (.slice (some ⟨w8.heap.size, 0, none⟩) 1 1)).alloc (.cells Cz 53))) ((w8.setCell ⟨g5, 3, none⟩ (.slice (some ⟨w8.heap.size, 0, none⟩) 1 1)).alloc (.cells Cz 53)) z cs)
        have hgE : w8.heap.size < ((w8.setCell ⟨g5, 3, none⟩ (.slice (some ⟨w8.heap.size, 0, none⟩) 1 1)).alloc (.cells Cz 53)).heap.size := lt_of_block BE
        clear HTX HTZ kz2
        obtain ⟨gE, hgE2⟩ : ∃ g, w8.heap.size = g := ⟨_, rfl⟩
        rw [hgE2] at BE B5n hgE h78 h58 h48 ⊢
        rw [hgE2] at HTX9 HTZ9 hGn KXn B4n
        clear hgE2
        generalize (w8.setCell ⟨g5, 3, none⟩ (.slice (some ⟨gE, 0, none⟩) 1 1)).alloc (.cells Cz 53) = w9 at *
        have hG := hGn
        have KX := KXn
        have B4 := B4n
        have B5 := B5n
        clear hGn KXn B4n B5n
        have HTY : Shut (TyIs (NewA w2.heap.size w9) w9 (.mk 4 [] L [z]) [.int .i64 4, .string ⟨#[]⟩, .slice aL L.length cL, .slice (some ⟨gE, 0, none⟩) 1 1]) := shut (by
          rw [tyIs_iff]
          exact ⟨aL, cL, some ⟨gE, 0, none⟩, 1, rfl, Nat.zero_le _, HTX9.out, slIs_one GCz.out lz BE ⟨by have := h78.out; have := h26.out; omega, hgE⟩ HTZ9.out⟩)
        have HALL : Shut (∀ t, (TyP t deep ∨ t = .mk 0 [] [] []) → Got bs st (encT t) (TyD.mk 4 [] L [z] = t) st5) := shut (fun t ht => by
          obtain ⟨k, nm', lv, el⟩ := t
          rw [encT_mk]
          have hk5 : 0 ≤ k ∧ k ≤ 5 := by
            rcases ht with ht | ht
            · unfold TyP at ht
              omega
            · simp only [TyD.mk.injEq] at ht
              omega
          refine got_kind HGOTw1.out hk5.1 hk5.2 (fun q => ?_)
          rcases ht with ht | ht
          · unfold TyP at ht
            rcases ht.2 with h1 | ⟨h0, rfl, h1, h2, h3⟩ | h1
            · omega
            · rw [if_neg (by omega), if_pos h0]
              match el, h3 with
              | t :: r, h3 =>
                unfold TysP at h3
                obtain ⟨rfl, h3⟩ := h3
                rw [encT1_cons]
                exact (HGOTw5.out lv (fun s hs => by have := life_len (h2.1 s hs); omega) (by omega)).app (fun _ => HGOTw8.out t (.inl h3)) (fun p1 q2 => by have hk9 : k = 4 := (by omega); rw [p1, q2, hk9])
              | [], h3 => unfold TysP at h3; exact h3.elim
            · omega
          · simp only [TyD.mk.injEq] at ht
            omega)
        have HT4 : Shut (∀ b, NewA w2.heap.size w9 b → ¬ (fun b => b = g4) b) := shut (fun b hb q => by have q' : b = g4 := q; have := hb.1; have := H44.out; omega)
        clear HTX9 HTZ9
        obtain ⟨y1, y2⟩ := tblk_mid B5 (n := 4) rfl
        have y3 := rowOk_blk B4 (n := 4) rfl
        have agf : aggOk 4 (.agg #[.int .i64 4, .string ⟨#[]⟩, .slice aL L.length cL, .slice (some ⟨gE, 0, none⟩) 1 1]) = true := by simp [aggOk, Value.oneCell']
        obtain ⟨WF, hWF⟩ : ∃ W, W = World.setRow w9 g4 #[.int .i64 4, .string ⟨#[]⟩, .slice aL L.length cL, .slice (some ⟨gE, 0, none⟩) 1 1] := ⟨_, rfl⟩
        have K2 : Keeps (fun b => b = g4) w9 WF := by rw [hWF]; exact (Keeps.refl (fun b => b = g4) w9).setRow (g := g4) (fun _ => rfl) _
        have BF : Blk WF g4 #[.int .i64 4, .string ⟨#[]⟩, .slice aL L.length cL, .slice (some ⟨gE, 0, none⟩) 1 1] 53 := by rw [hWF]; exact blk_setRow B4
        have HF : Shut (GTy w g p ao cap bs st deep (.returned (.agg #[.int .i64 4, .string ⟨#[]⟩, .slice aL L.length cL, .slice (some ⟨gE, 0, none⟩) 1 1])) WF) := shut ⟨.mk 4 [] L [z], [.int .i64 4, .string ⟨#[]⟩, .slice aL L.length cL, .slice (some ⟨gE, 0, none⟩) 1 1], st5, rfl, HTY.out.keeps K2 HT4.out (fun b hb => ⟨Nat.le_trans HW4.out hb.1, Nat.lt_of_lt_of_le hb.2 K2.size⟩), hG.box B4 (not_gT (by decide) (by decide) (by decide)) K2, KX.trans K2 (fun b hb hlt => by have hb' : b = g4 := hb; have := HN4.out; omega), HALL.out⟩
        clear K2 HTY HALL hG KX HT4
        go_wp2_with fail
        rw [← hWF]
        refine bodyPost_ret (v := .agg #[.int .i64 4, .string ⟨#[]⟩, .slice aL L.length cL, .slice (some ⟨gE, 0, none⟩) 1 1]) (results_cell_row rfl _ _ g4 _ _ (0, 0) _ rfl BF Tryz.underlying53 rfl (by rw [infoTy]; rfl)) rfl ?_
        exact HF.out
    · have hc := gtexts_any hG hl
      go_wp2_with fail
      refine hc.mono ?_
      rintro e w5 ⟨L, aL, cL, st3, rfl, hL, hG2, hK2, hgot⟩
      have HGOTw5 := shut hgot
      have HK25 := shut hK2.size
      have KX2 := KX.trans hK2 (fun _ h _ => h)
      have B42 := hK2.blk B4 hn4
      have B52 := hK2.blk B5 hn5
      clear hc KX hG hgot e0 B4 B5
      have KX := KX2
      have hG := hG2
      have B4 := B42
      have B5 := B52
      clear KX2 hG2 B42 B52
      have e1 := blk_cell B5 2 (v := .slice none 0 0) rfl
      have f1 := blk_free B5 2
      have B52 : Blk (w5.setCell ⟨g5, 2, none⟩ (.slice aL L.length cL)) g5 #[.int .i64 5, .string ⟨#[]⟩, .slice aL L.length cL, .slice none 0 0] 53 := blk_set B5 2 (.slice aL L.length cL)
      have ks : Keeps (fun b => b = g5) w5 (w5.setCell ⟨g5, 2, none⟩ (.slice aL L.length cL)) := (Keeps.refl (fun b => b = g5) w5).setCell (p := ⟨g5, 2, none⟩) (fun _ => rfl) _
      have B42 := ks.blk B4 (fun q => by have q' : g4 = g5 := q; omega)
      have hG2 := hG.box B5 (not_gT (by decide) (by decide) (by decide)) ks
      have KX2 := KX.trans ks (fun b hb hlt => by have hb' : b = g5 := hb; have := hw1.out; omega)
      clear hG KX B4 B5
      have HS26 : w2.heap.size ≤ (w5.setCell ⟨g5, 2, none⟩ (.slice aL L.length cL)).heap.size := by rw [World.size_setCell]; exact HK25.out
      have HL := shut (txNewA (N := w2.heap.size) hL (Nat.le_refl _) ks (fun b hb q => by have q' : b = g5 := q; have := H54.out; omega))
      go_upto_region 9 with fail
      any_goals try (rename_i hfz; simp [f1] at hfz; done)
      clear e1 f1 ks hL
      generalize w5.setCell ⟨g5, 2, none⟩ (.slice aL L.length cL) = w6 at *
      have hG := hG2
      have KX := KX2
      have B4 := B42
      have B5 := B52
      clear hG2 KX2 B42 B52
      have HW26 : Shut (w2.heap.size ≤ w6.heap.size) := shut HS26
      obtain ⟨st4, hst4⟩ : ∃ s : Option Nat, s = (if deep ≤ 64 then st3 else none) := ⟨_, rfl⟩
      have HST4 := shut hst4
      have hmk : Shut (∀ b : Bool, b = st4.isNone → Gt (w6.setCell ⟨g, 1, none⟩ (.bool b)) g p ao cap bs st4 ∧ Keeps (GF g p) w6 (w6.setCell ⟨g, 1, none⟩ (.bool b))) := shut (fun b hb => by
        have q := gt_set hG b hb (fun j hj => by rw [HST4.out] at hj; by_cases hd : deep ≤ 64; rw [if_pos hd] at hj; exact hj; rw [if_neg hd] at hj; cases hj)
        exact ⟨q.1, q.2.1⟩)
      have c1 := blk_cell hG.blk 1 rfl
      have f1 := blk_free hG.blk 1
      clear hst4
      have hcase : (st3 = none ∧ st4 = none) ∨ (∃ j, st3 = some j ∧ ¬ deep ≤ 64 ∧ st4 = none) ∨ (∃ j, st3 = some j ∧ deep ≤ 64 ∧ st4 = some j) := by
        rw [HST4.out]
        cases st3 with
        | none => exact .inl ⟨rfl, by split <;> rfl⟩
        | some j => by_cases hd : deep ≤ 64; exact .inr (.inr ⟨j, rfl, hd, by rw [if_pos hd]⟩); exact .inr (.inl ⟨j, rfl, hd, by rw [if_neg hd]⟩)
      have HTYL : Shut (TyIs (NewA w2.heap.size w6) w6 (.mk 5 [] L []) [.int .i64 5, .string ⟨#[]⟩, .slice aL L.length cL, .slice none 0 0]) := shut (by
        rw [tyIs_iff]
        exact ⟨aL, cL, none, 0, rfl, Nat.zero_le _, HL.out, slIs_nil _ _ _ _ _⟩)
      rcases hcase with ⟨rfl, rfl⟩ | ⟨j, rfl, hdp, rfl⟩ | ⟨j, rfl, hdp, rfl⟩
      · obtain ⟨hG2, hK2⟩ := hmk.out true rfl
        have KX2 := KX.trans hK2 (fun _ h _ => h)
        have B42 := hK2.blk B4 hn4
        have B52 := hK2.blk B5 hn5
        have HTY := shut (HTYL.out.keeps hK2 (fun b hb q => by have h1 := hb.1; have h2 := HW4.out; rcases q with q | q <;> omega) (fun b hb => ⟨hb.1, Nat.lt_of_lt_of_le hb.2 hK2.size⟩) : TyIs (NewA w2.heap.size (w6.setCell ⟨g, 1, none⟩ (.bool true))) (w6.setCell ⟨g, 1, none⟩ (.bool true)) (.mk 5 [] L []) [.int .i64 5, .string ⟨#[]⟩, .slice aL L.length cL, .slice none 0 0])
        have HALL : Shut (∀ t, (TyP t deep ∨ t = .mk 0 [] [] []) → Got bs st (encT t) (TyD.mk 5 [] L [] = t) none) := shut (fun t ht => by
          obtain ⟨k, nm', lv, el⟩ := t
          rw [encT_mk]
          have hk5 : 0 ≤ k ∧ k ≤ 5 := by
            rcases ht with ht | ht
            · unfold TyP at ht
              omega
            · simp only [TyD.mk.injEq] at ht
              omega
          refine got_kind HGOTw1.out hk5.1 hk5.2 (fun q => ?_)
          rcases ht with ht | ht
          · unfold TyP at ht
            rcases ht.2 with h1 | ⟨h0, rfl, h1, h2, h3⟩ | h1
            · omega
            · rw [if_neg (by omega), if_pos h0]
              intro k2 r2 hk2 hr2
              rw [List.append_assoc] at hr2
              have := (HGOTw5.out lv (fun s hs => by have := life_len (h2.1 s hs); omega) (by omega) k2 _ hk2 hr2).2
              cases this
            · omega
          · simp only [TyD.mk.injEq] at ht
            omega)
        have c2 := blk_cell hG2.blk 1 rfl
        have HT4 : Shut (∀ b, NewA w2.heap.size (w6.setCell ⟨g, 1, none⟩ (.bool true)) b → ¬ (fun b => b = g4) b) := shut (fun b hb q => by have q' : b = g4 := q; have := hb.1; have := H44.out; omega)
        clear hG KX B4 B5 hK2 hmk HTYL HL
        go_upto_region 10 with fail
        any_goals try (rename_i hfz; simp [f1] at hfz; done)
        clear c1 f1
        generalize w6.setCell ⟨g, 1, none⟩ (.bool true) = w7 at *
        have hG := hG2
        have KX := KX2
        have B4 := B42
        have B5 := B52
        clear hG2 KX2 B42 B52
        go_upto_region 12 with fail
        clear c2
        obtain ⟨y1, y2⟩ := tblk_mid B5 (n := 4) rfl
        have y3 := rowOk_blk B4 (n := 4) rfl
        have agf : aggOk 4 (.agg #[.int .i64 5, .string ⟨#[]⟩, .slice aL L.length cL, .slice none 0 0]) = true := by simp [aggOk, Value.oneCell']
        obtain ⟨WF, hWF⟩ : ∃ W, W = World.setRow w7 g4 #[.int .i64 5, .string ⟨#[]⟩, .slice aL L.length cL, .slice none 0 0] := ⟨_, rfl⟩
        have K2 : Keeps (fun b => b = g4) w7 WF := by rw [hWF]; exact (Keeps.refl (fun b => b = g4) w7).setRow (g := g4) (fun _ => rfl) _
        have BF : Blk WF g4 #[.int .i64 5, .string ⟨#[]⟩, .slice aL L.length cL, .slice none 0 0] 53 := by rw [hWF]; exact blk_setRow B4
        have HF : Shut (GTy w g p ao cap bs st deep (.returned (.agg #[.int .i64 5, .string ⟨#[]⟩, .slice aL L.length cL, .slice none 0 0])) WF) := shut ⟨.mk 5 [] L [], [.int .i64 5, .string ⟨#[]⟩, .slice aL L.length cL, .slice none 0 0], none, rfl, HTY.out.keeps K2 HT4.out (fun b hb => ⟨Nat.le_trans HW4.out hb.1, Nat.lt_of_lt_of_le hb.2 K2.size⟩), hG.box B4 (not_gT (by decide) (by decide) (by decide)) K2, KX.trans K2 (fun b hb hlt => by have hb' : b = g4 := hb; have := HN4.out; omega), HALL.out⟩
        clear K2 HTY HALL hG KX HT4
        go_wp2_with fail
        rw [← hWF]
        refine bodyPost_ret (v := .agg #[.int .i64 5, .string ⟨#[]⟩, .slice aL L.length cL, .slice none 0 0]) (results_cell_row rfl _ _ g4 _ _ (0, 0) _ rfl BF Tryz.underlying53 rfl (by rw [infoTy]; rfl)) rfl ?_
        exact HF.out
      · have m64 : 64 < deep := by omega
        obtain ⟨hG2, hK2⟩ := hmk.out true rfl
        have KX2 := KX.trans hK2 (fun _ h _ => h)
        have B42 := hK2.blk B4 hn4
        have B52 := hK2.blk B5 hn5
        have HTY := shut (HTYL.out.keeps hK2 (fun b hb q => by have h1 := hb.1; have h2 := HW4.out; rcases q with q | q <;> omega) (fun b hb => ⟨hb.1, Nat.lt_of_lt_of_le hb.2 hK2.size⟩) : TyIs (NewA w2.heap.size (w6.setCell ⟨g, 1, none⟩ (.bool true))) (w6.setCell ⟨g, 1, none⟩ (.bool true)) (.mk 5 [] L []) [.int .i64 5, .string ⟨#[]⟩, .slice aL L.length cL, .slice none 0 0])
        have HALL : Shut (∀ t, (TyP t deep ∨ t = .mk 0 [] [] []) → Got bs st (encT t) (TyD.mk 5 [] L [] = t) none) := shut (fun t ht => by
          obtain ⟨k, nm', lv, el⟩ := t
          rw [encT_mk]
          have hk5 : 0 ≤ k ∧ k ≤ 5 := by
            rcases ht with ht | ht
            · unfold TyP at ht
              omega
            · simp only [TyD.mk.injEq] at ht
              omega
          refine got_kind HGOTw1.out hk5.1 hk5.2 (fun q => ?_)
          rcases ht with ht | ht
          · unfold TyP at ht
            rcases ht.2 with h1 | ⟨h0, rfl, h1, h2, h3⟩ | h1
            · omega
            · rw [if_neg (by omega), if_pos h0]
              exact absurd ht.1 hdp
            · omega
          · simp only [TyD.mk.injEq] at ht
            omega)
        have c2 := blk_cell hG2.blk 1 rfl
        have HT4 : Shut (∀ b, NewA w2.heap.size (w6.setCell ⟨g, 1, none⟩ (.bool true)) b → ¬ (fun b => b = g4) b) := shut (fun b hb q => by have q' : b = g4 := q; have := hb.1; have := H44.out; omega)
        clear hG KX B4 B5 hK2 hmk HTYL HL
        go_upto_region 10 with fail
        any_goals try (rename_i hfz; simp [f1] at hfz; done)
        clear c1 f1
        generalize w6.setCell ⟨g, 1, none⟩ (.bool true) = w7 at *
        have hG := hG2
        have KX := KX2
        have B4 := B42
        have B5 := B52
        clear hG2 KX2 B42 B52
        go_upto_region 12 with fail
        clear c2
        obtain ⟨y1, y2⟩ := tblk_mid B5 (n := 4) rfl
        have y3 := rowOk_blk B4 (n := 4) rfl
        have agf : aggOk 4 (.agg #[.int .i64 5, .string ⟨#[]⟩, .slice aL L.length cL, .slice none 0 0]) = true := by simp [aggOk, Value.oneCell']
        obtain ⟨WF, hWF⟩ : ∃ W, W = World.setRow w7 g4 #[.int .i64 5, .string ⟨#[]⟩, .slice aL L.length cL, .slice none 0 0] := ⟨_, rfl⟩
        have K2 : Keeps (fun b => b = g4) w7 WF := by rw [hWF]; exact (Keeps.refl (fun b => b = g4) w7).setRow (g := g4) (fun _ => rfl) _
        have BF : Blk WF g4 #[.int .i64 5, .string ⟨#[]⟩, .slice aL L.length cL, .slice none 0 0] 53 := by rw [hWF]; exact blk_setRow B4
        have HF : Shut (GTy w g p ao cap bs st deep (.returned (.agg #[.int .i64 5, .string ⟨#[]⟩, .slice aL L.length cL, .slice none 0 0])) WF) := shut ⟨.mk 5 [] L [], [.int .i64 5, .string ⟨#[]⟩, .slice aL L.length cL, .slice none 0 0], none, rfl, HTY.out.keeps K2 HT4.out (fun b hb => ⟨Nat.le_trans HW4.out hb.1, Nat.lt_of_lt_of_le hb.2 K2.size⟩), hG.box B4 (not_gT (by decide) (by decide) (by decide)) K2, KX.trans K2 (fun b hb hlt => by have hb' : b = g4 := hb; have := HN4.out; omega), HALL.out⟩
        clear K2 HTY HALL hG KX HT4
        go_wp2_with fail
        rw [← hWF]
        refine bodyPost_ret (v := .agg #[.int .i64 5, .string ⟨#[]⟩, .slice aL L.length cL, .slice none 0 0]) (results_cell_row rfl _ _ g4 _ _ (0, 0) _ rfl BF Tryz.underlying53 rfl (by rw [infoTy]; rfl)) rfl ?_
        exact HF.out
      · have m64 : ¬ 64 < deep := by omega
        obtain ⟨hG2, hK2⟩ := hmk.out false rfl
        have KX2 := KX.trans hK2 (fun _ h _ => h)
        have B42 := hK2.blk B4 hn4
        have B52 := hK2.blk B5 hn5
        have HTY6 := shut (HL.out.keeps hK2 (fun b hb q => by have h1 := hb.1; have h2 := HW4.out; rcases q with q | q <;> omega) (fun b hb => ⟨hb.1, Nat.lt_of_lt_of_le hb.2 hK2.size⟩) (fun _ _ _ h => h) : SlIs (NewA w2.heap.size (w6.setCell ⟨g, 1, none⟩ (.bool false))) (w6.setCell ⟨g, 1, none⟩ (.bool false)) 1 TxIs aL L)
        have c2 := blk_cell hG2.blk 1 rfl
        have KW27 : w2.heap.size ≤ (w6.setCell ⟨g, 1, none⟩ (.bool false)).heap.size := by have := HW26.out; rw [World.size_setCell]; omega
        clear hG KX B4 B5 hK2 hmk HTYL HL
        go_upto_region 10 with fail
        any_goals try (rename_i hfz; simp [f1] at hfz; done)
        clear c1 f1
        generalize w6.setCell ⟨g, 1, none⟩ (.bool false) = w7 at *
        have hG := hG2
        have KX := KX2
        have B4 := B42
        have B5 := B52
        clear hG2 KX2 B42 B52
        have hn0 : n ≠ 0 := by omega
        have wd : IntKind.i64.wrap (deep + 1) = deep + 1 := by rw [IntKind.wrap_i64]; omega
        have HW7 : Shut (w.heap.size ≤ w7.heap.size) := shut KX.size
        have HW27 : Shut (w2.heap.size ≤ w7.heap.size) := shut KW27
        have H47 := shut (lt_of_block B4)
        have H57 := shut (lt_of_block B5)
        have hgp7 := hG.lt
        go_upto_region 11 with fail
        clear c2
        have hc := HIH.out (deep + 1) (by omega) hn0 (by omega) hG hl
        go_wp2_with fail
        refine hc.mono ?_
        rintro e w8 ⟨z, cs, st5, rfl, hTz, hG2, hK2, hgot⟩
        have HGOTw8 := shut hgot
        have KX2 := KX.trans hK2 (fun _ h _ => h)
        have B42 := hK2.blk B4 hn4
        have B52 := hK2.blk B5 hn5
        clear hc KX hG hgot B4 B5
        have KX := KX2
        have hG := hG2
        have B4 := B42
        have B5 := B52
        clear KX2 hG2 B42 B52
        have lz := hTz.len
        have agz := agg_ok lz hTz.one
        have HTX := shut (HTY6.out.keeps hK2 (fun b hb q => by have h1 := hb.1; have h2 := HW4.out; rcases q with q | q <;> omega) (fun b hb => ⟨hb.1, Nat.lt_of_lt_of_le hb.2 hK2.size⟩) (fun _ _ _ h => h) : SlIs (NewA w2.heap.size w8) w8 1 TxIs aL L)
        obtain ⟨Cz, hCz⟩ : ∃ C, C = cs.toArray := ⟨_, rfl⟩
        have hsz : Cz.size = 4 := by rw [hCz]; simpa using lz
        rw [← hCz] at agz ⊢
        have GCz := shut hCz
        have HTZ := shut hTz
        have e1 := blk_cell B5 3 (v := .slice none 0 0) rfl
        have f1 := blk_free B5 3
        have B52 : Blk (w8.setCell ⟨g5, 3, none⟩ (.slice (some ⟨w8.heap.size, 0, none⟩) 1 1)) g5 #[.int .i64 5, .string ⟨#[]⟩, .slice aL L.length cL, .slice (some ⟨w8.heap.size, 0, none⟩) 1 1] 53 := blk_set B5 3 (.slice (some ⟨w8.heap.size, 0, none⟩) 1 1)
        have ks : Keeps (fun b => b = g5) w8 (w8.setCell ⟨g5, 3, none⟩ (.slice (some ⟨w8.heap.size, 0, none⟩) 1 1)) := (Keeps.refl (fun b => b = g5) w8).setCell (p := ⟨g5, 3, none⟩) (fun _ => rfl) _
        have h58 := lt_of_block B5
        have h48 := lt_of_block B4
        have hsc : (w8.setCell ⟨g5, 3, none⟩ (.slice (some ⟨w8.heap.size, 0, none⟩) 1 1)).heap.size = w8.heap.size := World.size_setCell _ _ _
        have BE := blk_new (w8.setCell ⟨g5, 3, none⟩ (.slice (some ⟨w8.heap.size, 0, none⟩) 1 1)) Cz 53
        rw [hsc] at BE
        have kz2 : Keeps (fun b => b = g5) w8 ((w8.setCell ⟨g5, 3, none⟩ (.slice (some ⟨w8.heap.size, 0, none⟩) 1 1)).alloc (.cells Cz 53)) := ks.alloc _
        have B4n := kz2.blk B4 (fun q => by have q' : g4 = g5 := q; omega)
        have B5n := blk_alloc B52 (.cells Cz 53)
        have hGn := hG.box B5 (not_gT (by decide) (by decide) (by decide)) kz2
        have KXn := KX.trans kz2 (fun b hb hlt => by have hb' : b = g5 := hb; have := hw1.out; omega)
        have h78 : Shut (w7.heap.size ≤ w8.heap.size) := shut hK2.size
        have h26 : Shut (w2.heap.size ≤ w7.heap.size) := HW27
        clear hG KX B4 B5 hTz hCz hsc ks B52 hK2 HTY6
        go_upto_region 12 with fail
        any_goals try (rename_i hfz; simp [f1] at hfz; done)
        rw [fillN (n := 4) rfl hsz]
        clear e1 f1 agz
        have HTX9 := shut (HTX.out.keeps kz2 (fun b hb q => by have q' : b = g5 := q; have := hb.1; have := H54.out; omega) (fun b hb => ⟨hb.1, Nat.lt_of_lt_of_le hb.2 kz2.size⟩) (fun _ _ _ h => h) : SlIs (NewA w2.heap.size ((w8.setCell ⟨g5, 3, none⟩ (.slice (some ⟨w8.heap.size, 0, none⟩) 1 1)).alloc (.cells Cz 53))) ((w8.setCell ⟨g5, 3, none⟩ (.slice (some ⟨w8.heap.size, 0, none⟩) 1 1)).alloc (.cells Cz 53)) 1 TxIs aL L)
        have HTZ9 := shut (HTZ.out.keeps kz2 (fun b hb q => by have q' : b = g5 := q; have := hb.1; have := H57.out; omega) (fun b hb => ⟨by have := hb.1; have := h26.out; omega, Nat.lt_of_lt_of_le hb.2 kz2.size⟩) : TyIs (NewA w2.heap.size ((w8.setCell ⟨g5, 3, none⟩ (.slice (some ⟨w8.heap.size, 0, none⟩) 1 1)).alloc (.cells Cz 53))) ((w8.setCell ⟨g5, 3, none⟩ (.slice (some ⟨w8.heap.size, 0, none⟩) 1 1)).alloc (.cells Cz 53)) z cs)
        have hgE : w8.heap.size < ((w8.setCell ⟨g5, 3, none⟩ (.slice (some ⟨w8.heap.size, 0, none⟩) 1 1)).alloc (.cells Cz 53)).heap.size := lt_of_block BE
        clear HTX HTZ kz2
        obtain ⟨gE, hgE2⟩ : ∃ g, w8.heap.size = g := ⟨_, rfl⟩
        rw [hgE2] at BE B5n hgE h78 h58 h48 ⊢
        rw [hgE2] at HTX9 HTZ9 hGn KXn B4n
        clear hgE2
        generalize (w8.setCell ⟨g5, 3, none⟩ (.slice (some ⟨gE, 0, none⟩) 1 1)).alloc (.cells Cz 53) = w9 at *
        have hG := hGn
        have KX := KXn
        have B4 := B4n
        have B5 := B5n
        clear hGn KXn B4n B5n
        have HTY : Shut (TyIs (NewA w2.heap.size w9) w9 (.mk 5 [] L [z]) [.int .i64 5, .string ⟨#[]⟩, .slice aL L.length cL, .slice (some ⟨gE, 0, none⟩) 1 1]) := shut (by
          rw [tyIs_iff]
          exact ⟨aL, cL, some ⟨gE, 0, none⟩, 1, rfl, Nat.zero_le _, HTX9.out, slIs_one GCz.out lz BE ⟨by have := h78.out; have := h26.out; omega, hgE⟩ HTZ9.out⟩)
        have HALL : Shut (∀ t, (TyP t deep ∨ t = .mk 0 [] [] []) → Got bs st (encT t) (TyD.mk 5 [] L [z] = t) st5) := shut (fun t ht => by
          obtain ⟨k, nm', lv, el⟩ := t
          rw [encT_mk]
          have hk5 : 0 ≤ k ∧ k ≤ 5 := by
            rcases ht with ht | ht
            · unfold TyP at ht
              omega
            · simp only [TyD.mk.injEq] at ht
              omega
          refine got_kind HGOTw1.out hk5.1 hk5.2 (fun q => ?_)
          rcases ht with ht | ht
          · unfold TyP at ht
            rcases ht.2 with h1 | ⟨h0, rfl, h1, h2, h3⟩ | h1
            · omega
            · rw [if_neg (by omega), if_pos h0]
              match el, h3 with
              | t :: r, h3 =>
                unfold TysP at h3
                obtain ⟨rfl, h3⟩ := h3
                rw [encT1_cons]
                exact (HGOTw5.out lv (fun s hs => by have := life_len (h2.1 s hs); omega) (by omega)).app (fun _ => HGOTw8.out t (.inl h3)) (fun p1 q2 => by have hk9 : k = 5 := (by omega); rw [p1, q2, hk9])
              | [], h3 => unfold TysP at h3; exact h3.elim
            · omega
          · simp only [TyD.mk.injEq] at ht
            omega)
        have HT4 : Shut (∀ b, NewA w2.heap.size w9 b → ¬ (fun b => b = g4) b) := shut (fun b hb q => by have q' : b = g4 := q; have := hb.1; have := H44.out; omega)
        clear HTX9 HTZ9
        obtain ⟨y1, y2⟩ := tblk_mid B5 (n := 4) rfl
        have y3 := rowOk_blk B4 (n := 4) rfl
        have agf : aggOk 4 (.agg #[.int .i64 5, .string ⟨#[]⟩, .slice aL L.length cL, .slice (some ⟨gE, 0, none⟩) 1 1]) = true := by simp [aggOk, Value.oneCell']
        obtain ⟨WF, hWF⟩ : ∃ W, W = World.setRow w9 g4 #[.int .i64 5, .string ⟨#[]⟩, .slice aL L.length cL, .slice (some ⟨gE, 0, none⟩) 1 1] := ⟨_, rfl⟩
        have K2 : Keeps (fun b => b = g4) w9 WF := by rw [hWF]; exact (Keeps.refl (fun b => b = g4) w9).setRow (g := g4) (fun _ => rfl) _
        have BF : Blk WF g4 #[.int .i64 5, .string ⟨#[]⟩, .slice aL L.length cL, .slice (some ⟨gE, 0, none⟩) 1 1] 53 := by rw [hWF]; exact blk_setRow B4
        have HF : Shut (GTy w g p ao cap bs st deep (.returned (.agg #[.int .i64 5, .string ⟨#[]⟩, .slice aL L.length cL, .slice (some ⟨gE, 0, none⟩) 1 1])) WF) := shut ⟨.mk 5 [] L [z], [.int .i64 5, .string ⟨#[]⟩, .slice aL L.length cL, .slice (some ⟨gE, 0, none⟩) 1 1], st5, rfl, HTY.out.keeps K2 HT4.out (fun b hb => ⟨Nat.le_trans HW4.out hb.1, Nat.lt_of_lt_of_le hb.2 K2.size⟩), hG.box B4 (not_gT (by decide) (by decide) (by decide)) K2, KX.trans K2 (fun b hb hlt => by have hb' : b = g4 := hb; have := HN4.out; omega), HALL.out⟩
        clear K2 HTY HALL hG KX HT4
        go_wp2_with fail
        rw [← hWF]
        refine bodyPost_ret (v := .agg #[.int .i64 5, .string ⟨#[]⟩, .slice aL L.length cL, .slice (some ⟨gE, 0, none⟩) 1 1]) (results_cell_row rfl _ _ g4 _ _ (0, 0) _ rfl BF Tryz.underlying53 rfl (by rw [infoTy]; rfl)) rfl ?_
        exact HF.out

theorem gkind_all : ∀ (n : Nat) (deep : Int) {w : World} {g p : Nat} {ao : Option Addr} {cap : Nat} {bs : List UInt8} {st : Option Nat}, deep + n = 65 → 1 ≤ deep → Gt w g p ao cap bs st → bs.length ≤ 1000000000 →
    Calls Tryz.prog 34 #[.pointer (some ⟨g, 0, none⟩), .int .i64 deep] w (GTy w g p ao cap bs st deep)
  | 0, deep, _, _, _, _, _, _, _, h1, h2, h3, h4 => gkind_of 0 (fun d {_ _ _ _ _ _ _} _ h => absurd rfl h) deep h1 h2 h3 h4
  | n + 1, deep, _, _, _, _, _, _, _, h1, h2, h3, h4 => gkind_of (n + 1) (fun d {_ _ _ _ _ _ _} a _ c e f => gkind_all n d (by omega) c e f) deep h1 h2 h3 h4
theorem gkind_any {w : World} {g p : Nat} {ao : Option Addr} {cap : Nat} {bs : List UInt8} {st : Option Nat} (h : Gt w g p ao cap bs st) (hl : bs.length ≤ 1000000000) : Calls Tryz.prog 34 #[.pointer (some ⟨g, 0, none⟩), .int .i64 1] w (GTy w g p ao cap bs st 1) := gkind_all 64 1 (by decide) (by decide) h hl

end Go.Proofs.YtjbcagbnagefcaaGreat

namespace Go.Proofs.YtjbcagbnagefcaaGreat
open Go.RowKit
attribute [local go_sem ↓] exec_mid_ty exec_store_ty exec_mid_pl exec_store_pl exec_mid_opr exec_store_opr exec_mid_val exec_store_val exec_mid_st exec_store_st exec_mid_fld exec_store_fld exec_mid_str exec_store_str exec_mid_lif exec_store_lif exec_mid_fun exec_store_fun exec_mid_cr exec_store_cr
attribute [local go_sem] rowOk_new World.setRow_alloc_new
attribute [local go_sem ↓] exec_into_pl exec_into_opr exec_into_ty exec_into_val

/-- A function as a sig shows it. -/
def HeadP (f : FunD) : Prop := f.pub = true ∧ f.pos = 0 ∧ f.body = [] ∧ FunP f
/-- What a function's reading leaves. -/
def GFun (w : World) (g p : Nat) (ao : Option Addr) (cap : Nat) (bs : List UInt8) (st : Option Nat) (e : Ending) (w' : World) : Prop :=
  ∃ (z : FunD) (cs : List Value) (st' : Option Nat), e = .returned (.agg cs.toArray) ∧ FunIs (NewA w.heap.size w') w' z cs ∧ Gt w' g p ao cap bs st' ∧ Keeps (GF g p) w w' ∧ ∀ f, HeadP f → Got bs st (encFun f) (z = f) st'
theorem got_mark {bs : List UInt8} {st st' : Option Nat} {z : Nat} (h : ∀ n, n ≤ 1 → Got bs st (encU n) (z = n) st') (m : Bool) : Got bs st [if m then 1 else 0] (decide ((z : Int) = 1) = m) st' := by
  cases m
  · have := h 0 (by omega)
    rw [encU_lt (by decide)] at this
    exact this.mono (fun q => by subst q; rfl)
  · have := h 1 (by omega)
    rw [encU_lt (by decide)] at this
    exact this.mono (fun q => by subst q; rfl)
set_option maxRecDepth 100000 in
set_option linter.unusedSimpArgs false in
set_option maxHeartbeats 8000000 in
theorem gfun_any {w : World} {g p : Nat} {ao : Option Addr} {cap : Nat} {bs : List UInt8} {st : Option Nat} (h : Gt w g p ao cap bs st) (hl : bs.length ≤ 1000000000) :
    Calls Tryz.prog 35 #[.pointer (some ⟨g, 0, none⟩)] w (GFun w g p ao cap bs st) := by
  have hlt := h.lt
  have hgw : g < w.heap.size := hlt.1
  have hpw : p < w.heap.size := hlt.2
  have hG := h
  have KR : Keeps (GF g p) w w := Keeps.refl _ _
  clear h hlt
  go_enter Tryz.func35, Tryz.ntmps35
  have ka : Keeps Nothing w (w.alloc (.cells #[.bool false, .string ⟨#[]⟩, .slice none 0 0, .slice none 0 0, .int .i64 0, .string ⟨#[]⟩, .slice none 0 0, .slice none 0 0, .slice none 0 0, .int .i64 0] 56)) := (Keeps.refl Nothing w).alloc _
  have B22 := blk_new w #[.bool false, .string ⟨#[]⟩, .slice none 0 0, .slice none 0 0, .int .i64 0, .string ⟨#[]⟩, .slice none 0 0, .slice none 0 0, .slice none 0 0, .int .i64 0] 56
  have KR2 := KR.trans ka (fun _ h _ => h.elim)
  have hG2 := hG.keepsN ka
  have HSZ2 : w.heap.size ≤ w.heap.size := KR.size
  have hgl := hG.lt
  go_upto_region 1 with fail
  obtain ⟨g2, hg2⟩ : ∃ q, w.heap.size = q := ⟨_, rfl⟩
  have hn2 : ¬ GF g p g2 := fun q => by rcases q with q | q <;> omega
  have HS2 : Shut (w.heap.size ≤ g2) := shut (by rw [← hg2]; exact HSZ2)
  rw [hg2] at B22
  try rw [hg2]
  clear KR hG ka hgl HSZ2 hg2 
  generalize (w.alloc (.cells #[.bool false, .string ⟨#[]⟩, .slice none 0 0, .slice none 0 0, .int .i64 0, .string ⟨#[]⟩, .slice none 0 0, .slice none 0 0, .slice none 0 0, .int .i64 0] 56)) = w0 at *
  have KR := KR2
  have hG := hG2
  have B2 := B22
  clear KR2 hG2 B22 
  have hc := gtext_any hG hl
  go_wp2_with fail
  refine hc.mono ?_
  rintro e w1 ⟨nm, s1, rfl, hnm, -, hG2, hK2, hgot⟩
  have HGOTw1 := shut hgot
  have KR2 := KR.trans hK2 (fun _ h _ => h)
  have B22 := hK2.blk B2 hn2
  clear hc KR hG hgot B2
  have KR := KR2
  have hG := hG2
  have B2 := B22
  clear KR2 hG2 B22
  have ka : Keeps Nothing w1 (w1.alloc (.cells #[.bool true, .string ⟨nm.toArray⟩, .slice none 0 0, .slice none 0 0, .int .i64 0, .string ⟨#[]⟩, .slice none 0 0, .slice none 0 0, .slice none 0 0, .int .i64 0] 56)) := (Keeps.refl Nothing w1).alloc _
  have B32 := blk_new w1 #[.bool true, .string ⟨nm.toArray⟩, .slice none 0 0, .slice none 0 0, .int .i64 0, .string ⟨#[]⟩, .slice none 0 0, .slice none 0 0, .slice none 0 0, .int .i64 0] 56
  have KR2 := KR.trans ka (fun _ h _ => h.elim)
  have hG2 := hG.keepsN ka
  have HSZ3 : w.heap.size ≤ w1.heap.size := KR.size
  have hgl := hG.lt
  have B22 := ka.blk B2 (fun h => h)
  go_upto_region 2 with fail
  obtain ⟨g3, hg3⟩ : ∃ q, w1.heap.size = q := ⟨_, rfl⟩
  have hn3 : ¬ GF g p g3 := fun q => by rcases q with q | q <;> omega
  have HS3 : Shut (w.heap.size ≤ g3) := shut (by rw [← hg3]; exact HSZ3)
  rw [hg3] at B32
  try rw [hg3]
  clear KR hG ka hgl HSZ3 hg3 B2
  generalize (w1.alloc (.cells #[.bool true, .string ⟨nm.toArray⟩, .slice none 0 0, .slice none 0 0, .int .i64 0, .string ⟨#[]⟩, .slice none 0 0, .slice none 0 0, .slice none 0 0, .int .i64 0] 56)) = w2 at *
  have KR := KR2
  have hG := hG2
  have B3 := B32
  have B2 := B22
  clear KR2 hG2 B32 B22
  have hc := gnum_any hG hl 64 (by omega)
  go_wp2_with fail
  refine hc.mono ?_
  rintro e w3 ⟨n1, s2, rfl, hn1, hG2, hK2, hgot⟩
  have HGOTw3 := shut hgot
  have KR2 := KR.trans hK2 (fun _ h _ => h)
  have B22 := hK2.blk B2 hn2
  have B32 := hK2.blk B3 hn3
  clear hc KR hG hgot B2 B3
  have KR := KR2
  have hG := hG2
  have B2 := B22
  have B3 := B32
  clear KR2 hG2 B22 B32
  have HNE : Shut (g2 ≠ g3) := shut (fun q => by subst q; have h1 := (show w3.heap[g2]? = some (.cells _ _ (0, 0)) from B2).symm.trans (show w3.heap[g2]? = some (.cells _ _ (0, 0)) from B3); simp at h1)
  have hZG : ∀ b, ¬ (b < w.heap.size ∨ b = g2 ∨ b = g3) → ¬ GF g p b := fun b hb q => hb (.inl (by rcases q with q | q <;> omega))
  have hNG : ∀ b, w.heap.size ≤ b → ¬ GF g p b := fun b hb q => by rcases q with q | q <;> omega
  have h23 : g2 ≠ g3 := fun q => by subst q; exact HNE.out rfl
  have H0 : Shut (∃ (L : List LifD) (aq : Option Addr) (cq : Nat), L.length = 0 ∧ Blk w3 g3 #[.bool true, .string ⟨nm.toArray⟩, .slice aq (0) cq, .slice none 0 0, .int .i64 0, .string ⟨#[]⟩, .slice none 0 0, .slice none 0 0, .slice none 0 0, .int .i64 0] 56 ∧ OutR (Zx (fun b => b < w.heap.size ∨ b = g2 ∨ b = g3)) 76 2 LifIs w.heap.size w3 aq cq L ∧ ∀ l : List LifD, (∀ x ∈ l, LifP x) → l.length = n1 → Got bs s2 ((l.take (0)).map encL).flatten (L = l.take (0)) s2) := shut ⟨[], none, 0, rfl, B3, outR_nil _ _ _ _ _ _, fun l _ _ => Got.nil rfl⟩
  have HG := shut hG
  have HKR := shut KR
  have HB2 := shut B2
  clear hG KR B2 B3
  go_wp2_with fail
  go_loopw [4, 11] (fun s4 s11 wx => ∃ (t : Nat) (sx : Option Nat), s11 = .int .i64 t ∧ t ≤ n1 ∧ Gt wx g p ao cap bs sx ∧ Keeps (GF g p) w wx ∧ Blk wx g2 #[.bool false, .string ⟨#[]⟩, .slice none 0 0, .slice none 0 0, .int .i64 0, .string ⟨#[]⟩, .slice none 0 0, .slice none 0 0, .slice none 0 0, .int .i64 0] 56 ∧ Shut (∃ (L : List LifD) (aq : Option Addr) (cq : Nat), L.length = t ∧ Blk wx g3 #[.bool true, .string ⟨nm.toArray⟩, .slice aq (t) cq, .slice none 0 0, .int .i64 0, .string ⟨#[]⟩, .slice none 0 0, .slice none 0 0, .slice none 0 0, .int .i64 0] 56 ∧ OutR (Zx (fun b => b < w.heap.size ∨ b = g2 ∨ b = g3)) 76 2 LifIs w.heap.size wx aq cq L ∧ ∀ l : List LifD, (∀ x ∈ l, LifP x) → l.length = n1 → Got bs s2 ((l.take (t)).map encL).flatten (L = l.take (t)) sx)) (fun _ s11 _ => n1 - (intOf s11).toNat)
  case atStart => exact ⟨0, s2, rfl, Nat.zero_le _, HG.out, HKR.out, HB2.out, H0⟩
  case round =>
    clear HG HKR HB2 H0
    obtain ⟨t, sx, rfl, ht, hG, KL, B2, HR⟩ := hrel
    obtain ⟨L, aL, cL, hLl, B3, HO, hgl⟩ := HR.out
    have HGL := shut hgl
    have HLL := shut hLl
    clear HR hgl hLl
    have HGOT0 := HGOTw3
    by_cases hltt : t < n1
    · skip
      have KR0 : Keeps (GF g p) wr wr := Keeps.refl _ _
      have hc := gtext_any hG hl
      go_wp2_with fail
      refine hc.mono ?_
      rintro e v1 ⟨lnm, sa, rfl, hlnm, -, hG2, hK2, hgot⟩
      have HGOTv1 := shut hgot
      have KR2 := KR0.trans hK2 (fun _ h _ => h)
      clear hc KR0 hG hgot 
      have KR := KR2
      have hG := hG2
      clear KR2 hG2 
      have ka : Keeps Nothing v1 (v1.alloc (.cells #[.string ⟨lnm.toArray⟩, .slice none 0 0] 76)) := (Keeps.refl Nothing v1).alloc _
      have B42 := blk_new v1 #[.string ⟨lnm.toArray⟩, .slice none 0 0] 76
      have KR2 := KR.trans ka (fun _ h _ => h.elim)
      have hG2 := hG.keepsN ka
      have HSZ4 : wr.heap.size ≤ v1.heap.size := KR.size
      have hgl := hG.lt
      go_upto_region 5 with fail
      obtain ⟨g4, hg4⟩ : ∃ q, v1.heap.size = q := ⟨_, rfl⟩
      have hn4 : ¬ GF g p g4 := fun q => by rcases q with q | q <;> omega
      have HS4 : Shut (wr.heap.size ≤ g4) := shut (by rw [← hg4]; exact HSZ4)
      rw [hg4] at B42
      try rw [hg4]
      clear KR hG ka hgl HSZ4 hg4 
      generalize (v1.alloc (.cells #[.string ⟨lnm.toArray⟩, .slice none 0 0] 76)) = v2 at *
      have KR := KR2
      have hG := hG2
      have B4 := B42
      clear KR2 hG2 B42 
      have hv2 : Shut (wr.heap.size ≤ v2.heap.size) := shut KR.size
      have h4l := shut (lt_of_block B4)
      have hc := gtexts_any hG hl
      go_wp2_with fail
      refine hc.mono ?_
      rintro e v3 ⟨Lo, aV, cV, sb, rfl, hLo, hG2, hK2, hgot⟩
      have HGOTv3 := shut hgot
      have KR2 := KR.trans hK2 (fun _ h _ => h)
      have B42 := hK2.blk B4 hn4
      clear hc KR hG hgot B4
      have KR := KR2
      have hG := hG2
      have B4 := B42
      clear KR2 hG2 B42
      have e1 := blk_cell B4 1 (v := .slice none 0 0) rfl
      have f1 := blk_free B4 1
      have ks : Keeps (fun b => b = g4) v3 (v3.setCell ⟨g4, 1, none⟩ (.slice aV Lo.length cV)) := (Keeps.refl (fun b => b = g4) v3).setCell (p := ⟨g4, 1, none⟩) (fun _ => rfl) _
      have B42 := (blk_set B4 1 (.slice aV Lo.length cV) : Blk (v3.setCell ⟨g4, 1, none⟩ (.slice aV Lo.length cV)) g4 #[.string ⟨lnm.toArray⟩, .slice aV Lo.length cV] 76)
      have KR2 := KR.trans ks (fun b hb hlt => by have hb' : b = g4 := hb; have := HS4.out; omega)
      have hG2 := hG.box B4 (not_gT (by decide) (by decide) (by decide)) ks
      have HLO := shut (txNewA (N := wr.heap.size) hLo hv2.out ks (fun b hb q => by have q2 : b = g4 := q; have := h4l.out; omega))
      clear hLo
      clear KR hG ks B4 
      go_upto_region 6 with fail
      any_goals try (rename_i hfz; simp [f1] at hfz; done)
      clear e1 f1
      generalize (v3.setCell ⟨g4, 1, none⟩ (.slice aV Lo.length cV)) = v4 at *
      have KR := KR2
      have hG := hG2
      have B4 := B42
      clear KR2 hG2 B42 
      have HEL0 : Shut (LifIs (NewA wr.heap.size v4) v4 ⟨lnm, Lo⟩ [.string ⟨lnm.toArray⟩, .slice aV Lo.length cV]) := shut ⟨aV, cV, rfl, by show lnm.length ≤ bigN; unfold bigN; omega, HLO.out⟩
      have h3r := lt_of_block B3
      have h2r := lt_of_block B2
      have hszw := KL.size
      clear HLO
      have B3w := KR.blk B3 hn3
      have HOw := HO.keeps (zx_ok _) lifOk KR (fun b hb => hZG b hb.2) (fun b hb => hNG b (HO.new b hb))
      have c30 := blk_cell B3w 2 (v := .slice aL t cL) rfl
      obtain ⟨Cz, hCz⟩ : ∃ C, C = ([.string ⟨lnm.toArray⟩, .slice aV Lo.length cV] : List Value).toArray := ⟨_, rfl⟩
      have hlz : ([.string ⟨lnm.toArray⟩, .slice aV Lo.length cV] : List Value).length = 2 := HEL0.out.len
      have hsz : Cz.size = 2 := by rw [hCz, List.size_toArray]; exact hlz
      have agz : aggOk 2 (.agg Cz) = true := by rw [hCz]; exact agg_ok hlz HEL0.out.one
      have B4c : Blk v4 g4 Cz 76 := by rw [hCz]; exact B4
      have GCz := shut hCz
      clear hCz
      obtain ⟨z1, z2⟩ := tblk_mid B4c hsz
      have BB := blk_new v4 Cz 76
      have kb : Keeps Nothing v4 (v4.alloc (.cells Cz 76)) := (Keeps.refl Nothing v4).alloc _
      have HO3 := shut (HOw.keepsN (zx_ok _) lifOk kb)
      have hszr := KR.size
      have hlao : ∀ q, blockOf aL = some q → q < wr.heap.size := fun q hq => HO.lt hq
      have HNEW := shut HO.new
      have hel : LifIs (InB (Zx (fun b => b < w.heap.size ∨ b = g2 ∨ b = g3)) (v4.alloc (.cells Cz 76)) aL) (v4.alloc (.cells Cz 76)) ⟨lnm, Lo⟩ ([.string ⟨lnm.toArray⟩, .slice aV Lo.length cV] : List Value) := lifOk.keep _ _ _ _ _ _ _ HEL0.out kb (fun _ _ h => h) (fun b hb => ⟨⟨Nat.lt_of_lt_of_le hb.2 kb.size, fun q => by have := hb.1; rcases q with q | q | q <;> omega⟩, fun q => by have := hlao b q; have := hb.1; omega⟩)
      have HEL := shut hel
      have hGb := hG.keepsN kb
      have KRb := KR.trans kb (fun _ h _ => h.elim)
      have B3x := kb.blk B3w (fun h => h)
      have HBB := shut BB
      have hlt4 : w.heap.size ≤ (v4.alloc (.cells Cz 76)).heap.size := Nat.le_trans KL.size KRb.size
      clear hel BB HO HOw hG KR kb B3 B3w B4 HEL0
      go_wp2_with (at_builtin; rw [fillN (n := 2) rfl hsz]; refine wpList_appD _ rfl (.tmp 20) (.tmp 22) 50 rfl Tryz.underlying50 iaLif (by decide) (zx_ok _) lifOk t HLL.out rfl HO3.out hlt4 _ _ ([.string ⟨lnm.toArray⟩, .slice aV Lo.length cV]) ⟨lnm, Lo⟩ GCz.out rfl HBB.out HEL.out (by omega) ?_)
      intro a4 c4 w9 O4 k4 m4
      have hg3n : ¬ blockOf aL = some g3 := HO3.out.ne B3x (by decide)
      have B3y := k4.blk B3x hg3n
      have c3y := blk_cell B3y 2 (v := .slice aL t cL) rfl
      have f3y := blk_free B3y 2
      have k5 : Keeps (fun b => b = g3) w9 (w9.setCell ⟨g3, 2, none⟩ (.slice a4 (t + 1) c4)) := (Keeps.refl (fun b => b = g3) w9).setCell (p := ⟨g3, 2, none⟩) (fun _ => rfl) _
      have B3z : Blk (w9.setCell ⟨g3, 2, none⟩ (.slice a4 (t + 1) c4)) g3 #[.bool true, .string ⟨nm.toArray⟩, .slice a4 (t + 1) c4, .slice none 0 0, .int .i64 0, .string ⟨#[]⟩, .slice none 0 0, .slice none 0 0, .slice none 0 0, .int .i64 0] 56 := blk_set B3y 2 (.slice a4 (t + 1) c4)
      have O5 := O4.keeps (zx_ok _) lifOk k5 (fun b hb q => hb.2 (.inr (.inr q))) (fun q hq hq2 => by have hq' : q = g3 := hq2; subst hq'; exact O4.ne B3y (by decide) hq)
      have hG5 := (hGb.keeps k4 (fun i C ty hb ht q => HO3.out.ne hb (by rcases ht with rfl | rfl | rfl <;> decide) q)).box B3y (not_gT (by decide) (by decide) (by decide)) k5
      have KL4 : Keeps (GF g p) w (w9.setCell ⟨g3, 2, none⟩ (.slice a4 (t + 1) c4)) := ((KL.trans KRb (fun _ h _ => h)).trans k4 (fun q hq hlt => by have := HNEW.out q hq; omega)).trans k5 (fun q hq hlt => by have hq' : q = g3 := hq; have := HS3.out; omega)
      have B2y : Blk (w9.setCell ⟨g3, 2, none⟩ (.slice a4 (t + 1) c4)) g2 #[.bool false, .string ⟨#[]⟩, .slice none 0 0, .slice none 0 0, .int .i64 0, .string ⟨#[]⟩, .slice none 0 0, .slice none 0 0, .slice none 0 0, .int .i64 0] 56 := k5.blk (k4.blk (KRb.blk B2 hn2) (HO3.out.ne (KRb.blk B2 hn2) (by decide))) (fun q => HNE.out q)
      have HF : Shut (∃ (L : List LifD) (aq : Option Addr) (cq : Nat), L.length = t + 1 ∧ Blk (w9.setCell ⟨g3, 2, none⟩ (.slice a4 (t + 1) c4)) g3 #[.bool true, .string ⟨nm.toArray⟩, .slice aq (t + 1) cq, .slice none 0 0, .int .i64 0, .string ⟨#[]⟩, .slice none 0 0, .slice none 0 0, .slice none 0 0, .int .i64 0] 56 ∧ OutR (Zx (fun b => b < w.heap.size ∨ b = g2 ∨ b = g3)) 76 2 LifIs w.heap.size (w9.setCell ⟨g3, 2, none⟩ (.slice a4 (t + 1) c4)) aq cq L ∧ ∀ l : List LifD, (∀ x ∈ l, LifP x) → l.length = n1 → Got bs s2 ((l.take (t + 1)).map encL).flatten (L = l.take (t + 1)) sb) := shut ⟨L ++ [⟨lnm, Lo⟩], a4, c4, by rw [List.length_append, HLL.out]; rfl, B3z, O5, fun l hl hln => by
        obtain ⟨a, ha⟩ : ∃ a, l[t]? = some a := ⟨_, List.getElem?_eq_getElem (by omega)⟩
        have hap := hl a (List.mem_of_getElem? ha)
        rw [flat_take ha]
        refine Got.app (Q := (⟨lnm, Lo⟩ : LifD) = a) (HGL.out l hl hln) (fun _ => ?_) (fun p1 p2 => by rw [List.take_add_one, ha, p1, p2]; rfl)
        obtain ⟨anm, aov⟩ := a
        unfold encL
        exact (HGOTv1.out anm (by have := life_len hap.1; simp only at this; omega)).app (fun _ => HGOTv3.out aov (fun s hs => by have := life_len (hap.2.1 s hs); omega) hap.2.2) (fun p1 p2 => by rw [p1, p2])⟩
      clear O4 O5 k4 m4 k5 hGb KRb KL HO3 HEL HBB HNEW B3z B2
      go_wp2_with fail
      any_goals try (rename_i hfz; simp [f3y] at hfz; done)
      go_roundw
      case rel => exact ⟨t + 1, sb, by go_num, by omega, hG5, KL4, B2y, HF⟩
      case measure => (simp [intOf]; try omega)
    · obtain rfl : t = n1 := by omega
      obtain ⟨n1, rfl⟩ : ∃ n, n = t := ⟨_, rfl⟩
      have m1 : ¬ (n1 : Int) < n1 := by omega
      obtain ⟨wS, rfl⟩ : ∃ wS, wS = wr := ⟨_, rfl⟩
      have HOS := shut HO
      have HB2S := shut B2
      have HB3S := shut B3
      have HL0 := HLL
      have HGL0 := HGL
      have HWS : Shut (w.heap.size ≤ wS.heap.size) := shut KL.size
      have h2S := lt_of_block B2
      have h3S := lt_of_block B3
      have hG' := hG
      have KR : Keeps (GF g p) wS wS := Keeps.refl _ _
      have KWS := shut KL
      clear HO KL
      have hc := gnum_any hG hl 64 (by omega)
      go_wp2_with fail
      refine hc.mono ?_
      rintro e u1 ⟨n2, s4, rfl, hn2', hG2, hK2, hgot⟩
      have HGOTu1 := shut hgot
      have KR2 := KR.trans hK2 (fun _ h _ => h)
      have B22 := hK2.blk B2 hn2
      have B32 := hK2.blk B3 hn3
      clear hc KR hG hgot B2 B3
      have KR := KR2
      have hG := hG2
      have B2 := B22
      have B3 := B32
      clear KR2 hG2 B22 B32
      have hZG : ∀ b, ¬ (b < wS.heap.size ∨ b = g2 ∨ b = g3) → ¬ GF g p b := fun b hb q => hb (.inl (by have := HWS.out; rcases q with q | q <;> omega))
      have hNG : ∀ b, wS.heap.size ≤ b → ¬ GF g p b := fun b hb q => by have := HWS.out; rcases q with q | q <;> omega
      have H0 : Shut (∃ (L2 : List FldD) (aq : Option Addr) (cq : Nat), L2.length = 0 ∧ Blk u1 g3 #[.bool true, .string ⟨nm.toArray⟩, .slice aL n1 cL, .slice aq (0) cq, .int .i64 0, .string ⟨#[]⟩, .slice none 0 0, .slice none 0 0, .slice none 0 0, .int .i64 0] 56 ∧ OutR (Zx (fun b => b < wS.heap.size ∨ b = g2 ∨ b = g3)) 73 6 FldIs wS.heap.size u1 aq cq L2 ∧ ∀ l : List FldD, (∀ x ∈ l, FldP true x) → l.length = n2 → Got bs s4 ((l.take (0)).map encPar).flatten (L2 = l.take (0)) s4) := shut ⟨[], none, 0, rfl, B3, outR_nil _ _ _ _ _ _, fun l _ _ => Got.nil rfl⟩
      have HG := shut hG
      have HKR := shut (KR.mono (S' := fun b => GF g p b ∨ b = g3) (fun _ h _ => .inl h))
      have HB2 := shut B2
      clear hG KR B2 B3 hG'
      go_wp2_with fail
      go_loopw [5, 28] (fun s5 s28 wx => ∃ (t : Nat) (sx : Option Nat), s28 = .int .i64 t ∧ t ≤ n2 ∧ Gt wx g p ao cap bs sx ∧ Keeps (fun b => GF g p b ∨ b = g3) wS wx ∧ Blk wx g2 #[.bool false, .string ⟨#[]⟩, .slice none 0 0, .slice none 0 0, .int .i64 0, .string ⟨#[]⟩, .slice none 0 0, .slice none 0 0, .slice none 0 0, .int .i64 0] 56 ∧ Shut (∃ (L2 : List FldD) (aq : Option Addr) (cq : Nat), L2.length = t ∧ Blk wx g3 #[.bool true, .string ⟨nm.toArray⟩, .slice aL n1 cL, .slice aq (t) cq, .int .i64 0, .string ⟨#[]⟩, .slice none 0 0, .slice none 0 0, .slice none 0 0, .int .i64 0] 56 ∧ OutR (Zx (fun b => b < wS.heap.size ∨ b = g2 ∨ b = g3)) 73 6 FldIs wS.heap.size wx aq cq L2 ∧ ∀ l : List FldD, (∀ x ∈ l, FldP true x) → l.length = n2 → Got bs s4 ((l.take (t)).map encPar).flatten (L2 = l.take (t)) sx)) (fun _ s28 _ => n2 - (intOf s28).toNat)
      case atStart => exact ⟨0, s4, rfl, Nat.zero_le _, HG.out, HKR.out, HB2.out, H0⟩
      case round =>
        clear HG HKR HB2 H0
        obtain ⟨t, sy, rfl, ht, hG, KL, B2, HR⟩ := hrel
        obtain ⟨L2, aM, cM, hLl, B3, HO, hgl⟩ := HR.out
        have HGM := shut hgl
        have HL1 := HLL
        clear HLL
        have HLL := shut hLl
        clear HR hgl hLl
        by_cases hltt : t < n2
        · skip
          have KR0 : Keeps (GF g p) wr wr := Keeps.refl _ _
          have hc := gnum_any hG hl 1 (by omega)
          go_wp2_with fail
          refine hc.mono ?_
          rintro e v1 ⟨mu, sa, rfl, hmu, hG2, hK2, hgot⟩
          have HGOTv1 := shut hgot
          have KR2 := KR0.trans hK2 (fun _ h _ => h)
          clear hc KR0 hG hgot 
          have KR := KR2
          have hG := hG2
          clear KR2 hG2 
          obtain ⟨mb, hmb⟩ : ∃ b, decide ((mu : Int) = 1) = b := ⟨_, rfl⟩
          have hmb2 : ((mu : Int) == 1) = mb := by rw [← hmb]; rfl
          have HMB := shut hmb
          clear hmb
          have ka : Keeps Nothing v1 (v1.alloc (.cells #[.bool mb, .string ⟨#[]⟩, .int .i64 0, .string ⟨#[]⟩, .slice none 0 0, .slice none 0 0] 73)) := (Keeps.refl Nothing v1).alloc _
          have B52 := blk_new v1 #[.bool mb, .string ⟨#[]⟩, .int .i64 0, .string ⟨#[]⟩, .slice none 0 0, .slice none 0 0] 73
          have KR2 := KR.trans ka (fun _ h _ => h.elim)
          have hG2 := hG.keepsN ka
          have HSZ5 : wr.heap.size ≤ v1.heap.size := KR.size
          have hgl := hG.lt
          go_upto_region 11 with fail
          obtain ⟨g5, hg5⟩ : ∃ q, v1.heap.size = q := ⟨_, rfl⟩
          have hn5 : ¬ GF g p g5 := fun q => by rcases q with q | q <;> omega
          have HS5 : Shut (wr.heap.size ≤ g5) := shut (by rw [← hg5]; exact HSZ5)
          rw [hg5] at B52
          try rw [hg5]
          clear KR hG ka hgl HSZ5 hg5 
          generalize (v1.alloc (.cells #[.bool mb, .string ⟨#[]⟩, .int .i64 0, .string ⟨#[]⟩, .slice none 0 0, .slice none 0 0] 73)) = v2 at *
          have KR := KR2
          have hG := hG2
          have B5 := B52
          clear KR2 hG2 B52 
          clear hmb2
          have hc := gtext_any hG hl
          go_wp2_with fail
          refine hc.mono ?_
          rintro e v3 ⟨pnm, sb, rfl, hpnm, -, hG2, hK2, hgot⟩
          have HGOTv3 := shut hgot
          have KR2 := KR.trans hK2 (fun _ h _ => h)
          have B52 := hK2.blk B5 hn5
          clear hc KR hG hgot B5
          have KR := KR2
          have hG := hG2
          have B5 := B52
          clear KR2 hG2 B52
          have e1 := blk_cell B5 1 (v := .string ⟨#[]⟩) rfl
          have f1 := blk_free B5 1
          have ks : Keeps (fun b => b = g5) v3 (v3.setCell ⟨g5, 1, none⟩ (.string ⟨pnm.toArray⟩)) := (Keeps.refl (fun b => b = g5) v3).setCell (p := ⟨g5, 1, none⟩) (fun _ => rfl) _
          have B52 := (blk_set B5 1 (.string ⟨pnm.toArray⟩) : Blk (v3.setCell ⟨g5, 1, none⟩ (.string ⟨pnm.toArray⟩)) g5 #[.bool mb, .string ⟨pnm.toArray⟩, .int .i64 0, .string ⟨#[]⟩, .slice none 0 0, .slice none 0 0] 73)
          have KR2 := KR.trans ks (fun b hb hlt => by have hb' : b = g5 := hb; have := HS5.out; omega)
          have hG2 := hG.box B5 (not_gT (by decide) (by decide) (by decide)) ks
          clear KR hG ks B5 
          go_upto_region 12 with fail
          any_goals try (rename_i hfz; simp [f1] at hfz; done)
          clear e1 f1
          generalize (v3.setCell ⟨g5, 1, none⟩ (.string ⟨pnm.toArray⟩)) = v4 at *
          have KR := KR2
          have hG := hG2
          have B5 := B52
          clear KR2 hG2 B52 
          have hv4 : Shut (wr.heap.size ≤ v4.heap.size) := shut KR.size
          have h5l := shut (lt_of_block B5)
          have hc := gkind_any hG hl
          go_wp2_with fail
          refine hc.mono ?_
          rintro e v5 ⟨zt, ct, sc, rfl, hzt, hG2, hK2, hgot⟩
          have HGOTv5 := shut hgot
          have KR2 := KR.trans hK2 (fun _ h _ => h)
          have B52 := hK2.blk B5 hn5
          clear hc KR hG hgot B5
          have KR := KR2
          have hG := hG2
          have B5 := B52
          clear KR2 hG2 B52
          have lct := hzt.len
          have agn := agg_ok lct hzt.one
          have e1 := midFit_blk B5 (o := 2) (n := 4) (by simp)
          have ks : Keeps (fun b => b = g5) v5 (midSet v5 g5 2 ct.toArray) := midSet_keeps (Keeps.refl (fun b => b = g5) v5) (g := g5) (fun _ => rfl) _ _
          have B52 := (box_mid (pre := ([.bool mb, .string ⟨pnm.toArray⟩] : List Value)) (mid := ([.int .i64 0, .string ⟨#[]⟩, .slice none 0 0, .slice none 0 0] : List Value)) (post := ([] : List Value)) (new := ct) (o := 2) B5 (by rfl) rfl (by rw [lct]; rfl) : Blk (midSet v5 g5 2 ct.toArray) g5 ((([.bool mb, .string ⟨pnm.toArray⟩] : List Value)) ++ (ct ++ (([] : List Value)))).toArray 73)
          have KR2 := KR.trans ks (fun b hb hlt => by have hb' : b = g5 := hb; have := HS5.out; omega)
          have hG2 := hG.box B5 (not_gT (by decide) (by decide) (by decide)) ks
          have HZT := shut (tyNewA (N := wr.heap.size) hzt hv4.out ks (fun b hb q => by have q2 : b = g5 := q; have := h5l.out; omega))
          clear hzt
          clear KR hG ks B5 
          go_upto_region 13 with fail
          clear e1
          generalize (midSet v5 g5 2 ct.toArray) = v6 at *
          have KR := KR2
          have hG := hG2
          have B5 := B52
          clear KR2 hG2 B52 
          clear agn
          rw [List.append_nil] at B5
          have HEL0 : Shut (FldIs (NewA wr.heap.size v6) v6 ⟨mb, pnm, zt⟩ (([.bool mb, .string ⟨pnm.toArray⟩] : List Value) ++ ct)) := shut ⟨ct, rfl, by show pnm.length ≤ bigN; unfold bigN; omega, HZT.out⟩
          have h3r := lt_of_block B3
          have h2r := lt_of_block B2
          have hszw := KL.size
          clear HZT
          have B3w := KR.blk B3 hn3
          have HOw := HO.keeps (zx_ok _) fldOk KR (fun b hb => hZG b hb.2) (fun b hb => hNG b (HO.new b hb))
          have c30 := blk_cell B3w 3 (v := .slice aM t cM) rfl
          obtain ⟨Cz, hCz⟩ : ∃ C, C = (([.bool mb, .string ⟨pnm.toArray⟩] : List Value) ++ ct : List Value).toArray := ⟨_, rfl⟩
          have hlz : (([.bool mb, .string ⟨pnm.toArray⟩] : List Value) ++ ct : List Value).length = 6 := HEL0.out.len
          have hsz : Cz.size = 6 := by rw [hCz, List.size_toArray]; exact hlz
          have agz : aggOk 6 (.agg Cz) = true := by rw [hCz]; exact agg_ok hlz HEL0.out.one
          have B5c : Blk v6 g5 Cz 73 := by rw [hCz]; exact B5
          have GCz := shut hCz
          clear hCz
          obtain ⟨z1, z2⟩ := tblk_mid B5c hsz
          have BB := blk_new v6 Cz 73
          have kb : Keeps Nothing v6 (v6.alloc (.cells Cz 73)) := (Keeps.refl Nothing v6).alloc _
          have HO3 := shut (HOw.keepsN (zx_ok _) fldOk kb)
          have hszr := KR.size
          have hlao : ∀ q, blockOf aM = some q → q < wr.heap.size := fun q hq => HO.lt hq
          have HNEW := shut HO.new
          have hel : FldIs (InB (Zx (fun b => b < wS.heap.size ∨ b = g2 ∨ b = g3)) (v6.alloc (.cells Cz 73)) aM) (v6.alloc (.cells Cz 73)) ⟨mb, pnm, zt⟩ (([.bool mb, .string ⟨pnm.toArray⟩] : List Value) ++ ct : List Value) := fldOk.keep _ _ _ _ _ _ _ HEL0.out kb (fun _ _ h => h) (fun b hb => ⟨⟨Nat.lt_of_lt_of_le hb.2 kb.size, fun q => by have := hb.1; rcases q with q | q | q <;> omega⟩, fun q => by have := hlao b q; have := hb.1; omega⟩)
          have HEL := shut hel
          have hGb := hG.keepsN kb
          have KRb := KR.trans kb (fun _ h _ => h.elim)
          have B3x := kb.blk B3w (fun h => h)
          have HBB := shut BB
          have hlt4 : wS.heap.size ≤ (v6.alloc (.cells Cz 73)).heap.size := Nat.le_trans KL.size KRb.size
          clear hel BB HO HOw hG KR kb B3 B3w B5 HEL0
          go_wp2_with (at_builtin; rw [fillN (n := 6) rfl hsz]; refine wpList_appD _ rfl (.tmp 41) (.tmp 43) 47 rfl Tryz.underlying47 iaFld (by decide) (zx_ok _) fldOk t HLL.out rfl HO3.out hlt4 _ _ (([.bool mb, .string ⟨pnm.toArray⟩] : List Value) ++ ct) ⟨mb, pnm, zt⟩ GCz.out rfl HBB.out HEL.out (by omega) ?_)
          intro a4 c4 w9 O4 k4 m4
          have hg3n : ¬ blockOf aM = some g3 := HO3.out.ne B3x (by decide)
          have B3y := k4.blk B3x hg3n
          have c3y := blk_cell B3y 3 (v := .slice aM t cM) rfl
          have f3y := blk_free B3y 3
          have k5 : Keeps (fun b => b = g3) w9 (w9.setCell ⟨g3, 3, none⟩ (.slice a4 (t + 1) c4)) := (Keeps.refl (fun b => b = g3) w9).setCell (p := ⟨g3, 3, none⟩) (fun _ => rfl) _
          have B3z : Blk (w9.setCell ⟨g3, 3, none⟩ (.slice a4 (t + 1) c4)) g3 #[.bool true, .string ⟨nm.toArray⟩, .slice aL n1 cL, .slice a4 (t + 1) c4, .int .i64 0, .string ⟨#[]⟩, .slice none 0 0, .slice none 0 0, .slice none 0 0, .int .i64 0] 56 := blk_set B3y 3 (.slice a4 (t + 1) c4)
          have O5 := O4.keeps (zx_ok _) fldOk k5 (fun b hb q => hb.2 (.inr (.inr q))) (fun q hq hq2 => by have hq' : q = g3 := hq2; subst hq'; exact O4.ne B3y (by decide) hq)
          have hG5 := (hGb.keeps k4 (fun i C ty hb ht q => HO3.out.ne hb (by rcases ht with rfl | rfl | rfl <;> decide) q)).box B3y (not_gT (by decide) (by decide) (by decide)) k5
          have KL4 : Keeps (fun b => GF g p b ∨ b = g3) wS (w9.setCell ⟨g3, 3, none⟩ (.slice a4 (t + 1) c4)) := ((KL.trans KRb (fun _ h _ => .inl h)).trans k4 (fun q hq hlt => by have := HNEW.out q hq; omega)).trans k5 (fun q hq hlt => .inr hq)
          have B2y : Blk (w9.setCell ⟨g3, 3, none⟩ (.slice a4 (t + 1) c4)) g2 #[.bool false, .string ⟨#[]⟩, .slice none 0 0, .slice none 0 0, .int .i64 0, .string ⟨#[]⟩, .slice none 0 0, .slice none 0 0, .slice none 0 0, .int .i64 0] 56 := k5.blk (k4.blk (KRb.blk B2 hn2) (HO3.out.ne (KRb.blk B2 hn2) (by decide))) (fun q => HNE.out q)
          have HF : Shut (∃ (L2 : List FldD) (aq : Option Addr) (cq : Nat), L2.length = t + 1 ∧ Blk (w9.setCell ⟨g3, 3, none⟩ (.slice a4 (t + 1) c4)) g3 #[.bool true, .string ⟨nm.toArray⟩, .slice aL n1 cL, .slice aq (t + 1) cq, .int .i64 0, .string ⟨#[]⟩, .slice none 0 0, .slice none 0 0, .slice none 0 0, .int .i64 0] 56 ∧ OutR (Zx (fun b => b < wS.heap.size ∨ b = g2 ∨ b = g3)) 73 6 FldIs wS.heap.size (w9.setCell ⟨g3, 3, none⟩ (.slice a4 (t + 1) c4)) aq cq L2 ∧ ∀ l : List FldD, (∀ x ∈ l, FldP true x) → l.length = n2 → Got bs s4 ((l.take (t + 1)).map encPar).flatten (L2 = l.take (t + 1)) sc) := shut ⟨L2 ++ [⟨mb, pnm, zt⟩], a4, c4, by rw [List.length_append, HLL.out]; rfl, B3z, O5, fun l hl hln => by
            obtain ⟨a, ha⟩ : ∃ a, l[t]? = some a := ⟨_, List.getElem?_eq_getElem (by omega)⟩
            have hap := hl a (List.mem_of_getElem? ha)
            rw [flat_take ha]
            refine Got.app (Q := (⟨mb, pnm, zt⟩ : FldD) = a) (HGM.out l hl hln) (fun _ => ?_) (fun p1 p2 => by rw [List.take_add_one, ha, p1, p2]; rfl)
            obtain ⟨amu, anm, aty⟩ := a
            unfold encPar
            exact (got_mark HGOTv1.out amu).app (fun _ => (HGOTv3.out anm (by have := name_len hap.2.1; simp only at this; omega)).app (fun _ => HGOTv5.out aty (.inl hap.2.2)) (fun p1 p2 => (⟨p1, p2⟩ : pnm = anm ∧ zt = aty))) (fun p1 p2 => by rw [p2.1, p2.2, ← HMB.out, p1])⟩
          clear O4 O5 k4 m4 k5 hGb KRb KL HO3 HEL HBB HNEW B3z B2
          have HLL := HL1
          clear HL1
          go_wp2_with fail
          any_goals try (rename_i hfz; simp [f3y] at hfz; done)
          go_roundw
          case rel => exact ⟨t + 1, sc, by go_num, by omega, hG5, KL4, B2y, HF⟩
          case measure => (simp [intOf]; try omega)
        · obtain rfl : t = n2 := by omega
          obtain ⟨n2, rfl⟩ : ∃ n, n = t := ⟨_, rfl⟩
          have m1 : ¬ (n2 : Int) < n2 := by omega
          obtain ⟨wT, rfl⟩ : ∃ wS, wS = wr := ⟨_, rfl⟩
          have HOT := shut HO
          have HLM := HLL
          have h2T := lt_of_block B2
          have h3T := lt_of_block B3
          have HWT : Shut (wS.heap.size ≤ wT.heap.size) := shut KL.size
          have KR : Keeps (GF g p) wT wT := Keeps.refl _ _
          have KST := shut KL
          clear HO KL
          have hc := gkind_any hG hl
          go_wp2_with fail
          refine hc.mono ?_
          rintro e u2 ⟨zt, ct, s6, rfl, hzt, hG2, hK2, hgot⟩
          have HGOTu2 := shut hgot
          have KR2 := KR.trans hK2 (fun _ h _ => h)
          have B22 := hK2.blk B2 hn2
          have B32 := hK2.blk B3 hn3
          clear hc KR hG hgot B2 B3
          have KR := KR2
          have hG := hG2
          have B2 := B22
          have B3 := B32
          clear KR2 hG2 B22 B32
          have lct := hzt.len
          have agn := agg_ok lct hzt.one
          have e1 := midFit_blk B3 (o := 4) (n := 4) (by simp)
          have B3n : Blk (midSet u2 g3 4 ct.toArray) g3 (([.bool true, .string ⟨nm.toArray⟩, .slice aL n1 cL, .slice aM n2 cM] : List Value) ++ (ct ++ ([.slice none 0 0, .int .i64 0] : List Value))).toArray 56 := box_mid (pre := ([.bool true, .string ⟨nm.toArray⟩, .slice aL n1 cL, .slice aM n2 cM] : List Value)) (mid := ([.int .i64 0, .string ⟨#[]⟩, .slice none 0 0, .slice none 0 0] : List Value)) (post := ([.slice none 0 0, .int .i64 0] : List Value)) (new := ct) (o := 4) B3 rfl rfl (by rw [lct]; rfl)
          have ks : Keeps (fun b => b = g3) u2 (midSet u2 g3 4 ct.toArray) := midSet_keeps (Keeps.refl (fun b => b = g3) u2) (g := g3) (fun _ => rfl) _ _
          have B2n := ks.blk B2 (fun q => HNE.out q)
          have KRn : Keeps (fun b => GF g p b ∨ b = g3) wT (midSet u2 g3 4 ct.toArray) := (KR.mono (S' := fun b => GF g p b ∨ b = g3) (fun _ h _ => .inl h)).trans ks (fun b hb _ => .inr hb)
          have hGn := hG.box B3 (not_gT (by decide) (by decide) (by decide)) ks
          have HZT := shut (tyNewA (N := wT.heap.size) hzt (Nat.le_refl _) ks (fun b hb q => by have q2 : b = g3 := q; omega))
          clear hzt hG KR B3 B2 ks
          go_upto_region 16 with fail
          clear e1 agn
          generalize midSet u2 g3 4 ct.toArray = u3 at *
          obtain ⟨CF, hCF⟩ : ∃ l, l = ([.bool true, .string ⟨nm.toArray⟩, .slice aL n1 cL, .slice aM n2 cM] : List Value) ++ (ct ++ ([.slice none 0 0, .int .i64 0] : List Value)) := ⟨_, rfl⟩
          rw [← hCF] at B3n
          have HCF : Shut (CF = ([.bool true, .string ⟨nm.toArray⟩, .slice aL n1 cL, .slice aM n2 cM] : List Value) ++ ct ++ ([.slice none 0 0, .int .i64 0] : List Value)) := shut (by rw [hCF]; simp)
          have hlF : CF.length = 10 := by rw [hCF]; simp [lct]
          obtain ⟨CA, hCA⟩ : ∃ C, C = CF.toArray := ⟨_, rfl⟩
          have hsA : CA.size = 10 := by rw [hCA]; simpa using hlF
          rw [← hCA] at B3n
          have GCA := shut hCA
          clear hCF hCA
          have KF0 : Keeps (GF g p) w u3 := (KWS.out.trans KST.out (fun b hb hlt => by rcases hb with hb | hb; exact hb; have := HS3.out; omega)).trans KRn (fun b hb hlt => by rcases hb with hb | hb; exact hb; have := HS3.out; omega)
          have hFun : FunIs (fun b => w.heap.size ≤ b ∧ b < u3.heap.size ∧ b ≠ g2) u3 ⟨true, nm, L, L2, zt, [], 0⟩ CF := by
            refine ⟨aL, cL, aM, cM, ct, none, 0, ?_, by show nm.length ≤ bigN; unfold bigN; omega, ?_, ?_, ?_, slIs_nil _ _ _ _ _⟩
            · rw [HCF.out]
              show _ = ([.bool true, .string ⟨nm.toArray⟩, .slice aL L.length cL, .slice aM L2.length cM] : List Value) ++ ct ++ [.slice none 0 0, .int .i64 0]
              rw [HL0.out, HLM.out]
            · have h1 := HOS.out.sl (S := fun b => w.heap.size ≤ b ∧ b < wS.heap.size ∧ b ≠ g2 ∧ b ≠ g3) lifOk (fun b hb => ⟨Nat.le_of_not_lt (fun q => hb.2 (.inl q)), hb.1, fun q => hb.2 (.inr (.inl q)), fun q => hb.2 (.inr (.inr q))⟩) (fun q hq => ⟨HOS.out.new q hq, HOS.out.lt hq, fun q2 => by subst q2; exact HOS.out.ne HB2S.out (by decide) hq, fun q2 => by subst q2; exact HOS.out.ne HB3S.out (by decide) hq⟩) (by rw [HL0.out]; unfold bigN; omega)
              have KQ : Keeps (fun b => GF g p b ∨ b = g3) wS u3 := KST.out.trans KRn (fun _ h _ => h)
              have hT : ∀ b, (w.heap.size ≤ b ∧ b < wS.heap.size ∧ b ≠ g2 ∧ b ≠ g3) → ¬ (fun b => GF g p b ∨ b = g3) b := fun b hb q => by rcases q with q | q; rcases q with q | q <;> omega; exact hb.2.2.2 q
              have hSS : ∀ b, (w.heap.size ≤ b ∧ b < wS.heap.size ∧ b ≠ g2 ∧ b ≠ g3) → (w.heap.size ≤ b ∧ b < u3.heap.size ∧ b ≠ g2) := fun b hb => ⟨hb.1, Nat.lt_of_lt_of_le hb.2.1 KQ.size, hb.2.2.1⟩
              exact h1.keeps KQ hT hSS (fun _ _ _ h => h.keeps KQ hT hSS)
            · have h1 := HOT.out.sl (S := fun b => wS.heap.size ≤ b ∧ b < wT.heap.size ∧ b ≠ g2 ∧ b ≠ g3) fldOk (fun b hb => ⟨Nat.le_of_not_lt (fun q => hb.2 (.inl q)), hb.1, fun q => hb.2 (.inr (.inl q)), fun q => hb.2 (.inr (.inr q))⟩) (fun q hq => ⟨HOT.out.new q hq, HOT.out.lt hq, fun q2 => by have := HOT.out.new q hq; omega, fun q2 => by have := HOT.out.new q hq; omega⟩) (by rw [HLM.out]; unfold bigN; omega)
              have hT : ∀ b, (wS.heap.size ≤ b ∧ b < wT.heap.size ∧ b ≠ g2 ∧ b ≠ g3) → ¬ (fun b => GF g p b ∨ b = g3) b := fun b hb q => by have := HWS.out; rcases q with q | q; rcases q with q | q <;> omega; exact hb.2.2.2 q
              have hSS : ∀ b, (wS.heap.size ≤ b ∧ b < wT.heap.size ∧ b ≠ g2 ∧ b ≠ g3) → (w.heap.size ≤ b ∧ b < u3.heap.size ∧ b ≠ g2) := fun b hb => ⟨Nat.le_trans HWS.out hb.1, Nat.lt_of_lt_of_le hb.2.1 KRn.size, hb.2.2.1⟩
              exact h1.keeps KRn hT hSS (fun _ _ _ h => h.keeps KRn hT hSS)
            · exact HZT.out.keeps (Keeps.refl Nothing u3) (fun _ _ h => h) (fun b hb => ⟨Nat.le_trans HWS.out (Nat.le_trans HWT.out hb.1), hb.2, fun q => by have := hb.1; omega⟩)
          have HALL : Shut (∀ f, HeadP f → Got bs st (encFun f) ((⟨true, nm, L, L2, zt, [], 0⟩ : FunD) = f) s6) := shut (fun f hf => by
            obtain ⟨f_pub, f_name, f_lives, f_params, f_result, f_body, f_pos⟩ := f
            obtain ⟨h1, h2, h3, hP⟩ := hf
            simp only at h1 h2 h3
            subst h1 h2 h3
            obtain ⟨q1, q2, q3, ⟨q4, q5⟩, q6, -, -⟩ := hP
            simp only at q1 q2 q3 q4 q5 q6
            unfold encFun
            refine (HGOTw1.out f_name (by have := name_len q2; omega)).app (fun _ => (HGOTw3.out f_lives.length q3).app (fun e1 => ((by have := HGL0.out f_lives q1 e1.symm; rwa [flat_all e1.symm, List.take_of_length_le (by omega)] at this) : Got bs s2 (f_lives.map encL).flatten (L = f_lives) sx).app (fun _ => (HGOTu1.out f_params.length q5).app (fun e2 => ((by have := HGM.out f_params q4 e2.symm; rwa [flat_all e2.symm, List.take_of_length_le (by omega)] at this) : Got bs s4 (f_params.map encPar).flatten (L2 = f_params) sy).app (fun _ => HGOTu2.out f_result (by
                rcases q6 with q6 | q6
                · refine .inr ?_
                  obtain ⟨k, nm', lv, el⟩ := f_result
                  simp only [TyD.kind, TyD.name, TyD.lives, TyD.elem] at q6
                  obtain ⟨rfl, rfl, rfl, rfl⟩ := q6
                  rfl
                · exact .inl q6)) (fun a b => (⟨a, b⟩ : L2 = f_params ∧ zt = f_result))) (fun _ b => b)) (fun a b => (⟨a, b⟩ : L = f_lives ∧ L2 = f_params ∧ zt = f_result))) (fun _ b => b)) (fun a b => by rw [a, b.1, b.2.1, b.2.2]))
          obtain ⟨y1, y2⟩ := tblk_mid B3n hsA
          have y3 := rowOk_blk B2n (n := 10) rfl
          have agf : aggOk 10 (.agg CA) = true := by rw [GCA.out]; exact agg_ok hlF hFun.one
          obtain ⟨WF, hWF⟩ : ∃ W, W = World.setRow u3 g2 CA := ⟨_, rfl⟩
          have K2 : Keeps (fun b => b = g2) u3 WF := by rw [hWF]; exact (Keeps.refl (fun b => b = g2) u3).setRow (g := g2) (fun _ => rfl) _
          have BF : Blk WF g2 CA 56 := by rw [hWF]; exact blk_setRow B2n
          have HF : Shut (GFun w g p ao cap bs st (.returned (.agg CA)) WF) := shut ⟨_, CF, s6, by rw [GCA.out], hFun.keeps K2 (fun b hb q => hb.2.2 q) (fun b hb => ⟨hb.1, Nat.lt_of_lt_of_le hb.2.1 K2.size⟩), hGn.box B2n (not_gT (by decide) (by decide) (by decide)) K2, KF0.trans K2 (fun b hb hlt => by have hb' : b = g2 := hb; have := HS2.out; omega), HALL.out⟩
          clear K2 HALL hFun hGn KF0 KRn HZT
          go_wp2_with fail
          rw [← hWF]
          refine bodyPost_ret (v := .agg CA) (results_cell_row rfl _ _ g2 _ _ (0, 0) _ rfl BF Tryz.underlying56 rfl (by rw [infoFun, hsA])) rfl ?_
          exact HF.out

end Go.Proofs.YtjbcagbnagefcaaGreat

namespace Go.Proofs.YtjbcagbnagefcaaGreat
open Go.RowKit
attribute [local go_sem ↓] exec_mid_ty exec_store_ty exec_mid_pl exec_store_pl exec_mid_opr exec_store_opr exec_mid_val exec_store_val exec_mid_st exec_store_st exec_mid_fld exec_store_fld exec_mid_str exec_store_str exec_mid_lif exec_store_lif exec_mid_fun exec_store_fun exec_mid_cr exec_store_cr
attribute [local go_sem] rowOk_new World.setRow_alloc_new
attribute [local go_sem ↓] exec_mid_sig exec_store_sig

/-- What Put leaves: the bytes, or an error. -/
def PutPost (w : World) (s : SigD) (e : Ending) (w1 : World) : Prop := Keeps Nothing w w1 ∧ ((MayS s ∧ ∃ ao cap, e = .returned (.tuple #[.slice ao (encSig s).length cap, .nilIface]) ∧ Own8 w1 5 ao cap (encSig s) ∧ ∀ g, blockOf ao = some g → w.heap.size ≤ g) ∨ (¬ MayS s ∧ ∃ ev, e = .returned (.tuple #[.slice none 0 0, ev]) ∧ IsErr w.heap.size w1 ev 1 0))

set_option maxRecDepth 100000 in
set_option linter.unusedSimpArgs false in
set_option maxHeartbeats 8000000 in
theorem put_any {S : Nat → Prop} (s : SigD) (w : World) (hM : MaxV w) (cs : List Value) (hS : ∀ b, S b → b < w.heap.size) (h : SigIs S w s cs) : Calls Tryz.prog 18 #[.agg cs.toArray] w (PutPost w s) := by
  have ag1 := agg_ok h.len h.one
  have HM := shut hM
  have HI := shut h
  have HS0 := shut hS
  obtain ⟨CS, hCS⟩ : ∃ C, C = cs.toArray := ⟨_, rfl⟩
  have hsS : CS.size = 3 := by rw [hCS]; simpa using h.len
  rw [← hCS] at ag1 ⊢
  have GS := shut hCS
  clear hCS h hM hS
  have BS := blk_new w CS 32
  have KW : Keeps Nothing w (w.alloc (.cells CS 32)) := (Keeps.refl Nothing w).alloc _
  go_enter Tryz.func18, Tryz.ntmps18
  go_upto_region 1 with fail
  clear ag1
  obtain ⟨gs, hgs⟩ : ∃ g, w.heap.size = g := ⟨_, rfl⟩
  have HGS : Shut (w.heap.size ≤ gs) := shut (Nat.le_of_eq hgs)
  rw [hgs] at BS ⊢
  clear hgs
  generalize w.alloc (.cells CS 32) = w0 at *
  obtain ⟨y1, y2⟩ := tblk_mid BS hsS
  have hc := smay_any s w0 (HM.out.keeps KW) cs (HI.out.keeps KW (fun _ _ h => h) (fun _ h => h))
  rw [← GS.out] at hc
  go_wp2_with fail
  refine hc.mono ?_
  rintro e w1 ⟨⟨z, rfl, hz⟩, k1⟩
  have KW1 := KW.trans k1 (fun _ h _ => h)
  have BS1 := k1.blk BS (fun h => h)
  have HZ := shut hz
  clear hc y1 y2 KW k1 BS hz
  cases z with
  | false =>
    have hno : Shut (¬ MayS s) := shut (fun h => by have := HZ.out.2 h; cases this)
    clear HZ
    have hc := new_err 1 0 w1 (by decide)
    go_wp2_with fail
    refine hc.mono ?_
    rintro e w2 ⟨rfl, rfl⟩
    have hF : Shut (PutPost w s (.returned (.tuple #[.slice none 0 0, .iface 130 (.pointer (some ⟨w1.heap.size, 0, none⟩))])) (w1.alloc (.cells #[.int .i64 1, .int .i64 0, .iface 90 (.int .i64 1)] 132))) := shut ⟨KW1.alloc _, .inr ⟨hno.out, _, rfl, (isErr_new w1 1 0 (by decide)).mono KW1.size⟩⟩
    clear hc
    go_wp2_with fail
    go_ret2
    exact hF.out
  | true =>
    have HP := shut (HZ.out.1 rfl)
    clear HZ
    have hbig := encSig_len HP.out
    have hc := newWriter_any w1
    go_wp2_with fail
    refine hc.mono ?_
    rintro e w2 ⟨rfl, hw2⟩
    clear hc
    have hW0 := wr_new w1
    rw [← hw2] at hW0
    have k12 : Keeps Nothing w1 w2 := by rw [hw2]; exact (Keeps.refl Nothing w1).alloc _
    obtain ⟨p, hp⟩ : ∃ p, w1.heap.size = p := ⟨_, rfl⟩
    have HWP : Shut (w.heap.size ≤ p) := shut (by rw [← hp]; exact KW1.size)
    rw [hp] at hW0 ⊢
    have HS : Shut (∀ b, S b → b < p) := shut (fun b hb => Nat.lt_of_lt_of_le (HS0.out b hb) HWP.out)
    have hgsp : gs < p := by have := lt_of_block BS1; omega
    have hWN : WN p w2 p none 0 [] := ⟨hW0, Nat.le_refl _, fun g hg => by cases hg⟩
    have KW2 := KW1.trans k12 (fun _ h _ => h)
    have BS2 := k12.blk BS1 (fun h => h)
    have T2 := shut (WT.refl hWN)
    have HB2 := shut BS2
    have HI2 := HI.out.keeps KW2 (fun _ _ h => h) (fun _ h => h) (S' := S)
    clear hw2 hp hW0 hWN k12 KW1 BS1
    obtain ⟨s_name, s_structs, s_funcs⟩ := s
    obtain ⟨a1, c1, a2, c2, hcs, hnm, h1, h2⟩ := HI2
    simp only at hcs hnm h1 h2
    obtain ⟨n1, hn1⟩ : ∃ n, s_structs.length = n := ⟨_, rfl⟩
    obtain ⟨n2, hn2⟩ : ∃ n, s_funcs.length = n := ⟨_, rfl⟩
    rw [hn1, hn2] at hcs
    have hb1 := h1.1
    have hb2 := h2.1
    unfold bigN at hb1 hb2
    rw [hn1] at hb1
    rw [hn2] at hb2
    have HN1 := shut hn1
    have HN2 := shut hn2
    have H1 := shut h1
    have H2 := shut h2
    unfold txV at hcs
    have GS2 : Shut (CS = [.string ⟨s_name.toArray⟩, .slice a1 n1 c1, .slice a2 n2 c2].toArray) := shut (by rw [GS.out, hcs])
    obtain ⟨F1, hF1⟩ : ∃ F, (s_structs.map encStr).flatten = F := ⟨_, rfl⟩
    obtain ⟨F2, hF2⟩ : ∃ F, (s_funcs.map encFun).flatten = F := ⟨_, rfl⟩
    obtain ⟨RT, hRT⟩ : ∃ F, encSig ⟨s_name, ⟨s_structs, s_funcs⟩⟩ = F := ⟨_, rfl⟩
    have HRT : Shut (RT = ((((([] ++ encS usig) ++ encS s_name) ++ encU n1) ++ F1) ++ encU n2) ++ F2) := shut (by rw [← hRT]; unfold encSig; simp only [hn1, hn2, hF1, hF2, List.append_assoc, List.nil_append])
    have hsum : (encS usig).length + (encS s_name).length + (encU n1).length + F1.length + (encU n2).length + F2.length ≤ 800000000 := by
      unfold encSig at hbig
      simp only [hn1, hn2, hF1, hF2, List.length_append] at hbig
      omega
    have HRS := shut hRT
    have HFA := shut hF1
    have HFB := shut hF2
    clear hcs hn1 hn2 h1 h2 hF1 hF2 hRT hbig HI
    have hu : usig = [85, 83, 73, 71] := rfl
    have hc := wtext_any T2.out.wn usig (by decide) (by simp)
    unfold usig at hc
    rw [← hu] at hc
    have HU := shut hu
    clear hu
    go_wp2_with fail
    refine hc.mono ?_
    rintro e w3 ⟨rfl, ao3, cap3, h3⟩
    have BS3 := h3.lo.blk BS2 (fun q => Nat.not_lt.2 q hgsp)
    have T3 := shut (T2.out.trans h3)
    clear hc T2 h3 BS2
    obtain ⟨e0, -, -⟩ := SigB GS2.out BS3
    have hc := wtext_any T3.out.wn s_name hnm (by (try simp only [List.length_append, List.length_nil]); omega)
    go_wp2_with fail
    refine hc.mono ?_
    rintro e w4 ⟨rfl, ao4, cap4, h4⟩
    have BS4 := h4.lo.blk BS3 (fun q => Nat.not_lt.2 q hgsp)
    have T4 := shut (T3.out.trans h4)
    clear hc T3 h4 BS3 e0
    obtain ⟨-, e1, -⟩ := SigB GS2.out BS4
    have hc := number_any T4.out.wn n1 (by omega) (by omega) (by (try simp only [List.length_append, List.length_nil]); omega)
    rw [Int.toNat_natCast] at hc
    go_wp2_with fail
    refine hc.mono ?_
    rintro e w5 ⟨rfl, ao5, cap5, h5⟩
    have BS5 := h5.lo.blk BS4 (fun q => Nat.not_lt.2 q hgsp)
    have T5 := shut (T4.out.trans h5)
    clear hc T4 h5 BS4 e1
    obtain ⟨-, e1, -⟩ := SigB GS2.out BS5
    obtain ⟨B1, hB1⟩ : ∃ B, [] ++ encS usig ++ encS s_name ++ encU n1 = B := ⟨_, rfl⟩
    have hb1 : B1.length = (encS usig).length + (encS s_name).length + (encU n1).length := by rw [← hB1]; simp only [List.length_append, List.length_nil]; omega
    rw [hB1] at T5 HRT
    clear hB1
    go_wp2_with fail
    go_loopw [6, 8, 30] (fun s6 s8 s30 wx => ∃ (t : Nat) (aoR : Option Addr) (capR : Nat), s30 = .int .i64 t ∧ t ≤ n1 ∧ WT p w2 p none wx aoR capR (B1 ++ ((s_structs.take t).map encStr).flatten)) (fun _ _ s30 _ => n1 - (intOf s30).toNat)
    case atStart => exact ⟨0, ao5, cap5, rfl, Nat.zero_le _, by simpa using T5.out⟩
    case round =>
      clear T5 e1
      obtain ⟨t, aoR, capR, rfl, ht, HR⟩ := hrel
      by_cases hlt : t < n1
      · skip
        obtain ⟨dx, hdx⟩ : ∃ d, s_structs[t]? = some d := ⟨_, List.getElem?_eq_getElem (by rw [HN1.out]; exact hlt)⟩
        obtain ⟨g1x, o1x, rfl, hg1x, csx, l1x, r1x, i1x⟩ := H1.out.get hdx
        have HDX := shut hdx
        have m0x : (0 : Int) ≤ t := by omega
        have m1x : (t : Int) < n1 := by omega
        have agx := agg_ok l1x i1x.one
        have IX := shut i1x
        obtain ⟨CX, hCx⟩ : ∃ C, C = csx.toArray := ⟨_, rfl⟩
        obtain ⟨hkx, hox⟩ := sub_of (rangeAt_keeps r1x HR.lo (off_lo HS.out _ hg1x)) l1x
        rw [← hCx] at agx hox
        have GX := shut hCx
        clear hCx r1x hdx i1x hg1x
        have HR := shut HR
        go_upto_region 10 with fail
        have BX := blk_new wr CX 49
        have T6 := shut (HR.out.alloc (.cells CX 49))
        clear hkx hox agx HR
        obtain ⟨gx, hgx⟩ : ∃ g, wr.heap.size = g := ⟨_, rfl⟩
        rw [hgx] at BX ⊢
        clear hgx
        generalize wr.alloc (.cells CX 49) = w6 at *
        have hfl := flat_le (f := encStr) HDX.out
        rw [HFA.out] at hfl
        have HFX := shut (flat_take (f := encStr) HDX.out)
        have HTW := shut (str_tyW (HP.out.2.2.2.2.1 _ (List.mem_of_getElem? HDX.out)))
        clear HDX
        obtain ⟨d_pub, d_name, d_lives, d_fields, d_pos⟩ := dx
        obtain ⟨b1, k1, b2, k2, hcs1, hnm1, hlv1, hfd1⟩ := IX.out
        simp only at hcs1 hnm1 hlv1 hfd1 HTW
        obtain ⟨no, hno⟩ : ∃ n, d_lives.length = n := ⟨_, rfl⟩
        obtain ⟨nf, hnf⟩ : ∃ n, d_fields.length = n := ⟨_, rfl⟩
        rw [hno, hnf] at hcs1
        have hnf2 := hfd1.1
        unfold bigN at hnf2
        rw [hnf] at hnf2
        rw [hcs1] at GX
        have HNO := shut hno
        have HNF := shut hnf
        have HLV := shut hlv1
        have HFD := shut hfd1
        obtain ⟨FF, hFF⟩ : ∃ F, (d_fields.map encF).flatten = F := ⟨_, rfl⟩
        obtain ⟨Q, hQ⟩ : ∃ Q, B1 ++ ((s_structs.take t).map encStr).flatten = Q := ⟨_, rfl⟩
        have hQl : Q.length = B1.length + ((s_structs.take t).map encStr).flatten.length := by rw [← hQ, List.length_append]
        have HFX2 : Shut (B1 ++ ((s_structs.take (t + 1)).map encStr).flatten = Q ++ encS d_name ++ encTs d_lives ++ encU nf ++ FF) := shut (by rw [HFX.out, ← hQ]; unfold encStr; simp only [hnf, hFF, List.append_assoc])
        have hel : (encStr ⟨d_pub, d_name, d_lives, d_fields, d_pos⟩).length = (encS d_name).length + (encTs d_lives).length + (encU nf).length + FF.length := by unfold encStr; simp only [hnf, hFF, List.length_append]; omega
        have hq : Q.length + (encS d_name).length + (encTs d_lives).length + (encU nf).length + FF.length ≤ 850000000 := by omega
        rw [hQ] at T6
        have HFF := shut hFF
        clear hcs1 hlv1 hfd1 hno hnf IX HFX hFF hQ hQl hel hfl
        unfold txV at GX
        obtain ⟨-, e1, -, -, -⟩ := StrB GX.out BX
        have hc := wtext_any T6.out.wn d_name hnm1 (by (try simp only [List.length_append, List.length_nil]); omega)
        go_wp2_with fail
        refine hc.mono ?_
        rintro e w7 ⟨rfl, ao7, cap7, h7⟩
        have BX2 := T6.out.wn.box BX (by decide) (by decide) h7.k
        have T7 := shut (T6.out.trans h7)
        clear hc T6 h7 e1 BX
        have BX := BX2
        clear BX2
        obtain ⟨-, -, e2, -, -⟩ := StrB GX.out BX
        have hc := texts_any T7.out.wn k1 (HLV.out.keeps T7.out.lo (off_lo HS.out) (fun _ h => h) (fun _ _ _ h => h)) HS.out (by (try simp only [List.length_append, List.length_nil]); omega)
        rw [HNO.out] at hc
        go_wp2_with fail
        refine hc.mono ?_
        rintro e w8 ⟨rfl, ao8, cap8, h8⟩
        have BX2 := T7.out.wn.box BX (by decide) (by decide) h8.k
        have T8 := shut (T7.out.trans h8)
        clear hc T7 h8 e2 BX
        have BX := BX2
        clear BX2
        obtain ⟨-, -, -, e3, -⟩ := StrB GX.out BX
        have hc := number_any T8.out.wn nf (by omega) (by omega) (by (try simp only [List.length_append, List.length_nil]); omega)
        rw [Int.toNat_natCast] at hc
        go_wp2_with fail
        refine hc.mono ?_
        rintro e w9 ⟨rfl, ao9, cap9, h9⟩
        have BX2 := T8.out.wn.box BX (by decide) (by decide) h9.k
        have T9 := shut (T8.out.trans h9)
        clear hc T8 h9 e3 BX
        have BX := BX2
        clear BX2
        obtain ⟨-, -, -, e3, -⟩ := StrB GX.out BX
        obtain ⟨B2, hB2⟩ : ∃ B, Q ++ encS d_name ++ encTs d_lives ++ encU nf = B := ⟨_, rfl⟩
        have hb2 : B2.length = Q.length + (encS d_name).length + (encTs d_lives).length + (encU nf).length := by rw [← hB2]; simp only [List.length_append]
        rw [hB2] at T9 HFX2
        clear hB2
        go_wp2_with fail
        go_loopw [8, 50] (fun s8 s50 wx => ∃ (u : Nat) (aoR : Option Addr) (capR : Nat), s50 = .int .i64 u ∧ u ≤ nf ∧ WT p w2 p none wx aoR capR (B2 ++ ((d_fields.take u).map encF).flatten)) (fun _ s50 _ => nf - (intOf s50).toNat)
        case atStart => exact ⟨0, ao9, cap9, rfl, Nat.zero_le _, by simpa using T9.out⟩
        case round =>
          clear T9 e3 BX
          obtain ⟨u, aoR, capR, rfl, hu, HR⟩ := hrel
          by_cases hltu : u < nf
          · skip
            obtain ⟨dy, hdy⟩ : ∃ d, d_fields[u]? = some d := ⟨_, List.getElem?_eq_getElem (by rw [HNF.out]; exact hltu)⟩
            obtain ⟨g1y, o1y, rfl, hg1y, csy, l1y, r1y, i1y⟩ := HFD.out.get hdy
            have HDY := shut hdy
            have m0y : (0 : Int) ≤ u := by omega
            have m1y : (u : Int) < nf := by omega
            have agy := agg_ok l1y i1y.one
            have IY := shut i1y
            obtain ⟨CY, hCy⟩ : ∃ C, C = csy.toArray := ⟨_, rfl⟩
            obtain ⟨hky, hoy⟩ := sub_of (rangeAt_keeps r1y HR.lo (off_lo HS.out _ hg1y)) l1y
            rw [← hCy] at agy hoy
            have GY := shut hCy
            clear hCy r1y hdy i1y hg1y
            have HR := shut HR
            go_upto_region 16 with fail
            have BY := blk_new wr CY 73
            have T10 := shut (HR.out.alloc (.cells CY 73))
            clear hky hoy agy HR
            obtain ⟨gy, hgy⟩ : ∃ g, wr.heap.size = g := ⟨_, rfl⟩
            rw [hgy] at BY ⊢
            clear hgy
            generalize wr.alloc (.cells CY 73) = w10 at *
            have hfl := flat_le (f := encF) HDY.out
            rw [HFF.out] at hfl
            have HFX := shut (flat_take (f := encF) HDY.out)
            have HTW1 := shut (HTW.out _ (List.mem_of_getElem? HDY.out))
            clear HDY
            obtain ⟨y_mu, y_name, y_ty⟩ := dy
            obtain ⟨s2, hcs1, hnm2, hty1⟩ := IY.out
            have hs2 := hty1.len
            simp only at hcs1 hnm2 hty1 HTW1
            rw [hcs1] at GY
            have HTY := shut hty1
            have hel : (encF ⟨y_mu, y_name, y_ty⟩).length = (encS y_name).length + (encT y_ty).length := by unfold encF; rw [List.length_append]
            have HFX3 : Shut (B2 ++ ((d_fields.take (u + 1)).map encF).flatten = (B2 ++ ((d_fields.take u).map encF).flatten) ++ encS y_name ++ encT y_ty) := shut (by rw [HFX.out]; unfold encF; simp only [List.append_assoc])
            clear hcs1 hty1 IY HFX
            unfold txV at GY
            obtain ⟨-, e1, -⟩ := FldB hs2 GY.out BY
            have hc := wtext_any T10.out.wn y_name hnm2 (by (try simp only [List.length_append, List.length_nil]); omega)
            go_wp2_with fail
            refine hc.mono ?_
            rintro e w11 ⟨rfl, ao11, cap11, h11⟩
            have BY2 := T10.out.wn.box BY (by decide) (by decide) h11.k
            have T11 := shut (T10.out.trans h11)
            clear hc T10 h11 e1 BY
            have BY := BY2
            clear BY2
            obtain ⟨-, -, y1, y2⟩ := FldB hs2 GY.out BY
            have hc := wkind_any HS.out y_ty w11 s2 ao11 cap11 _ HTW1.out (HTY.out.keeps T11.out.lo (off_lo HS.out) (fun _ h => h)) T11.out.wn (by (try simp only [List.length_append, List.length_nil]); omega)
            go_wp2_with fail
            refine hc.mono ?_
            rintro e w12 ⟨rfl, ao12, cap12, h12⟩
            have T12 := shut (T11.out.trans h12)
            clear hc T11 h12 y1 y2 BY 
            rw [← HFX3.out] at T12
            clear HFX3 hel hfl
            go_wp2_with fail
            go_roundw
            case rel => exact ⟨u + 1, ao12, cap12, by go_num, by omega, T12.out⟩
            case measure => simp [intOf]; omega
          · obtain rfl : u = nf := by omega
            obtain ⟨nf, rfl⟩ : ∃ n, n = u := ⟨_, rfl⟩
            have m1 : ¬ (nf : Int) < nf := by omega
            rw [flat_all HNF.out, HFF.out, ← HFX2.out] at HR
            have T10 := shut HR
            clear HR HFX2
            go_wp2_with fail
            go_roundw
            case rel => exact ⟨t + 1, aoR, capR, by go_num, by omega, T10.out⟩
            case measure => simp [intOf]; omega
      · obtain rfl : t = n1 := by omega
        obtain ⟨n1, rfl⟩ : ∃ n, n = t := ⟨_, rfl⟩
        have m1 : ¬ (n1 : Int) < n1 := by omega
        rw [flat_all HN1.out, HFA.out] at HR
        have T6 := shut HR
        have BS6 := HR.lo.blk HB2.out (fun q => Nat.not_lt.2 q hgsp)
        clear HR
        obtain ⟨w6, rfl⟩ : ∃ w6, w6 = wr := ⟨_, rfl⟩
        obtain ⟨-, -, e2⟩ := SigB GS2.out BS6
        have hc := number_any T6.out.wn n2 (by omega) (by omega) (by (try simp only [List.length_append, List.length_nil]); omega)
        rw [Int.toNat_natCast] at hc
        go_wp2_with fail
        refine hc.mono ?_
        rintro e w7 ⟨rfl, ao7, cap7, h7⟩
        have BS7 := h7.lo.blk BS6 (fun q => Nat.not_lt.2 q hgsp)
        have T7 := shut (T6.out.trans h7)
        clear hc T6 h7 BS6 e2
        obtain ⟨-, -, e2⟩ := SigB GS2.out BS7
        obtain ⟨B2, hB2⟩ : ∃ B, B1 ++ F1 ++ encU n2 = B := ⟨_, rfl⟩
        have hb2 : B2.length = B1.length + F1.length + (encU n2).length := by rw [← hB2]; simp only [List.length_append]
        rw [hB2] at T7 HRT
        clear hB2
        go_wp2_with fail
        go_loopw [10, 72] (fun s10 s72 wx => ∃ (t : Nat) (aoR : Option Addr) (capR : Nat), s72 = .int .i64 t ∧ t ≤ n2 ∧ WT p w2 p none wx aoR capR (B2 ++ ((s_funcs.take t).map encFun).flatten)) (fun _ s72 _ => n2 - (intOf s72).toNat)
        case atStart => exact ⟨0, ao7, cap7, rfl, Nat.zero_le _, by simpa using T7.out⟩
        case round =>
          clear T7 e2
          obtain ⟨t, aoR, capR, rfl, ht, HR⟩ := hrel
          by_cases hlt : t < n2
          · skip
            obtain ⟨dx, hdx⟩ : ∃ d, s_funcs[t]? = some d := ⟨_, List.getElem?_eq_getElem (by rw [HN2.out]; exact hlt)⟩
            obtain ⟨g1x, o1x, rfl, hg1x, csx, l1x, r1x, i1x⟩ := H2.out.get hdx
            have HDX := shut hdx
            have m0x : (0 : Int) ≤ t := by omega
            have m1x : (t : Int) < n2 := by omega
            have agx := agg_ok l1x i1x.one
            have IX := shut i1x
            obtain ⟨CX, hCx⟩ : ∃ C, C = csx.toArray := ⟨_, rfl⟩
            obtain ⟨hkx, hox⟩ := sub_of (rangeAt_keeps r1x HR.lo (off_lo HS.out _ hg1x)) l1x
            rw [← hCx] at agx hox
            have GX := shut hCx
            clear hCx r1x hdx i1x hg1x
            have HR := shut HR
            go_upto_region 24 with fail
            have BX := blk_new wr CX 56
            have T8 := shut (HR.out.alloc (.cells CX 56))
            clear hkx hox agx HR
            obtain ⟨gx, hgx⟩ : ∃ g, wr.heap.size = g := ⟨_, rfl⟩
            rw [hgx] at BX ⊢
            clear hgx
            generalize wr.alloc (.cells CX 56) = w8 at *
            have hfl := flat_le (f := encFun) HDX.out
            rw [HFB.out] at hfl
            have HFX : Shut (B2 ++ ((s_funcs.take (t + 1)).map encFun).flatten = (B2 ++ ((s_funcs.take t).map encFun).flatten) ++ encFun dx) := shut (by rw [flat_take (f := encFun) HDX.out, List.append_assoc])
            have htw := fun_tyW (HP.out.2.2.2.2.2 _ (List.mem_of_getElem? HDX.out))
            clear HDX
            have hsX : CX.size = 10 := by rw [GX.out]; simpa using IX.out.len
            obtain ⟨y1, y2⟩ := tblk_mid BX hsX
            have hc := wfun_any HS.out dx w8 csx htw.1 htw.2 (IX.out.keeps T8.out.lo (off_lo HS.out) (fun _ h => h)) T8.out.wn (by (try simp only [List.length_append]); omega)
            rw [← GX.out] at hc
            go_wp2_with fail
            refine hc.mono ?_
            rintro e w9 ⟨rfl, ao9, cap9, h9⟩
            have T9 := shut (T8.out.trans h9)
            clear hc T8 h9 y1 y2 BX
            rw [← HFX.out] at T9
            clear HFX hfl htw
            go_wp2_with fail
            go_roundw
            case rel => exact ⟨t + 1, ao9, cap9, by go_num, by omega, T9.out⟩
            case measure => simp [intOf]; omega
          · obtain rfl : t = n2 := by omega
            obtain ⟨n2, rfl⟩ : ∃ n, n = t := ⟨_, rfl⟩
            have m1 : ¬ (n2 : Int) < n2 := by omega
            rw [flat_all HN2.out, HFB.out, ← HRT.out] at HR
            have T8 := shut HR
            clear HR
            have hc := bytes_any T8.out.wn.wr (by rw [HRT.out]; simp only [List.length_append]; omega)
            go_wp2_with fail
            refine hc.mono ?_
            rintro e wf ⟨aoF, capF, rfl, hO, hK, hN⟩
            have hF : Shut (PutPost w ⟨s_name, ⟨s_structs, s_funcs⟩⟩ (.returned (.tuple #[.slice aoF RT.length capF, .nilIface])) wf) := shut ⟨(KW2.trans T8.out.lo (fun b hb hlt => by have hb' : p ≤ b := hb; have := HWP.out; omega)).trans hK (fun _ h _ => h), .inl ⟨HP.out, aoF, capF, by rw [HRS.out], by rw [HRS.out]; exact hO, fun g hg => Nat.le_trans KW2.size (Nat.le_trans T8.out.lo.size (hN g hg))⟩⟩
            clear hc hO hK hN
            go_wp2_with fail
            go_ret2
            exact hF.out

end Go.Proofs.YtjbcagbnagefcaaGreat

