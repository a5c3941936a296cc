/- usufructlaw29.NetPlays: a net answers as the document says; no condition. -/
import Derived.Test.YteifmkfkekglpaaRows
import Derived.Test.YteifmkfkekglpaaNet12
import Derived.Test.YteifmkfkekglpaaNet17
import Derived.Deep.Cut
import Derived.Deep.CutBlock
import Derived.ProofKit
import Derived.OpenShut
import Derived.ShutString
import Derived.ChangeOld
import Derived.Below
namespace Go.Proofs.Yteifmkfkekglpaa.netPlays
open Go.ChangeShapes Go.WideShapes Go.ChangeAt Go.RowKit
open Go.ChangeMaps (open_string shut_string)

theorem own : ownKnob Try.prog.godebug = none := by kernel_rfl
theorem laidOut : laidOutB Try.prog = true := by kernel_rfl


theorem infoNOp : (Try.prog.info? 51).map (·.size) = some 43 := by kernel_rfl
theorem exec_mid_nop (ρ : Operand → Value) (dst : Option Tmp) (x : Operand) (ty' : TypeId) (pos : String) (af : Array Edge) (gd : Option (Nat × Bool)) (w : World) (h : midOkV w 43 (ρ x) = true) :
    (execOp ρ ⟨dst, .load 51 x, ty', pos, af, gd⟩).run Try.prog w = .ok (.value (.agg (midOfV w 43 (ρ x)))) w :=
  exec_load_mid _ 43 _ Try.underlying51 rfl infoNOp ρ dst x ty' pos af gd w h
theorem exec_store_nop (ρ : Operand → Value) (dst : Option Tmp) (x y : Operand) (ty' : TypeId) (pos : String) (af : Array Edge) (gd : Option (Nat × Bool)) (w : World) (h : rowOkV w 43 (ρ x) = true) (hy : aggOk 43 (ρ y) = true) :
    (execOp ρ ⟨dst, .store 51 x y, ty', pos, af, gd⟩).run Try.prog w = .ok .skip (rowSetV w (ρ x) (aggOf (ρ y))) :=
  exec_store _ 43 infoNOp ρ dst x y ty' pos af gd w h hy

attribute [local go_sem ↓] exec_mid_msg exec_store_msg exec_mid_nop exec_store_nop
attribute [local go_sem] rowOk_new World.setRow_alloc_new
theorem add_one (c : UInt8) : IntKind.u8.wrap ((c.toNat : Int) + 1) = ((c + 1).toNat : Int) := by
  rw [IntKind.wrap_u8, UInt8.toNat_add]
  simp
theorem tmod5 (z : Int) : ∃ q : Int, z.tmod 5 = q ∧ -4 ≤ q ∧ q ≤ 4 ∧ ∃ v : Nat, v < 5 ∧ (q + 5).tmod 5 = (v : Int) := by
  have h1 : -4 ≤ z.tmod 5 ∧ z.tmod 5 ≤ 4 := by
    have h2 := Int.lt_tmod_of_pos z (show (0 : Int) < 5 by decide)
    have h3 := Int.tmod_lt_of_pos z (show (0 : Int) < 5 by decide)
    omega
  refine ⟨_, rfl, h1.1, h1.2, ?_⟩
  obtain ⟨q, hq⟩ : ∃ q, z.tmod 5 = q := ⟨_, rfl⟩
  rw [hq] at h1 ⊢
  have h4 : (q + 5).tmod 5 = (q + 5).emod 5 := Int.tmod_eq_emod_of_nonneg (by omega)
  have h5 := Int.emod_nonneg (q + 5) (show (5 : Int) ≠ 0 by decide)
  have h6 := Int.emod_lt_of_pos (q + 5) (show (0 : Int) < 5 by decide)
  rw [h4]
  exact ⟨((q + 5).emod 5).toNat, by have : (q + 5).emod 5 = (q + 5) % 5 := rfl; omega, by have : (q + 5).emod 5 = (q + 5) % 5 := rfl; omega⟩
theorem nt_double0 {w0 w : World} {p : Nat} {sent : Int} (h : NT w0 w p [] sent) (k : Int) :
    Calls Try.prog 20 #[.pointer (some ⟨p, 0, none⟩), .int .i64 k] w fun e w' => ∃ b, e = .returned (.iface 100 (.pointer (some ⟨b, 0, none⟩))) ∧ IsErr w.heap.size w' (.iface 100 (.pointer (some ⟨b, 0, none⟩))) 10 0 ∧ NT w0 w' p [] sent ∧ Other w w' := by
  have h0 := h
  obtain ⟨ao, cap, hN, K, h1, h2, h3⟩ := h
  exact (net_double0 hN k).mono fun e w' ⟨b, he, hE, k⟩ => ⟨b, he, hE, h0.keepsN k, .of k⟩
theorem nt_take00 {w0 w : World} {p : Nat} {sent : Int} (h : NT w0 w p [] sent) (k : Int) :
    Calls Try.prog 22 #[.pointer (some ⟨p, 0, none⟩), .int .i64 k] w fun e w' => ∃ b, e = .returned (.tuple #[.slice none 0 0, .iface 100 (.pointer (some ⟨b, 0, none⟩))]) ∧ IsErr w.heap.size w' (.iface 100 (.pointer (some ⟨b, 0, none⟩))) 10 0 ∧ NT w0 w' p [] sent ∧ Other w w' := by
  have h0 := h
  obtain ⟨ao, cap, hN, K, h1, h2, h3⟩ := h
  exact (net_take0 hN k).mono fun e w' ⟨b, he, hE, k⟩ => ⟨b, he, hE, h0.keepsN k, .of k⟩
/-- Both nets with these messages under way. -/
def PN (w0 w : World) (p q : Nat) (L : List Row8) (s : Nat) : Prop := NT w0 w p L s ∧ RNT w0 w.heap.size w q (L.map (·.2.2)) s ∧ ∀ x ∈ L, x.2.2 ≠ [] ∧ x.2.2.length ≤ 4000
theorem PN.keepsN {w0 w w' : World} {p q : Nat} {L : List Row8} {s : Nat} (h : PN w0 w p q L s) (k : Keeps Nothing w w') : PN w0 w' p q L s := ⟨h.1.keepsN k, (h.2.1.keepsN k).mono k.size, h.2.2⟩
theorem rnt_zero {w0 : World} {w : World} (K : Keeps Nothing w0 w) : RNT w0 (w.alloc (.cells #[.slice none 0 0, .int .i64 0] 49)).heap.size (w.alloc (.cells #[.slice none 0 0, .int .i64 0] 49)) w.heap.size [] 0 :=
  ⟨none, 0, ⟨blk_new w _ _, rowR_nil _ _⟩, ⟨K.size, by simp⟩, fun g hg => by cases hg⟩
theorem nil_or {α : Type} (L : List α) : L = [] ∨ L ≠ [] := by
  cases L with
  | nil => exact .inl rfl
  | cons x l => exact .inr (by simp)
theorem map_erase {L : List Row8} {J : Nat} : (L.eraseIdx J).map (·.2.2) = (L.map (·.2.2)).eraseIdx J := by
  rw [List.eraseIdx_eq_take_drop_succ, List.eraseIdx_eq_take_drop_succ, List.map_append, List.map_take, List.map_drop]

set_option maxRecDepth 100000 in
set_option maxHeartbeats 16000000 in
theorem walk (w : World) {ao : Option Addr} {n c : Nat} {l : List NOp} (hn : l.length = n) (hL : NOpsAt w ao l) : Calls Try.prog 4 #[.slice ao n c] w (SaysTrue w) := by
  go_enter Try.func4, Try.ntmps4
  go_wp2_with fail
  refine (nt_new (Keeps.refl Nothing w)).mono ?_
  rintro e w1 ⟨p, rfl, N1⟩
  go_upto_region 5 with fail
  have R1 := rnt_zero N1.keep
  have N2 := N1.keepsN ((Keeps.refl Nothing w1).alloc (.cells #[.slice none 0 0, .int .i64 0] 49))
  clear N1
  generalize w1.alloc (.cells #[.slice none 0 0, .int .i64 0] 49) = w2 at *
  generalize w1.heap.size = q at *
  have P2 : PN w w2 p q [] 0 := ⟨N2, R1, fun x hx => by cases hx⟩
  clear N2 R1
  go_wp2_with fail
  go_loopw [5] (fun s5 wr => ∃ (i : Nat) (L : List Row8) (s : Nat), s5 = .int .i64 i ∧ i ≤ n ∧ i ≤ 60 ∧ L.length ≤ i ∧ s ≤ i ∧ PN w wr p q L s) (fun s5 _ => 60 - (intOf s5).toNat)
  case atStart => exact ⟨0, [], 0, rfl, by omega, by omega, by simp, by omega, P2⟩
  case round =>
    obtain ⟨i, L, s, rfl, hi, hi60, hLi, hsi, PR⟩ := hrel
    clear P2
    by_cases hlt : i < n ∧ i < 60
    · obtain ⟨h1, h2⟩ := hlt
      have m1 : (i : Int) < n := by omega
      have m2 : (i : Int) < 60 := by omega
      obtain ⟨o, ho⟩ : ∃ o, l[i]? = some o := ⟨l[i]'(by omega), List.getElem?_eq_getElem (by omega)⟩
      obtain ⟨b, off, rfl⟩ := hL.head (by omega)
      obtain ⟨_, hoo, r0⟩ := hL.2 _ rfl i o ho
      simp only at r0
      have r1 := rangeAt_keeps r0 PR.1.keep (fun h => h)
      have x1 := midOk_range r1
      have x2 := midOf_range r1
      rw [hoo.len] at x1 x2
      have hoo1 := hoo.one
      have hlen := hoo.len
      obtain ⟨okd, ok, d⟩ := o
      have hdo : d.Ok w := hoo.d
      obtain ⟨OC, hOC⟩ : ∃ OC, (NOp.cells ⟨okd, ok, d⟩).toArray = OC := ⟨_, rfl⟩
      have hO0 : OC[0]? = some (.int .i64 okd) := by rw [← hOC]; rfl
      have hO1 : OC[1]? = some (.int .i64 ok) := by rw [← hOC]; rfl
      have hO2 : ∀ j v, d.cells[j]? = some v → OC[2 + j]? = some v := fun j v hj => by
        rw [← hOC, List.getElem?_toArray, Nat.add_comm]
        exact hj
      have hOs : OC.size = 43 := by rw [← hOC]; simpa using hlen
      have hOa : aggOk 43 (.agg OC) = true := aggOk_agg 43 OC hOs (by rw [← hOC, List.all_toArray, List.all_eq_true]; exact hoo1)
      rw [hOC] at x2
      clear hOC ho hoo1 hlen r1
      have hdl := hdo.len
      have hdC := hdo.is
      obtain ⟨D, hD⟩ : ∃ D, d.cells.toArray = D := ⟨_, rfl⟩
      rw [hD] at hdC
      have msgR : ∀ V g, Blk V g OC 51 → midOk V g 2 41 = true ∧ midOf V g 2 41 = D := fun V g hV => by
        have r : V.rangeAt g 2 d.cells := fun j v hj => blk_cell hV (2 + j) (hO2 j v hj)
        have z1 := midOk_range r
        have z2 := midOf_range r
        rw [hdl] at z1 z2
        exact ⟨z1, by rw [z2, hD]⟩
      clear hD hO2
      go_upto_region 9 with fail
      have B6 := blk_new wr OC 51
      have P6 := PR.keepsN ((Keeps.refl Nothing wr).alloc (.cells OC 51))
      clear PR x1 x2 hOa
      generalize wr.alloc (.cells OC 51) = w5 at *
      obtain ⟨g6, hg6⟩ : ∃ g, wr.heap.size = g := ⟨_, rfl⟩
      rw [hg6] at B6 ⊢
      clear hg6
      replace msgR := fun V => msgR V g6
      obtain ⟨x1, x2⟩ := msgR _ B6
      have hgr := great_any (w := w5) hdC
      obtain ⟨Z, hZ⟩ : ∃ Z, decide (greatP d.m) = Z := ⟨_, rfl⟩
      rw [hZ] at hgr
      have HZ := shut hZ
      clear hZ
      go_wp2_with fail
      refine hgr.mono ?_
      rintro e w6 ⟨rfl, k6⟩
      replace P6 := P6.keepsN k6
      replace B6 := k6.blk B6 (fun h => h)
      clear hgr x1 x2 k6
      cases Z with
      | true =>
        go_wp2_with fail
        refine (told29 _).mono ?_
        rintro e w9 ⟨rfl, k9⟩
        go_wp2_with fail
        go_ret
        exact ⟨rfl, P6.1.keep.trans k9 (fun _ h _ => h)⟩
      | false =>
        have hng : ¬ greatP d.m := by have := HZ.out; simpa using this
        clear HZ
        unfold greatP at hng
        have hS : MsgSmall d.m := ⟨by omega, by omega, by omega⟩
        obtain ⟨qv, hq1, hq2, hq3, v, hv5, hq4⟩ := tmod5 okd
        have c60 := blk_cell B6 0 hO0
        have c61 := blk_cell B6 1 hO1
        obtain ⟨N6, R6, hall⟩ := P6
        have hcase : v = 0 ∨ v = 1 ∨ v = 2 ∨ v = 3 ∨ v = 4 := by omega
        clear hv5
        rcases hcase with rfl | rfl | rfl | rfl | rfl
        · have hq5 : (qv + 5).tmod 5 = 0 := hq4
          clear hq4
          go_upto_region 22 with fail
          have hw6 := N6.keep.size
          have N6d := N6.keepsN (Keeps.refl Nothing w6).drew
          have R6d := R6.keepsN (Keeps.refl Nothing w6).drew
          have B6d : Blk w6.drew g6 OC 51 := B6
          by_cases hy : mayP d.m
          · have hlenM := encMsg_len hy hdo.h32 hdo.at'.h32
            have hneM := encMsg_ne d.m
            refine wp_region_mix (fun V => Blk V g6 OC 51) [(true, 0), (true, 1), (true, 2), (true, 4), (true, 5), (true, 6), (false, 3), (false, 7), (false, 8), (true, 9)] (by kernel_rfl) (by kernel_rfl) B6 ?_
            simp only [mixItems, List.map_cons, List.map_nil, List.getD_cons_zero, List.getD_cons_succ]
            repeat (refine wpMix_free (fun K hK => ?_); go_simp; refine hK _ ?_; clear hK K)
            refine wpMix_yield (v := .agg D) (fun V hV => ?_) (fun K hK => ?_)
            · obtain ⟨y1, y2⟩ := msgR V hV
              go_simp
            go_simp
            refine hK _ ?_
            clear hK K
            repeat (refine wpMix_free (fun K hK => ?_); go_simp; refine hK _ ?_; clear hK K)
            refine wpMix_yield (v := .agg D) (fun V hV => ?_) (fun K hK => ?_)
            · obtain ⟨y1, y2⟩ := msgR V hV
              go_simp
            go_simp
            refine hK _ ?_
            clear hK K
            repeat (refine wpMix_free (fun K hK => ?_); go_simp; refine hK _ ?_; clear hK K)
            refine wpMix_one (fun K hK => ?_)
            go_wp2_with fail
            refine (nt_send N6d (by omega) (by omega) (by omega) hdC (hdo.at'.keepsN N6d.keep) hS hy).mono ?_
            rintro e w7 ⟨b7, c7, rfl, N7, o7⟩
            have B7 := o7.2 _ _ _ B6d (by decide) (by decide)
            have R7 := R6d.other o7
            have hsz7 : w6.heap.size ≤ w7.heap.size := o7.1
            go_wp2_with fail
            refine hK _ _ B7 ?_
            clear hK K
            refine wpMix_one (fun K hK => ?_)
            go_wp2_with fail
            refine (rt_send R7 hsz7 hw6 (by omega) (by omega) (by rw [List.length_map]; omega) hdC (hdo.at'.keepsN N7.keep) hS hy).mono ?_
            rintro e w8 ⟨rfl, R8, a8⟩
            have N8 := a8.nt N7
            have B8 := a8.blk B7 (by decide) (by decide)
            go_wp2_with fail
            refine hK _ _ B8 ?_
            clear hK K
            refine wpMix_one (fun K hK => ?_)
            go_wp2_with fail
            refine (is_any (w := w8) (isErr_nil 0 _) 0 0).mono ?_
            rintro e w9 ⟨rfl, n9, rfl⟩
            go_wp2_with fail
            refine hK _ _ B8 ?_
            clear hK K
            repeat (refine wpMix_free (fun K hK => ?_); go_simp; refine hK _ ?_; clear hK K)
            refine wpMix_nil ?_
            have PX : PN w (w8.drewN n9) p q (L ++ [(b7, c7, encMsg d.m)]) (s + 1) := ⟨by have := N8.keepsN ((Keeps.refl Nothing w8).drewN n9); rw [show ((s + 1 : Nat) : Int) = (s : Int) + 1 by omega]; exact this, by have := R8.keepsN ((Keeps.refl Nothing w8).drewN n9); rw [List.map_append, show ((s + 1 : Nat) : Int) = (s : Int) + 1 by omega]; exact this, fun y hy' => by
              rcases List.mem_append.1 hy' with h | h
              · exact hall y h
              · rw [List.mem_singleton] at h; subst h; exact ⟨hneM, by show (encMsg d.m).length ≤ _; omega⟩⟩
            clear N6 R6 N6d R6d B6 B6d B7 B8 R7 R8 N7 N8 a8 o7 c60 c61 hneM
            generalize w8.drewN n9 = wE at *
            generalize encMsg d.m = M9 at *
            have PE : PN w wE p q (L ++ [(b7, c7, M9)]) (s + 1) := PX
            obtain ⟨NE, RE, hallE⟩ := PE
            have hu := fun V (k : Keeps Nothing wE V) => nt_under (NE.keepsN k)
            have hst := fun V (k : Keeps Nothing wE V) => nt_sent (NE.keepsN k)
            have KE := NE.keep
            have RE' := RE
            obtain ⟨ar, cr, hRN, -, -⟩ := RE'
            have c0 : wE.cell? ⟨q, 0, none⟩ = some (.slice ar (L ++ [(b7, c7, M9)]).length cr) := by have := blk_cell hRN.blk 0 rfl; rw [List.length_map] at this; exact this
            have c1 : wE.cell? ⟨q, 1, none⟩ = some (.int .i64 ((s + 1) : Nat)) := blk_cell hRN.blk 1 rfl
            clear hRN
            go_wp2_with fail
            refine wp_region_mix (fun V => Keeps Nothing wE V) [(true, 0), (true, 2), (true, 3), (true, 4), (true, 5), (true, 6), (false, 1), (true, 7), (true, 8), (true, 9), (true, 11), (true, 12), (true, 13), (true, 14), (false, 10), (true, 15), (true, 16)] (by kernel_rfl) (by kernel_rfl) (Keeps.refl _ _).drew ?_
            simp only [mixItems, List.map_cons, List.map_nil, List.getD_cons_zero, List.getD_cons_succ]
            repeat (refine wpMix_free (fun K hK => ?_); go_simp; refine hK _ ?_; clear hK K)
            refine wpMix_yield (v := .slice ar (L ++ [(b7, c7, M9)]).length cr) (fun V hV => ?_) (fun K hK => ?_)
            · have y1 := hV.cell c0 (fun h => h)
              go_simp
            go_simp
            refine hK _ ?_
            clear hK K
            repeat (refine wpMix_free (fun K hK => ?_); go_simp; refine hK _ ?_; clear hK K)
            refine wpMix_one (fun K hK => ?_)
            go_wp2_with fail
            refine (hu _ (Keeps.refl _ _).drew).mono ?_
            rintro e wu ⟨rfl, rfl⟩
            go_wp2_with fail
            refine hK _ _ (Keeps.refl _ _).drew ?_
            clear hK K
            repeat (refine wpMix_free (fun K hK => ?_); go_simp; refine hK _ ?_; clear hK K)
            refine wpMix_yield (v := .int .i64 ((s + 1) : Nat)) (fun V hV => ?_) (fun K hK => ?_)
            · have y1 := hV.cell c1 (fun h => h)
              go_simp
            go_simp
            refine hK _ ?_
            clear hK K
            repeat (refine wpMix_free (fun K hK => ?_); go_simp; refine hK _ ?_; clear hK K)
            refine wpMix_one (fun K hK => ?_)
            go_wp2_with fail
            refine (hst _ (Keeps.refl _ _).drew).mono ?_
            rintro e wv ⟨rfl, rfl⟩
            go_wp2_with fail
            refine hK _ _ (Keeps.refl _ _).drew ?_
            clear hK K
            repeat (refine wpMix_free (fun K hK => ?_); go_simp; refine hK _ ?_; clear hK K)
            refine wpMix_nil ?_
            have PF : PN w (wE).drew p q (L ++ [(b7, c7, M9)]) ((s + 1)) := PN.keepsN (w := wE) ⟨NE, RE, hallE⟩ (Keeps.refl _ _).drew
            clear hu hst NE RE c0 c1 KE
            go_wp2_with fail
            go_roundw
            case rel => exact ⟨i + 1, (L ++ [(b7, c7, M9)]), (s + 1), by go_num, by omega, by omega, by first | omega | (simp only [List.length_append, List.length_singleton]; omega) | (have := List.length_eraseIdx_le L J; omega), by omega, PF⟩
            case measure => simp [intOf]; omega
          · refine wp_region_mix (fun V => Blk V g6 OC 51) [(true, 0), (true, 1), (true, 2), (true, 4), (true, 5), (true, 6), (false, 3), (false, 7), (false, 8), (true, 9)] (by kernel_rfl) (by kernel_rfl) B6 ?_
            simp only [mixItems, List.map_cons, List.map_nil, List.getD_cons_zero, List.getD_cons_succ]
            repeat (refine wpMix_free (fun K hK => ?_); go_simp; refine hK _ ?_; clear hK K)
            refine wpMix_yield (v := .agg D) (fun V hV => ?_) (fun K hK => ?_)
            · obtain ⟨y1, y2⟩ := msgR V hV
              go_simp
            go_simp
            refine hK _ ?_
            clear hK K
            repeat (refine wpMix_free (fun K hK => ?_); go_simp; refine hK _ ?_; clear hK K)
            refine wpMix_yield (v := .agg D) (fun V hV => ?_) (fun K hK => ?_)
            · obtain ⟨y1, y2⟩ := msgR V hV
              go_simp
            go_simp
            refine hK _ ?_
            clear hK K
            repeat (refine wpMix_free (fun K hK => ?_); go_simp; refine hK _ ?_; clear hK K)
            refine wpMix_one (fun K hK => ?_)
            go_wp2_with fail
            refine (nt_bad N6d (by omega) (by omega) (by omega) hdC (hdo.at'.keepsN N6d.keep) hS hy).mono ?_
            rintro e w7 ⟨b7, rfl, hE7, N7, o7⟩
            have B7 := o7.2 _ _ _ B6d (by decide) (by decide)
            have R7 := R6d.other o7
            go_wp2_with fail
            refine hK _ _ B7 ?_
            clear hK K
            refine wpMix_one (fun K hK => ?_)
            go_wp2_with fail
            refine (rt_bad R7 (by omega) (by omega) (by rw [List.length_map]; omega) hdC (hdo.at'.keepsN N7.keep) hS hy).mono ?_
            rintro e w8 ⟨rfl, R8, a8⟩
            have N8 := a8.nt N7
            have B8 := a8.blk B7 (by decide) (by decide)
            have hE8 := a8.err hE7 (Nat.le_refl _)
            go_wp2_with fail
            refine hK _ _ B8 ?_
            clear hK K
            refine wpMix_one (fun K hK => ?_)
            go_wp2_with fail
            refine (is_any hE8 1 0).mono ?_
            rintro e w9 ⟨rfl, n9, rfl⟩
            go_wp2_with fail
            refine hK _ _ B8 ?_
            clear hK K
            repeat (refine wpMix_free (fun K hK => ?_); go_simp; refine hK _ ?_; clear hK K)
            refine wpMix_nil ?_
            have PX : PN w (w8.drewN n9) p q L s := ⟨N8.keepsN ((Keeps.refl Nothing w8).drewN n9), (R8.keepsN ((Keeps.refl Nothing w8).drewN n9)).mono (Nat.le_trans o7.1 a8.size), hall⟩
            clear N6 R6 N6d R6d B6 B6d B7 B8 R7 R8 N7 N8 a8 o7 c60 c61 hE7 hE8
            generalize w8.drewN n9 = wE at *
            have PE : PN w wE p q (L) s := PX
            obtain ⟨NE, RE, hallE⟩ := PE
            have hu := fun V (k : Keeps Nothing wE V) => nt_under (NE.keepsN k)
            have hst := fun V (k : Keeps Nothing wE V) => nt_sent (NE.keepsN k)
            have KE := NE.keep
            have RE' := RE
            obtain ⟨ar, cr, hRN, -, -⟩ := RE'
            have c0 : wE.cell? ⟨q, 0, none⟩ = some (.slice ar (L).length cr) := by have := blk_cell hRN.blk 0 rfl; rw [List.length_map] at this; exact this
            have c1 : wE.cell? ⟨q, 1, none⟩ = some (.int .i64 (s : Nat)) := blk_cell hRN.blk 1 rfl
            clear hRN
            go_wp2_with fail
            refine wp_region_mix (fun V => Keeps Nothing wE V) [(true, 0), (true, 2), (true, 3), (true, 4), (true, 5), (true, 6), (false, 1), (true, 7), (true, 8), (true, 9), (true, 11), (true, 12), (true, 13), (true, 14), (false, 10), (true, 15), (true, 16)] (by kernel_rfl) (by kernel_rfl) (Keeps.refl _ _).drew ?_
            simp only [mixItems, List.map_cons, List.map_nil, List.getD_cons_zero, List.getD_cons_succ]
            repeat (refine wpMix_free (fun K hK => ?_); go_simp; refine hK _ ?_; clear hK K)
            refine wpMix_yield (v := .slice ar (L).length cr) (fun V hV => ?_) (fun K hK => ?_)
            · have y1 := hV.cell c0 (fun h => h)
              go_simp
            go_simp
            refine hK _ ?_
            clear hK K
            repeat (refine wpMix_free (fun K hK => ?_); go_simp; refine hK _ ?_; clear hK K)
            refine wpMix_one (fun K hK => ?_)
            go_wp2_with fail
            refine (hu _ (Keeps.refl _ _).drew).mono ?_
            rintro e wu ⟨rfl, rfl⟩
            go_wp2_with fail
            refine hK _ _ (Keeps.refl _ _).drew ?_
            clear hK K
            repeat (refine wpMix_free (fun K hK => ?_); go_simp; refine hK _ ?_; clear hK K)
            refine wpMix_yield (v := .int .i64 (s : Nat)) (fun V hV => ?_) (fun K hK => ?_)
            · have y1 := hV.cell c1 (fun h => h)
              go_simp
            go_simp
            refine hK _ ?_
            clear hK K
            repeat (refine wpMix_free (fun K hK => ?_); go_simp; refine hK _ ?_; clear hK K)
            refine wpMix_one (fun K hK => ?_)
            go_wp2_with fail
            refine (hst _ (Keeps.refl _ _).drew).mono ?_
            rintro e wv ⟨rfl, rfl⟩
            go_wp2_with fail
            refine hK _ _ (Keeps.refl _ _).drew ?_
            clear hK K
            repeat (refine wpMix_free (fun K hK => ?_); go_simp; refine hK _ ?_; clear hK K)
            refine wpMix_nil ?_
            have PF : PN w (wE).drew p q (L) (s) := PN.keepsN (w := wE) ⟨NE, RE, hallE⟩ (Keeps.refl _ _).drew
            clear hu hst NE RE c0 c1 KE
            go_wp2_with fail
            go_roundw
            case rel => exact ⟨i + 1, (L), s, by go_num, by omega, by omega, by first | omega | (simp only [List.length_append, List.length_singleton]; omega) | (have := List.length_eraseIdx_le L J; omega), by omega, PF⟩
            case measure => simp [intOf]; omega
        · have hq5 : (qv + 5).tmod 5 = 1 := hq4
          clear hq4
          go_upto_region 22 with fail
          have hw6 := N6.keep.size
          have N6d := N6.keepsN (Keeps.refl Nothing w6).drew
          have R6d := R6.keepsN (Keeps.refl Nothing w6).drew
          have B6d : Blk w6.drew g6 OC 51 := B6
          by_cases hy : mayP d.m
          · have hlenM := encMsg_len hy hdo.h32 hdo.at'.h32
            have hneM := encMsg_ne d.m
            refine wp_region_mix (fun V => Blk V g6 OC 51) [(true, 0), (true, 1), (true, 2), (true, 4), (true, 5), (true, 6), (false, 3), (false, 7), (false, 8), (true, 9)] (by kernel_rfl) (by kernel_rfl) B6 ?_
            simp only [mixItems, List.map_cons, List.map_nil, List.getD_cons_zero, List.getD_cons_succ]
            repeat (refine wpMix_free (fun K hK => ?_); go_simp; refine hK _ ?_; clear hK K)
            refine wpMix_yield (v := .agg D) (fun V hV => ?_) (fun K hK => ?_)
            · obtain ⟨y1, y2⟩ := msgR V hV
              go_simp
            go_simp
            refine hK _ ?_
            clear hK K
            repeat (refine wpMix_free (fun K hK => ?_); go_simp; refine hK _ ?_; clear hK K)
            refine wpMix_yield (v := .agg D) (fun V hV => ?_) (fun K hK => ?_)
            · obtain ⟨y1, y2⟩ := msgR V hV
              go_simp
            go_simp
            refine hK _ ?_
            clear hK K
            repeat (refine wpMix_free (fun K hK => ?_); go_simp; refine hK _ ?_; clear hK K)
            refine wpMix_one (fun K hK => ?_)
            go_wp2_with fail
            refine (nt_send N6d (by omega) (by omega) (by omega) hdC (hdo.at'.keepsN N6d.keep) hS hy).mono ?_
            rintro e w7 ⟨b7, c7, rfl, N7, o7⟩
            have B7 := o7.2 _ _ _ B6d (by decide) (by decide)
            have R7 := R6d.other o7
            have hsz7 : w6.heap.size ≤ w7.heap.size := o7.1
            go_wp2_with fail
            refine hK _ _ B7 ?_
            clear hK K
            refine wpMix_one (fun K hK => ?_)
            go_wp2_with fail
            refine (rt_send R7 hsz7 hw6 (by omega) (by omega) (by rw [List.length_map]; omega) hdC (hdo.at'.keepsN N7.keep) hS hy).mono ?_
            rintro e w8 ⟨rfl, R8, a8⟩
            have N8 := a8.nt N7
            have B8 := a8.blk B7 (by decide) (by decide)
            go_wp2_with fail
            refine hK _ _ B8 ?_
            clear hK K
            refine wpMix_one (fun K hK => ?_)
            go_wp2_with fail
            refine (is_any (w := w8) (isErr_nil 0 _) 0 0).mono ?_
            rintro e w9 ⟨rfl, n9, rfl⟩
            go_wp2_with fail
            refine hK _ _ B8 ?_
            clear hK K
            repeat (refine wpMix_free (fun K hK => ?_); go_simp; refine hK _ ?_; clear hK K)
            refine wpMix_nil ?_
            have PX : PN w (w8.drewN n9) p q (L ++ [(b7, c7, encMsg d.m)]) (s + 1) := ⟨by have := N8.keepsN ((Keeps.refl Nothing w8).drewN n9); rw [show ((s + 1 : Nat) : Int) = (s : Int) + 1 by omega]; exact this, by have := R8.keepsN ((Keeps.refl Nothing w8).drewN n9); rw [List.map_append, show ((s + 1 : Nat) : Int) = (s : Int) + 1 by omega]; exact this, fun y hy' => by
              rcases List.mem_append.1 hy' with h | h
              · exact hall y h
              · rw [List.mem_singleton] at h; subst h; exact ⟨hneM, by show (encMsg d.m).length ≤ _; omega⟩⟩
            clear N6 R6 N6d R6d B6 B6d B7 B8 R7 R8 N7 N8 a8 o7 c60 c61 hneM
            generalize w8.drewN n9 = wE at *
            generalize encMsg d.m = M9 at *
            have PE : PN w wE p q (L ++ [(b7, c7, M9)]) (s + 1) := PX
            obtain ⟨NE, RE, hallE⟩ := PE
            have hu := fun V (k : Keeps Nothing wE V) => nt_under (NE.keepsN k)
            have hst := fun V (k : Keeps Nothing wE V) => nt_sent (NE.keepsN k)
            have KE := NE.keep
            have RE' := RE
            obtain ⟨ar, cr, hRN, -, -⟩ := RE'
            have c0 : wE.cell? ⟨q, 0, none⟩ = some (.slice ar (L ++ [(b7, c7, M9)]).length cr) := by have := blk_cell hRN.blk 0 rfl; rw [List.length_map] at this; exact this
            have c1 : wE.cell? ⟨q, 1, none⟩ = some (.int .i64 ((s + 1) : Nat)) := blk_cell hRN.blk 1 rfl
            clear hRN
            go_wp2_with fail
            refine wp_region_mix (fun V => Keeps Nothing wE V) [(true, 0), (true, 2), (true, 3), (true, 4), (true, 5), (true, 6), (false, 1), (true, 7), (true, 8), (true, 9), (true, 11), (true, 12), (true, 13), (true, 14), (false, 10), (true, 15), (true, 16)] (by kernel_rfl) (by kernel_rfl) (Keeps.refl _ _).drew ?_
            simp only [mixItems, List.map_cons, List.map_nil, List.getD_cons_zero, List.getD_cons_succ]
            repeat (refine wpMix_free (fun K hK => ?_); go_simp; refine hK _ ?_; clear hK K)
            refine wpMix_yield (v := .slice ar (L ++ [(b7, c7, M9)]).length cr) (fun V hV => ?_) (fun K hK => ?_)
            · have y1 := hV.cell c0 (fun h => h)
              go_simp
            go_simp
            refine hK _ ?_
            clear hK K
            repeat (refine wpMix_free (fun K hK => ?_); go_simp; refine hK _ ?_; clear hK K)
            refine wpMix_one (fun K hK => ?_)
            go_wp2_with fail
            refine (hu _ (Keeps.refl _ _).drew).mono ?_
            rintro e wu ⟨rfl, rfl⟩
            go_wp2_with fail
            refine hK _ _ (Keeps.refl _ _).drew ?_
            clear hK K
            repeat (refine wpMix_free (fun K hK => ?_); go_simp; refine hK _ ?_; clear hK K)
            refine wpMix_yield (v := .int .i64 ((s + 1) : Nat)) (fun V hV => ?_) (fun K hK => ?_)
            · have y1 := hV.cell c1 (fun h => h)
              go_simp
            go_simp
            refine hK _ ?_
            clear hK K
            repeat (refine wpMix_free (fun K hK => ?_); go_simp; refine hK _ ?_; clear hK K)
            refine wpMix_one (fun K hK => ?_)
            go_wp2_with fail
            refine (hst _ (Keeps.refl _ _).drew).mono ?_
            rintro e wv ⟨rfl, rfl⟩
            go_wp2_with fail
            refine hK _ _ (Keeps.refl _ _).drew ?_
            clear hK K
            repeat (refine wpMix_free (fun K hK => ?_); go_simp; refine hK _ ?_; clear hK K)
            refine wpMix_nil ?_
            have PF : PN w (wE).drew p q (L ++ [(b7, c7, M9)]) ((s + 1)) := PN.keepsN (w := wE) ⟨NE, RE, hallE⟩ (Keeps.refl _ _).drew
            clear hu hst NE RE c0 c1 KE
            go_wp2_with fail
            go_roundw
            case rel => exact ⟨i + 1, (L ++ [(b7, c7, M9)]), (s + 1), by go_num, by omega, by omega, by first | omega | (simp only [List.length_append, List.length_singleton]; omega) | (have := List.length_eraseIdx_le L J; omega), by omega, PF⟩
            case measure => simp [intOf]; omega
          · refine wp_region_mix (fun V => Blk V g6 OC 51) [(true, 0), (true, 1), (true, 2), (true, 4), (true, 5), (true, 6), (false, 3), (false, 7), (false, 8), (true, 9)] (by kernel_rfl) (by kernel_rfl) B6 ?_
            simp only [mixItems, List.map_cons, List.map_nil, List.getD_cons_zero, List.getD_cons_succ]
            repeat (refine wpMix_free (fun K hK => ?_); go_simp; refine hK _ ?_; clear hK K)
            refine wpMix_yield (v := .agg D) (fun V hV => ?_) (fun K hK => ?_)
            · obtain ⟨y1, y2⟩ := msgR V hV
              go_simp
            go_simp
            refine hK _ ?_
            clear hK K
            repeat (refine wpMix_free (fun K hK => ?_); go_simp; refine hK _ ?_; clear hK K)
            refine wpMix_yield (v := .agg D) (fun V hV => ?_) (fun K hK => ?_)
            · obtain ⟨y1, y2⟩ := msgR V hV
              go_simp
            go_simp
            refine hK _ ?_
            clear hK K
            repeat (refine wpMix_free (fun K hK => ?_); go_simp; refine hK _ ?_; clear hK K)
            refine wpMix_one (fun K hK => ?_)
            go_wp2_with fail
            refine (nt_bad N6d (by omega) (by omega) (by omega) hdC (hdo.at'.keepsN N6d.keep) hS hy).mono ?_
            rintro e w7 ⟨b7, rfl, hE7, N7, o7⟩
            have B7 := o7.2 _ _ _ B6d (by decide) (by decide)
            have R7 := R6d.other o7
            go_wp2_with fail
            refine hK _ _ B7 ?_
            clear hK K
            refine wpMix_one (fun K hK => ?_)
            go_wp2_with fail
            refine (rt_bad R7 (by omega) (by omega) (by rw [List.length_map]; omega) hdC (hdo.at'.keepsN N7.keep) hS hy).mono ?_
            rintro e w8 ⟨rfl, R8, a8⟩
            have N8 := a8.nt N7
            have B8 := a8.blk B7 (by decide) (by decide)
            have hE8 := a8.err hE7 (Nat.le_refl _)
            go_wp2_with fail
            refine hK _ _ B8 ?_
            clear hK K
            refine wpMix_one (fun K hK => ?_)
            go_wp2_with fail
            refine (is_any hE8 1 0).mono ?_
            rintro e w9 ⟨rfl, n9, rfl⟩
            go_wp2_with fail
            refine hK _ _ B8 ?_
            clear hK K
            repeat (refine wpMix_free (fun K hK => ?_); go_simp; refine hK _ ?_; clear hK K)
            refine wpMix_nil ?_
            have PX : PN w (w8.drewN n9) p q L s := ⟨N8.keepsN ((Keeps.refl Nothing w8).drewN n9), (R8.keepsN ((Keeps.refl Nothing w8).drewN n9)).mono (Nat.le_trans o7.1 a8.size), hall⟩
            clear N6 R6 N6d R6d B6 B6d B7 B8 R7 R8 N7 N8 a8 o7 c60 c61 hE7 hE8
            generalize w8.drewN n9 = wE at *
            have PE : PN w wE p q (L) s := PX
            obtain ⟨NE, RE, hallE⟩ := PE
            have hu := fun V (k : Keeps Nothing wE V) => nt_under (NE.keepsN k)
            have hst := fun V (k : Keeps Nothing wE V) => nt_sent (NE.keepsN k)
            have KE := NE.keep
            have RE' := RE
            obtain ⟨ar, cr, hRN, -, -⟩ := RE'
            have c0 : wE.cell? ⟨q, 0, none⟩ = some (.slice ar (L).length cr) := by have := blk_cell hRN.blk 0 rfl; rw [List.length_map] at this; exact this
            have c1 : wE.cell? ⟨q, 1, none⟩ = some (.int .i64 (s : Nat)) := blk_cell hRN.blk 1 rfl
            clear hRN
            go_wp2_with fail
            refine wp_region_mix (fun V => Keeps Nothing wE V) [(true, 0), (true, 2), (true, 3), (true, 4), (true, 5), (true, 6), (false, 1), (true, 7), (true, 8), (true, 9), (true, 11), (true, 12), (true, 13), (true, 14), (false, 10), (true, 15), (true, 16)] (by kernel_rfl) (by kernel_rfl) (Keeps.refl _ _).drew ?_
            simp only [mixItems, List.map_cons, List.map_nil, List.getD_cons_zero, List.getD_cons_succ]
            repeat (refine wpMix_free (fun K hK => ?_); go_simp; refine hK _ ?_; clear hK K)
            refine wpMix_yield (v := .slice ar (L).length cr) (fun V hV => ?_) (fun K hK => ?_)
            · have y1 := hV.cell c0 (fun h => h)
              go_simp
            go_simp
            refine hK _ ?_
            clear hK K
            repeat (refine wpMix_free (fun K hK => ?_); go_simp; refine hK _ ?_; clear hK K)
            refine wpMix_one (fun K hK => ?_)
            go_wp2_with fail
            refine (hu _ (Keeps.refl _ _).drew).mono ?_
            rintro e wu ⟨rfl, rfl⟩
            go_wp2_with fail
            refine hK _ _ (Keeps.refl _ _).drew ?_
            clear hK K
            repeat (refine wpMix_free (fun K hK => ?_); go_simp; refine hK _ ?_; clear hK K)
            refine wpMix_yield (v := .int .i64 (s : Nat)) (fun V hV => ?_) (fun K hK => ?_)
            · have y1 := hV.cell c1 (fun h => h)
              go_simp
            go_simp
            refine hK _ ?_
            clear hK K
            repeat (refine wpMix_free (fun K hK => ?_); go_simp; refine hK _ ?_; clear hK K)
            refine wpMix_one (fun K hK => ?_)
            go_wp2_with fail
            refine (hst _ (Keeps.refl _ _).drew).mono ?_
            rintro e wv ⟨rfl, rfl⟩
            go_wp2_with fail
            refine hK _ _ (Keeps.refl _ _).drew ?_
            clear hK K
            repeat (refine wpMix_free (fun K hK => ?_); go_simp; refine hK _ ?_; clear hK K)
            refine wpMix_nil ?_
            have PF : PN w (wE).drew p q (L) (s) := PN.keepsN (w := wE) ⟨NE, RE, hallE⟩ (Keeps.refl _ _).drew
            clear hu hst NE RE c0 c1 KE
            go_wp2_with fail
            go_roundw
            case rel => exact ⟨i + 1, (L), s, by go_num, by omega, by omega, by first | omega | (simp only [List.length_append, List.length_singleton]; omega) | (have := List.length_eraseIdx_le L J; omega), by omega, PF⟩
            case measure => simp [intOf]; omega
        · have hq5 : (qv + 5).tmod 5 = 2 := hq4
          clear hq4 msgR hdC
          have hw6 := N6.keep.size
          rcases nil_or L with rfl | hne
          · have ht := nt_take00 N6 ok
            go_wp2_with fail
            refine ht.mono ?_
            rintro e w7 ⟨b7, rfl, hE7, N7, o7⟩
            have B7 := o7.2 _ _ _ B6 (by decide) (by decide)
            have R7 := R6.other o7
            have c71 := blk_cell B7 1 hO1
            clear ht c60 c61 B6 R6 N6
            go_wp2_with fail
            refine (rt_take0 R7 ok).mono ?_
            rintro e w8 ⟨rfl, hw8⟩
            subst hw8
            have s1 := run_str (l := 0) w8 0 [] rfl (bytesAt_nil none)
            go_wp2_with fail
            refine (is_any hE7 10 0).mono ?_
            rintro e w9 ⟨rfl, n9, rfl⟩
            have PX : PN w (w8.drewN n9) p q [] s := ⟨N7.keepsN ((Keeps.refl Nothing w8).drewN n9), (R7.keepsN ((Keeps.refl Nothing w8).drewN n9)).mono o7.1, hall⟩
            clear R7 N7 o7 hE7 c71 s1 B7
            generalize w8.drewN n9 = wE at *
            go_wp2_with fail
            go_loopw [11] (fun s11 wx => s11 = .int .i64 0 ∧ wx = wE) (fun s11 _ => 0)
            case atStart => exact ⟨rfl, rfl⟩
            case round =>
              obtain ⟨rfl, rfl⟩ := hrel
              have PE : PN w wr p q (([] : List Row8)) s := PX
              obtain ⟨NE, RE, hallE⟩ := PE
              have hu := fun V (k : Keeps Nothing wr V) => nt_under (NE.keepsN k)
              have hst := fun V (k : Keeps Nothing wr V) => nt_sent (NE.keepsN k)
              have KE := NE.keep
              have RE' := RE
              obtain ⟨ar, cr, hRN, -, -⟩ := RE'
              have c0 : wr.cell? ⟨q, 0, none⟩ = some (.slice ar (([] : List Row8)).length cr) := by have := blk_cell hRN.blk 0 rfl; rw [List.length_map] at this; exact this
              have c1 : wr.cell? ⟨q, 1, none⟩ = some (.int .i64 (s : Nat)) := blk_cell hRN.blk 1 rfl
              clear hRN
              go_wp2_with fail
              refine wp_region_mix (fun V => Keeps Nothing wr V) [(true, 0), (true, 2), (true, 3), (true, 4), (true, 5), (true, 6), (false, 1), (true, 7), (true, 8), (true, 9), (true, 11), (true, 12), (true, 13), (true, 14), (false, 10), (true, 15), (true, 16)] (by kernel_rfl) (by kernel_rfl) (Keeps.refl _ _).drew ?_
              simp only [mixItems, List.map_cons, List.map_nil, List.getD_cons_zero, List.getD_cons_succ]
              repeat (refine wpMix_free (fun K hK => ?_); go_simp; refine hK _ ?_; clear hK K)
              refine wpMix_yield (v := .slice ar (([] : List Row8)).length cr) (fun V hV => ?_) (fun K hK => ?_)
              · have y1 := hV.cell c0 (fun h => h)
                go_simp
              go_simp
              refine hK _ ?_
              clear hK K
              repeat (refine wpMix_free (fun K hK => ?_); go_simp; refine hK _ ?_; clear hK K)
              refine wpMix_one (fun K hK => ?_)
              go_wp2_with fail
              refine (hu _ (Keeps.refl _ _).drew).mono ?_
              rintro e wu ⟨rfl, rfl⟩
              go_wp2_with fail
              refine hK _ _ (Keeps.refl _ _).drew ?_
              clear hK K
              repeat (refine wpMix_free (fun K hK => ?_); go_simp; refine hK _ ?_; clear hK K)
              refine wpMix_yield (v := .int .i64 (s : Nat)) (fun V hV => ?_) (fun K hK => ?_)
              · have y1 := hV.cell c1 (fun h => h)
                go_simp
              go_simp
              refine hK _ ?_
              clear hK K
              repeat (refine wpMix_free (fun K hK => ?_); go_simp; refine hK _ ?_; clear hK K)
              refine wpMix_one (fun K hK => ?_)
              go_wp2_with fail
              refine (hst _ (Keeps.refl _ _).drew).mono ?_
              rintro e wv ⟨rfl, rfl⟩
              go_wp2_with fail
              refine hK _ _ (Keeps.refl _ _).drew ?_
              clear hK K
              repeat (refine wpMix_free (fun K hK => ?_); go_simp; refine hK _ ?_; clear hK K)
              refine wpMix_nil ?_
              have PF : PN w (wr).drew p q (([] : List Row8)) (s) := PN.keepsN (w := wr) ⟨NE, RE, hallE⟩ (Keeps.refl _ _).drew
              clear hu hst NE RE c0 c1 KE
              go_wp2_with fail
              go_roundw
              case rel => exact ⟨i + 1, (([] : List Row8)), s, by go_num, by omega, by omega, by first | omega | (simp only [List.length_append, List.length_singleton]; omega) | (have := List.length_eraseIdx_le L J; omega), by omega, PF⟩
              case measure => simp [intOf]; omega
          · have hpos : 0 < L.length := List.length_pos_iff.2 hne
            have hpl := placeN_lt ok hpos
            obtain ⟨x, hx⟩ : ∃ x, L[placeN ok L.length]? = some x := ⟨L[placeN ok L.length]'hpl, List.getElem?_eq_getElem hpl⟩
            obtain ⟨hx1, hx2⟩ := hall x (List.mem_of_getElem? hx)
            have hxr : (L.map (·.2.2))[placeN ok (L.map (·.2.2)).length]? = some x.2.2 := by rw [List.length_map, List.getElem?_map, hx]; rfl
            have hposr : 0 < (L.map (·.2.2)).length := by rw [List.length_map]; exact hpos
            obtain ⟨hap, hxb⟩ := nt_apart N6 hx
            have ht := nt_take N6 ok hpos (by omega) hx
            obtain ⟨xb, xc, xl⟩ := x
            simp only at hx1 hx2 hxr hap hxb
            have hV : rowV (xb, xc, xl) = .slice (some ⟨xb, 0, none⟩) xl.length xc := rfl
            rw [hV] at ht
            simp only at ht
            go_wp2_with fail
            refine ht.mono ?_
            rintro e w7 ⟨rfl, N7, ow7, o7⟩
            have B7 := o7.2 _ _ _ B6 (by decide) (by decide)
            have R7 := R6.other o7
            have c71 := blk_cell B7 1 hO1
            have hrt := rt_take R7 o7.1 hw6 ok hposr (by rw [List.length_map]; omega) hxr
            rw [List.length_map] at hrt
            clear ht c60 c61 B6 R6 N6 hV hx hxr hposr
            generalize placeN ok L.length = J at *
            go_wp2_with fail
            refine hrt.mono ?_
            rintro e w8 ⟨rfl, R8, a8⟩
            have N8 := a8.nt N7
            have ow8 := a8.own8 ow7
            have s1 := run_str w8 xc xl rfl (own8_at ow8)
            have hlE : (L.eraseIdx J).length ≤ L.length := List.length_eraseIdx_le L J
            have hallE : ∀ y ∈ L.eraseIdx J, y.2.2 ≠ [] ∧ y.2.2.length ≤ 4000 := fun y hy => hall y (List.mem_of_mem_eraseIdx hy)
            rw [← map_erase] at R8
            clear hrt R7 N7 ow7 o7 B7 c71 a8 hall
            generalize L.eraseIdx J = LE at *
            go_wp2_with fail
            refine (is_any (w := w8) (isErr_nil 0 _) 0 0).mono ?_
            rintro e w9 ⟨rfl, n9, rfl⟩
            have k9 := (Keeps.refl Nothing w8).drewN n9
            have PY : PN w (w8.drewN n9) p q LE s := ⟨N8.keepsN k9, R8.keepsN k9, hallE⟩
            have ow9 := k9.own ow8 (fun _ _ h => h)
            clear R8 N8 ow8 k9 s1 hallE
            generalize w8.drewN n9 = w9 at *
            obtain ⟨XN, hXN⟩ : ∃ XN, xl.length = XN := ⟨_, rfl⟩
            have hx2' : XN ≤ 4000 := by rw [← hXN]; exact hx2
            have HXN := shut hXN
            rw [hXN]
            clear hXN hx1 hx2
            go_wp2_with fail
            go_loopw [11] (fun s11 wx => ∃ (t : Nat) (l' : List UInt8), s11 = .int .i64 t ∧ t ≤ XN ∧ Shut (l'.length = XN) ∧ Own8 wx 5 (some ⟨xb, 0, none⟩) xc l' ∧ PN w wx p q LE s) (fun s11 _ => XN - (intOf s11).toNat)
            case atStart => exact ⟨0, xl, rfl, by omega, HXN, ow9, PY⟩
            case round =>
              clear ow9 PY
              obtain ⟨t, l', rfl, ht, HLL, ow, PX⟩ := hrel
              by_cases hlt2 : t < XN
              · obtain ⟨cc, hcc⟩ : ∃ c, l'[t]? = some c := ⟨_, List.getElem?_eq_getElem (by rw [HLL.out]; exact hlt2)⟩
                have c9 := own8_cell ow hcc
                obtain ⟨_, hf, o4, k4⟩ := own8_store ow (j := t) (by rw [HLL.out]; exact hlt2) (cc + 1)
                have PZ : PN w _ p q LE s := ⟨PX.1.far ow hxb hap k4, (PX.2.1.far ow k4).mono k4.size, PX.2.2⟩
                have HLL2 : Shut ((l'.set t (cc + 1)).length = XN) := shut (by rw [List.length_set]; exact HLL.out)
                have hw := add_one cc
                have i0 : (0 : Int) ≤ t := by omega
                have i1 : (t : Int) < XN := by omega
                clear hcc PX ow
                go_wp2_with fail
                go_roundw
                case rel => exact ⟨t + 1, l'.set t (cc + 1), by go_num, by omega, HLL2, o4, PZ⟩
                case measure => simp [intOf]; omega
              · have i1 : ¬ (t : Int) < XN := by omega
                clear ow
                have PE : PN w wr p q (LE) s := PX
                obtain ⟨NE, RE, hallE⟩ := PE
                have hu := fun V (k : Keeps Nothing wr V) => nt_under (NE.keepsN k)
                have hst := fun V (k : Keeps Nothing wr V) => nt_sent (NE.keepsN k)
                have KE := NE.keep
                have RE' := RE
                obtain ⟨ar, cr, hRN, -, -⟩ := RE'
                have c0 : wr.cell? ⟨q, 0, none⟩ = some (.slice ar (LE).length cr) := by have := blk_cell hRN.blk 0 rfl; rw [List.length_map] at this; exact this
                have c1 : wr.cell? ⟨q, 1, none⟩ = some (.int .i64 (s : Nat)) := blk_cell hRN.blk 1 rfl
                clear hRN
                go_wp2_with fail
                refine wp_region_mix (fun V => Keeps Nothing wr V) [(true, 0), (true, 2), (true, 3), (true, 4), (true, 5), (true, 6), (false, 1), (true, 7), (true, 8), (true, 9), (true, 11), (true, 12), (true, 13), (true, 14), (false, 10), (true, 15), (true, 16)] (by kernel_rfl) (by kernel_rfl) (Keeps.refl _ _).drew ?_
                simp only [mixItems, List.map_cons, List.map_nil, List.getD_cons_zero, List.getD_cons_succ]
                repeat (refine wpMix_free (fun K hK => ?_); go_simp; refine hK _ ?_; clear hK K)
                refine wpMix_yield (v := .slice ar (LE).length cr) (fun V hV => ?_) (fun K hK => ?_)
                · have y1 := hV.cell c0 (fun h => h)
                  go_simp
                go_simp
                refine hK _ ?_
                clear hK K
                repeat (refine wpMix_free (fun K hK => ?_); go_simp; refine hK _ ?_; clear hK K)
                refine wpMix_one (fun K hK => ?_)
                go_wp2_with fail
                refine (hu _ (Keeps.refl _ _).drew).mono ?_
                rintro e wu ⟨rfl, rfl⟩
                go_wp2_with fail
                refine hK _ _ (Keeps.refl _ _).drew ?_
                clear hK K
                repeat (refine wpMix_free (fun K hK => ?_); go_simp; refine hK _ ?_; clear hK K)
                refine wpMix_yield (v := .int .i64 (s : Nat)) (fun V hV => ?_) (fun K hK => ?_)
                · have y1 := hV.cell c1 (fun h => h)
                  go_simp
                go_simp
                refine hK _ ?_
                clear hK K
                repeat (refine wpMix_free (fun K hK => ?_); go_simp; refine hK _ ?_; clear hK K)
                refine wpMix_one (fun K hK => ?_)
                go_wp2_with fail
                refine (hst _ (Keeps.refl _ _).drew).mono ?_
                rintro e wv ⟨rfl, rfl⟩
                go_wp2_with fail
                refine hK _ _ (Keeps.refl _ _).drew ?_
                clear hK K
                repeat (refine wpMix_free (fun K hK => ?_); go_simp; refine hK _ ?_; clear hK K)
                refine wpMix_nil ?_
                have PF : PN w (wr).drew p q (LE) (s) := PN.keepsN (w := wr) ⟨NE, RE, hallE⟩ (Keeps.refl _ _).drew
                clear hu hst NE RE c0 c1 KE
                go_wp2_with fail
                go_roundw
                case rel => exact ⟨i + 1, (LE), s, by go_num, by omega, by omega, by first | omega | (simp only [List.length_append, List.length_singleton]; omega) | (have := List.length_eraseIdx_le L J; omega), by omega, PF⟩
                case measure => simp [intOf]; omega
        · have hq5 : (qv + 5).tmod 5 = 3 := hq4
          clear hq4 msgR hdC
          have hw6 := N6.keep.size
          rcases nil_or L with rfl | hne
          · have ht := nt_take00 N6 ok
            go_wp2_with fail
            refine ht.mono ?_
            rintro e w7 ⟨b7, rfl, hE7, N7, o7⟩
            have B7 := o7.2 _ _ _ B6 (by decide) (by decide)
            have R7 := R6.other o7
            have c71 := blk_cell B7 1 hO1
            clear ht c60 c61 B6 R6 N6
            go_wp2_with fail
            refine (rt_take0 R7 ok).mono ?_
            rintro e w8 ⟨rfl, hw8⟩
            subst hw8
            have s1 := run_str (l := 0) w8 0 [] rfl (bytesAt_nil none)
            go_wp2_with fail
            refine (is_any hE7 10 0).mono ?_
            rintro e w9 ⟨rfl, n9, rfl⟩
            have PX : PN w (w8.drewN n9) p q [] s := ⟨N7.keepsN ((Keeps.refl Nothing w8).drewN n9), (R7.keepsN ((Keeps.refl Nothing w8).drewN n9)).mono o7.1, hall⟩
            clear R7 N7 o7 hE7 c71 s1 B7
            generalize w8.drewN n9 = wE at *
            go_wp2_with fail
            go_loopw [11] (fun s11 wx => s11 = .int .i64 0 ∧ wx = wE) (fun s11 _ => 0)
            case atStart => exact ⟨rfl, rfl⟩
            case round =>
              obtain ⟨rfl, rfl⟩ := hrel
              have PE : PN w wr p q (([] : List Row8)) s := PX
              obtain ⟨NE, RE, hallE⟩ := PE
              have hu := fun V (k : Keeps Nothing wr V) => nt_under (NE.keepsN k)
              have hst := fun V (k : Keeps Nothing wr V) => nt_sent (NE.keepsN k)
              have KE := NE.keep
              have RE' := RE
              obtain ⟨ar, cr, hRN, -, -⟩ := RE'
              have c0 : wr.cell? ⟨q, 0, none⟩ = some (.slice ar (([] : List Row8)).length cr) := by have := blk_cell hRN.blk 0 rfl; rw [List.length_map] at this; exact this
              have c1 : wr.cell? ⟨q, 1, none⟩ = some (.int .i64 (s : Nat)) := blk_cell hRN.blk 1 rfl
              clear hRN
              go_wp2_with fail
              refine wp_region_mix (fun V => Keeps Nothing wr V) [(true, 0), (true, 2), (true, 3), (true, 4), (true, 5), (true, 6), (false, 1), (true, 7), (true, 8), (true, 9), (true, 11), (true, 12), (true, 13), (true, 14), (false, 10), (true, 15), (true, 16)] (by kernel_rfl) (by kernel_rfl) (Keeps.refl _ _).drew ?_
              simp only [mixItems, List.map_cons, List.map_nil, List.getD_cons_zero, List.getD_cons_succ]
              repeat (refine wpMix_free (fun K hK => ?_); go_simp; refine hK _ ?_; clear hK K)
              refine wpMix_yield (v := .slice ar (([] : List Row8)).length cr) (fun V hV => ?_) (fun K hK => ?_)
              · have y1 := hV.cell c0 (fun h => h)
                go_simp
              go_simp
              refine hK _ ?_
              clear hK K
              repeat (refine wpMix_free (fun K hK => ?_); go_simp; refine hK _ ?_; clear hK K)
              refine wpMix_one (fun K hK => ?_)
              go_wp2_with fail
              refine (hu _ (Keeps.refl _ _).drew).mono ?_
              rintro e wu ⟨rfl, rfl⟩
              go_wp2_with fail
              refine hK _ _ (Keeps.refl _ _).drew ?_
              clear hK K
              repeat (refine wpMix_free (fun K hK => ?_); go_simp; refine hK _ ?_; clear hK K)
              refine wpMix_yield (v := .int .i64 (s : Nat)) (fun V hV => ?_) (fun K hK => ?_)
              · have y1 := hV.cell c1 (fun h => h)
                go_simp
              go_simp
              refine hK _ ?_
              clear hK K
              repeat (refine wpMix_free (fun K hK => ?_); go_simp; refine hK _ ?_; clear hK K)
              refine wpMix_one (fun K hK => ?_)
              go_wp2_with fail
              refine (hst _ (Keeps.refl _ _).drew).mono ?_
              rintro e wv ⟨rfl, rfl⟩
              go_wp2_with fail
              refine hK _ _ (Keeps.refl _ _).drew ?_
              clear hK K
              repeat (refine wpMix_free (fun K hK => ?_); go_simp; refine hK _ ?_; clear hK K)
              refine wpMix_nil ?_
              have PF : PN w (wr).drew p q (([] : List Row8)) (s) := PN.keepsN (w := wr) ⟨NE, RE, hallE⟩ (Keeps.refl _ _).drew
              clear hu hst NE RE c0 c1 KE
              go_wp2_with fail
              go_roundw
              case rel => exact ⟨i + 1, (([] : List Row8)), s, by go_num, by omega, by omega, by first | omega | (simp only [List.length_append, List.length_singleton]; omega) | (have := List.length_eraseIdx_le L J; omega), by omega, PF⟩
              case measure => simp [intOf]; omega
          · have hpos : 0 < L.length := List.length_pos_iff.2 hne
            have hpl := placeN_lt ok hpos
            obtain ⟨x, hx⟩ : ∃ x, L[placeN ok L.length]? = some x := ⟨L[placeN ok L.length]'hpl, List.getElem?_eq_getElem hpl⟩
            obtain ⟨hx1, hx2⟩ := hall x (List.mem_of_getElem? hx)
            have hxr : (L.map (·.2.2))[placeN ok (L.map (·.2.2)).length]? = some x.2.2 := by rw [List.length_map, List.getElem?_map, hx]; rfl
            have hposr : 0 < (L.map (·.2.2)).length := by rw [List.length_map]; exact hpos
            obtain ⟨hap, hxb⟩ := nt_apart N6 hx
            have ht := nt_take N6 ok hpos (by omega) hx
            obtain ⟨xb, xc, xl⟩ := x
            simp only at hx1 hx2 hxr hap hxb
            have hV : rowV (xb, xc, xl) = .slice (some ⟨xb, 0, none⟩) xl.length xc := rfl
            rw [hV] at ht
            simp only at ht
            go_wp2_with fail
            refine ht.mono ?_
            rintro e w7 ⟨rfl, N7, ow7, o7⟩
            have B7 := o7.2 _ _ _ B6 (by decide) (by decide)
            have R7 := R6.other o7
            have c71 := blk_cell B7 1 hO1
            have hrt := rt_take R7 o7.1 hw6 ok hposr (by rw [List.length_map]; omega) hxr
            rw [List.length_map] at hrt
            clear ht c60 c61 B6 R6 N6 hV hx hxr hposr
            generalize placeN ok L.length = J at *
            go_wp2_with fail
            refine hrt.mono ?_
            rintro e w8 ⟨rfl, R8, a8⟩
            have N8 := a8.nt N7
            have ow8 := a8.own8 ow7
            have s1 := run_str w8 xc xl rfl (own8_at ow8)
            have hlE : (L.eraseIdx J).length ≤ L.length := List.length_eraseIdx_le L J
            have hallE : ∀ y ∈ L.eraseIdx J, y.2.2 ≠ [] ∧ y.2.2.length ≤ 4000 := fun y hy => hall y (List.mem_of_mem_eraseIdx hy)
            rw [← map_erase] at R8
            clear hrt R7 N7 ow7 o7 B7 c71 a8 hall
            generalize L.eraseIdx J = LE at *
            go_wp2_with fail
            refine (is_any (w := w8) (isErr_nil 0 _) 0 0).mono ?_
            rintro e w9 ⟨rfl, n9, rfl⟩
            have k9 := (Keeps.refl Nothing w8).drewN n9
            have PY : PN w (w8.drewN n9) p q LE s := ⟨N8.keepsN k9, R8.keepsN k9, hallE⟩
            have ow9 := k9.own ow8 (fun _ _ h => h)
            clear R8 N8 ow8 k9 s1 hallE
            generalize w8.drewN n9 = w9 at *
            obtain ⟨XN, hXN⟩ : ∃ XN, xl.length = XN := ⟨_, rfl⟩
            have hx2' : XN ≤ 4000 := by rw [← hXN]; exact hx2
            have HXN := shut hXN
            rw [hXN]
            clear hXN hx1 hx2
            go_wp2_with fail
            go_loopw [11] (fun s11 wx => ∃ (t : Nat) (l' : List UInt8), s11 = .int .i64 t ∧ t ≤ XN ∧ Shut (l'.length = XN) ∧ Own8 wx 5 (some ⟨xb, 0, none⟩) xc l' ∧ PN w wx p q LE s) (fun s11 _ => XN - (intOf s11).toNat)
            case atStart => exact ⟨0, xl, rfl, by omega, HXN, ow9, PY⟩
            case round =>
              clear ow9 PY
              obtain ⟨t, l', rfl, ht, HLL, ow, PX⟩ := hrel
              by_cases hlt2 : t < XN
              · obtain ⟨cc, hcc⟩ : ∃ c, l'[t]? = some c := ⟨_, List.getElem?_eq_getElem (by rw [HLL.out]; exact hlt2)⟩
                have c9 := own8_cell ow hcc
                obtain ⟨_, hf, o4, k4⟩ := own8_store ow (j := t) (by rw [HLL.out]; exact hlt2) (cc + 1)
                have PZ : PN w _ p q LE s := ⟨PX.1.far ow hxb hap k4, (PX.2.1.far ow k4).mono k4.size, PX.2.2⟩
                have HLL2 : Shut ((l'.set t (cc + 1)).length = XN) := shut (by rw [List.length_set]; exact HLL.out)
                have hw := add_one cc
                have i0 : (0 : Int) ≤ t := by omega
                have i1 : (t : Int) < XN := by omega
                clear hcc PX ow
                go_wp2_with fail
                go_roundw
                case rel => exact ⟨t + 1, l'.set t (cc + 1), by go_num, by omega, HLL2, o4, PZ⟩
                case measure => simp [intOf]; omega
              · have i1 : ¬ (t : Int) < XN := by omega
                clear ow
                have PE : PN w wr p q (LE) s := PX
                obtain ⟨NE, RE, hallE⟩ := PE
                have hu := fun V (k : Keeps Nothing wr V) => nt_under (NE.keepsN k)
                have hst := fun V (k : Keeps Nothing wr V) => nt_sent (NE.keepsN k)
                have KE := NE.keep
                have RE' := RE
                obtain ⟨ar, cr, hRN, -, -⟩ := RE'
                have c0 : wr.cell? ⟨q, 0, none⟩ = some (.slice ar (LE).length cr) := by have := blk_cell hRN.blk 0 rfl; rw [List.length_map] at this; exact this
                have c1 : wr.cell? ⟨q, 1, none⟩ = some (.int .i64 (s : Nat)) := blk_cell hRN.blk 1 rfl
                clear hRN
                go_wp2_with fail
                refine wp_region_mix (fun V => Keeps Nothing wr V) [(true, 0), (true, 2), (true, 3), (true, 4), (true, 5), (true, 6), (false, 1), (true, 7), (true, 8), (true, 9), (true, 11), (true, 12), (true, 13), (true, 14), (false, 10), (true, 15), (true, 16)] (by kernel_rfl) (by kernel_rfl) (Keeps.refl _ _).drew ?_
                simp only [mixItems, List.map_cons, List.map_nil, List.getD_cons_zero, List.getD_cons_succ]
                repeat (refine wpMix_free (fun K hK => ?_); go_simp; refine hK _ ?_; clear hK K)
                refine wpMix_yield (v := .slice ar (LE).length cr) (fun V hV => ?_) (fun K hK => ?_)
                · have y1 := hV.cell c0 (fun h => h)
                  go_simp
                go_simp
                refine hK _ ?_
                clear hK K
                repeat (refine wpMix_free (fun K hK => ?_); go_simp; refine hK _ ?_; clear hK K)
                refine wpMix_one (fun K hK => ?_)
                go_wp2_with fail
                refine (hu _ (Keeps.refl _ _).drew).mono ?_
                rintro e wu ⟨rfl, rfl⟩
                go_wp2_with fail
                refine hK _ _ (Keeps.refl _ _).drew ?_
                clear hK K
                repeat (refine wpMix_free (fun K hK => ?_); go_simp; refine hK _ ?_; clear hK K)
                refine wpMix_yield (v := .int .i64 (s : Nat)) (fun V hV => ?_) (fun K hK => ?_)
                · have y1 := hV.cell c1 (fun h => h)
                  go_simp
                go_simp
                refine hK _ ?_
                clear hK K
                repeat (refine wpMix_free (fun K hK => ?_); go_simp; refine hK _ ?_; clear hK K)
                refine wpMix_one (fun K hK => ?_)
                go_wp2_with fail
                refine (hst _ (Keeps.refl _ _).drew).mono ?_
                rintro e wv ⟨rfl, rfl⟩
                go_wp2_with fail
                refine hK _ _ (Keeps.refl _ _).drew ?_
                clear hK K
                repeat (refine wpMix_free (fun K hK => ?_); go_simp; refine hK _ ?_; clear hK K)
                refine wpMix_nil ?_
                have PF : PN w (wr).drew p q (LE) (s) := PN.keepsN (w := wr) ⟨NE, RE, hallE⟩ (Keeps.refl _ _).drew
                clear hu hst NE RE c0 c1 KE
                go_wp2_with fail
                go_roundw
                case rel => exact ⟨i + 1, (LE), s, by go_num, by omega, by omega, by first | omega | (simp only [List.length_append, List.length_singleton]; omega) | (have := List.length_eraseIdx_le L J; omega), by omega, PF⟩
                case measure => simp [intOf]; omega
        · have hq5 : (qv + 5).tmod 5 = 4 := hq4
          clear hq4
          go_upto_region 25 with fail
          have hw6 := N6.keep.size
          have N6d := N6.keepsN (Keeps.refl Nothing w6).drew
          have R6d := R6.keepsN (Keeps.refl Nothing w6).drew
          have B6d : Blk w6.drew g6 OC 51 := B6
          clear msgR hdC
          rcases nil_or L with rfl | hne
          · refine wp_region_mix (fun V => Blk V g6 OC 51) [(true, 0), (true, 1), (true, 2), (true, 4), (true, 5), (true, 6), (false, 3), (false, 7), (false, 8), (true, 9)] (by kernel_rfl) (by kernel_rfl) B6 ?_
            simp only [mixItems, List.map_cons, List.map_nil, List.getD_cons_zero, List.getD_cons_succ]
            repeat (refine wpMix_free (fun K hK => ?_); go_simp; refine hK _ ?_; clear hK K)
            refine wpMix_yield (v := .int .i64 ok) (fun V hV => ?_) (fun K hK => ?_)
            · have y1 := blk_cell hV 1 hO1
              go_simp
            go_simp
            refine hK _ ?_
            clear hK K
            repeat (refine wpMix_free (fun K hK => ?_); go_simp; refine hK _ ?_; clear hK K)
            refine wpMix_yield (v := .int .i64 ok) (fun V hV => ?_) (fun K hK => ?_)
            · have y1 := blk_cell hV 1 hO1
              go_simp
            go_simp
            refine hK _ ?_
            clear hK K
            repeat (refine wpMix_free (fun K hK => ?_); go_simp; refine hK _ ?_; clear hK K)
            refine wpMix_one (fun K hK => ?_)
            go_wp2_with fail
            refine (nt_double0 N6d ok).mono ?_
            rintro e w7 ⟨b7, rfl, hE7, N7, o7⟩
            have B7 := o7.2 _ _ _ B6d (by decide) (by decide)
            have R7 := R6d.other o7
            go_wp2_with fail
            refine hK _ _ B7 ?_
            clear hK K
            refine wpMix_one (fun K hK => ?_)
            go_wp2_with fail
            refine (rt_double0 R7 ok).mono ?_
            rintro e w8 ⟨rfl, hw8⟩
            subst hw8
            have B8 := B7
            go_wp2_with fail
            refine hK _ _ B8 ?_
            clear hK K
            refine wpMix_one (fun K hK => ?_)
            go_wp2_with fail
            refine (is_any hE7 10 0).mono ?_
            rintro e w9 ⟨rfl, n9, rfl⟩
            go_wp2_with fail
            refine hK _ _ B8 ?_
            clear hK K
            repeat (refine wpMix_free (fun K hK => ?_); go_simp; refine hK _ ?_; clear hK K)
            refine wpMix_nil ?_
            have PX : PN w (w8.drewN n9) p q [] s := ⟨N7.keepsN ((Keeps.refl Nothing w8).drewN n9), (R7.keepsN ((Keeps.refl Nothing w8).drewN n9)).mono o7.1, hall⟩
            clear N6 R6 N6d R6d B6 B6d B7 B8 R7 N7 o7 c60 c61 hE7
            generalize w8.drewN n9 = wE at *
            have PE : PN w wE p q (([] : List Row8)) s := PX
            obtain ⟨NE, RE, hallE⟩ := PE
            have hu := fun V (k : Keeps Nothing wE V) => nt_under (NE.keepsN k)
            have hst := fun V (k : Keeps Nothing wE V) => nt_sent (NE.keepsN k)
            have KE := NE.keep
            have RE' := RE
            obtain ⟨ar, cr, hRN, -, -⟩ := RE'
            have c0 : wE.cell? ⟨q, 0, none⟩ = some (.slice ar (([] : List Row8)).length cr) := by have := blk_cell hRN.blk 0 rfl; rw [List.length_map] at this; exact this
            have c1 : wE.cell? ⟨q, 1, none⟩ = some (.int .i64 (s : Nat)) := blk_cell hRN.blk 1 rfl
            clear hRN
            go_wp2_with fail
            refine wp_region_mix (fun V => Keeps Nothing wE V) [(true, 0), (true, 2), (true, 3), (true, 4), (true, 5), (true, 6), (false, 1), (true, 7), (true, 8), (true, 9), (true, 11), (true, 12), (true, 13), (true, 14), (false, 10), (true, 15), (true, 16)] (by kernel_rfl) (by kernel_rfl) (Keeps.refl _ _).drew ?_
            simp only [mixItems, List.map_cons, List.map_nil, List.getD_cons_zero, List.getD_cons_succ]
            repeat (refine wpMix_free (fun K hK => ?_); go_simp; refine hK _ ?_; clear hK K)
            refine wpMix_yield (v := .slice ar (([] : List Row8)).length cr) (fun V hV => ?_) (fun K hK => ?_)
            · have y1 := hV.cell c0 (fun h => h)
              go_simp
            go_simp
            refine hK _ ?_
            clear hK K
            repeat (refine wpMix_free (fun K hK => ?_); go_simp; refine hK _ ?_; clear hK K)
            refine wpMix_one (fun K hK => ?_)
            go_wp2_with fail
            refine (hu _ (Keeps.refl _ _).drew).mono ?_
            rintro e wu ⟨rfl, rfl⟩
            go_wp2_with fail
            refine hK _ _ (Keeps.refl _ _).drew ?_
            clear hK K
            repeat (refine wpMix_free (fun K hK => ?_); go_simp; refine hK _ ?_; clear hK K)
            refine wpMix_yield (v := .int .i64 (s : Nat)) (fun V hV => ?_) (fun K hK => ?_)
            · have y1 := hV.cell c1 (fun h => h)
              go_simp
            go_simp
            refine hK _ ?_
            clear hK K
            repeat (refine wpMix_free (fun K hK => ?_); go_simp; refine hK _ ?_; clear hK K)
            refine wpMix_one (fun K hK => ?_)
            go_wp2_with fail
            refine (hst _ (Keeps.refl _ _).drew).mono ?_
            rintro e wv ⟨rfl, rfl⟩
            go_wp2_with fail
            refine hK _ _ (Keeps.refl _ _).drew ?_
            clear hK K
            repeat (refine wpMix_free (fun K hK => ?_); go_simp; refine hK _ ?_; clear hK K)
            refine wpMix_nil ?_
            have PF : PN w (wE).drew p q (([] : List Row8)) (s) := PN.keepsN (w := wE) ⟨NE, RE, hallE⟩ (Keeps.refl _ _).drew
            clear hu hst NE RE c0 c1 KE
            go_wp2_with fail
            go_roundw
            case rel => exact ⟨i + 1, (([] : List Row8)), s, by go_num, by omega, by omega, by first | omega | (simp only [List.length_append, List.length_singleton]; omega) | (have := List.length_eraseIdx_le L J; omega), by omega, PF⟩
            case measure => simp [intOf]; omega
          · have hpos : 0 < L.length := List.length_pos_iff.2 hne
            have hpl := placeN_lt ok hpos
            obtain ⟨x, hx⟩ : ∃ x, L[placeN ok L.length]? = some x := ⟨L[placeN ok L.length]'hpl, List.getElem?_eq_getElem hpl⟩
            obtain ⟨hx1, hx2⟩ := hall x (List.mem_of_getElem? hx)
            have hxr : (L.map (·.2.2))[placeN ok (L.map (·.2.2)).length]? = some x.2.2 := by rw [List.length_map, List.getElem?_map, hx]; rfl
            have hposr : 0 < (L.map (·.2.2)).length := by rw [List.length_map]; exact hpos
            refine wp_region_mix (fun V => Blk V g6 OC 51) [(true, 0), (true, 1), (true, 2), (true, 4), (true, 5), (true, 6), (false, 3), (false, 7), (false, 8), (true, 9)] (by kernel_rfl) (by kernel_rfl) B6 ?_
            simp only [mixItems, List.map_cons, List.map_nil, List.getD_cons_zero, List.getD_cons_succ]
            repeat (refine wpMix_free (fun K hK => ?_); go_simp; refine hK _ ?_; clear hK K)
            refine wpMix_yield (v := .int .i64 ok) (fun V hV => ?_) (fun K hK => ?_)
            · have y1 := blk_cell hV 1 hO1
              go_simp
            go_simp
            refine hK _ ?_
            clear hK K
            repeat (refine wpMix_free (fun K hK => ?_); go_simp; refine hK _ ?_; clear hK K)
            refine wpMix_yield (v := .int .i64 ok) (fun V hV => ?_) (fun K hK => ?_)
            · have y1 := blk_cell hV 1 hO1
              go_simp
            go_simp
            refine hK _ ?_
            clear hK K
            repeat (refine wpMix_free (fun K hK => ?_); go_simp; refine hK _ ?_; clear hK K)
            refine wpMix_one (fun K hK => ?_)
            go_wp2_with fail
            refine (nt_double N6d ok hpos (by omega) hx (by omega) hx1).mono ?_
            rintro e w7 ⟨b7, c7, rfl, N7, o7⟩
            have B7 := o7.2 _ _ _ B6d (by decide) (by decide)
            have R7 := R6d.other o7
            go_wp2_with fail
            refine hK _ _ B7 ?_
            clear hK K
            refine wpMix_one (fun K hK => ?_)
            go_wp2_with fail
            refine (rt_double R7 o7.1 hw6 ok hposr (by rw [List.length_map]; omega) hxr).mono ?_
            rintro e w8 ⟨rfl, R8, a8⟩
            have N8 := a8.nt N7
            have B8 := a8.blk B7 (by decide) (by decide)
            go_wp2_with fail
            refine hK _ _ B8 ?_
            clear hK K
            refine wpMix_one (fun K hK => ?_)
            go_wp2_with fail
            refine (is_any (w := w8) (isErr_nil 0 _) 0 0).mono ?_
            rintro e w9 ⟨rfl, n9, rfl⟩
            go_wp2_with fail
            refine hK _ _ B8 ?_
            clear hK K
            repeat (refine wpMix_free (fun K hK => ?_); go_simp; refine hK _ ?_; clear hK K)
            refine wpMix_nil ?_
            have PX : PN w (w8.drewN n9) p q (L ++ [(b7, c7, x.2.2)]) s := ⟨N8.keepsN ((Keeps.refl Nothing w8).drewN n9), by have := R8.keepsN ((Keeps.refl Nothing w8).drewN n9); rw [List.map_append]; exact this, fun y hy' => by
              rcases List.mem_append.1 hy' with h | h
              · exact hall y h
              · rw [List.mem_singleton] at h; subst h; exact ⟨hx1, hx2⟩⟩
            clear N6 R6 N6d R6d B6 B6d B7 B8 R7 R8 N7 N8 a8 o7 c60 c61 hx hxr hx1 hx2 hposr hpos hpl
            generalize w8.drewN n9 = wE at *
            obtain ⟨x1, x2, x3⟩ := x
            simp only at PX
            have PE : PN w wE p q (L ++ [(b7, c7, x3)]) s := PX
            obtain ⟨NE, RE, hallE⟩ := PE
            have hu := fun V (k : Keeps Nothing wE V) => nt_under (NE.keepsN k)
            have hst := fun V (k : Keeps Nothing wE V) => nt_sent (NE.keepsN k)
            have KE := NE.keep
            have RE' := RE
            obtain ⟨ar, cr, hRN, -, -⟩ := RE'
            have c0 : wE.cell? ⟨q, 0, none⟩ = some (.slice ar (L ++ [(b7, c7, x3)]).length cr) := by have := blk_cell hRN.blk 0 rfl; rw [List.length_map] at this; exact this
            have c1 : wE.cell? ⟨q, 1, none⟩ = some (.int .i64 (s : Nat)) := blk_cell hRN.blk 1 rfl
            clear hRN
            go_wp2_with fail
            refine wp_region_mix (fun V => Keeps Nothing wE V) [(true, 0), (true, 2), (true, 3), (true, 4), (true, 5), (true, 6), (false, 1), (true, 7), (true, 8), (true, 9), (true, 11), (true, 12), (true, 13), (true, 14), (false, 10), (true, 15), (true, 16)] (by kernel_rfl) (by kernel_rfl) (Keeps.refl _ _).drew ?_
            simp only [mixItems, List.map_cons, List.map_nil, List.getD_cons_zero, List.getD_cons_succ]
            repeat (refine wpMix_free (fun K hK => ?_); go_simp; refine hK _ ?_; clear hK K)
            refine wpMix_yield (v := .slice ar (L ++ [(b7, c7, x3)]).length cr) (fun V hV => ?_) (fun K hK => ?_)
            · have y1 := hV.cell c0 (fun h => h)
              go_simp
            go_simp
            refine hK _ ?_
            clear hK K
            repeat (refine wpMix_free (fun K hK => ?_); go_simp; refine hK _ ?_; clear hK K)
            refine wpMix_one (fun K hK => ?_)
            go_wp2_with fail
            refine (hu _ (Keeps.refl _ _).drew).mono ?_
            rintro e wu ⟨rfl, rfl⟩
            go_wp2_with fail
            refine hK _ _ (Keeps.refl _ _).drew ?_
            clear hK K
            repeat (refine wpMix_free (fun K hK => ?_); go_simp; refine hK _ ?_; clear hK K)
            refine wpMix_yield (v := .int .i64 (s : Nat)) (fun V hV => ?_) (fun K hK => ?_)
            · have y1 := hV.cell c1 (fun h => h)
              go_simp
            go_simp
            refine hK _ ?_
            clear hK K
            repeat (refine wpMix_free (fun K hK => ?_); go_simp; refine hK _ ?_; clear hK K)
            refine wpMix_one (fun K hK => ?_)
            go_wp2_with fail
            refine (hst _ (Keeps.refl _ _).drew).mono ?_
            rintro e wv ⟨rfl, rfl⟩
            go_wp2_with fail
            refine hK _ _ (Keeps.refl _ _).drew ?_
            clear hK K
            repeat (refine wpMix_free (fun K hK => ?_); go_simp; refine hK _ ?_; clear hK K)
            refine wpMix_nil ?_
            have PF : PN w (wE).drew p q (L ++ [(b7, c7, x3)]) (s) := PN.keepsN (w := wE) ⟨NE, RE, hallE⟩ (Keeps.refl _ _).drew
            clear hu hst NE RE c0 c1 KE
            go_wp2_with fail
            go_roundw
            case rel => exact ⟨i + 1, (L ++ [(b7, c7, x3)]), s, by go_num, by omega, by omega, by first | omega | (simp only [List.length_append, List.length_singleton]; omega) | (have := List.length_eraseIdx_le L J; omega), by omega, PF⟩
            case measure => simp [intOf]; omega
    · have m0 : ¬ ((i : Int) < n ∧ (i : Int) < 60) := by omega
      by_cases h1 : i < n
      · have m1 : (i : Int) < n := by omega
        have m2 : ¬ (i : Int) < 60 := by omega
        clear m0
        go_wp2_with fail
        refine (told29 _).mono ?_
        rintro e w9 ⟨rfl, k9⟩
        go_wp2_with fail
        go_ret
        exact ⟨rfl, PR.1.keep.trans k9 (fun _ h _ => h)⟩
      · have m1 : ¬ (i : Int) < n := by omega
        clear m0
        go_wp2_with fail
        refine (told29 _).mono ?_
        rintro e w9 ⟨rfl, k9⟩
        go_wp2_with fail
        go_ret
        exact ⟨rfl, PR.1.keep.trans k9 (fun _ h _ => h)⟩

set_option maxRecDepth 100000 in
theorem lifted (os : Os) (started : os.Started) (H : Type) (enc : TypeId × Value → H) :
    ReturnsInHanded {} Try.checked os 4 .any (Rows.netPlaysSpec.pre6 enc Try.prog Try.f4 Rows.netPlaysRow.domain false) (Rows.netPlaysSpec.post enc Try.prog Try.f4 false true false false) := by
  refine returnsInHanded_of_change (C := Try.checked) own started (by kernel_rfl) Try.func4
    (ChangeSpec.witness6 (enc := enc) (C := Try.checked) false ⟨#[], #[.slice none 0 0], []⟩ 8 (by kernel_rfl) (by kernel_rfl) (by kernel_rfl) (by kernel_rfl)) ?_
  intro W base args ds gs before hval0 hW hcnd _
  have hval : ∀ (j : Nat) t v, Try.f4.params[j]? = some t → args[j]? = some v → Value.okWide Try.prog W .any base t v := hval0
  have hW' := hW
  obtain ⟨p, q, hA0, hV, rfl, hfz, hnd⟩ := hW
  have hA : DataW.TrodAll enc Try.prog W 0 (fun _ => true) true Try.f4.params.toList args.toList ds p := hA0
  rw [Try.params4] at hA hval
  obtain ⟨v0, vs0, d0, ds0, p0, q0, hargs, rfl, rfl, h0, r0⟩ := trodAll_cons hA
  obtain ⟨rfl, rfl, rfl⟩ := trodAll_nil r0
  obtain rfl : args = #[v0] := by cases args; simp_all
  obtain ⟨rfl, rfl⟩ := trodVars_none hV
  have k0 := h0
  have lt0 : ∀ x ∈ p0, x.block < W.heap.size := by obtain ⟨m, hm⟩ := k0; exact DataW.trod_lt m _ _ _ hm
  obtain ⟨ao0, len0, cap0, rfl⟩ := okWide_slice Try.underlying44 (hval 0 44 v0 rfl rfl)
  obtain ⟨fuel0, hf0⟩ := h0
  obtain ⟨l0, hn0, hL0, hlc0, hcm0⟩ := open_nops rfl hf0
  clear hA0 hval0
  refine (walk W hn0 hL0).mono fun e W' ⟨he, hk⟩ => ?_
  subst he
  have bel : Below W.heap.size W W' := hk.below (Nat.le_refl _) (fun _ h => h.elim)
  exact ⟨_, rfl, _, _, _, [], _, [], hW', trodAll_mk1 (shut_bool Try.underlying4 _), (trodAll_cons_mk (Below.trod laidOut (by kernel_rfl) (of_decide_eq_true (by kernel_rfl)) k0 bel lt0) trodAll_mk0), rfl, bel.frame _, fun h => by cases h⟩

/-- For every input the law returns true, and its arguments read as before. -/
theorem proved : Rows.NetPlaysSaid :=
  OpenClaim.holds_of_wide 4 Try.f4 rfl rfl rfl rfl rfl rfl rfl ⟨rfl, rfl, rfl, rfl, rfl⟩ rfl rfl rfl rfl rfl (by kernel_rfl) Try.func4 (by kernel_rfl)
    (of_decide_eq_true (by kernel_rfl)) (by unfold Func.isWrapper; first | (rw [if_pos (by decide +kernel)]; kernel_rfl) | (rw [if_neg (by decide +kernel)]; exact ⟨rfl, rfl⟩))
    (fun os started H enc _ => lifted os started H enc)
#print axioms proved

end Go.Proofs.Yteifmkfkekglpaa.netPlays
