/- usufructlaw3.ShaBack: for any two sums and any text the law returns true; no condition. -/
import Derived.Test.YtdmfomjgmmkaeaaRows
import Derived.Test.YtdmfomjgmmkaeaaSha12
import Derived.Test.YtdmfomjgmmkaeaaHashCmp
import Derived.ProofKit
import Derived.OpenShut
import Derived.ShutString
import Derived.ChangeOld
import Derived.Below
namespace Go.Proofs.Ytdmfomjgmmkaeaa.shaBack
open Go.ChangeShapes Go.WideShapes Go.ChangeAt Go.RowKit
open Go.ChangeMaps (open_string shut_string)

theorem own : ownKnob Try.prog.godebug = none := by kernel_rfl
theorem laidOut : laidOutB Try.prog = true := by kernel_rfl


theorem parse_len (s : List UInt8) : (parseF s).2.2.length = 32 := by
  unfold parseF
  split
  · rfl
  · split
    · unfold packTo; simp
    · rfl

attribute [local go_sem ↓] exec_load_hash exec_store_hash
attribute [local go_sem] rowOk_new World.setRow_alloc_new rowOk_new2 setRow_new2

def SS (w : World) (g g2 : Nat) (a b : List UInt8) (W : World) : Prop := Blk W g (a.map byteV).toArray 25 ∧ Blk W (g + 1) (b.map byteV).toArray 25 ∧ Blk W g2 (a.map byteV).toArray 25 ∧ Keeps Nothing w W
theorem SS.keepsN {w W W' : World} {g g2 : Nat} {a b : List UInt8} (h : SS w g g2 a b W) (k : Keeps Nothing W W') : SS w g g2 a b W' :=
  ⟨k.blk h.1 (fun h => h), k.blk h.2.1 (fun h => h), k.blk h.2.2.1 (fun h => h), h.2.2.2.trans k (fun _ h _ => h)⟩
theorem SS.ra {w W : World} {g g2 : Nat} {a b : List UInt8} (h : SS w g g2 a b W) (ha : a.length = 32) : rowOk W g 32 = true ∧ rowOf W g = (a.map byteV).toArray := ⟨rowOk_blk h.1 (by simp [ha]), rowOf_blk h.1⟩
theorem SS.rb {w W : World} {g g2 : Nat} {a b : List UInt8} (h : SS w g g2 a b W) (hb : b.length = 32) : rowOk W (g + 1) 32 = true ∧ rowOf W (g + 1) = (b.map byteV).toArray := ⟨rowOk_blk h.2.1 (by simp [hb]), rowOf_blk h.2.1⟩
theorem SS.rx {w W : World} {g g2 : Nat} {a b : List UInt8} (h : SS w g g2 a b W) (ha : a.length = 32) : rowOk W g2 32 = true ∧ rowOf W g2 = (a.map byteV).toArray := ⟨rowOk_blk h.2.2.1 (by simp [ha]), rowOf_blk h.2.2.1⟩

set_option maxRecDepth 100000 in
set_option maxHeartbeats 2000000 in
theorem walk (w : World) (a b s : List UInt8) (ha : a.length = 32) (hb : b.length = 32) (hs : s.length < 9223372036854775808) : Calls Try.prog 6 #[hashV a, hashV b, .string ⟨s.toArray⟩] w (SaysTrue w) := by
  have hag := aggOk_agg 32 (a.map byteV).toArray (by simp [ha]) (bytes_all _)
  have hbg := aggOk_agg 32 (b.map byteV).toArray (by simp [hb]) (bytes_all _)
  have hta := parse_hex ha
  have hla := hexOf_len a
  unfold hashV
  have HTA := shut hta
  clear hta
  go_enter Try.func6, Try.ntmps6
  have B1 := blk_alloc (blk_new w (a.map byteV).toArray 25) (.cells (b.map byteV).toArray 25)
  have B2 := blk_new (w.alloc (.cells (a.map byteV).toArray 25)) (b.map byteV).toArray 25
  have K0 : Keeps Nothing w ((w.alloc (.cells (a.map byteV).toArray 25)).alloc (.cells (b.map byteV).toArray 25)) := ((Keeps.refl _ _).alloc _).alloc _
  rw [World.size_alloc] at B2
  have r1 := rowOk_blk B1 (show (a.map byteV).toArray.size = 32 by simp [ha])
  have e1 := rowOf_blk B1
  go_wp2_with fail
  generalize (w.alloc (.cells (a.map byteV).toArray 25)).alloc (.cells (b.map byteV).toArray 25) = W0 at *
  generalize hg : w.heap.size = g at *
  have HG := shut hg
  clear hg
  go_wp2_with fail
  refine (hex_any _ a ha).mono ?_
  rintro e w1 ⟨rfl, K1⟩
  go_wp2_with fail
  refine (parse_any _ (hexOf a) (by omega)).mono ?_
  rintro e w2 ⟨ev, rfl, hev, K2⟩
  rw [HTA.out] at hev ⊢
  obtain rfl := isErr_no hev
  clear hev hla
  unfold hashV
  have T0 : SS w g w2.heap.size a b (w2.alloc (.cells (a.map byteV).toArray 25)) := by
    have k := K1.trans K2 (fun _ h _ => h)
    exact ⟨blk_alloc (k.blk B1 (fun h => h)) _, blk_alloc (k.blk B2 (fun h => h)) _, blk_new _ _ _, (K0.trans k (fun _ h _ => h)).alloc _⟩
  clear r1 e1 B1 B2 K0 K1 K2
  go_wp2_with fail
  generalize w2.alloc (.cells (a.map byteV).toArray 25) = W1 at *
  generalize w2.heap.size = g2 at *
  clear w2

  have e1 := fun W => eql_hash_run a a ha ha W
  have e2 := fun W => eql_hash_run a b ha hb W
  have hlt := less_ltL (hexOf a) (hexOf b) (by rw [hexOf_len, hexOf_len, ha, hb])
  rw [ltL_hex] at hlt
  rw [show (a == a) = true by simp] at e1
  have hcase : ((a == b) = true ∧ ltL a b = false ∧ ltL b a = false) ∨ ((a == b) = false ∧ ltL a b = true ∧ ltL b a = false) ∨ ((a == b) = false ∧ ltL a b = false ∧ ltL b a = true) := by
    by_cases e : a = b
    · subst e; exact .inl ⟨by simp, ltL_irrefl _, ltL_irrefl _⟩
    · rcases ltL_total a b (by omega) e with h | h
      · exact .inr (.inl ⟨by simpa using e, h, ltL_asymm _ _ h⟩)
      · exact .inr (.inr ⟨by simpa using e, ltL_asymm _ _ h, h⟩)
  clear hag hbg
  rcases hcase with ⟨hd, hp, hq⟩ | ⟨hd, hp, hq⟩ | ⟨hd, hp, hq⟩
  · rw [hd] at e2
    rw [hp] at hlt
    refine wp_region_mix (SS w g g2 a b) [(true, 0), (true, 1), (true, 2), (true, 3), (true, 4), (true, 5), (true, 6), (true, 7), (true, 8), (true, 9), (true, 16), (true, 17), (true, 18), (false, 10), (true, 11), (true, 12), (true, 13), (false, 14), (true, 15), (true, 19), (true, 20), (true, 21), (true, 22), (true, 23), (false, 24), (true, 25), (true, 26), (true, 27), (false, 28), (true, 29), (true, 30), (true, 31), (true, 32), (true, 33), (true, 35), (true, 37), (false, 34), (false, 36), (false, 38), (true, 39), (true, 40), (true, 41)] (by kernel_rfl) (by kernel_rfl) (T0.keepsN (Keeps.refl _ _).drew) ?_
    simp only [mixItems, List.map_cons, List.map_nil, List.getD_cons_zero, List.getD_cons_succ]
    replace T0 := T0.keepsN (Keeps.refl Nothing W1).drew
    change wpMix _ _ _ _ _ _ W1.drew
    generalize W1.drew = V at *
    repeat (refine wpMix_free (fun K hK => ?_); go_simp; refine hK _ ?_; clear hK K)
    refine wpMix_yield (v := .agg (a.map byteV).toArray) (fun W hW => ?_) (fun K hK => ?_)
    · obtain ⟨f1, f2⟩ := hW.rx ha
      go_simp
    go_simp
    refine hK _ ?_
    clear hK K
    refine wpMix_yield (v := .agg (a.map byteV).toArray) (fun W hW => ?_) (fun K hK => ?_)
    · obtain ⟨f1, f2⟩ := hW.ra ha
      go_simp
    go_simp
    refine hK _ ?_
    clear hK K
    repeat (refine wpMix_free (fun K hK => ?_); go_simp; refine hK _ ?_; clear hK K)
    refine wpMix_yield (v := .agg (a.map byteV).toArray) (fun W hW => ?_) (fun K hK => ?_)
    · obtain ⟨f1, f2⟩ := hW.ra ha
      go_simp
    go_simp
    refine hK _ ?_
    clear hK K
    refine wpMix_yield (v := .agg (b.map byteV).toArray) (fun W hW => ?_) (fun K hK => ?_)
    · obtain ⟨f1, f2⟩ := hW.rb hb
      go_simp
    go_simp
    refine hK _ ?_
    clear hK K
    refine wpMix_yield (v := .agg (a.map byteV).toArray) (fun W hW => ?_) (fun K hK => ?_)
    · obtain ⟨f1, f2⟩ := hW.ra ha
      go_simp
    go_simp
    refine hK _ ?_
    clear hK K
    refine wpMix_yield (v := .agg (b.map byteV).toArray) (fun W hW => ?_) (fun K hK => ?_)
    · obtain ⟨f1, f2⟩ := hW.rb hb
      go_simp
    go_simp
    refine hK _ ?_
    clear hK K
    repeat (refine wpMix_free (fun K hK => ?_); go_simp; refine hK _ ?_; clear hK K)
    refine wpMix_one (fun K hK => ?_)
    go_wp2_with fail
    refine (less_any _ a b ha hb).mono ?_
    rintro e w5 ⟨rfl, k1⟩
    rw [hp]
    have T1 := T0.keepsN k1
    clear k1 T0
    go_wp2_with fail
    refine hK _ _ T1 ?_
    clear hK K
    repeat (refine wpMix_free (fun K hK => ?_); go_simp; refine hK _ ?_; clear hK K)
    refine wpMix_yield (v := .agg (b.map byteV).toArray) (fun W hW => ?_) (fun K hK => ?_)
    · obtain ⟨f1, f2⟩ := hW.rb hb
      go_simp
    go_simp
    refine hK _ ?_
    clear hK K
    refine wpMix_yield (v := .agg (a.map byteV).toArray) (fun W hW => ?_) (fun K hK => ?_)
    · obtain ⟨f1, f2⟩ := hW.ra ha
      go_simp
    go_simp
    refine hK _ ?_
    clear hK K
    refine wpMix_one (fun K hK => ?_)
    go_wp2_with fail
    refine (less_any _ b a hb ha).mono ?_
    rintro e w6 ⟨rfl, k2⟩
    rw [hq]
    have T2 := T1.keepsN k2
    clear k2 T1
    go_wp2_with fail
    refine hK _ _ T2 ?_
    clear hK K
    repeat (refine wpMix_free (fun K hK => ?_); go_simp; refine hK _ ?_; clear hK K)
    refine wpMix_yield (v := .agg (a.map byteV).toArray) (fun W hW => ?_) (fun K hK => ?_)
    · obtain ⟨f1, f2⟩ := hW.ra ha
      go_simp
    go_simp
    refine hK _ ?_
    clear hK K
    refine wpMix_yield (v := .agg (b.map byteV).toArray) (fun W hW => ?_) (fun K hK => ?_)
    · obtain ⟨f1, f2⟩ := hW.rb hb
      go_simp
    go_simp
    refine hK _ ?_
    clear hK K
    refine wpMix_one (fun K hK => ?_)
    go_wp2_with fail
    refine (less_any _ a b ha hb).mono ?_
    rintro e w7 ⟨rfl, k3⟩
    rw [hp]
    have T3 := T2.keepsN k3
    clear k3 T2
    go_wp2_with fail
    refine hK _ _ T3 ?_
    clear hK K
    repeat (refine wpMix_free (fun K hK => ?_); go_simp; refine hK _ ?_; clear hK K)
    refine wpMix_one (fun K hK => ?_)
    go_wp2_with fail
    refine hK _ _ T3 ?_
    clear hK K
    repeat (refine wpMix_free (fun K hK => ?_); go_simp; refine hK _ ?_; clear hK K)
    refine wpMix_yield (v := .agg (a.map byteV).toArray) (fun W hW => ?_) (fun K hK => ?_)
    · obtain ⟨f1, f2⟩ := hW.ra ha
      go_simp
    go_simp
    refine hK _ ?_
    clear hK K
    refine wpMix_yield (v := .agg (b.map byteV).toArray) (fun W hW => ?_) (fun K hK => ?_)
    · obtain ⟨f1, f2⟩ := hW.rb hb
      go_simp
    go_simp
    refine hK _ ?_
    clear hK K
    refine wpMix_yield (v := .agg (a.map byteV).toArray) (fun W hW => ?_) (fun K hK => ?_)
    · obtain ⟨f1, f2⟩ := hW.ra ha
      go_simp
    go_simp
    refine hK _ ?_
    clear hK K
    refine wpMix_yield (v := .agg (b.map byteV).toArray) (fun W hW => ?_) (fun K hK => ?_)
    · obtain ⟨f1, f2⟩ := hW.rb hb
      go_simp
    go_simp
    refine hK _ ?_
    clear hK K
    refine wpMix_one (fun K hK => ?_)
    go_wp2_with fail
    refine (less_any _ a b ha hb).mono ?_
    rintro e w8 ⟨rfl, k4⟩
    rw [hp]
    have T4 := T3.keepsN k4
    clear k4 T3
    go_wp2_with fail
    refine hK _ _ T4 ?_
    clear hK K
    refine wpMix_one (fun K hK => ?_)
    go_wp2_with fail
    refine (hex_any _ a ha).mono ?_
    rintro e w9 ⟨rfl, k5⟩
    have T5 := T4.keepsN k5
    clear k5 T4
    go_wp2_with fail
    refine hK _ _ T5 ?_
    clear hK K
    refine wpMix_one (fun K hK => ?_)
    go_wp2_with fail
    refine (hex_any _ b hb).mono ?_
    rintro e w10 ⟨rfl, k6⟩
    have T6 := T5.keepsN k6
    clear k6 T5
    go_wp2_with fail
    refine hK _ _ T6 ?_
    clear hK K
    repeat (refine wpMix_free (fun K hK => ?_); go_simp; refine hK _ ?_; clear hK K)
    refine wpMix_nil ?_
    have KF := T6.2.2.2
    clear T6 e1 e2 hlt hd hp hq HTA HG
    go_wp2_with fail
    refine (parse_any _ s hs).mono ?_
    rintro e wp ⟨ev, rfl, hev, kp⟩
    have KK : Keeps Nothing w wp := KF.trans kp (fun _ h _ => h)
    clear KF kp
    have hyl := parse_len s
    have hxp := fun p y (h : parseF s = (0, p, y)) => hex_parse h
    have hzf := fun (h : (parseF s).1 ≠ 0) => parse_fail h
    generalize parseF s = r at *
    obtain ⟨c, p, y⟩ := r
    dsimp only at hyl hev hzf ⊢
    unfold hashV
    by_cases hc : c = 0
    · subst hc
      obtain rfl := isErr_no hev
      have HX := shut (hxp p y rfl)
      clear hxp hzf hev
      have hyg := aggOk_agg 32 (y.map byteV).toArray (by simp [hyl]) (bytes_all _)
      have BY := blk_new wp (y.map byteV).toArray 25
      have KY : Keeps Nothing w (wp.alloc (.cells (y.map byteV).toArray 25)) := KK.alloc _
      go_wp2_with fail
      generalize wp.alloc (.cells (y.map byteV).toArray 25) = W5 at *
      generalize wp.heap.size = gy at *
      refine (told3_any _).mono ?_
      rintro e wt ⟨rfl, kt⟩
      have BT := kt.blk BY (fun h => h)
      have f1 := rowOk_blk BT (show (y.map byteV).toArray.size = 32 by simp [hyl])
      have f2 := rowOf_blk BT
      go_wp2_with fail
      refine (hex_any _ y hyl).mono ?_
      rintro e wh ⟨rfl, kh⟩
      rw [HX.out]
      go_wp2_with fail
      go_ret
      exact ⟨rfl, (KY.trans kt (fun _ h _ => h)).trans kh (fun _ h _ => h)⟩
    · obtain ⟨bb, rfl⟩ := isErr_yes hev (by omega)
      have hy0 := hzf hc
      subst hy0
      clear hxp hzf hev
      have hyg := aggOk_agg 32 (zeros32.map byteV).toArray (by simp [zeros32]) (bytes_all _)
      have BY := blk_new wp (zeros32.map byteV).toArray 25
      have KY : Keeps Nothing w (wp.alloc (.cells (zeros32.map byteV).toArray 25)) := KK.alloc _
      go_wp2_with fail
      generalize wp.alloc (.cells (zeros32.map byteV).toArray 25) = W5 at *
      generalize wp.heap.size = gy at *
      refine (told3_any _).mono ?_
      rintro e wt ⟨rfl, kt⟩
      have BT := kt.blk BY (fun h => h)
      have f1 := rowOk_blk BT (show (zeros32.map byteV).toArray.size = 32 by simp [zeros32])
      have f2 := rowOf_blk BT
      have e3 := fun W => eql_hash_run zeros32 zeros32 rfl rfl W
      rw [show (zeros32 == zeros32) = true by simp, zeros32_lit] at e3
      rw [zeros32_lit] at f2
      go_wp2_with fail
      go_ret
      exact ⟨rfl, KY.trans kt (fun _ h _ => h)⟩
  · rw [hd] at e2
    rw [hp] at hlt
    refine wp_region_mix (SS w g g2 a b) [(true, 0), (true, 1), (true, 2), (true, 3), (true, 4), (true, 5), (true, 6), (true, 7), (true, 8), (true, 9), (true, 16), (true, 17), (true, 18), (false, 10), (true, 11), (true, 12), (true, 13), (false, 14), (true, 15), (true, 19), (true, 20), (true, 21), (true, 22), (true, 23), (false, 24), (true, 25), (true, 26), (true, 27), (false, 28), (true, 29), (true, 30), (true, 31), (true, 32), (true, 33), (true, 35), (true, 37), (false, 34), (false, 36), (false, 38), (true, 39), (true, 40), (true, 41)] (by kernel_rfl) (by kernel_rfl) (T0.keepsN (Keeps.refl _ _).drew) ?_
    simp only [mixItems, List.map_cons, List.map_nil, List.getD_cons_zero, List.getD_cons_succ]
    replace T0 := T0.keepsN (Keeps.refl Nothing W1).drew
    change wpMix _ _ _ _ _ _ W1.drew
    generalize W1.drew = V at *
    repeat (refine wpMix_free (fun K hK => ?_); go_simp; refine hK _ ?_; clear hK K)
    refine wpMix_yield (v := .agg (a.map byteV).toArray) (fun W hW => ?_) (fun K hK => ?_)
    · obtain ⟨f1, f2⟩ := hW.rx ha
      go_simp
    go_simp
    refine hK _ ?_
    clear hK K
    refine wpMix_yield (v := .agg (a.map byteV).toArray) (fun W hW => ?_) (fun K hK => ?_)
    · obtain ⟨f1, f2⟩ := hW.ra ha
      go_simp
    go_simp
    refine hK _ ?_
    clear hK K
    repeat (refine wpMix_free (fun K hK => ?_); go_simp; refine hK _ ?_; clear hK K)
    refine wpMix_yield (v := .agg (a.map byteV).toArray) (fun W hW => ?_) (fun K hK => ?_)
    · obtain ⟨f1, f2⟩ := hW.ra ha
      go_simp
    go_simp
    refine hK _ ?_
    clear hK K
    refine wpMix_yield (v := .agg (b.map byteV).toArray) (fun W hW => ?_) (fun K hK => ?_)
    · obtain ⟨f1, f2⟩ := hW.rb hb
      go_simp
    go_simp
    refine hK _ ?_
    clear hK K
    refine wpMix_yield (v := .agg (a.map byteV).toArray) (fun W hW => ?_) (fun K hK => ?_)
    · obtain ⟨f1, f2⟩ := hW.ra ha
      go_simp
    go_simp
    refine hK _ ?_
    clear hK K
    refine wpMix_yield (v := .agg (b.map byteV).toArray) (fun W hW => ?_) (fun K hK => ?_)
    · obtain ⟨f1, f2⟩ := hW.rb hb
      go_simp
    go_simp
    refine hK _ ?_
    clear hK K
    repeat (refine wpMix_free (fun K hK => ?_); go_simp; refine hK _ ?_; clear hK K)
    refine wpMix_one (fun K hK => ?_)
    go_wp2_with fail
    refine (less_any _ a b ha hb).mono ?_
    rintro e w5 ⟨rfl, k1⟩
    rw [hp]
    have T1 := T0.keepsN k1
    clear k1 T0
    go_wp2_with fail
    refine hK _ _ T1 ?_
    clear hK K
    repeat (refine wpMix_free (fun K hK => ?_); go_simp; refine hK _ ?_; clear hK K)
    refine wpMix_one (fun K hK => ?_)
    go_wp2_with fail
    refine hK _ _ T1 ?_
    clear hK K
    repeat (refine wpMix_free (fun K hK => ?_); go_simp; refine hK _ ?_; clear hK K)
    refine wpMix_yield (v := .agg (a.map byteV).toArray) (fun W hW => ?_) (fun K hK => ?_)
    · obtain ⟨f1, f2⟩ := hW.ra ha
      go_simp
    go_simp
    refine hK _ ?_
    clear hK K
    refine wpMix_yield (v := .agg (b.map byteV).toArray) (fun W hW => ?_) (fun K hK => ?_)
    · obtain ⟨f1, f2⟩ := hW.rb hb
      go_simp
    go_simp
    refine hK _ ?_
    clear hK K
    refine wpMix_one (fun K hK => ?_)
    go_wp2_with fail
    refine (less_any _ a b ha hb).mono ?_
    rintro e w6 ⟨rfl, k2⟩
    rw [hp]
    have T2 := T1.keepsN k2
    clear k2 T1
    go_wp2_with fail
    refine hK _ _ T2 ?_
    clear hK K
    repeat (refine wpMix_free (fun K hK => ?_); go_simp; refine hK _ ?_; clear hK K)
    refine wpMix_yield (v := .agg (b.map byteV).toArray) (fun W hW => ?_) (fun K hK => ?_)
    · obtain ⟨f1, f2⟩ := hW.rb hb
      go_simp
    go_simp
    refine hK _ ?_
    clear hK K
    refine wpMix_yield (v := .agg (a.map byteV).toArray) (fun W hW => ?_) (fun K hK => ?_)
    · obtain ⟨f1, f2⟩ := hW.ra ha
      go_simp
    go_simp
    refine hK _ ?_
    clear hK K
    refine wpMix_one (fun K hK => ?_)
    go_wp2_with fail
    refine (less_any _ b a hb ha).mono ?_
    rintro e w7 ⟨rfl, k3⟩
    rw [hq]
    have T3 := T2.keepsN k3
    clear k3 T2
    go_wp2_with fail
    refine hK _ _ T3 ?_
    clear hK K
    repeat (refine wpMix_free (fun K hK => ?_); go_simp; refine hK _ ?_; clear hK K)
    refine wpMix_yield (v := .agg (a.map byteV).toArray) (fun W hW => ?_) (fun K hK => ?_)
    · obtain ⟨f1, f2⟩ := hW.ra ha
      go_simp
    go_simp
    refine hK _ ?_
    clear hK K
    refine wpMix_yield (v := .agg (b.map byteV).toArray) (fun W hW => ?_) (fun K hK => ?_)
    · obtain ⟨f1, f2⟩ := hW.rb hb
      go_simp
    go_simp
    refine hK _ ?_
    clear hK K
    refine wpMix_yield (v := .agg (a.map byteV).toArray) (fun W hW => ?_) (fun K hK => ?_)
    · obtain ⟨f1, f2⟩ := hW.ra ha
      go_simp
    go_simp
    refine hK _ ?_
    clear hK K
    refine wpMix_yield (v := .agg (b.map byteV).toArray) (fun W hW => ?_) (fun K hK => ?_)
    · obtain ⟨f1, f2⟩ := hW.rb hb
      go_simp
    go_simp
    refine hK _ ?_
    clear hK K
    refine wpMix_one (fun K hK => ?_)
    go_wp2_with fail
    refine (less_any _ a b ha hb).mono ?_
    rintro e w8 ⟨rfl, k4⟩
    rw [hp]
    have T4 := T3.keepsN k4
    clear k4 T3
    go_wp2_with fail
    refine hK _ _ T4 ?_
    clear hK K
    refine wpMix_one (fun K hK => ?_)
    go_wp2_with fail
    refine (hex_any _ a ha).mono ?_
    rintro e w9 ⟨rfl, k5⟩
    have T5 := T4.keepsN k5
    clear k5 T4
    go_wp2_with fail
    refine hK _ _ T5 ?_
    clear hK K
    refine wpMix_one (fun K hK => ?_)
    go_wp2_with fail
    refine (hex_any _ b hb).mono ?_
    rintro e w10 ⟨rfl, k6⟩
    have T6 := T5.keepsN k6
    clear k6 T5
    go_wp2_with fail
    refine hK _ _ T6 ?_
    clear hK K
    repeat (refine wpMix_free (fun K hK => ?_); go_simp; refine hK _ ?_; clear hK K)
    refine wpMix_nil ?_
    have KF := T6.2.2.2
    clear T6 e1 e2 hlt hd hp hq HTA HG
    go_wp2_with fail
    refine (parse_any _ s hs).mono ?_
    rintro e wp ⟨ev, rfl, hev, kp⟩
    have KK : Keeps Nothing w wp := KF.trans kp (fun _ h _ => h)
    clear KF kp
    have hyl := parse_len s
    have hxp := fun p y (h : parseF s = (0, p, y)) => hex_parse h
    have hzf := fun (h : (parseF s).1 ≠ 0) => parse_fail h
    generalize parseF s = r at *
    obtain ⟨c, p, y⟩ := r
    dsimp only at hyl hev hzf ⊢
    unfold hashV
    by_cases hc : c = 0
    · subst hc
      obtain rfl := isErr_no hev
      have HX := shut (hxp p y rfl)
      clear hxp hzf hev
      have hyg := aggOk_agg 32 (y.map byteV).toArray (by simp [hyl]) (bytes_all _)
      have BY := blk_new wp (y.map byteV).toArray 25
      have KY : Keeps Nothing w (wp.alloc (.cells (y.map byteV).toArray 25)) := KK.alloc _
      go_wp2_with fail
      generalize wp.alloc (.cells (y.map byteV).toArray 25) = W5 at *
      generalize wp.heap.size = gy at *
      refine (told3_any _).mono ?_
      rintro e wt ⟨rfl, kt⟩
      have BT := kt.blk BY (fun h => h)
      have f1 := rowOk_blk BT (show (y.map byteV).toArray.size = 32 by simp [hyl])
      have f2 := rowOf_blk BT
      go_wp2_with fail
      refine (hex_any _ y hyl).mono ?_
      rintro e wh ⟨rfl, kh⟩
      rw [HX.out]
      go_wp2_with fail
      go_ret
      exact ⟨rfl, (KY.trans kt (fun _ h _ => h)).trans kh (fun _ h _ => h)⟩
    · obtain ⟨bb, rfl⟩ := isErr_yes hev (by omega)
      have hy0 := hzf hc
      subst hy0
      clear hxp hzf hev
      have hyg := aggOk_agg 32 (zeros32.map byteV).toArray (by simp [zeros32]) (bytes_all _)
      have BY := blk_new wp (zeros32.map byteV).toArray 25
      have KY : Keeps Nothing w (wp.alloc (.cells (zeros32.map byteV).toArray 25)) := KK.alloc _
      go_wp2_with fail
      generalize wp.alloc (.cells (zeros32.map byteV).toArray 25) = W5 at *
      generalize wp.heap.size = gy at *
      refine (told3_any _).mono ?_
      rintro e wt ⟨rfl, kt⟩
      have BT := kt.blk BY (fun h => h)
      have f1 := rowOk_blk BT (show (zeros32.map byteV).toArray.size = 32 by simp [zeros32])
      have f2 := rowOf_blk BT
      have e3 := fun W => eql_hash_run zeros32 zeros32 rfl rfl W
      rw [show (zeros32 == zeros32) = true by simp, zeros32_lit] at e3
      rw [zeros32_lit] at f2
      go_wp2_with fail
      go_ret
      exact ⟨rfl, KY.trans kt (fun _ h _ => h)⟩
  · rw [hd] at e2
    rw [hp] at hlt
    refine wp_region_mix (SS w g g2 a b) [(true, 0), (true, 1), (true, 2), (true, 3), (true, 4), (true, 5), (true, 6), (true, 7), (true, 8), (true, 9), (true, 16), (true, 17), (true, 18), (false, 10), (true, 11), (true, 12), (true, 13), (false, 14), (true, 15), (true, 19), (true, 20), (true, 21), (true, 22), (true, 23), (false, 24), (true, 25), (true, 26), (true, 27), (false, 28), (true, 29), (true, 30), (true, 31), (true, 32), (true, 33), (true, 35), (true, 37), (false, 34), (false, 36), (false, 38), (true, 39), (true, 40), (true, 41)] (by kernel_rfl) (by kernel_rfl) (T0.keepsN (Keeps.refl _ _).drew) ?_
    simp only [mixItems, List.map_cons, List.map_nil, List.getD_cons_zero, List.getD_cons_succ]
    replace T0 := T0.keepsN (Keeps.refl Nothing W1).drew
    change wpMix _ _ _ _ _ _ W1.drew
    generalize W1.drew = V at *
    repeat (refine wpMix_free (fun K hK => ?_); go_simp; refine hK _ ?_; clear hK K)
    refine wpMix_yield (v := .agg (a.map byteV).toArray) (fun W hW => ?_) (fun K hK => ?_)
    · obtain ⟨f1, f2⟩ := hW.rx ha
      go_simp
    go_simp
    refine hK _ ?_
    clear hK K
    refine wpMix_yield (v := .agg (a.map byteV).toArray) (fun W hW => ?_) (fun K hK => ?_)
    · obtain ⟨f1, f2⟩ := hW.ra ha
      go_simp
    go_simp
    refine hK _ ?_
    clear hK K
    repeat (refine wpMix_free (fun K hK => ?_); go_simp; refine hK _ ?_; clear hK K)
    refine wpMix_yield (v := .agg (a.map byteV).toArray) (fun W hW => ?_) (fun K hK => ?_)
    · obtain ⟨f1, f2⟩ := hW.ra ha
      go_simp
    go_simp
    refine hK _ ?_
    clear hK K
    refine wpMix_yield (v := .agg (b.map byteV).toArray) (fun W hW => ?_) (fun K hK => ?_)
    · obtain ⟨f1, f2⟩ := hW.rb hb
      go_simp
    go_simp
    refine hK _ ?_
    clear hK K
    refine wpMix_yield (v := .agg (a.map byteV).toArray) (fun W hW => ?_) (fun K hK => ?_)
    · obtain ⟨f1, f2⟩ := hW.ra ha
      go_simp
    go_simp
    refine hK _ ?_
    clear hK K
    refine wpMix_yield (v := .agg (b.map byteV).toArray) (fun W hW => ?_) (fun K hK => ?_)
    · obtain ⟨f1, f2⟩ := hW.rb hb
      go_simp
    go_simp
    refine hK _ ?_
    clear hK K
    repeat (refine wpMix_free (fun K hK => ?_); go_simp; refine hK _ ?_; clear hK K)
    refine wpMix_one (fun K hK => ?_)
    go_wp2_with fail
    refine (less_any _ a b ha hb).mono ?_
    rintro e w5 ⟨rfl, k1⟩
    rw [hp]
    have T1 := T0.keepsN k1
    clear k1 T0
    go_wp2_with fail
    refine hK _ _ T1 ?_
    clear hK K
    repeat (refine wpMix_free (fun K hK => ?_); go_simp; refine hK _ ?_; clear hK K)
    refine wpMix_yield (v := .agg (b.map byteV).toArray) (fun W hW => ?_) (fun K hK => ?_)
    · obtain ⟨f1, f2⟩ := hW.rb hb
      go_simp
    go_simp
    refine hK _ ?_
    clear hK K
    refine wpMix_yield (v := .agg (a.map byteV).toArray) (fun W hW => ?_) (fun K hK => ?_)
    · obtain ⟨f1, f2⟩ := hW.ra ha
      go_simp
    go_simp
    refine hK _ ?_
    clear hK K
    refine wpMix_one (fun K hK => ?_)
    go_wp2_with fail
    refine (less_any _ b a hb ha).mono ?_
    rintro e w6 ⟨rfl, k2⟩
    rw [hq]
    have T2 := T1.keepsN k2
    clear k2 T1
    go_wp2_with fail
    refine hK _ _ T2 ?_
    clear hK K
    repeat (refine wpMix_free (fun K hK => ?_); go_simp; refine hK _ ?_; clear hK K)
    refine wpMix_yield (v := .agg (a.map byteV).toArray) (fun W hW => ?_) (fun K hK => ?_)
    · obtain ⟨f1, f2⟩ := hW.ra ha
      go_simp
    go_simp
    refine hK _ ?_
    clear hK K
    refine wpMix_yield (v := .agg (b.map byteV).toArray) (fun W hW => ?_) (fun K hK => ?_)
    · obtain ⟨f1, f2⟩ := hW.rb hb
      go_simp
    go_simp
    refine hK _ ?_
    clear hK K
    refine wpMix_one (fun K hK => ?_)
    go_wp2_with fail
    refine (less_any _ a b ha hb).mono ?_
    rintro e w7 ⟨rfl, k3⟩
    rw [hp]
    have T3 := T2.keepsN k3
    clear k3 T2
    go_wp2_with fail
    refine hK _ _ T3 ?_
    clear hK K
    repeat (refine wpMix_free (fun K hK => ?_); go_simp; refine hK _ ?_; clear hK K)
    refine wpMix_one (fun K hK => ?_)
    go_wp2_with fail
    refine hK _ _ T3 ?_
    clear hK K
    repeat (refine wpMix_free (fun K hK => ?_); go_simp; refine hK _ ?_; clear hK K)
    refine wpMix_yield (v := .agg (a.map byteV).toArray) (fun W hW => ?_) (fun K hK => ?_)
    · obtain ⟨f1, f2⟩ := hW.ra ha
      go_simp
    go_simp
    refine hK _ ?_
    clear hK K
    refine wpMix_yield (v := .agg (b.map byteV).toArray) (fun W hW => ?_) (fun K hK => ?_)
    · obtain ⟨f1, f2⟩ := hW.rb hb
      go_simp
    go_simp
    refine hK _ ?_
    clear hK K
    refine wpMix_yield (v := .agg (a.map byteV).toArray) (fun W hW => ?_) (fun K hK => ?_)
    · obtain ⟨f1, f2⟩ := hW.ra ha
      go_simp
    go_simp
    refine hK _ ?_
    clear hK K
    refine wpMix_yield (v := .agg (b.map byteV).toArray) (fun W hW => ?_) (fun K hK => ?_)
    · obtain ⟨f1, f2⟩ := hW.rb hb
      go_simp
    go_simp
    refine hK _ ?_
    clear hK K
    refine wpMix_one (fun K hK => ?_)
    go_wp2_with fail
    refine (less_any _ a b ha hb).mono ?_
    rintro e w8 ⟨rfl, k4⟩
    rw [hp]
    have T4 := T3.keepsN k4
    clear k4 T3
    go_wp2_with fail
    refine hK _ _ T4 ?_
    clear hK K
    refine wpMix_one (fun K hK => ?_)
    go_wp2_with fail
    refine (hex_any _ a ha).mono ?_
    rintro e w9 ⟨rfl, k5⟩
    have T5 := T4.keepsN k5
    clear k5 T4
    go_wp2_with fail
    refine hK _ _ T5 ?_
    clear hK K
    refine wpMix_one (fun K hK => ?_)
    go_wp2_with fail
    refine (hex_any _ b hb).mono ?_
    rintro e w10 ⟨rfl, k6⟩
    have T6 := T5.keepsN k6
    clear k6 T5
    go_wp2_with fail
    refine hK _ _ T6 ?_
    clear hK K
    repeat (refine wpMix_free (fun K hK => ?_); go_simp; refine hK _ ?_; clear hK K)
    refine wpMix_nil ?_
    have KF := T6.2.2.2
    clear T6 e1 e2 hlt hd hp hq HTA HG
    go_wp2_with fail
    refine (parse_any _ s hs).mono ?_
    rintro e wp ⟨ev, rfl, hev, kp⟩
    have KK : Keeps Nothing w wp := KF.trans kp (fun _ h _ => h)
    clear KF kp
    have hyl := parse_len s
    have hxp := fun p y (h : parseF s = (0, p, y)) => hex_parse h
    have hzf := fun (h : (parseF s).1 ≠ 0) => parse_fail h
    generalize parseF s = r at *
    obtain ⟨c, p, y⟩ := r
    dsimp only at hyl hev hzf ⊢
    unfold hashV
    by_cases hc : c = 0
    · subst hc
      obtain rfl := isErr_no hev
      have HX := shut (hxp p y rfl)
      clear hxp hzf hev
      have hyg := aggOk_agg 32 (y.map byteV).toArray (by simp [hyl]) (bytes_all _)
      have BY := blk_new wp (y.map byteV).toArray 25
      have KY : Keeps Nothing w (wp.alloc (.cells (y.map byteV).toArray 25)) := KK.alloc _
      go_wp2_with fail
      generalize wp.alloc (.cells (y.map byteV).toArray 25) = W5 at *
      generalize wp.heap.size = gy at *
      refine (told3_any _).mono ?_
      rintro e wt ⟨rfl, kt⟩
      have BT := kt.blk BY (fun h => h)
      have f1 := rowOk_blk BT (show (y.map byteV).toArray.size = 32 by simp [hyl])
      have f2 := rowOf_blk BT
      go_wp2_with fail
      refine (hex_any _ y hyl).mono ?_
      rintro e wh ⟨rfl, kh⟩
      rw [HX.out]
      go_wp2_with fail
      go_ret
      exact ⟨rfl, (KY.trans kt (fun _ h _ => h)).trans kh (fun _ h _ => h)⟩
    · obtain ⟨bb, rfl⟩ := isErr_yes hev (by omega)
      have hy0 := hzf hc
      subst hy0
      clear hxp hzf hev
      have hyg := aggOk_agg 32 (zeros32.map byteV).toArray (by simp [zeros32]) (bytes_all _)
      have BY := blk_new wp (zeros32.map byteV).toArray 25
      have KY : Keeps Nothing w (wp.alloc (.cells (zeros32.map byteV).toArray 25)) := KK.alloc _
      go_wp2_with fail
      generalize wp.alloc (.cells (zeros32.map byteV).toArray 25) = W5 at *
      generalize wp.heap.size = gy at *
      refine (told3_any _).mono ?_
      rintro e wt ⟨rfl, kt⟩
      have BT := kt.blk BY (fun h => h)
      have f1 := rowOk_blk BT (show (zeros32.map byteV).toArray.size = 32 by simp [zeros32])
      have f2 := rowOf_blk BT
      have e3 := fun W => eql_hash_run zeros32 zeros32 rfl rfl W
      rw [show (zeros32 == zeros32) = true by simp, zeros32_lit] at e3
      rw [zeros32_lit] at f2
      go_wp2_with fail
      go_ret
      exact ⟨rfl, KY.trans kt (fun _ h _ => h)⟩
set_option maxRecDepth 100000 in
theorem lifted (os : Os) (started : os.Started) (H : Type) (enc : TypeId × Value → H) :
    ReturnsInHanded {} Try.checked os 6 .any (Rows.shaBackSpec.pre6 enc Try.prog Try.f6 Rows.shaBackRow.domain false) (Rows.shaBackSpec.post enc Try.prog Try.f6 false true false false) := by
  refine returnsInHanded_of_change (C := Try.checked) own started (by kernel_rfl) Try.func6
    (ChangeSpec.witness6 (enc := enc) (C := Try.checked) false ⟨#[], #[hashV zeros32, hashV zeros32, .string ⟨#[]⟩], []⟩ 8 (by kernel_rfl) (by kernel_rfl) (by kernel_rfl) (by kernel_rfl)) ?_
  intro W base args ds gs before hval0 hW hcnd _
  have hval : ∀ (j : Nat) t v, Try.f6.params[j]? = some t → args[j]? = some v → Value.okWide Try.prog W .any base t v := hval0
  have hW' := hW
  obtain ⟨p, q, hA0, hV, rfl, hfz, hnd⟩ := hW
  have hA : DataW.TrodAll enc Try.prog W 0 (fun _ => true) true Try.f6.params.toList args.toList ds p := hA0
  rw [Try.params6] at hA hval
  obtain ⟨v0, vs0, d0, ds0, p0, q0, hargs, rfl, rfl, h0, r0⟩ := trodAll_cons hA
  obtain ⟨v1, vs1, d1, ds1, p1, q1, rfl, rfl, rfl, h1, r1⟩ := trodAll_cons r0
  obtain ⟨v2, vs2, d2, ds2, p2, q2, rfl, rfl, rfl, h2, r2⟩ := trodAll_cons r1
  obtain ⟨rfl, rfl, rfl⟩ := trodAll_nil r2
  obtain rfl : args = #[v0, v1, v2] := by cases args; simp_all
  obtain ⟨rfl, rfl⟩ := trodVars_none hV
  have k0 := h0
  have lt0 : ∀ x ∈ p0, x.block < W.heap.size := by obtain ⟨m, hm⟩ := k0; exact DataW.trod_lt m _ _ _ hm
  have k1 := h1
  have lt1 : ∀ x ∈ p1, x.block < W.heap.size := by obtain ⟨m, hm⟩ := k1; exact DataW.trod_lt m _ _ _ hm
  have k2 := h2
  have lt2 : ∀ x ∈ p2, x.block < W.heap.size := by obtain ⟨m, hm⟩ := k2; exact DataW.trod_lt m _ _ _ hm
  obtain ⟨bs0, hn0, rfl⟩ := open_hash (hval 0 25 v0 rfl rfl) h0
  obtain ⟨bs1, hn1, rfl⟩ := open_hash (hval 1 25 v1 rfl rfl) h1
  obtain ⟨s2, rfl, rfl, rfl, hs2⟩ := open_string Try.underlying9 (hval 2 9 v2 rfl rfl) h2
  clear hA0 hval0
  have hw := walk W bs0 bs1 (bytesOf s2) hn0 hn1 (by rw [bytesOf_length]; unfold maxLen at hs2; omega)
  rw [text_eta] at hw
  refine hw.mono fun e W' ⟨he, hk⟩ => ?_
  subst he
  have bel : Below W.heap.size W W' := hk.below (Nat.le_refl _) (fun _ h => h.elim)
  exact ⟨_, rfl, _, _, _, [], _, [], hW', trodAll_mk1 (shut_bool Try.underlying4 _), (trodAll_cons_mk (Below.trod laidOut (by kernel_rfl) (of_decide_eq_true (by kernel_rfl)) k0 bel lt0) (trodAll_cons_mk (Below.trod laidOut (by kernel_rfl) (of_decide_eq_true (by kernel_rfl)) k1 bel lt1) (trodAll_cons_mk (Below.trod laidOut (by kernel_rfl) (of_decide_eq_true (by kernel_rfl)) k2 bel lt2) trodAll_mk0))), rfl, bel.frame _, fun h => by cases h⟩

/-- For every input the law returns true, and its arguments read as before. -/
theorem proved : Rows.ShaBackSaid :=
  OpenClaim.holds_of_wide 6 Try.f6 rfl rfl rfl rfl rfl rfl rfl ⟨rfl, rfl, rfl, rfl, rfl⟩ rfl rfl rfl rfl rfl (by kernel_rfl) Try.func6 (by kernel_rfl)
    (of_decide_eq_true (by kernel_rfl)) (by unfold Func.isWrapper; first | (rw [if_pos (by decide +kernel)]; kernel_rfl) | (rw [if_neg (by decide +kernel)]; exact ⟨rfl, rfl⟩))
    (fun os started H enc _ => lifted os started H enc)
#print axioms proved

end Go.Proofs.Ytdmfomjgmmkaeaa.shaBack
