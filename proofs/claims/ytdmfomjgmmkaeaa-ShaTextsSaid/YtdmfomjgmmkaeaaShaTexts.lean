/- usufructlaw3.ShaTexts: for any two sums and any text the law returns true; no condition. -/
import Derived.Test.YtdmfomjgmmkaeaaRows
import Derived.Test.YtdmfomjgmmkaeaaSha14
import Derived.Test.YtdmfomjgmmkaeaaHashCmp
import Derived.ProofKit
import Derived.OpenShut
import Derived.ShutString
import Derived.ChangeOld
import Derived.Below
namespace Go.Proofs.Ytdmfomjgmmkaeaa.shaTexts
open Go.ChangeShapes Go.WideShapes Go.ChangeAt Go.RowKit
open Go.ChangeMaps (open_string shut_string)

theorem own : ownKnob Try.prog.godebug = none := by kernel_rfl
theorem laidOut : laidOutB Try.prog = true := by kernel_rfl


attribute [local go_sem ↓] exec_load_hash exec_store_hash
attribute [local go_sem] rowOk_new World.setRow_alloc_new rowOk_new2 setRow_new2

theorem parse_len (s : List UInt8) : (parseF s).2.2.length = 32 := by
  unfold parseF
  split
  · rfl
  · split
    · unfold packTo; simp
    · rfl

theorem slice_high (bs : List UInt8) (m : Nat) (hm : m ≤ bs.length) (w0 : World) : (Instr.slice 9 (.string ⟨bs.toArray⟩) none (some (.int .i64 m)) none).run Try.prog w0 = .ok (.string ⟨(bs.take m).toArray⟩) w0 := by
  rw [run_slice_string_h w0 9 ⟨bs.toArray⟩ Try.underlying9 .i64 m (by omega) (by show (m : Int) ≤ (bs.toArray.size : Int); simp; omega)]
  have := extract_eq bs 0 m
  rw [Nat.zero_add, List.drop_zero] at this
  rw [Int.toNat_natCast, this]

def SS2 (w : World) (g : Nat) (a b : List UInt8) (W : World) : Prop := Blk W g (a.map byteV).toArray 25 ∧ Blk W (g + 1) (b.map byteV).toArray 25 ∧ Keeps Nothing w W
theorem SS2.keepsN {w W W' : World} {g : Nat} {a b : List UInt8} (h : SS2 w g a b W) (k : Keeps Nothing W W') : SS2 w g a b W' :=
  ⟨k.blk h.1 (fun h => h), k.blk h.2.1 (fun h => h), h.2.2.trans k (fun _ h _ => h)⟩
theorem SS2.ra {w W : World} {g : Nat} {a b : List UInt8} (h : SS2 w g a b W) (ha : a.length = 32) : rowOk W g 32 = true ∧ rowOf W g = (a.map byteV).toArray := ⟨rowOk_blk h.1 (by simp [ha]), rowOf_blk h.1⟩
theorem SS2.rb {w W : World} {g : Nat} {a b : List UInt8} (h : SS2 w g a b W) (hb : b.length = 32) : rowOk W (g + 1) 32 = true ∧ rowOf W (g + 1) = (b.map byteV).toArray := ⟨rowOk_blk h.2.1 (by simp [hb]), rowOf_blk h.2.1⟩

def strV (l : List UInt8) : Value := .string ⟨l.toArray⟩

set_option maxRecDepth 100000 in
set_option maxHeartbeats 2000000 in
theorem walk (w : World) (a b s : List UInt8) (ha : a.length = 32) (hb : b.length = 32) (hs : s.length < 9223372036854775808) : Calls Try.prog 5 #[hashV a, hashV b, .string ⟨s.toArray⟩] w (SaysTrue w) := by
  unfold hashV
  go_enter Try.func5, Try.ntmps5
  have B1 := blk_alloc (blk_new w (a.map byteV).toArray 25) (.cells (b.map byteV).toArray 25)
  have B2 := blk_new (w.alloc (.cells (a.map byteV).toArray 25)) (b.map byteV).toArray 25
  have K0 : Keeps Nothing w ((w.alloc (.cells (a.map byteV).toArray 25)).alloc (.cells (b.map byteV).toArray 25)) := ((Keeps.refl _ _).alloc _).alloc _
  rw [World.size_alloc] at B2
  have hsz : (ByteArray.mk s.toArray).size = s.length := rfl
  have HS := shut hs
  clear hs
  by_cases hbig : 200 < s.length
  · have hb2 : (200 : Int) < s.length := by omega
    go_wp2_with fail
    refine (told3_any _).mono ?_
    rintro e wt ⟨rfl, kt⟩
    go_wp2_with fail
    go_ret
    exact ⟨rfl, K0.trans kt (fun _ h _ => h)⟩
  have hb2 : ¬ (200 : Int) < s.length := by omega
  go_wp2_with fail
  generalize (w.alloc (.cells (a.map byteV).toArray 25)).alloc (.cells (b.map byteV).toArray 25) = W0 at *
  generalize hg : w.heap.size = g at *
  have HG := shut hg
  clear hg
  have T0 : SS2 w g a b W0 := ⟨B1, B2, K0⟩
  clear B1 B2 K0
  have hz : (⟨(hexOf a).toArray⟩ : ByteArray).size = 64 := by show (hexOf a).toArray.size = _; rw [List.size_toArray, hexOf_len, ha]
  have hcat := cat_eq (hexOf a) s
  have hnl : ¬ 9223372036854775807 < 64 + s.length := by omega
  have hcut : ∀ w0 : World, (Instr.slice 9 (.string ⟨(hexOf a).toArray⟩) none (some (.int .i64 63)) none).run Try.prog w0 = .ok (.string ⟨((hexOf a).take 63).toArray⟩) w0 := slice_high (hexOf a) 63 (by rw [hexOf_len, ha]; omega)
  refine wp_region_mix (SS2 w g a b) [(true, 0), (true, 1), (true, 3), (true, 5), (true, 7), (true, 12), (false, 2), (false, 4), (true, 6), (false, 8), (true, 9), (false, 10), (true, 11)] (by kernel_rfl) (by kernel_rfl) (T0.keepsN (Keeps.refl _ _).drew) ?_
  simp only [mixItems, List.map_cons, List.map_nil, List.getD_cons_zero, List.getD_cons_succ]
  replace T0 := T0.keepsN (Keeps.refl Nothing W0).drew
  change wpMix _ _ _ _ _ _ W0.drew
  generalize W0.drew = V at *
  repeat (refine wpMix_free (fun K hK => ?_); go_simp; refine hK _ ?_; clear hK K)
  refine wpMix_yield (v := .agg (a.map byteV).toArray) (fun W hW => ?_) (fun K hK => ?_)
  · obtain ⟨f1, f2⟩ := hW.ra ha
    go_simp
  go_simp
  refine hK _ ?_
  clear hK K
  refine wpMix_yield (v := .agg (a.map byteV).toArray) (fun W hW => ?_) (fun K hK => ?_)
  · obtain ⟨f1, f2⟩ := hW.ra ha
    go_simp
  go_simp
  refine hK _ ?_
  clear hK K
  repeat (refine wpMix_free (fun K hK => ?_); go_simp; refine hK _ ?_; clear hK K)
  refine wpMix_yield (v := .agg (a.map byteV).toArray) (fun W hW => ?_) (fun K hK => ?_)
  · obtain ⟨f1, f2⟩ := hW.ra ha
    go_simp
  go_simp
  refine hK _ ?_
  clear hK K
  repeat (refine wpMix_free (fun K hK => ?_); go_simp; refine hK _ ?_; clear hK K)
  refine wpMix_one (fun K hK => ?_)
  go_wp2_with fail
  refine (rhex_any _ a ha).mono ?_
  rintro e w5 ⟨rfl, k1⟩
  have T1 := T0.keepsN k1
  clear k1 T0
  go_wp2_with fail
  refine hK _ _ T1 ?_
  clear hK K
  refine wpMix_one (fun K hK => ?_)
  go_wp2_with fail
  refine (rhex_any _ a ha).mono ?_
  rintro e w6 ⟨rfl, k2⟩
  have T2 := T1.keepsN k2
  clear k2 T1
  go_wp2_with fail
  refine hK _ _ T2 ?_
  clear hK K
  repeat (refine wpMix_free (fun K hK => ?_); go_simp; refine hK _ ?_; clear hK K)
  refine wpMix_one (fun K hK => ?_)
  go_wp2_with fail
  refine (rhex_any _ a ha).mono ?_
  rintro e w7 ⟨rfl, k3⟩
  have T3 := T2.keepsN k3
  clear k3 T2
  go_wp2_with fail
  refine hK _ _ T3 ?_
  clear hK K
  repeat (refine wpMix_free (fun K hK => ?_); go_simp; refine hK _ ?_; clear hK K)
  refine wpMix_one (fun K hK => ?_)
  go_wp2_with fail
  refine hK _ _ (T3.keepsN ((Keeps.refl _ _).alloc _)) ?_
  clear hK K
  repeat (refine wpMix_free (fun K hK => ?_); go_simp; refine hK _ ?_; clear hK K)
  refine wpMix_nil ?_
  obtain ⟨T, hT⟩ : ∃ T : List (List UInt8), T = [s, hexOf a, hexOf a ++ s, (hexOf a).take 63] := ⟨_, rfl⟩
  have hT4 : T.length = 4 := by rw [hT]; rfl
  have hTl : ∀ t ∈ T, t.length < 9223372036854775808 := by
    rw [hT]
    have h1 := hexOf_len a
    have h2 : (hexOf a ++ s).length ≤ 264 := by rw [List.length_append]; omega
    have h3 : ((hexOf a).take 63).length ≤ 63 := List.length_take_le _ _
    intro t ht
    simp only [List.mem_cons, List.not_mem_nil, or_false] at ht
    rcases ht with rfl | rfl | rfl | rfl <;> omega
  have T1 := T3.keepsN ((Keeps.refl Nothing w7).alloc (.cells (T.map strV).toArray 9))
  have BL := blk_new w7 (T.map strV).toArray 9
  have hTv : (T.map strV).toArray = #[.string ⟨s.toArray⟩, .string ⟨(hexOf a).toArray⟩, .string ⟨(hexOf a ++ s).toArray⟩, .string ⟨((hexOf a).take 63).toArray⟩] := by rw [hT]; rfl
  try rw [cat_eq]
  rw [← hTv]
  clear hTv hT T3 hcut hz hnl hbig hb2
  have hsame := fun W y (hy : y.length = 32) => eql_hash_run y y hy hy W
  go_wp2_with fail
  generalize w7.alloc (.cells (T.map strV).toArray 9) = W1 at *
  generalize w7.heap.size = L at *
  clear w5 w6 w7 V W0
  go_loopw [30] (fun s5 wx => ∃ t : Nat, s5 = .int .i64 t ∧ t ≤ 4 ∧ Blk wx L (T.map strV).toArray 9 ∧ SS2 w g a b wx) (fun s5 _ => 4 - (intOf s5).toNat)
  case atStart => exact ⟨0, rfl, by omega, BL, T1⟩
  case round =>
    clear BL T1
    obtain ⟨t, rfl, ht, BL, T1⟩ := hrel
    by_cases ht4 : t < 4
    · obtain ⟨x, hx⟩ : ∃ x, T[t]? = some x := ⟨_, List.getElem?_eq_getElem (by omega)⟩
      have hxl := hTl x (List.mem_of_getElem? hx)
      have cx : wr.cell? ⟨L, t, none⟩ = some (.string ⟨x.toArray⟩) := blk_cell BL t (by simp [hx]; rfl)
      have m1 : (t : Int) < 4 := by omega
      have m0 : (0 : Int) ≤ t := by omega
      clear hx
      go_wp2_with fail
      refine (parse_any _ x hxl).mono ?_
      rintro e w5 ⟨ev, rfl, hev, k5⟩
      have hyl := parse_len x
      have rp := fun W => rparse_any W x hxl
      generalize parseF x = r at *
      obtain ⟨c, p, y⟩ := r
      have rp2 : ∀ W, Calls Try.prog 18 #[.string ⟨x.toArray⟩] W (RParsePost W (c, p, y)) := rp
      dsimp only at hyl hev ⊢
      unfold hashV
      have T5 := (T1.keepsN k5).keepsN ((Keeps.refl Nothing w5).alloc (.cells (y.map byteV).toArray 25))
      have BL5 := blk_alloc (k5.blk BL (fun h => h)) (.cells (y.map byteV).toArray 25)
      have BX := blk_new w5 (y.map byteV).toArray 25
      have hyg := aggOk_agg 32 (y.map byteV).toArray (by simp [hyl]) (bytes_all _)
      have hsm := fun W => hsame W y hyl
      rw [show (y == y) = true by simp] at hsm
      have hev5 := hev.keeps (S := Nothing) ((Keeps.refl Nothing w5).alloc (.cells (y.map byteV).toArray 25)) (fun _ h => h.elim)
      clear k5 T1 BL hsame rp cx hev
      go_wp2_with fail
      generalize w5.alloc (.cells (y.map byteV).toArray 25) = W5 at *
      generalize w5.heap.size = X at *
      refine (rp2 W5).mono ?_
      rintro e w6 ⟨rfl, k6⟩
      dsimp only
      unfold hashV
      have T6 := (T5.keepsN k6).keepsN ((Keeps.refl Nothing w6).alloc (.cells (y.map byteV).toArray 25))
      have BL6 := blk_alloc (k6.blk BL5 (fun h => h)) (.cells (y.map byteV).toArray 25)
      have BX6 := blk_alloc (k6.blk BX (fun h => h)) (.cells (y.map byteV).toArray 25)
      have BY := blk_new w6 (y.map byteV).toArray 25
      have hev6 := hev5.keeps (S := Nothing) (k6.trans ((Keeps.refl Nothing w6).alloc (.cells (y.map byteV).toArray 25)) (fun _ h _ => h)) (fun _ h => h.elim)
      clear k6 T5 BL5 BX hev5 rp2
      have f1 := rowOk_blk BX6 (show (y.map byteV).toArray.size = 32 by simp [hyl])
      have f2 := rowOf_blk BX6
      have f3 := rowOk_blk BY (show (y.map byteV).toArray.size = 32 by simp [hyl])
      have f4 := rowOf_blk BY
      go_wp2_with fail
      generalize w6.alloc (.cells (y.map byteV).toArray 25) = W6 at *
      refine (is_any hev6 c p).mono ?_
      rintro e w7 ⟨rfl, n7, rfl⟩
      have T7 := T6.keepsN ((Keeps.refl Nothing W6).drewN n7)
      have BL7 : Blk (W6.drewN n7) L (T.map strV).toArray 9 := BL6
      go_wp2_with fail
      go_roundw
      case rel => exact ⟨t + 1, by go_num, by omega, BL7, T7⟩
      case measure => simp [intOf]; omega
    · have ht9 : t = 4 := by omega
      have T0 := T1
      clear T1 BL hsame
      have HP : ltL a b = ltL a b := rfl
      obtain ⟨lp, hlp⟩ : ∃ lp, ltL a b = lp := ⟨_, rfl⟩
      obtain ⟨lq, hlq⟩ : ∃ lq, ltL b a = lq := ⟨_, rfl⟩
      clear HP
      have HP := hlp
      have HQ := hlq
      clear hlp hlq
      go_wp2_with fail
      refine wp_region_mix (SS2 w g a b) [(false, 0), (true, 1), (true, 2), (true, 4), (false, 3), (false, 5), (true, 6), (true, 7), (true, 8), (true, 9), (true, 10), (true, 12), (true, 13), (false, 11), (false, 14), (true, 15), (true, 16), (true, 17), (true, 18), (true, 19), (true, 21), (true, 22), (false, 20), (false, 23), (true, 24), (true, 25), (true, 26), (true, 27), (true, 28), (false, 29), (true, 30), (true, 31), (true, 32)] (by kernel_rfl) (by kernel_rfl) (T0.keepsN (Keeps.refl _ _).drew) ?_
      simp only [mixItems, List.map_cons, List.map_nil, List.getD_cons_zero, List.getD_cons_succ]
      replace T0 := T0.keepsN (Keeps.refl Nothing wr).drew
      change wpMix _ _ _ _ _ _ wr.drew
      generalize wr.drew = V at *
      refine wpMix_one (fun K hK => ?_)
      go_wp2_with fail
      refine (told3_any _).mono ?_
      rintro e w5 ⟨rfl, k1⟩
      have T1 := T0.keepsN k1
      clear k1 T0
      go_wp2_with fail
      refine hK _ _ T1 ?_
      clear hK K
      repeat (refine wpMix_free (fun K hK => ?_); go_simp; refine hK _ ?_; clear hK K)
      refine wpMix_yield (v := .agg (a.map byteV).toArray) (fun W hW => ?_) (fun K hK => ?_)
      · obtain ⟨f1, f2⟩ := hW.ra ha
        go_simp
      go_simp
      refine hK _ ?_
      clear hK K
      refine wpMix_yield (v := .agg (a.map byteV).toArray) (fun W hW => ?_) (fun K hK => ?_)
      · obtain ⟨f1, f2⟩ := hW.ra ha
        go_simp
      go_simp
      refine hK _ ?_
      clear hK K
      refine wpMix_one (fun K hK => ?_)
      go_wp2_with fail
      refine (hex_any _ a ha).mono ?_
      rintro e w6 ⟨rfl, k2⟩
      have T2 := T1.keepsN k2
      clear k2 T1
      go_wp2_with fail
      refine hK _ _ T2 ?_
      clear hK K
      refine wpMix_one (fun K hK => ?_)
      go_wp2_with fail
      refine (rhex_any _ a ha).mono ?_
      rintro e w7 ⟨rfl, k3⟩
      have T3 := T2.keepsN k3
      clear k3 T2
      go_wp2_with fail
      refine hK _ _ T3 ?_
      clear hK K
      repeat (refine wpMix_free (fun K hK => ?_); go_simp; refine hK _ ?_; clear hK K)
      refine wpMix_yield (v := .agg (a.map byteV).toArray) (fun W hW => ?_) (fun K hK => ?_)
      · obtain ⟨f1, f2⟩ := hW.ra ha
        go_simp
      go_simp
      refine hK _ ?_
      clear hK K
      refine wpMix_yield (v := .agg (b.map byteV).toArray) (fun W hW => ?_) (fun K hK => ?_)
      · obtain ⟨f1, f2⟩ := hW.rb hb
        go_simp
      go_simp
      refine hK _ ?_
      clear hK K
      refine wpMix_yield (v := .agg (a.map byteV).toArray) (fun W hW => ?_) (fun K hK => ?_)
      · obtain ⟨f1, f2⟩ := hW.ra ha
        go_simp
      go_simp
      refine hK _ ?_
      clear hK K
      refine wpMix_yield (v := .agg (b.map byteV).toArray) (fun W hW => ?_) (fun K hK => ?_)
      · obtain ⟨f1, f2⟩ := hW.rb hb
        go_simp
      go_simp
      refine hK _ ?_
      clear hK K
      refine wpMix_one (fun K hK => ?_)
      go_wp2_with fail
      refine (less_any _ a b ha hb).mono ?_
      rintro e w8 ⟨rfl, k4⟩
      have T4 := T3.keepsN k4
      clear k4 T3
      rw [HP]
      go_wp2_with fail
      refine hK _ _ T4 ?_
      clear hK K
      refine wpMix_one (fun K hK => ?_)
      go_wp2_with fail
      refine (rless_any _ a b ha hb).mono ?_
      rintro e w9 ⟨rfl, k5⟩
      have T5 := T4.keepsN k5
      clear k5 T4
      rw [HP]
      go_wp2_with fail
      refine hK _ _ T5 ?_
      clear hK K
      repeat (refine wpMix_free (fun K hK => ?_); go_simp; refine hK _ ?_; clear hK K)
      refine wpMix_yield (v := .agg (b.map byteV).toArray) (fun W hW => ?_) (fun K hK => ?_)
      · obtain ⟨f1, f2⟩ := hW.rb hb
        go_simp
      go_simp
      refine hK _ ?_
      clear hK K
      refine wpMix_yield (v := .agg (a.map byteV).toArray) (fun W hW => ?_) (fun K hK => ?_)
      · obtain ⟨f1, f2⟩ := hW.ra ha
        go_simp
      go_simp
      refine hK _ ?_
      clear hK K
      refine wpMix_yield (v := .agg (b.map byteV).toArray) (fun W hW => ?_) (fun K hK => ?_)
      · obtain ⟨f1, f2⟩ := hW.rb hb
        go_simp
      go_simp
      refine hK _ ?_
      clear hK K
      refine wpMix_yield (v := .agg (a.map byteV).toArray) (fun W hW => ?_) (fun K hK => ?_)
      · obtain ⟨f1, f2⟩ := hW.ra ha
        go_simp
      go_simp
      refine hK _ ?_
      clear hK K
      refine wpMix_one (fun K hK => ?_)
      go_wp2_with fail
      refine (less_any _ b a hb ha).mono ?_
      rintro e w10 ⟨rfl, k6⟩
      have T6 := T5.keepsN k6
      clear k6 T5
      rw [HQ]
      go_wp2_with fail
      refine hK _ _ T6 ?_
      clear hK K
      refine wpMix_one (fun K hK => ?_)
      go_wp2_with fail
      refine (rless_any _ b a hb ha).mono ?_
      rintro e w11 ⟨rfl, k7⟩
      have T7 := T6.keepsN k7
      clear k7 T6
      rw [HQ]
      go_wp2_with fail
      refine hK _ _ T7 ?_
      clear hK K
      repeat (refine wpMix_free (fun K hK => ?_); go_simp; refine hK _ ?_; clear hK K)
      refine wpMix_yield (v := .agg (a.map byteV).toArray) (fun W hW => ?_) (fun K hK => ?_)
      · obtain ⟨f1, f2⟩ := hW.ra ha
        go_simp
      go_simp
      refine hK _ ?_
      clear hK K
      refine wpMix_yield (v := .agg (a.map byteV).toArray) (fun W hW => ?_) (fun K hK => ?_)
      · obtain ⟨f1, f2⟩ := hW.ra ha
        go_simp
      go_simp
      refine hK _ ?_
      clear hK K
      refine wpMix_one (fun K hK => ?_)
      go_wp2_with fail
      refine (less_any _ a a ha ha).mono ?_
      rintro e w12 ⟨rfl, k8⟩
      have T8 := T7.keepsN k8
      clear k8 T7
      rw [ltL_irrefl a]
      go_wp2_with fail
      refine hK _ _ T8 ?_
      clear hK K
      repeat (refine wpMix_free (fun K hK => ?_); go_simp; refine hK _ ?_; clear hK K)
      refine wpMix_nil ?_
      go_wp2_with fail
      go_ret
      exact ⟨rfl, T8.2.2⟩
set_option maxRecDepth 100000 in
theorem lifted (os : Os) (started : os.Started) (H : Type) (enc : TypeId × Value → H) :
    ReturnsInHanded {} Try.checked os 5 .any (Rows.shaTextsSpec.pre6 enc Try.prog Try.f5 Rows.shaTextsRow.domain false) (Rows.shaTextsSpec.post enc Try.prog Try.f5 false true false false) := by
  refine returnsInHanded_of_change (C := Try.checked) own started (by kernel_rfl) Try.func5
    (ChangeSpec.witness6 (enc := enc) (C := Try.checked) false ⟨#[], #[hashV zeros32, hashV zeros32, .string ⟨#[]⟩], []⟩ 8 (by kernel_rfl) (by kernel_rfl) (by kernel_rfl) (by kernel_rfl)) ?_
  intro W base args ds gs before hval0 hW hcnd _
  have hval : ∀ (j : Nat) t v, Try.f5.params[j]? = some t → args[j]? = some v → Value.okWide Try.prog W .any base t v := hval0
  have hW' := hW
  obtain ⟨p, q, hA0, hV, rfl, hfz, hnd⟩ := hW
  have hA : DataW.TrodAll enc Try.prog W 0 (fun _ => true) true Try.f5.params.toList args.toList ds p := hA0
  rw [Try.params5] at hA hval
  obtain ⟨v0, vs0, d0, ds0, p0, q0, hargs, rfl, rfl, h0, r0⟩ := trodAll_cons hA
  obtain ⟨v1, vs1, d1, ds1, p1, q1, rfl, rfl, rfl, h1, r1⟩ := trodAll_cons r0
  obtain ⟨v2, vs2, d2, ds2, p2, q2, rfl, rfl, rfl, h2, r2⟩ := trodAll_cons r1
  obtain ⟨rfl, rfl, rfl⟩ := trodAll_nil r2
  obtain rfl : args = #[v0, v1, v2] := by cases args; simp_all
  obtain ⟨rfl, rfl⟩ := trodVars_none hV
  have k0 := h0
  have lt0 : ∀ x ∈ p0, x.block < W.heap.size := by obtain ⟨m, hm⟩ := k0; exact DataW.trod_lt m _ _ _ hm
  have k1 := h1
  have lt1 : ∀ x ∈ p1, x.block < W.heap.size := by obtain ⟨m, hm⟩ := k1; exact DataW.trod_lt m _ _ _ hm
  have k2 := h2
  have lt2 : ∀ x ∈ p2, x.block < W.heap.size := by obtain ⟨m, hm⟩ := k2; exact DataW.trod_lt m _ _ _ hm
  obtain ⟨bs0, hn0, rfl⟩ := open_hash (hval 0 25 v0 rfl rfl) h0
  obtain ⟨bs1, hn1, rfl⟩ := open_hash (hval 1 25 v1 rfl rfl) h1
  obtain ⟨s2, rfl, rfl, rfl, hs2⟩ := open_string Try.underlying9 (hval 2 9 v2 rfl rfl) h2
  clear hA0 hval0
  have hw := walk W bs0 bs1 (bytesOf s2) hn0 hn1 (by rw [bytesOf_length]; unfold maxLen at hs2; omega)
  rw [text_eta] at hw
  refine hw.mono fun e W' ⟨he, hk⟩ => ?_
  subst he
  have bel : Below W.heap.size W W' := hk.below (Nat.le_refl _) (fun _ h => h.elim)
  exact ⟨_, rfl, _, _, _, [], _, [], hW', trodAll_mk1 (shut_bool Try.underlying4 _), (trodAll_cons_mk (Below.trod laidOut (by kernel_rfl) (of_decide_eq_true (by kernel_rfl)) k0 bel lt0) (trodAll_cons_mk (Below.trod laidOut (by kernel_rfl) (of_decide_eq_true (by kernel_rfl)) k1 bel lt1) (trodAll_cons_mk (Below.trod laidOut (by kernel_rfl) (of_decide_eq_true (by kernel_rfl)) k2 bel lt2) trodAll_mk0))), rfl, bel.frame _, fun h => by cases h⟩

/-- For every input the law returns true, and its arguments read as before. -/
theorem proved : Rows.ShaTextsSaid :=
  OpenClaim.holds_of_wide 5 Try.f5 rfl rfl rfl rfl rfl rfl rfl ⟨rfl, rfl, rfl, rfl, rfl⟩ rfl rfl rfl rfl rfl (by kernel_rfl) Try.func5 (by kernel_rfl)
    (of_decide_eq_true (by kernel_rfl)) (by unfold Func.isWrapper; first | (rw [if_pos (by decide +kernel)]; kernel_rfl) | (rw [if_neg (by decide +kernel)]; exact ⟨rfl, rfl⟩))
    (fun os started H enc _ => lifted os started H enc)
#print axioms proved

end Go.Proofs.Ytdmfomjgmmkaeaa.shaTexts
