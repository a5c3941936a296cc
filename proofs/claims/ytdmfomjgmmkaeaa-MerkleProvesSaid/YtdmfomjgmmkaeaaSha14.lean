/- usufructref3.Parse. -/
import Derived.Test.YtdmfomjgmmkaeaaSha13
namespace Go.Proofs.Ytdmfomjgmmkaeaa
open Go.RowKit

theorem results_row_tmp2 {P : Program} {fn : Func} {p u v : Tmp} {ty : TypeId} (h : fn.results = #[.cell p ty, .tmp u, .tmp v]) (tmps : Array Value) (w : World) (g : Nat) (cs : Array Value) (x y : Value)
    (hp : tmps.getD p undef = .pointer (some ⟨g, 0, none⟩)) (hu : tmps.getD u undef = x) (hv : tmps.getD v undef = y) (hl : (loadVar ty ⟨g, 0, none⟩).run P w = .ok (.agg cs) w) : (results fn tmps).run P w = .ok (.tuple #[.agg cs, x, y]) w := by
  have e : (results fn tmps).run P w =
      ((asAddr (tmps.getD p undef)).run P w).andThen fun a w₁ => ((loadVar ty a).run P w₁).andThen fun b w₂ => .ok (.tuple #[b, tmps.getD u undef, tmps.getD v undef]) w₂ := by
    simp only [results, h]
    simp [Sem.run_bind, Result.andThen]
  rw [e, hp, hu, hv]
  simp [asAddr, hl]

/-- A sum, a number and a place, as they come back. -/
def RParsePost (w : World) (r : Nat × Nat × List UInt8) (e : Ending) (w' : World) : Prop := e = .returned (.tuple #[hashV r.2.2, .int .i64 r.1, .int .i64 r.2.1]) ∧ Keeps Nothing w w'

attribute [local go_sem ↓] exec_load_hash exec_store_hash
attribute [local go_sem] rowOk_new World.setRow_alloc_new rowOk_new2 setRow_new2

set_option maxRecDepth 100000 in
set_option maxHeartbeats 2000000 in
theorem rparse_any (w : World) (s : List UInt8) (hl : s.length < 9223372036854775808) : Calls Try.prog 18 #[.string ⟨s.toArray⟩] w (RParsePost w (parseF s)) := by
  go_enter Try.func18, Try.ntmps18
  go_wp2_with fail
  rw [← zeros32_lit]
  obtain ⟨Z, hZ⟩ : ∃ Z, (zeros32.map byteV).toArray = Z := ⟨_, rfl⟩
  have hZs : Z.size = 32 := by rw [← hZ]; rfl
  rw [hZ]
  have HZ := shut hZ
  have HZS := shut hZs
  have B1 := blk_alloc (blk_new w Z 25) (.cells Z 25)
  have B2 := blk_new (w.alloc (.cells Z 25)) Z 25
  rw [World.size_alloc] at B2
  have K0 : Keeps Nothing w ((w.alloc (.cells Z 25)).alloc (.cells Z 25)) := ((Keeps.refl _ _).alloc _).alloc _
  clear hZ hZs
  generalize (w.alloc (.cells Z 25)).alloc (.cells Z 25) = W0 at *
  obtain ⟨g, hg⟩ : ∃ g, w.heap.size = g := ⟨_, rfl⟩
  rw [hg] at B1 B2 ⊢
  have HG := shut hg
  clear hg
  go_wp2_with fail
  go_loopw [6] (fun s5 wx => ∃ t : Nat, s5 = .int .i64 t ∧ t ≤ 64 ∧ t ≤ s.length ∧ Shut (badAt 0 (s.take 64) = badAt t ((s.take 64).drop t)) ∧ Blk wx g Z 25 ∧ Blk wx (g + 1) ((packTo s t).map byteV).toArray 25 ∧ Keeps Nothing w wx) (fun s5 _ => 64 - (intOf s5).toNat)
  case atStart => exact ⟨0, rfl, by omega, by omega, shut rfl, B1, by rw [packTo_zero, HZ.out]; exact B2, K0⟩
  case round =>
    clear B1 B2 K0
    obtain ⟨t, rfl, ht, hts, HB, B1, B2, K0⟩ := hrel
    have hsz : (ByteArray.mk s.toArray).size = s.length := rfl
    by_cases hlt : t < s.length ∧ t < 64
    · obtain ⟨h1, h2⟩ := hlt
      obtain ⟨c, hc⟩ : ∃ c, s[t]? = some c := ⟨_, List.getElem?_eq_getElem h1⟩
      have hix := fun k W => str_at s hc k W
      have HC := shut hc
      clear hc
      have hm : (t : Int) < s.length := by omega
      have hn : (t : Int) < 64 := by omega
      have h0 : (0 : Int) ≤ t := by omega
      have hcl := c.toNat_lt
      have hdv : dv s t = ((digF c).getD 0).toNat := by unfold dv; rw [List.getD_eq_getElem?_getD, HC.out]; rfl
      have hdl := dv_lt s t
      have hset := packTo_set s h2
      have co := blk_cell B2 (t / 2) (packTo_at s h2)
      have hor := or_digit (oldN s t) (dv s t) (oldN_lt s t) hdl
      obtain ⟨d, hd2⟩ : ∃ d, dv s t = d := ⟨_, rfl⟩
      obtain ⟨x, hx⟩ : ∃ x, oldN s t = x := ⟨_, rfl⟩
      have hxl := oldN_lt s t
      rw [hd2] at hset hor hdl hdv
      rw [hx] at hset co hor hxl
      have HSET := shut hset
      have hfr := blk_free B2 (t / 2)
      have g1 : (0 : Int) ≤ (t : Int) / 2 := by omega
      have l1 : (t : Int) / 2 < 32 := by omega
      have l2 : ((t : Int) / 2).toNat = t / 2 := by omega
      clear hset hd2 hx
      by_cases k1 : 48 ≤ c.toNat ∧ c.toNat ≤ 57
      · have e : digF c = some (UInt8.ofNat (c.toNat - 48)) := by unfold digF; rw [if_pos k1]
        have HBN := shut (bad_step HB.out h2 HC.out (by rw [e]; rfl))
        rw [e, Option.getD_some, UInt8.toNat_ofNat_of_lt' (show c.toNat - 48 < UInt8.size by unfold UInt8.size; omega)] at hdv
        have hde : (c.toNat : Int) - 48 = (d : Int) := by omega
        have m1 : (48 : Int) ≤ c.toNat := by omega
        have m2 : (c.toNat : Int) ≤ 57 := by omega
        clear e hdv k1
        go_wp2_with fail
        have hs := blk_set B2 (t / 2) (.int .u8 ((x * 16 + d : Nat) : Int))
        rw [HSET.out, show ((x * 16 + d : Nat) : Int) = (x : Int) * 16 + d by omega] at hs
        go_roundw
        case rel => exact ⟨t + 1, by go_num, by omega, by omega, HBN, blk_other B1 _ (by show g ≠ g + 1; omega) _, hs, K0.setCell (fun h => by have := HG.out; change g + 1 < _ at h; omega) _⟩
        case measure => simp [intOf]; omega
      · by_cases k2 : 97 ≤ c.toNat ∧ c.toNat ≤ 102
        · have e : digF c = some (UInt8.ofNat (c.toNat - 87)) := by unfold digF; rw [if_neg k1, if_pos k2]
          have HBN := shut (bad_step HB.out h2 HC.out (by rw [e]; rfl))
          rw [e, Option.getD_some, UInt8.toNat_ofNat_of_lt' (show c.toNat - 87 < UInt8.size by unfold UInt8.size; omega)] at hdv
          have hde : (c.toNat : Int) - 97 + 10 = (d : Int) := by omega
          have m1 : (97 : Int) ≤ c.toNat := by omega
          have m2 : (c.toNat : Int) ≤ 102 := by omega
          have m3 : (48 : Int) ≤ c.toNat := by omega
          have m4 : ¬ (c.toNat : Int) ≤ 57 := by omega
          clear e hdv k1 k2
          go_wp2_with fail
          have hs := blk_set B2 (t / 2) (.int .u8 ((x * 16 + d : Nat) : Int))
          rw [HSET.out, show ((x * 16 + d : Nat) : Int) = (x : Int) * 16 + d by omega] at hs
          go_roundw
          case rel => exact ⟨t + 1, by go_num, by omega, by omega, HBN, blk_other B1 _ (by show g ≠ g + 1; omega) _, hs, K0.setCell (fun h => by have := HG.out; change g + 1 < _ at h; omega) _⟩
          case measure => simp [intOf]; omega
        · have e : digF c = none := by unfold digF; rw [if_neg k1, if_neg k2]
          have hpf := parse_bad HB.out h2 HC.out (by rw [e]; rfl)
          have HPF := shut hpf
          have r1 := rowOk_blk B1 HZS.out
          have hag := aggOk_agg 32 Z HZS.out (by rw [← HZ.out]; exact bytes_all _)
          have hzl := zeros32_lit
          rw [HZ.out] at hzl
          clear e hpf hdv hor co hfr
          by_cases m1 : (48 : Int) ≤ c.toNat
          · have m2 : ¬ (c.toNat : Int) ≤ 57 := by omega
            by_cases m3 : (97 : Int) ≤ c.toNat
            · have m4 : ¬ (c.toNat : Int) ≤ 102 := by omega
              clear k1 k2
              rw [hzl] at hag
              go_wp2_with fail
              rw [← hzl]
              refine bodyPost_ret (v := .tuple #[.agg Z, .int .i64 4, .int .i64 t]) (results_row_tmp2 rfl _ _ g Z _ _ rfl rfl rfl (loadVar_hash _ _ _ _ (blk_setRow (cs := Z) B1) HZS.out)) rfl ?_
              exact ⟨by rw [HPF.out, ← HZ.out]; rfl, K0.setRow (fun h => by have := HG.out; omega) Z⟩
            · clear k1 k2
              rw [hzl] at hag
              go_wp2_with fail
              rw [← hzl]
              refine bodyPost_ret (v := .tuple #[.agg Z, .int .i64 4, .int .i64 t]) (results_row_tmp2 rfl _ _ g Z _ _ rfl rfl rfl (loadVar_hash _ _ _ _ (blk_setRow (cs := Z) B1) HZS.out)) rfl ?_
              exact ⟨by rw [HPF.out, ← HZ.out]; rfl, K0.setRow (fun h => by have := HG.out; omega) Z⟩
          · have m3 : ¬ (97 : Int) ≤ c.toNat := by omega
            clear k1 k2
            rw [hzl] at hag
            go_wp2_with fail
            rw [← hzl]
            refine bodyPost_ret (v := .tuple #[.agg Z, .int .i64 4, .int .i64 t]) (results_row_tmp2 rfl _ _ g Z _ _ rfl rfl rfl (loadVar_hash _ _ _ _ (blk_setRow (cs := Z) B1) HZS.out)) rfl ?_
            exact ⟨by rw [HPF.out, ← HZ.out]; rfl, K0.setRow (fun h => by have := HG.out; omega) Z⟩
    · have htm : t = min s.length 64 := by omega
      have hpf := parse_end HB.out htm
      by_cases h64 : s.length = 64
      · rw [if_pos h64] at hpf
        have ht9 : t = 64 := by omega
        have hYs := packTo_size s t
        have hag := aggOk_agg 32 _ hYs (bytes_all _)
        rw [ht9] at hYs hag B2 ⊢
        obtain ⟨Y, hY⟩ : ∃ Y, ((packTo s 64).map byteV).toArray = Y := ⟨_, rfl⟩
        rw [hY] at hYs hag B2
        have HY := shut hY
        have HYS := shut hYs
        have HPF := shut hpf
        clear hY hYs hpf htm hlt
        have r1 := rowOk_blk B1 HZS.out
        have r2 := rowOk_blk B2 HYS.out
        have e2 := rowOf_blk B2
        go_wp2_with fail
        refine bodyPost_ret (v := .tuple #[.agg Y, .int .i64 0, .int .i64 0]) (results_row_tmp2 rfl _ _ g Y _ _ rfl rfl rfl (loadVar_hash _ _ _ _ (blk_setRow (cs := Y) B1) HYS.out)) rfl ?_
        exact ⟨by rw [HPF.out, ← HY.out]; rfl, K0.setRow (fun h => by have := HG.out; omega) Y⟩
      · rw [if_neg h64] at hpf
        have hne : ((s.length : Int) != 64) = true := by rw [bne_iff_ne]; omega
        have r1 := rowOk_blk B1 HZS.out
        have hag := aggOk_agg 32 Z HZS.out (by rw [← HZ.out]; exact bytes_all _)
        have hzl := zeros32_lit
        rw [HZ.out] at hzl
        by_cases hb : s.length < 64
        · have hmn : min s.length 64 = s.length := by omega
          rw [hmn] at hpf
          have hlt2 : ¬ (t : Int) < s.length := by omega
          have hmi : (s.length : Int) ≤ 64 := by omega
          clear htm hlt hmn
          have HPF := shut hpf
          clear hpf
          rw [hzl] at hag
          go_wp2_with fail
          rw [← hzl]
          refine bodyPost_ret (v := .tuple #[.agg Z, .int .i64 4, .int .i64 s.length]) (results_row_tmp2 rfl _ _ g Z _ _ rfl rfl rfl (loadVar_hash _ _ _ _ (blk_setRow (cs := Z) B1) HZS.out)) rfl ?_
          exact ⟨by rw [HPF.out, ← HZ.out]; rfl, K0.setRow (fun h => by have := HG.out; omega) Z⟩
        · have hmn : min s.length 64 = 64 := by omega
          rw [hmn] at hpf
          have hlt2 : (t : Int) < s.length := by omega
          have hlt3 : ¬ (t : Int) < 64 := by omega
          clear htm hlt hmn
          have HPF := shut hpf
          clear hpf
          rw [hzl] at hag
          go_wp2_with fail
          rw [← hzl]
          refine bodyPost_ret (v := .tuple #[.agg Z, .int .i64 4, .int .i64 64]) (results_row_tmp2 rfl _ _ g Z _ _ rfl rfl rfl (loadVar_hash _ _ _ _ (blk_setRow (cs := Z) B1) HZS.out)) rfl ?_
          exact ⟨by rw [HPF.out, ← HZ.out]; rfl, K0.setRow (fun h => by have := HG.out; omega) Z⟩

end Go.Proofs.Ytdmfomjgmmkaeaa
