/- sha.Parse. -/
import Derived.Test.YtdmfomjgmmkaeaaSha8
namespace Go.Proofs.Ytdmfomjgmmkaeaa
open Go.RowKit

/-- What the digit at a place stands for. -/
def dv (s : List UInt8) (j : Nat) : Nat := ((digF (s.getD j 0)).getD 0).toNat
/-- The sum after so many digits. -/
def packTo (s : List UInt8) (t : Nat) : List UInt8 := (List.range 32).map fun i => if 2 * i + 1 < t then UInt8.ofNat (dv s (2 * i) * 16 + dv s (2 * i + 1)) else if 2 * i < t then UInt8.ofNat (dv s (2 * i)) else 0
/-- Where the first one lies that is no digit. -/
def badAt (t : Nat) : List UInt8 → Option Nat
  | [] => none
  | c :: l => if (digF c).isSome then badAt (t + 1) l else some t
def parseF (s : List UInt8) : Nat × Nat × List UInt8 :=
  match badAt 0 (s.take 64) with
  | some i => (4, i, zeros32)
  | none => if s.length = 64 then (0, 0, packTo s 64) else (4, min s.length 64, zeros32)

theorem digF_lt (c : UInt8) : ((digF c).getD 0).toNat < 16 := by
  have h : ∀ n : Nat, n < 256 → ((digF (UInt8.ofNat n)).getD 0).toNat < 16 := by decide +kernel
  have := h c.toNat c.toNat_lt
  rwa [UInt8.ofNat_toNat] at this
theorem dv_lt (s : List UInt8) (j : Nat) : dv s j < 16 := digF_lt _
theorem packTo_zero (s : List UInt8) : packTo s 0 = zeros32 := by unfold packTo; simp; rfl
theorem packTo_size (s : List UInt8) (t : Nat) : ((packTo s t).map byteV).toArray.size = 32 := by unfold packTo; simp
/-- What lies where the next digit goes. -/
def oldN (s : List UInt8) (t : Nat) : Nat := if t % 2 = 0 then 0 else dv s (t - 1)
theorem oldN_lt (s : List UInt8) (t : Nat) : oldN s t < 16 := by
  unfold oldN
  split
  · decide
  · exact dv_lt _ _
theorem packTo_at (s : List UInt8) {t : Nat} (ht : t < 64) : ((packTo s t).map byteV).toArray[t / 2]? = some (.int .u8 (oldN s t : Int)) := by
  rw [byteV_nat (by have := oldN_lt s t; omega)]
  unfold packTo oldN
  simp only [List.getElem?_toArray, List.getElem?_map]
  rw [List.getElem?_range (by omega)]
  simp only [Option.map_some]
  by_cases h : t % 2 = 0
  · rw [if_neg (by omega), if_neg (by omega), if_pos h]; rfl
  · rw [if_neg (by omega), if_pos (by omega), if_neg h, show 2 * (t / 2) = t - 1 by omega]
theorem packTo_set (s : List UInt8) {t : Nat} (ht : t < 64) : ((packTo s t).map byteV).toArray.setIfInBounds (t / 2) (.int .u8 ((oldN s t * 16 + dv s t : Nat) : Int)) = ((packTo s (t + 1)).map byteV).toArray := by
  rw [byteV_nat (by have := oldN_lt s t; have := dv_lt s t; omega)]
  apply Array.ext_getElem?
  intro i
  rw [Array.getElem?_setIfInBounds]
  unfold packTo oldN
  simp only [List.size_toArray, List.length_map, List.length_range, List.getElem?_toArray, List.getElem?_map]
  by_cases hi : i < 32
  · rw [List.getElem?_range hi]
    simp only [Option.map_some]
    by_cases e : t / 2 = i
    · rw [if_pos e, if_pos (by omega)]
      by_cases h : t % 2 = 0
      · rw [if_pos h, if_neg (by omega), if_pos (by omega), show 2 * i = t by omega, Nat.zero_mul, Nat.zero_add]
      · rw [if_neg h, if_pos (by omega), show 2 * i = t - 1 by omega, show t - 1 + 1 = t by omega]
    · rw [if_neg e]
      by_cases h1 : 2 * i + 1 < t
      · rw [if_pos h1, if_pos (by omega)]
      · rw [if_neg h1, if_neg (show ¬ 2 * i + 1 < t + 1 by omega)]
        by_cases h2 : 2 * i < t
        · rw [if_pos h2, if_pos (by omega)]
        · rw [if_neg h2, if_neg (by omega)]
  · rw [List.getElem?_eq_none (by simp; omega)]
    simp
    omega
theorem or_digit (x d : Nat) (hx : x < 16) (hd : d < 16) : bits BinOp.or IntKind.u8 ((x : Int) * 16) (d : Int) = ((x * 16 + d : Nat) : Int) := by
  have h : ∀ x : Nat, x < 16 → ∀ d : Nat, d < 16 → bits BinOp.or IntKind.u8 ((x : Int) * 16) (d : Int) = ((x * 16 + d : Nat) : Int) := by decide +kernel
  exact h x hx d hd

def ParsePost (w : World) (r : Nat × Nat × List UInt8) (e : Ending) (w' : World) : Prop := ∃ ev, e = .returned (.tuple #[hashV r.2.2, ev]) ∧ IsErr w.heap.size w' ev r.1 r.2.1 ∧ Keeps Nothing w w'

attribute [local go_sem ↓] exec_load_hash exec_store_hash
attribute [local go_sem] rowOk_new World.setRow_alloc_new rowOk_new2 setRow_new2

theorem new_post (w : World) (c p : Int) (hc : (c == 0) = false) : Calls Try.prog 40 #[.int .i64 c, .int .i64 p] w (ErrPost w c p) := by
  refine (new_err c p w hc).mono ?_
  rintro e w' ⟨rfl, rfl⟩
  exact ⟨_, rfl, isErr_new w c p hc, (Keeps.refl _ _).alloc _⟩
theorem err_row {w wr w2 : World} {g : Nat} {Z Y : Array Value} {t : TypeId} {ev : Value} {c p : Int} (hev : IsErr wr.heap.size w2 ev c p) (hb : Blk wr g Y t) (hk : w.heap.size ≤ wr.heap.size) : IsErr w.heap.size (w2.setRow g Z) ev c p :=
  (hev.keeps (S := fun i => i = g) (Keeps.setRow (S := fun i => i = g) (g := g) (Keeps.refl _ w2) (fun _ => rfl) Z) (fun i hi => by subst hi; exact lt_of_block hb)).mono hk
theorem str_at (s : List UInt8) {t : Nat} {c : UInt8} (hc : s[t]? = some c) (k : IntKind) (W : World) : (Instr.index 9 (.string ⟨s.toArray⟩) (.int k (t : Int))).run Try.prog W = .ok (.int .u8 (c.toNat : Int)) W := by
  obtain ⟨h1, h2⟩ := List.getElem?_eq_some_iff.1 hc
  rw [run_index_string W _ _ _ _ Try.underlying9, dif_pos ⟨by omega, by show (t : Int) < s.length; omega⟩]
  subst h2
  rfl
theorem parse_bad {s : List UInt8} {t : Nat} {c : UInt8} (hb : badAt 0 (s.take 64) = badAt t ((s.take 64).drop t)) (ht : t < 64) (hc : s[t]? = some c) (hd : (digF c).isSome = false) : parseF s = (4, t, zeros32) := by
  have h1 : (s.take 64)[t]? = some c := by rw [List.getElem?_take, if_pos ht, hc]
  rw [drop_cons h1, badAt, if_neg (by rw [hd]; decide)] at hb
  unfold parseF
  rw [hb]
theorem bad_step {s : List UInt8} {t : Nat} {c : UInt8} (hb : badAt 0 (s.take 64) = badAt t ((s.take 64).drop t)) (ht : t < 64) (hc : s[t]? = some c) (hd : (digF c).isSome = true) : badAt 0 (s.take 64) = badAt (t + 1) ((s.take 64).drop (t + 1)) := by
  have h1 : (s.take 64)[t]? = some c := by rw [List.getElem?_take, if_pos ht, hc]
  rw [drop_cons h1, badAt, if_pos hd] at hb
  exact hb
theorem parse_end {s : List UInt8} {t : Nat} (hb : badAt 0 (s.take 64) = badAt t ((s.take 64).drop t)) (ht : t = min s.length 64) : parseF s = if s.length = 64 then (0, 0, packTo s 64) else (4, min s.length 64, zeros32) := by
  rw [List.drop_of_length_le (by rw [List.length_take]; omega)] at hb
  unfold parseF
  rw [hb]
  rfl

set_option maxRecDepth 100000 in
set_option maxHeartbeats 2000000 in
theorem parse_any (w : World) (s : List UInt8) (hl : s.length < 9223372036854775808) : Calls Try.prog 17 #[.string ⟨s.toArray⟩] w (ParsePost w (parseF s)) := by
  go_enter Try.func17, Try.ntmps17
  go_wp2_with fail
  rw [← zeros32_lit]
  obtain ⟨Z, hZ⟩ : ∃ Z, (zeros32.map byteV).toArray = Z := ⟨_, rfl⟩
  have hZs : Z.size = 32 := by rw [← hZ]; rfl
  rw [hZ]
  have HZ := shut hZ
  have HZS := shut hZs
  have B1 := blk_alloc (blk_new w Z 25) (.cells Z 25)
  have B2 := blk_new (w.alloc (.cells Z 25)) Z 25
  rw [World.size_alloc] at B2
  have K0 : Keeps Nothing w ((w.alloc (.cells Z 25)).alloc (.cells Z 25)) := ((Keeps.refl _ _).alloc _).alloc _
  clear hZ hZs
  generalize (w.alloc (.cells Z 25)).alloc (.cells Z 25) = W0 at *
  obtain ⟨g, hg⟩ : ∃ g, w.heap.size = g := ⟨_, rfl⟩
  rw [hg] at B1 B2 ⊢
  have HG := shut hg
  clear hg
  go_wp2_with fail
  go_loopw [5] (fun s5 wx => ∃ t : Nat, s5 = .int .i64 t ∧ t ≤ 64 ∧ t ≤ s.length ∧ Shut (badAt 0 (s.take 64) = badAt t ((s.take 64).drop t)) ∧ Blk wx g Z 25 ∧ Blk wx (g + 1) ((packTo s t).map byteV).toArray 25 ∧ Keeps Nothing w wx) (fun s5 _ => 64 - (intOf s5).toNat)
  case atStart => exact ⟨0, rfl, by omega, by omega, shut rfl, B1, by rw [packTo_zero, HZ.out]; exact B2, K0⟩
  case round =>
    clear B1 B2 K0
    obtain ⟨t, rfl, ht, hts, HB, B1, B2, K0⟩ := hrel
    have hsz : (ByteArray.mk s.toArray).size = s.length := rfl
    by_cases hlt : t < s.length ∧ t < 64
    · obtain ⟨h1, h2⟩ := hlt
      obtain ⟨c, hc⟩ : ∃ c, s[t]? = some c := ⟨_, List.getElem?_eq_getElem h1⟩
      have hix := fun k W => str_at s hc k W
      have HC := shut hc
      clear hc
      have hm : (t : Int) < s.length := by omega
      have hn : (t : Int) < 64 := by omega
      have h0 : (0 : Int) ≤ t := by omega
      go_wp2_with fail
      refine (digit_any _ c).mono ?_
      rintro e _ ⟨rfl, rfl⟩
      by_cases hd : (digF c).isSome = true
      · rw [hd]
        have hdv : dv s t = ((digF c).getD 0).toNat := by unfold dv; rw [List.getD_eq_getElem?_getD, HC.out]; rfl
        obtain ⟨d, hd2⟩ : ∃ d, dv s t = d := ⟨_, rfl⟩
        have hdl := dv_lt s t
        have hset := packTo_set s h2
        have co := blk_cell B2 (t / 2) (packTo_at s h2)
        have hor := or_digit (oldN s t) (dv s t) (oldN_lt s t) hdl
        have hdb : byteV ((digF c).getD 0) = .int .u8 (d : Int) := by unfold byteV; rw [← hdv, hd2]
        rw [hd2] at hset hor hdl
        obtain ⟨x, hx⟩ : ∃ x, oldN s t = x := ⟨_, rfl⟩
        have hxl := oldN_lt s t
        rw [hx] at hset co hor hxl
        have HSET := shut hset
        have HBN := shut (bad_step HB.out h2 HC.out hd)
        have hfr := blk_free B2 (t / 2)
        rw [hdb]
        have g1 : (0 : Int) ≤ (t : Int) / 2 := by omega
        have l1 : (t : Int) / 2 < 32 := by omega
        have l2 : ((t : Int) / 2).toNat = t / 2 := by omega
        clear hset hdv hd2 hx hdb hd
        go_wp2_with fail
        have hs := blk_set B2 (t / 2) (.int .u8 ((x * 16 + d : Nat) : Int))
        rw [HSET.out, show ((x * 16 + d : Nat) : Int) = (x : Int) * 16 + d by omega] at hs
        go_roundw
        case rel => exact ⟨t + 1, by go_num, by omega, by omega, HBN, blk_other B1 _ (by show g ≠ g + 1; omega) _, hs, K0.setCell (fun h => by have := HG.out; change g + 1 < _ at h; omega) _⟩
        case measure => simp [intOf]; omega
      · have hd9 : (digF c).isSome = false := by simpa using hd
        have hpf := parse_bad HB.out h2 HC.out hd9
        rw [hd9]
        have HPF := shut hpf
        go_wp2_with fail
        rw [← zeros32_lit, HZ.out]
        refine (new_post _ 4 _ rfl).mono ?_
        rintro e w2 ⟨ev, rfl, hev, K2⟩
        have b1 := K2.blk B1 (fun h => h)
        have r1 := rowOk_blk b1 HZS.out
        have hag := aggOk_agg 32 Z HZS.out (by rw [← HZ.out]; exact bytes_all _)
        go_wp2_with fail
        refine bodyPost_ret (v := .tuple #[.agg Z, ev]) (results_row_tmp rfl _ _ g Z ev rfl rfl (loadVar_hash _ _ _ _ (blk_setRow (cs := Z) b1) HZS.out)) rfl ?_
        exact ⟨ev, by rw [HPF.out, ← HZ.out]; rfl, by rw [HPF.out]; exact err_row hev B1 K0.size, (K0.trans K2 (fun _ h _ => h)).setRow (fun h => by have := HG.out; omega) Z⟩
    · have htm : t = min s.length 64 := by omega
      have hpf := parse_end HB.out htm
      by_cases h64 : s.length = 64
      · rw [if_pos h64] at hpf
        have ht9 : t = 64 := by omega
        have hYs := packTo_size s t
        have hag := aggOk_agg 32 _ hYs (bytes_all _)
        rw [ht9] at hYs hag B2 ⊢
        obtain ⟨Y, hY⟩ : ∃ Y, ((packTo s 64).map byteV).toArray = Y := ⟨_, rfl⟩
        rw [hY] at hYs hag B2
        have HY := shut hY
        have HYS := shut hYs
        have HPF := shut hpf
        clear hY hYs hpf htm hlt
        have r1 := rowOk_blk B1 HZS.out
        have r2 := rowOk_blk B2 HYS.out
        have e2 := rowOf_blk B2
        go_wp2_with fail
        refine bodyPost_ret (v := .tuple #[.agg Y, .nilIface]) (results_row_tmp rfl _ _ g Y .nilIface rfl rfl (loadVar_hash _ _ _ _ (blk_setRow (cs := Y) B1) HYS.out)) rfl ?_
        exact ⟨.nilIface, by rw [HPF.out, ← HY.out]; rfl, by rw [HPF.out]; exact isErr_nil _ _, K0.setRow (fun h => by have := HG.out; omega) Y⟩
      · rw [if_neg h64] at hpf
        have hne : ((s.length : Int) != 64) = true := by rw [bne_iff_ne]; omega
        by_cases hb : s.length < 64
        · have hmn : min s.length 64 = s.length := by omega
          rw [hmn] at hpf
          have hlt2 : ¬ (t : Int) < s.length := by omega
          have hmi : (s.length : Int) ≤ 64 := by omega
          have HTM := shut htm
          clear htm hlt hmn
          have HPF := shut hpf
          go_wp2_with fail
          rw [← zeros32_lit, HZ.out]
          refine (new_post _ 4 _ rfl).mono ?_
          rintro e w2 ⟨ev, rfl, hev, K2⟩
          have b1 := K2.blk B1 (fun h => h)
          have r1 := rowOk_blk b1 HZS.out
          have hag := aggOk_agg 32 Z HZS.out (by rw [← HZ.out]; exact bytes_all _)
          go_wp2_with fail
          refine bodyPost_ret (v := .tuple #[.agg Z, ev]) (results_row_tmp rfl _ _ g Z ev rfl rfl (loadVar_hash _ _ _ _ (blk_setRow (cs := Z) b1) HZS.out)) rfl ?_
          exact ⟨ev, by rw [HPF.out, ← HZ.out]; rfl, by rw [HPF.out]; exact err_row hev B1 K0.size, (K0.trans K2 (fun _ h _ => h)).setRow (fun h => by have := HG.out; omega) Z⟩
        · have hmn : min s.length 64 = 64 := by omega
          rw [hmn] at hpf
          have hlt2 : (t : Int) < s.length := by omega
          have hlt3 : ¬ (t : Int) < 64 := by omega
          have HTM := shut htm
          clear htm hlt hmn
          have HPF := shut hpf
          go_wp2_with fail
          rw [← zeros32_lit, HZ.out]
          refine (new_post _ 4 _ rfl).mono ?_
          rintro e w2 ⟨ev, rfl, hev, K2⟩
          have b1 := K2.blk B1 (fun h => h)
          have r1 := rowOk_blk b1 HZS.out
          have hag := aggOk_agg 32 Z HZS.out (by rw [← HZ.out]; exact bytes_all _)
          go_wp2_with fail
          refine bodyPost_ret (v := .tuple #[.agg Z, ev]) (results_row_tmp rfl _ _ g Z ev rfl rfl (loadVar_hash _ _ _ _ (blk_setRow (cs := Z) b1) HZS.out)) rfl ?_
          exact ⟨ev, by rw [HPF.out, ← HZ.out]; rfl, by rw [HPF.out]; exact err_row hev B1 K0.size, (K0.trans K2 (fun _ h _ => h)).setRow (fun h => by have := HG.out; omega) Z⟩

end Go.Proofs.Ytdmfomjgmmkaeaa
