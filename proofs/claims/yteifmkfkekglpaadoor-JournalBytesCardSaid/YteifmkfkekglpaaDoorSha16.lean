/- usufructref3.Sum. -/
import Derived.Test.YteifmkfkekglpaaDoorShaU
import Derived.Deep.LoopGhost
import Derived.BigQuiet
import Derived.Deep.QuietTactic
import Derived.StillTailTactics
namespace Go.Proofs.YteifmkfkekglpaaDoor
open Go.RowKit

attribute [local go_sem ↓] exec_load_w64 exec_store_w64 exec_load_w8 exec_store_w8 exec_load_hash exec_store_hash
attribute [local go_sem] rowOk_new World.setRow_alloc_new rowOk_new2 setRow_new2 aggOk_w8

set_option maxRecDepth 100000 in
set_option maxHeartbeats 16000000 in
theorem rsum_any {w : World} {ao : Option Addr} (c : Nat) {bs : List UInt8} {n : Nat} (hn : bs.length = n) (hB : BytesAt w ao bs) (hl : n ≤ 1000000) :
    Calls Tryd.prog 36 #[.slice ao n c] w fun e w' => e = .returned (hashV (shaOf bs)) ∧ Keeps Nothing w w' := by
  have HN := shut hn
  have KZ0 : Keeps Nothing w ((w.alloc (.cells (zeros32.map byteV).toArray 70)).alloc (.cells #[] 5)) := ((Keeps.refl _ _).alloc _).alloc _
  have hsR := src_at c (hB.keeps KZ0 (fun _ _ h => h))
  have ho := own8_empty (w.alloc (.cells (zeros32.map byteV).toArray 70))
  rw [World.size_alloc] at ho
  have R0 : RP w ((w.alloc (.cells (zeros32.map byteV).toArray 70)).alloc (.cells #[] 5)) w.heap.size (some ⟨w.heap.size + 1, 0, none⟩) 0 [] :=
    ⟨blk_alloc (blk_new _ _ _) _, ho, fun g hg => by simp [blockOf] at hg; omega, KZ0, Nat.le_refl _⟩
  have hsz0 : ((w.alloc (.cells (zeros32.map byteV).toArray 70)).alloc (.cells #[] 5)).heap.size = w.heap.size + 2 := by rw [World.size_alloc, World.size_alloc]
  rw [HN.out] at hsR
  clear hn hB KZ0
  go_enter Tryd.func36, Tryd.ntmps36
  rw [zeros32_lit] at hsR ho hsz0 R0
  go_wp2_with (at_builtin; refine wpList_app8 _ rfl (.tmp 24) (.tmp 25) 25 rfl (some ⟨w.heap.size + 1, 0, none⟩) 0 [] rfl ho _ rfl bs (HN.out.symm ▸ hsR) (by simp) (by have := HN.out; omega) ?_)
  intro ao1 cap1 w1 o1 k1 m1
  try rw [hsz0] at m1
  have P1 := R0.app (Keeps.refl _ _) o1 k1 m1 (by rw [hsz0]; omega)
  clear o1 k1 m1 hsR ho hsz0 R0
  try rw [List.nil_append] at P1
  go_wp2_with (at_builtin; refine wpList_app8 _ rfl (.tmp 27) (.tmp 28) 25 rfl ao1 cap1 bs rfl (World.ownsRow.alloc P1.own _) _ rfl [128] (src_new w1 128 rfl) (by have := HN.out; omega) (by decide) ?_)
  intro ao2 cap2 w2 o2 k2 m2
  have P2 := P1.app ((Keeps.refl _ _).alloc _) o2 k2 m2 (by simp)
  clear o2 k2 m2 P1
  have hPl : (bs ++ [128]).length = n + 1 + 0 := by rw [List.length_append, HN.out]; rfl
  have HPL := shut hPl
  have HP2 : Shut (bs ++ [128] = bs ++ 128 :: List.replicate 0 0) := shut rfl
  clear hPl
  have hpz := padZ_lt n
  go_wp2_with fail
  go_loopg [3] (padZ n) (fun g s6 wx => ∃ (z : Nat) (ao3 : Option Addr) (cap3 : Nat) (P : List UInt8), s6 = .slice ao3 P.length cap3 ∧ Shut (P = bs ++ 128 :: List.replicate z 0) ∧ Shut (P.length = n + 1 + z) ∧ z ≤ padZ n ∧ Shut (g = padZ n - z) ∧ RP w wx w.heap.size ao3 cap3 P)
  case atStart => exact ⟨0, ao2, cap2, bs ++ [128], by simp, HP2, HPL, Nat.zero_le _, shut rfl, P2⟩
  case round =>
    clear P2 HP2 HPL
    obtain ⟨z, ao3, cap3, P, rfl, HP, HPL, hz, HG, P3⟩ := hrel
    have hpl9 : P.length ≤ 1000200 := by rw [HPL.out]; omega
    by_cases hlz : z < padZ n
    · have hne : P.length % 64 ≠ 56 := by
        have := padZ_stop n z hlz
        rw [HPL.out]
        omega
      have hb1 : ((P.length : Int) % 64 != 56) = true := by rw [bne_iff_ne]; omega
      have hb2 : ((P.length : Int) % 64 == 56) = false := by rw [beq_eq_false_iff_ne]; omega
      have hb3 : ¬ (P.length : Int) % 64 = 56 := by omega
      have hm0 : (0 : Int) ≤ P.length := by omega
      go_wp2_with (at_builtin; refine wpList_app8 _ rfl (.tmp 34) (.tmp 35) 25 rfl ao3 cap3 P rfl (World.ownsRow.alloc P3.own _) _ rfl [0] (src_new wr 0 rfl) (by omega) (by decide) ?_)
      intro ao4 cap4 w4 o4 k4 m4
      have P4 := P3.app ((Keeps.refl _ _).alloc _) o4 k4 m4 (by simp)
      have HP4 : Shut (P ++ [0] = bs ++ 128 :: List.replicate (z + 1) 0) := shut (by rw [HP.out, List.append_assoc, List.replicate_succ']; rfl)
      have HPL4 : Shut ((P ++ [0]).length = n + 1 + (z + 1)) := shut (by rw [List.length_append, HPL.out]; rfl)
      clear o4 k4 m4 P3
      go_wp2_with fail
      go_roundg (padZ n - (z + 1))
      case measure => have := HG.out; omega
      case rel => exact ⟨z + 1, ao4, cap4, P ++ [0], by simp, HP4, HPL4, by omega, shut rfl, P4⟩
    · have hzz : z = padZ n := by omega
      rw [hzz] at HP HPL
      clear HG hlz hz hzz
      have heq : P.length % 64 = 56 := by
        have := padZ_end n
        have h4 := HPL.out
        omega
      have hb1 : ((P.length : Int) % 64 != 56) = false := by rw [Bool.eq_false_iff, Ne, bne_iff_ne]; omega
      have hb2 : ((P.length : Int) % 64 == 56) = true := by rw [beq_iff_eq]; omega
      have hm0 : (0 : Int) ≤ P.length := by omega
      have HEQ := shut heq
      clear heq
      have en : IntKind.u64.wrap (IntKind.u64.wrap (n : Int) * 8) = ((n * 8 : Nat) : Int) := by rw [IntKind.wrap_u64, IntKind.wrap_u64]; omega
      go_wp2_with fail
      go_loopg [3, 5] 8 (fun g s6 s8 wx => ∃ (t : Nat) (ao4 : Option Addr) (cap4 : Nat) (Q : List UInt8), s6 = .slice ao4 Q.length cap4 ∧ s8 = .int .i64 (7 - (t : Int)) ∧ Shut (Q = P ++ (be8 (n * 8)).take t) ∧ Shut (Q.length = P.length + t) ∧ t ≤ 8 ∧ Shut (g = 8 - t) ∧ RP w wx w.heap.size ao4 cap4 Q)
      case atStart => exact ⟨0, ao3, cap3, P, by simp, by simp, shut (by simp), shut (by simp), by omega, shut rfl, P3⟩
      case round =>
        clear P3
        obtain ⟨t, ao4, cap4, Q, rfl, rfl, HQ, HQL, ht, HG2, P4⟩ := hrel
        have hql9 : Q.length ≤ 1000300 := by rw [HQL.out]; omega
        by_cases ht8 : t < 8
        · obtain ⟨r, hr⟩ : ∃ r : Nat, 7 - (t : Int) = (r : Int) := ⟨7 - t, by omega⟩
          rw [hr]
          have hr9 : r ≤ 7 := by omega
          obtain ⟨q, hq⟩ : ∃ q : Nat, 8 * r = q := ⟨_, rfl⟩
          have e0 : IntKind.i64.wrap (8 * (r : Int)) = (q : Int) := by rw [IntKind.wrap_i64]; omega
          have e0b : (8 * (r : Int)) = (q : Int) := by omega
          have hq9 : q ≤ 56 := by omega
          have HQQ := shut hq
          clear hq
          go_wp2_with (at_builtin; refine wpList_app8 _ rfl (.tmp 45) (.tmp 52) 25 rfl ao4 cap4 Q rfl (World.ownsRow.alloc P4.own _) _ rfl [UInt8.ofNat ((n * 8) >>> q % 256)] (src_new wr _ (be_byte n q)) (by omega) (by simp) ?_)
          intro ao5 cap5 w5 o5 k5 m5
          have P5 := P4.app ((Keeps.refl _ _).alloc _) o5 k5 m5 (by simp)
          have HQ5 : Shut (Q ++ [UInt8.ofNat ((n * 8) >>> q % 256)] = P ++ (be8 (n * 8)).take (t + 1)) := shut (by rw [HQ.out, be8_take _ ht8, List.append_assoc, show 56 - 8 * t = q by have := HQQ.out; omega])
          have HQL5 : Shut ((Q ++ [UInt8.ofNat ((n * 8) >>> q % 256)]).length = P.length + (t + 1)) := shut (by rw [List.length_append, HQL.out]; rfl)
          clear o5 k5 m5 P4
          have e8 : IntKind.i64.wrap ((r : Int) - 1) = 7 - ((t + 1 : Nat) : Int) := by rw [IntKind.wrap_i64]; omega
          have e9 : (r : Int) - 1 = 7 - ((t + 1 : Nat) : Int) := by omega
          go_wp2_with fail
          go_roundg (8 - (t + 1))
          case measure => have := HG2.out; omega
          case rel => exact ⟨t + 1, ao5, cap5, Q ++ [UInt8.ofNat ((n * 8) >>> q % 256)], by simp, by simp, HQ5, HQL5, by omega, shut rfl, P5⟩
        · have ht9 : t = 8 := by omega
          rw [ht9] at HQ HQL ⊢
          rw [show (7 : Int) - ((8 : Nat) : Int) = -1 from rfl]
          have hQ : Q = bs ++ padOf n := by rw [HQ.out, List.take_of_length_le (by rw [be8_len]; exact Nat.le_refl _), HP.out, pad_join]
          obtain ⟨M, hM⟩ : ∃ M, Q.length = 64 * M := ⟨Q.length / 64, by have h1 := HQL.out; have h2 := HEQ.out; omega⟩
          have HMM := shut hM
          have hfin : absorb M Q ivSt = absorb ((bs ++ padOf bs.length).length / 64) (bs ++ padOf bs.length) ivSt := by
            have h1 : bs ++ padOf bs.length = Q := by rw [HN.out, hQ]
            rw [h1, hM, Nat.mul_comm, Nat.mul_div_cancel _ (by decide)]
          have HFIN := shut hfin
          clear HQ HQL ht ht8 ht9 HG2 hQ hM hfin HPL HP HEQ hb1 hb2 hm0 hpl9
          go_wp2_with fail
          have hiv : (#[Value.int .u32 1779033703, Value.int .u32 3144134277, Value.int .u32 1013904242, Value.int .u32 2773480762, Value.int .u32 1359893119, Value.int .u32 2600822924, Value.int .u32 528734635, Value.int .u32 1541459225] : Array Value) = ivSt.val := rfl
          rw [hiv]
          clear hiv
          refine (rwords_any _).mono ?_
          rintro e w6 ⟨rfl, K6⟩
          have hk := aggOk_k
          have P6 : RP w w6 w.heap.size ao4 cap4 Q := by
            have k := ((Keeps.refl Nothing wr).alloc (.cells ivSt.val 96)).trans K6 (fun _ h _ => h)
            exact ⟨k.blk P4.h (fun h => h), k.own P4.own (fun _ _ h => h), P4.fresh, P4.keep.trans k (fun _ h _ => h), P4.hn⟩
          have BV := K6.blk (blk_new wr ivSt.val 96) (fun h => h)
          have hVs := lt_of_block BV
          have hVw := P4.keep.size
          have hHs := lt_of_block P4.h
          clear P4 K6
          go_wp2_with fail
          have S0 : ShaP w (w6.alloc (.cells (rowW 64 kWords) 97)) w.heap.size w6.heap.size wr.heap.size ivSt ao4 cap4 Q := by
            have k := (Keeps.refl Nothing w6).alloc (.cells (rowW 64 kWords) 97)
            refine ⟨⟨blk_alloc P6.h _, blk_new _ _ _, blk_alloc BV _, P6.keep.trans k (fun _ h _ => h), Nat.le_refl _, P6.keep.size, hVw, by omega, by omega, by omega⟩, k.own P6.own (fun _ _ h => h), P6.fresh⟩
          generalize w6.alloc (.cells (rowW 64 kWords) 97) = W at *
          generalize wr.heap.size = V at *
          generalize w6.heap.size = KB at *
          generalize w.heap.size = H at *
          clear P6 BV hVs hVw hHs hk w6 wr
          have HPZ := shut hpz
          clear hpz
          obtain ⟨KZ, hKZ⟩ : ∃ KZ, rowW 64 kWords = KZ := ⟨_, rfl⟩
          have hKs : KZ.size = 64 := by rw [← hKZ]; exact rowW_size (by decide)
          have HKZ := shut hKZ
          have HKS := shut hKs
          clear hKZ hKs
          go_loopw [8] (fun s5 wx => ∃ i2 j2 : Nat, s5 = .int .i64 j2 ∧ Shut (j2 = 64 * i2) ∧ j2 ≤ Q.length ∧ ShaP w wx H KB V (absorb i2 Q ivSt) ao4 cap4 Q) (fun s5 _ => Q.length - (intOf s5).toNat)
          case atStart => exact ⟨0, 0, rfl, shut rfl, Nat.zero_le _, by rw [absorb_zero]; exact S0⟩
          case round =>
            clear S0
            obtain ⟨i2, j2, rfl, HJ2, hj2, P4⟩ := hrel
            obtain ⟨w7, rfl⟩ : ∃ w7, w7 = wr := ⟨_, rfl⟩
            have hcap := own8_cap P4.own
            by_cases hlt2 : j2 < Q.length
            · have h64 : j2 + 64 ≤ Q.length := by have h1 := HMM.out; have h2 := HJ2.out; omega
              obtain ⟨g, rfl⟩ := own8_head P4.own (by rintro rfl; simp at hlt2)
              have hBj : BytesAt w7 (some ⟨g, j2, none⟩) ((Q.drop j2).take 64) := by
                have := bytesAt_take (own8_at P4.own) j2 64
                rw [Nat.zero_add] at this
                exact this
              have hBl : ((Q.drop j2).take 64).length = 64 := by rw [List.length_take, List.length_drop]; omega
              have hok := absorb_ok i2 Q ivSt ivSt_ok
              have hnx : absorb (i2 + 1) Q ivSt = blockOf64 kWords ((Q.drop j2).take 64) (absorb i2 Q ivSt) := by rw [absorb_succ, HJ2.out]
              have HBL := shut hBl
              have HNX := shut hnx
              have HOK := shut hok
              clear hBl hnx hok
              generalize (Q.drop j2).take 64 = cs at *
              generalize absorb i2 Q ivSt = st at *
              have hVB := lt_of_block P4.sha.v
              have B0 := blk_new w7 (rowW 64 []) 97
              have KW := (Keeps.refl Nothing w7).alloc (.cells (rowW 64 []) 97)
              rw [rowW_lit64] at B0 KW
              obtain ⟨B, hBB⟩ : ∃ B, w7.heap.size = B := ⟨_, rfl⟩
              have HBB := shut hBB
              rw [hBB] at B0 hVB
              clear hBB
              go_wp2_with fail
              rw [HBB.out]
              rw [← rowW_lit64] at B0 KW ⊢
              generalize w7.alloc (.cells (rowW 64 []) 97) = W8 at *
              go_loopw [10] (fun s wx => ∃ t : Nat, s = .int .i64 t ∧ t ≤ 16 ∧ Keeps Nothing w7 wx ∧ Blk wx B (rowW 64 ((words16 cs).take t)) 97) (fun s _ => 16 - (intOf s).toNat)
              case atStart => exact ⟨0, rfl, by omega, KW, B0⟩
              case round =>
                clear B0 KW
                obtain ⟨t, rfl, ht, KW, B0⟩ := hrel
                by_cases hlt16 : t < 16
                · have hlen : ((words16 cs).take t).length = t := by unfold words16; simp; omega
                  have HLEN := shut hlen
                  have hnw : (words16 cs).take (t + 1) = (words16 cs).take t ++ [partW cs t 4] := by rw [words16_snoc cs hlt16, partW_four]
                  have HNW := shut hnw
                  clear hlen hnw
                  generalize (words16 cs).take t = T at *
                  rw [← rowW_pad (by rw [HLEN.out]; omega)] at B0
                  have m16 : (t : Int) < 16 := by omega
                  go_wp2_with fail
                  obtain ⟨w9, rfl⟩ : ∃ w9, w9 = wr := ⟨_, rfl⟩
                  go_loopw [11] (fun s wx => ∃ u : Nat, s = .int .i64 u ∧ u ≤ 4 ∧ Keeps Nothing w7 wx ∧ Blk wx B (rowW 64 (T ++ [partW cs t u])) 97) (fun s _ => 4 - (intOf s).toNat)
                  case atStart => exact ⟨0, rfl, by omega, KW, B0⟩
                  case round =>
                    clear B0 KW
                    obtain ⟨u, rfl, hu, KW, B0⟩ := hrel
                    by_cases hlt4 : u < 4
                    · obtain ⟨q, hq⟩ : ∃ q, 4 * t + u = q := ⟨_, rfl⟩
                      have hql : q < 64 := by omega
                      obtain ⟨x, hx⟩ : ∃ x, cs[q]? = some x := ⟨_, List.getElem?_eq_getElem (by rw [HBL.out]; exact hql)⟩
                      have hpw : partW cs t (u + 1) = partW cs t u * 256 + x.toNat := by
                        show partW cs t u * 256 + (cs.getD (4 * t + u) 0).toNat = _
                        rw [hq, List.getD_eq_getElem?_getD, hx]; rfl
                      have HPW := shut hpw
                      have hplt := partW_lt cs t u hlt4
                      have cx := (hBj.keeps KW (fun _ _ h => h)).2 _ rfl q x hx
                      rw [Addr.add_mid'] at cx
                      obtain ⟨r, hr⟩ : ∃ r, j2 + q = r := ⟨_, rfl⟩
                      rw [hr] at cx
                      have cw := blk_cell B0 t (by have := rowW_last (n := 64) (l := T) (partW cs t u); rwa [HLEN.out] at this)
                      have cf := blk_free B0 t
                      have hput := fun v => rowW_put (n := 64) (l := T) (by rw [HLEN.out]; omega) (partW cs t u) v
                      rw [HLEN.out] at hput
                      have HPUT := shut hput
                      obtain ⟨y, hy⟩ : ∃ y, 4 * t = y := ⟨_, rfl⟩
                      obtain ⟨z, hz⟩ : ∃ z, j2 + y = z := ⟨_, rfl⟩
                      have e0 : IntKind.i64.wrap (4 * (t : Int)) = (y : Int) := by rw [IntKind.wrap_i64]; omega
                      have e1 : IntKind.i64.wrap ((j2 : Int) + (y : Int)) = (z : Int) := by rw [IntKind.wrap_i64]; omega
                      have e2 : IntKind.i64.wrap ((z : Int) + (u : Int)) = (r : Int) := by rw [IntKind.wrap_i64]; omega
                      have i0 : (0 : Int) ≤ r := by omega
                      have i1 : (r : Int) < Q.length := by omega
                      have i2' : (0 : Int) ≤ t := by omega
                      have i3 : (t : Int) < 64 := by omega
                      have m4 : (u : Int) < 4 := by omega
                      unfold u32V at cw
                      clear hpw hput hx hq hr hy hz
                      generalize partW cs t u = p at *
                      go_wp2_with fail
                      go_still_tail 17, (by kernel_rfl)
                      rw [part_bits p x hplt]
                      change wpList _ _ _ _ _ wr.drew
                      have B1 : Blk wr.drew B (rowW 64 (T ++ [p])) 97 := B0
                      have K1 := KW.drew
                      have cw' : wr.drew.cell? ⟨B, t, none⟩ = some (.int .u32 p) := cw
                      have cf' : wr.drew.frozen? ⟨B, t, none⟩ = false := cf
                      clear B0 KW cw cf cx e0 e1 e2
                      generalize wr.drew = U at *
                      rw [← HPW.out]
                      obtain ⟨X, hX⟩ : ∃ X, partW cs t (u + 1) = X := ⟨_, rfl⟩
                      rw [hX]
                      have HX := shut hX
                      clear hX
                      go_wp2_with fail
                      have bs2 := blk_set B1 t (u32V X)
                      rw [HPUT.out] at bs2
                      go_roundw
                      case rel => exact ⟨u + 1, by go_num, by omega, K1.setCell (fun h => absurd h (by have := HBB.out; show ¬ (B < w7.heap.size); omega)) _, by rw [HX.out]; exact bs2⟩
                      case measure => simp [intOf]; omega
                    · have hu4 : u = 4 := by omega
                      rw [hu4, ← HNW.out] at B0
                      go_wp2_with fail
                      go_roundw
                      case rel => exact ⟨t + 1, by go_num, by omega, KW, B0⟩
                      case measure => simp [intOf]; omega
                · have ht16 : t = 16 := by omega
                  have htk : (words16 cs).take t = words16 cs := by rw [ht16]; exact List.take_of_length_le (by unfold words16; simp)
                  rw [htk] at B0
                  clear htk ht16
                  go_wp2_with fail
                  obtain ⟨w8, rfl⟩ : ∃ w8, w8 = wr := ⟨_, rfl⟩
                  go_loopw [12] (fun s wx => ∃ (k : Nat) (l : List Nat), s = .int .i64 k ∧ 16 ≤ k ∧ k ≤ 64 ∧ Shut (l.length = k) ∧ Shut (sched (64 - k) l = sched 48 (words16 cs)) ∧ Shut (∀ i, at0 l i < 4294967296) ∧ Keeps Nothing w7 wx ∧ Blk wx B (rowW 64 l) 97) (fun s _ => 64 - (intOf s).toNat)
                  case atStart => exact ⟨16, words16 cs, rfl, by omega, by omega, shut (by unfold words16; simp), shut rfl, shut (words16_lt cs), KW, B0⟩
                  case round =>
                    clear B0 KW
                    obtain ⟨k, l, rfl, hk0, hk1, HLL, HS, HLT, KW, B0⟩ := hrel
                    by_cases hlt : k < 64
                    · obtain ⟨k2, h2⟩ : ∃ k2, k2 = k - 2 := ⟨_, rfl⟩
                      obtain ⟨k15, h15⟩ : ∃ k15, k15 = k - 15 := ⟨_, rfl⟩
                      obtain ⟨k7, h7⟩ : ∃ k7, k7 = k - 7 := ⟨_, rfl⟩
                      obtain ⟨k16, h16⟩ : ∃ k16, k16 = k - 16 := ⟨_, rfl⟩
                      have hx2 := blk_cell B0 k2 (rowW_get (n := 64) (l := l) (i := k2) (by rw [HLL.out]; omega))
                      have hx15 := blk_cell B0 k15 (rowW_get (n := 64) (l := l) (i := k15) (by rw [HLL.out]; omega))
                      have hx7 := blk_cell B0 k7 (rowW_get (n := 64) (l := l) (i := k7) (by rw [HLL.out]; omega))
                      have hx16 := blk_cell B0 k16 (rowW_get (n := 64) (l := l) (i := k16) (by rw [HLL.out]; omega))
                      unfold u32V at hx2 hx15 hx7 hx16
                      have q2 := HLT.out k2
                      have q15 := HLT.out k15
                      have q7 := HLT.out k7
                      have q16 := HLT.out k16
                      have hnx : nextW l = (sig1 (at0 l k2) + at0 l k7 + sig0 (at0 l k15) + at0 l k16) % 4294967296 := by unfold nextW; rw [HLL.out, h2, h15, h7, h16]
                      have HNW := shut hnx
                      obtain ⟨a2, ha2⟩ : ∃ a2, at0 l k2 = a2 := ⟨_, rfl⟩
                      obtain ⟨a15, ha15⟩ : ∃ a15, at0 l k15 = a15 := ⟨_, rfl⟩
                      obtain ⟨a7, ha7⟩ : ∃ a7, at0 l k7 = a7 := ⟨_, rfl⟩
                      obtain ⟨a16, ha16⟩ : ∃ a16, at0 l k16 = a16 := ⟨_, rfl⟩
                      rw [ha2] at hx2 q2 HNW
                      rw [ha15] at hx15 q15 HNW
                      rw [ha7] at hx7 q7 HNW
                      rw [ha16] at hx16 q16 HNW
                      have e2 : IntKind.i64.wrap ((k : Int) - 2) = (k2 : Int) := by rw [IntKind.wrap_i64]; omega
                      have e15 : IntKind.i64.wrap ((k : Int) - 15) = (k15 : Int) := by rw [IntKind.wrap_i64]; omega
                      have e7 : IntKind.i64.wrap ((k : Int) - 7) = (k7 : Int) := by rw [IntKind.wrap_i64]; omega
                      have e16 : IntKind.i64.wrap ((k : Int) - 16) = (k16 : Int) := by rw [IntKind.wrap_i64]; omega
                      have l2 : (k2 : Int) < 64 := by omega
                      have l15 : (k15 : Int) < 64 := by omega
                      have l7 : (k7 : Int) < 64 := by omega
                      have l16 : (k16 : Int) < 64 := by omega
                      have lk : (k : Int) < 64 := by omega
                      have g2 : (0 : Int) ≤ k2 := by omega
                      have g15 : (0 : Int) ≤ k15 := by omega
                      have g7 : (0 : Int) ≤ k7 := by omega
                      have g16 : (0 : Int) ≤ k16 := by omega
                      have gk : (0 : Int) ≤ k := by omega
                      have hcw := blk_cell B0 k (rowW_free (n := 64) (l := l) (by rw [HLL.out]; exact Nat.le_refl _) hlt)
                      have hfw := blk_free B0 k
                      have lt7 : k7 < k := by omega
                      have lt16 : k16 < k := by omega
                      clear hnx h2 h15 h7 h16 ha2 ha15 ha7 ha16
                      go_wp2_with fail
                      go_quiet (fail)
                      go_wp2_with fail
                      refine wp_region_mix (fun W => W.cell? ⟨B, k7, none⟩ = some (.int .u32 a7) ∧ W.cell? ⟨B, k16, none⟩ = some (.int .u32 a16)) [(true, 0), (true, 1), (true, 3), (true, 6), (true, 7), (true, 9), (true, 10), (true, 11), (true, 12), (true, 14), (true, 16), (true, 19), (true, 20), (true, 23), (true, 24), (true, 25), (true, 26), (false, 2), (false, 4), (true, 5), (true, 8), (true, 13), (false, 15), (false, 17), (true, 18), (true, 21), (true, 22), (true, 27), (true, 28), (false, 29)] (by kernel_rfl) (by kernel_rfl) ⟨hx7, hx16⟩ ?_
                      simp only [mixItems, List.map_cons, List.map_nil, List.getD_cons_zero, List.getD_cons_succ]
                      have b2u : Blk (wr.drewN nq).drew B (rowW 64 l) 97 := B0
                      have hKu : Keeps Nothing w7 (wr.drewN nq).drew := (KW.drewN nq).drew
                      have s7 : (wr.drewN nq).drew.cell? ⟨B, k7, none⟩ = some (.int .u32 a7) := hx7
                      have s16 : (wr.drewN nq).drew.cell? ⟨B, k16, none⟩ = some (.int .u32 a16) := hx16
                      have su : (wr.drewN nq).drew.cell? ⟨B, k, none⟩ = some (u32V 0) := hcw
                      have sf : (wr.drewN nq).drew.frozen? ⟨B, k, none⟩ = false := hfw
                      clear B0 KW hx7 hx16 hx2 hx15 hcw hfw
                      generalize (wr.drewN nq).drew = U at *
                      repeat (refine wpMix_free (fun K hK => ?_); go_simp; refine hK _ ?_; clear hK K)
                      refine wpMix_yield (v := .int .u32 a7) (fun W hW => ?_) (fun K hK => ?_)
                      · obtain ⟨z1, z2⟩ := hW
                        go_simp
                      go_simp
                      refine hK _ ?_
                      clear hK K
                      repeat (refine wpMix_free (fun K hK => ?_); go_simp; refine hK _ ?_; clear hK K)
                      refine wpMix_yield (v := .int .u32 a16) (fun W hW => ?_) (fun K hK => ?_)
                      · obtain ⟨z1, z2⟩ := hW
                        go_simp
                      go_simp
                      refine hK _ ?_
                      clear hK K
                      refine wpMix_one (fun K hK => ?_)
                      go_wp2_with fail
                      refine (rturn_at a2 q2 17 17 rfl (by omega) (by omega) _).mono ?_
                      rintro e w' ⟨rfl, rfl⟩
                      go_wp2_with fail
                      refine hK _ _ ⟨s7, s16⟩ ?_
                      clear hK K
                      refine wpMix_one (fun K hK => ?_)
                      go_wp2_with fail
                      refine (rturn_at a2 q2 19 19 rfl (by omega) (by omega) _).mono ?_
                      rintro e w' ⟨rfl, rfl⟩
                      go_wp2_with fail
                      refine hK _ _ ⟨s7, s16⟩ ?_
                      clear hK K
                      repeat (refine wpMix_free (fun K hK => ?_); go_simp; refine hK _ ?_; clear hK K)
                      refine wpMix_one (fun K hK => ?_)
                      go_wp2_with fail
                      refine (rturn_at a15 q15 7 7 rfl (by omega) (by omega) _).mono ?_
                      rintro e w' ⟨rfl, rfl⟩
                      go_wp2_with fail
                      refine hK _ _ ⟨s7, s16⟩ ?_
                      clear hK K
                      refine wpMix_one (fun K hK => ?_)
                      go_wp2_with fail
                      refine (rturn_at a15 q15 18 18 rfl (by omega) (by omega) _).mono ?_
                      rintro e w' ⟨rfl, rfl⟩
                      go_wp2_with fail
                      refine hK _ _ ⟨s7, s16⟩ ?_
                      clear hK K
                      repeat (refine wpMix_free (fun K hK => ?_); go_simp; refine hK _ ?_; clear hK K)
                      rw [next_bits q2 q7 q15 q16, ← HNW.out]
                      refine wpMix_one (fun K hK => ?_)
                      have hss : sched (64 - (k + 1)) (l ++ [nextW l]) = sched 48 (words16 cs) := by
                        rw [← HS.out, show 64 - k = (64 - (k + 1)) + 1 by omega, sched_step]
                      have HSS := shut hss
                      have hXlt : nextW l < 4294967296 := by rw [HNW.out]; exact Nat.mod_lt _ (by decide)
                      have HXL := shut hXlt
                      clear hss hXlt
                      generalize nextW l = X at *
                      go_wp2_with fail
                      have bs2 := blk_set b2u k (u32V X)
                      refine hK _ _ ⟨?_, ?_⟩ ?_
                      · exact (World.cell?_setCell_other _ _ _ _ (by intro e; have e3 : k = k7 := congrArg Addr.off e; omega)).trans s7
                      · exact (World.cell?_setCell_other _ _ _ _ (by intro e; have e3 : k = k16 := congrArg Addr.off e; omega)).trans s16
                      clear hK K
                      refine wpMix_nil ?_
                      go_wp2_with fail
                      go_roundw
                      case rel =>
                        have e := rowW_set (n := 64) (l := l) (by rw [HLL.out]; exact hlt) X
                        rw [HLL.out] at e
                        rw [e] at bs2
                        have hlen : (l ++ [X]).length = k + 1 := by rw [List.length_append, HLL.out]; rfl
                        exact ⟨k + 1, l ++ [X], by go_num, by omega, by omega, shut hlen, shut (HSS.out), shut (at0_snoc_lt HLT.out HXL.out), hKu.setCell (fun h => absurd h (by have := HBB.out; show ¬ (B < w7.heap.size); omega)) _, bs2⟩
                      case measure => simp [intOf]; omega
                    · have hk64 : k = 64 := by omega
                      have hfin : l = sched 48 (words16 cs) := by have := HS.out; rw [hk64, sched_zero] at this; exact this
                      have HWS := shut hfin
                      have HWL : Shut (l.length = 64) := shut (by rw [HLL.out, hk64])
                      clear hk64 hfin HS HLL
                      obtain ⟨WZ, hWZ⟩ : ∃ WZ, rowW 64 l = WZ := ⟨_, rfl⟩
                      rw [hWZ] at B0
                      have HWZ := shut hWZ
                      clear hWZ
                      have bV := KW.blk P4.sha.v (fun h => h)
                      have r1 := rowOk_blk bV st.val_size
                      have e1 := rowOf_blk bV
                      have hag := aggOk_agg 8 _ st.val_size st.val_one
                      have BX := blk_new wr st.val 96
                      have KX := KW.alloc (.cells st.val 96)
                      have BB := blk_alloc B0 (.cells st.val 96)
                      have hBX := lt_of_block B0
                      obtain ⟨Z, hZ⟩ : ∃ Z, st.val = Z := ⟨_, rfl⟩
                      rw [hZ] at bV e1 hag BX KX BB
                      have HZ := shut hZ
                      clear hZ bV B0 KW
                      go_wp2_with fail
                      generalize wr.alloc (.cells Z 96) = W9 at *
                      generalize wr.heap.size = X at *
                      clear r1 e1 hag
                      clear wr
                      go_loopw [16] (fun s0 wx => ∃ (i : Nat) (v : St), s0 = .int .i64 i ∧ i ≤ 64 ∧ v.Ok ∧ Shut (rounds64 kWords l (64 - i) v = rounds64 kWords l 64 st) ∧ Keeps Nothing w7 wx ∧ Blk wx B WZ 97 ∧ Blk wx X v.val 96) (fun s0 _ => 64 - (intOf s0).toNat)
                      case atStart => exact ⟨0, st, rfl, by omega, HOK.out, shut rfl, KX, BB, HZ.out ▸ BX⟩
                      case round =>
                        clear KX BB BX
                        obtain ⟨i, v, rfl, hi, hv, HR, KW, B0, BX⟩ := hrel
                        by_cases hlt : i < 64
                        · obtain ⟨va, vb, vc, vd, ve, vf, vg, vh⟩ := v
                          obtain ⟨oa, ob, oc, od, oe, of, og, oh⟩ := hv
                          simp only at oa ob oc od oe of og oh
                          have ca : wr.cell? ⟨X, 0, none⟩ = some (.int .u32 va) := blk_cell BX 0 rfl
                          have ce : wr.cell? ⟨X, 4, none⟩ = some (.int .u32 ve) := blk_cell BX 4 rfl
                          have KB0 := KW.blk P4.sha.k (fun h => h)
                          have ck : wr.cell? ⟨KB, i, none⟩ = some (.int .u32 (at0 kWords i)) := blk_cell KB0 i (rowW_get (by rw [kWords_len]; exact hlt))
                          have cw : wr.cell? ⟨B, i, none⟩ = some (.int .u32 (at0 l i)) := blk_cell B0 i (by rw [← HWZ.out]; exact rowW_get (by rw [HWL.out]; exact hlt))
                          have ok := kWords_lt i
                          have ow := HLT.out i
                          have hrn : rounds64 kWords l (64 - (i + 1)) (St.next ⟨va, vb, vc, vd, ve, vf, vg, vh⟩ (at0 kWords i) (at0 l i)) = rounds64 kWords l 64 st := by
                            rw [← HR.out, show 64 - i = (64 - (i + 1)) + 1 by omega, rounds_step, show 63 - (64 - (i + 1)) = i by omega]
                          have HRN := shut hrn
                          obtain ⟨kk, hkk⟩ : ∃ kk, at0 kWords i = kk := ⟨_, rfl⟩
                          obtain ⟨ww, hww⟩ : ∃ ww, at0 l i = ww := ⟨_, rfl⟩
                          rw [hkk] at ck ok HRN
                          rw [hww] at cw ow HRN
                          have g0 : (0 : Int) ≤ i := by omega
                          have l0 : (i : Int) < 64 := by omega
                          have f8 := rowOk_blk BX (show (St.val ⟨va, vb, vc, vd, ve, vf, vg, vh⟩).size = 8 from rfl)
                          clear hrn hkk hww
                          go_wp2_with fail
                          go_quiet (fail)
                          go_wp2_with fail
                          have hsg : (if IntKind.u32.signed = true then (-1 : Int) else IntKind.u32.max) = IntKind.u32.max := rfl
                          have D0 : Blk (wr.drewN nq).drew B WZ 97 := B0
                          have D4 : Blk (wr.drewN nq).drew X (St.val ⟨va, vb, vc, vd, ve, vf, vg, vh⟩) 96 := BX
                          have KD : Keeps Nothing w7 (wr.drewN nq).drew := (KW.drewN nq).drew
                          have f9 : rowOk (wr.drewN nq).drew X 8 = true := f8
                          have cf := blk_cell D4 5 (show (St.val ⟨va, vb, vc, vd, ve, vf, vg, vh⟩)[5]? = some (.int .u32 vf) from rfl)
                          have cg := blk_cell D4 6 (show (St.val ⟨va, vb, vc, vd, ve, vf, vg, vh⟩)[6]? = some (.int .u32 vg) from rfl)
                          have ch := blk_cell D4 7 (show (St.val ⟨va, vb, vc, vd, ve, vf, vg, vh⟩)[7]? = some (.int .u32 vh) from rfl)
                          have ck2 : (wr.drewN nq).drew.cell? ⟨KB, i, none⟩ = some (.int .u32 kk) := ck
                          have cw2 : (wr.drewN nq).drew.cell? ⟨B, i, none⟩ = some (.int .u32 ww) := cw
                          refine wp_region_mix (fun W => W.cell? ⟨X, 7, none⟩ = some (.int .u32 vh) ∧ W.cell? ⟨X, 5, none⟩ = some (.int .u32 vf) ∧ W.cell? ⟨X, 6, none⟩ = some (.int .u32 vg) ∧ W.cell? ⟨KB, i, none⟩ = some (.int .u32 kk) ∧ W.cell? ⟨B, i, none⟩ = some (.int .u32 ww)) [(true, 0), (true, 1), (true, 2), (true, 4), (true, 7), (true, 11), (true, 12), (true, 13), (true, 14), (true, 15), (true, 16), (true, 17), (true, 18), (true, 19), (true, 20), (true, 22), (true, 23), (true, 24), (true, 26), (true, 27), (true, 28), (false, 3), (false, 5), (true, 6), (false, 8), (true, 9), (true, 10), (true, 21), (true, 25), (true, 29), (true, 30)] (by kernel_rfl) (by kernel_rfl) ⟨ch, cf, cg, ck2, cw2⟩ ?_
                          simp only [mixItems, List.map_cons, List.map_nil, List.getD_cons_zero, List.getD_cons_succ]
                          change wpMix _ _ _ _ _ _ (wr.drewN nq).drew
                          clear ca ce ck cw B0 BX KW f8 KB0
                          generalize (wr.drewN nq).drew = U at *
                          have TT := (⟨ch, cf, cg, ck2, cw2⟩ : _ ∧ _ ∧ _ ∧ _ ∧ _)
                          repeat (refine wpMix_free (fun K hK => ?_); go_simp; refine hK _ ?_; clear hK K)
                          refine wpMix_yield (v := .int .u32 vh) (fun W hW => ?_) (fun K hK => ?_)
                          · obtain ⟨z1, z2, z3, z4, z5⟩ := hW
                            go_simp
                          go_simp
                          refine hK _ ?_
                          clear hK K
                          repeat (refine wpMix_free (fun K hK => ?_); go_simp; refine hK _ ?_; clear hK K)
                          refine wpMix_yield (v := .int .u32 vf) (fun W hW => ?_) (fun K hK => ?_)
                          · obtain ⟨z1, z2, z3, z4, z5⟩ := hW
                            go_simp
                          go_simp
                          refine hK _ ?_
                          clear hK K
                          repeat (refine wpMix_free (fun K hK => ?_); go_simp; refine hK _ ?_; clear hK K)
                          refine wpMix_yield (v := .int .u32 vg) (fun W hW => ?_) (fun K hK => ?_)
                          · obtain ⟨z1, z2, z3, z4, z5⟩ := hW
                            go_simp
                          go_simp
                          refine hK _ ?_
                          clear hK K
                          repeat (refine wpMix_free (fun K hK => ?_); go_simp; refine hK _ ?_; clear hK K)
                          refine wpMix_yield (v := .int .u32 kk) (fun W hW => ?_) (fun K hK => ?_)
                          · obtain ⟨z1, z2, z3, z4, z5⟩ := hW
                            go_simp
                          go_simp
                          refine hK _ ?_
                          clear hK K
                          repeat (refine wpMix_free (fun K hK => ?_); go_simp; refine hK _ ?_; clear hK K)
                          refine wpMix_yield (v := .int .u32 ww) (fun W hW => ?_) (fun K hK => ?_)
                          · obtain ⟨z1, z2, z3, z4, z5⟩ := hW
                            go_simp
                          go_simp
                          refine hK _ ?_
                          clear hK K
                          refine wpMix_one (fun K hK => ?_)
                          refine wpList_plain rfl (fun K2 hK2 => ?_)
                          go_simp
                          refine (rturn_at ve oe 6 6 rfl (by omega) (by omega) _).mono ?_
                          rintro e w' ⟨rfl, hw⟩
                          subst w'
                          go_simp
                          refine hK2 _ _ (hK _ _ TT ?_)
                          clear hK K hK2 K2
                          refine wpMix_one (fun K hK => ?_)
                          refine wpList_plain rfl (fun K2 hK2 => ?_)
                          go_simp
                          refine (rturn_at ve oe 11 11 rfl (by omega) (by omega) _).mono ?_
                          rintro e w' ⟨rfl, hw⟩
                          subst w'
                          go_simp
                          refine hK2 _ _ (hK _ _ TT ?_)
                          clear hK K hK2 K2
                          repeat (refine wpMix_free (fun K hK => ?_); go_simp; refine hK _ ?_; clear hK K)
                          refine wpMix_one (fun K hK => ?_)
                          refine wpList_plain rfl (fun K2 hK2 => ?_)
                          go_simp
                          refine (rturn_at ve oe 25 25 rfl (by omega) (by omega) _).mono ?_
                          rintro e w' ⟨rfl, hw⟩
                          subst w'
                          go_simp
                          refine hK2 _ _ (hK _ _ TT ?_)
                          clear hK K hK2 K2
                          repeat (refine wpMix_free (fun K hK => ?_); go_simp; refine hK _ ?_; clear hK K)
                          rw [one_bits ⟨va, vb, vc, vd, ve, vf, vg, vh⟩ oe of og]
                          have hon : St.one ⟨va, vb, vc, vd, ve, vf, vg, vh⟩ kk ww < 4294967296 := Nat.mod_lt _ (by decide)
                          obtain ⟨on, hone⟩ : ∃ on, St.one ⟨va, vb, vc, vd, ve, vf, vg, vh⟩ kk ww = on := ⟨_, rfl⟩
                          rw [hone] at hon ⊢
                          have HONE := shut hone
                          clear hone TT cf cg ch ck2 cw2 hsg
                          refine wpMix_nil ?_
                          go_wp2_with fail
                          have E0 : Blk U.drew B WZ 97 := D0
                          have E4 : Blk U.drew X (St.val ⟨va, vb, vc, vd, ve, vf, vg, vh⟩) 96 := D4
                          have KE : Keeps Nothing w7 U.drew := KD.drew
                          have f10 : rowOk U.drew X 8 = true := f9
                          have cb := blk_cell E4 1 (show (St.val ⟨va, vb, vc, vd, ve, vf, vg, vh⟩)[1]? = some (.int .u32 vb) from rfl)
                          have cc := blk_cell E4 2 (show (St.val ⟨va, vb, vc, vd, ve, vf, vg, vh⟩)[2]? = some (.int .u32 vc) from rfl)
                          refine wp_region_mix (fun W => W.cell? ⟨X, 1, none⟩ = some (.int .u32 vb) ∧ W.cell? ⟨X, 2, none⟩ = some (.int .u32 vc)) [(true, 0), (true, 2), (true, 5), (true, 8), (true, 9), (true, 10), (true, 11), (true, 12), (true, 13), (true, 14), (true, 15), (true, 16), (true, 17), (true, 18), (true, 19), (true, 20), (true, 21), (true, 22), (false, 1), (false, 3), (true, 4), (false, 6), (true, 7), (true, 23), (true, 24)] (by kernel_rfl) (by kernel_rfl) ⟨cb, cc⟩ ?_
                          simp only [mixItems, List.map_cons, List.map_nil, List.getD_cons_zero, List.getD_cons_succ]
                          change wpMix _ _ _ _ _ _ U.drew
                          clear D0 D4 KD f9
                          generalize U.drew = Y at *
                          have TT := (⟨cb, cc⟩ : _ ∧ _)
                          repeat (refine wpMix_free (fun K hK => ?_); go_simp; refine hK _ ?_; clear hK K)
                          refine wpMix_yield (v := .int .u32 vb) (fun W hW => ?_) (fun K hK => ?_)
                          · obtain ⟨z1, z2⟩ := hW
                            go_simp
                          go_simp
                          refine hK _ ?_
                          clear hK K
                          repeat (refine wpMix_free (fun K hK => ?_); go_simp; refine hK _ ?_; clear hK K)
                          refine wpMix_yield (v := .int .u32 vc) (fun W hW => ?_) (fun K hK => ?_)
                          · obtain ⟨z1, z2⟩ := hW
                            go_simp
                          go_simp
                          refine hK _ ?_
                          clear hK K
                          repeat (refine wpMix_free (fun K hK => ?_); go_simp; refine hK _ ?_; clear hK K)
                          refine wpMix_yield (v := .int .u32 vb) (fun W hW => ?_) (fun K hK => ?_)
                          · obtain ⟨z1, z2⟩ := hW
                            go_simp
                          go_simp
                          refine hK _ ?_
                          clear hK K
                          repeat (refine wpMix_free (fun K hK => ?_); go_simp; refine hK _ ?_; clear hK K)
                          refine wpMix_yield (v := .int .u32 vc) (fun W hW => ?_) (fun K hK => ?_)
                          · obtain ⟨z1, z2⟩ := hW
                            go_simp
                          go_simp
                          refine hK _ ?_
                          clear hK K
                          repeat (refine wpMix_free (fun K hK => ?_); go_simp; refine hK _ ?_; clear hK K)
                          refine wpMix_one (fun K hK => ?_)
                          refine wpList_plain rfl (fun K2 hK2 => ?_)
                          go_simp
                          refine (rturn_at va oa 2 2 rfl (by omega) (by omega) _).mono ?_
                          rintro e w' ⟨rfl, hw⟩
                          subst w'
                          go_simp
                          refine hK2 _ _ (hK _ _ TT ?_)
                          clear hK K hK2 K2
                          refine wpMix_one (fun K hK => ?_)
                          refine wpList_plain rfl (fun K2 hK2 => ?_)
                          go_simp
                          refine (rturn_at va oa 13 13 rfl (by omega) (by omega) _).mono ?_
                          rintro e w' ⟨rfl, hw⟩
                          subst w'
                          go_simp
                          refine hK2 _ _ (hK _ _ TT ?_)
                          clear hK K hK2 K2
                          repeat (refine wpMix_free (fun K hK => ?_); go_simp; refine hK _ ?_; clear hK K)
                          refine wpMix_one (fun K hK => ?_)
                          refine wpList_plain rfl (fun K2 hK2 => ?_)
                          go_simp
                          refine (rturn_at va oa 22 22 rfl (by omega) (by omega) _).mono ?_
                          rintro e w' ⟨rfl, hw⟩
                          subst w'
                          go_simp
                          refine hK2 _ _ (hK _ _ TT ?_)
                          clear hK K hK2 K2
                          repeat (refine wpMix_free (fun K hK => ?_); go_simp; refine hK _ ?_; clear hK K)
                          rw [two_bits ⟨va, vb, vc, vd, ve, vf, vg, vh⟩ oa ob oc]
                          have htw : St.two ⟨va, vb, vc, vd, ve, vf, vg, vh⟩ < 4294967296 := Nat.mod_lt _ (by decide)
                          obtain ⟨tw, htwo⟩ : ∃ tw, St.two ⟨va, vb, vc, vd, ve, vf, vg, vh⟩ = tw := ⟨_, rfl⟩
                          rw [htwo] at htw ⊢
                          have HTWO := shut htwo
                          clear htwo TT
                          refine wpMix_nil ?_
                          have ca := blk_cell E4 0 (show (St.val ⟨va, vb, vc, vd, ve, vf, vg, vh⟩)[0]? = some (.int .u32 va) from rfl)
                          have cd := blk_cell E4 3 (show (St.val ⟨va, vb, vc, vd, ve, vf, vg, vh⟩)[3]? = some (.int .u32 vd) from rfl)
                          have ce := blk_cell E4 4 (show (St.val ⟨va, vb, vc, vd, ve, vf, vg, vh⟩)[4]? = some (.int .u32 ve) from rfl)
                          have cf := blk_cell E4 5 (show (St.val ⟨va, vb, vc, vd, ve, vf, vg, vh⟩)[5]? = some (.int .u32 vf) from rfl)
                          have cg := blk_cell E4 6 (show (St.val ⟨va, vb, vc, vd, ve, vf, vg, vh⟩)[6]? = some (.int .u32 vg) from rfl)
                          go_wp2_with fail
                          have hrow : (#[Value.int .u32 (((on : Int) + (tw : Int)) % 4294967296), Value.int .u32 (va : Int), Value.int .u32 (vb : Int), Value.int .u32 (vc : Int), Value.int .u32 (((vd : Int) + (on : Int)) % 4294967296), Value.int .u32 (ve : Int), Value.int .u32 (vf : Int), Value.int .u32 (vg : Int)] : Array Value) = (St.next ⟨va, vb, vc, vd, ve, vf, vg, vh⟩ kk ww).val := by
                            show _ = #[u32V ((St.one ⟨va, vb, vc, vd, ve, vf, vg, vh⟩ kk ww + St.two ⟨va, vb, vc, vd, ve, vf, vg, vh⟩) % 4294967296), u32V va, u32V vb, u32V vc, u32V ((vd + St.one ⟨va, vb, vc, vd, ve, vf, vg, vh⟩ kk ww) % 4294967296), u32V ve, u32V vf, u32V vg]
                            rw [HONE.out, HTWO.out]
                            rfl
                          rw [hrow]
                          have hok : (St.next ⟨va, vb, vc, vd, ve, vf, vg, vh⟩ kk ww).Ok := ⟨Nat.mod_lt _ (by decide), oa, ob, oc, Nat.mod_lt _ (by decide), oe, of, og⟩
                          have E5 := blk_setRow (cs := (St.next ⟨va, vb, vc, vd, ve, vf, vg, vh⟩ kk ww).val) E4
                          generalize St.next ⟨va, vb, vc, vd, ve, vf, vg, vh⟩ kk ww = v2 at *
                          clear hrow
                          go_roundw
                          case rel => exact ⟨i + 1, v2, by go_num, by omega, hok, HRN, KE.setRow (fun h => absurd h (by have := HBB.out; omega)) _, blk_setRow_other E0 (by omega), E5⟩
                          case measure => simp [intOf]; omega
                        · have hi64 : i = 64 := by omega
                          have hfin2 : v = rounds64 kWords l 64 st := by have := HR.out; rw [hi64] at this; rw [Nat.sub_self, rounds_zero] at this; exact this
                          have HF := shut hfin2
                          clear hi64 hfin2
                          have CV : Blk wr V (rowW 8 (addTo 0 st.list v.list)) 96 := by
                            have := KW.blk P4.sha.v (fun h => h)
                            rwa [show st.val = rowW 8 (addTo 0 st.list v.list) from rfl] at this
                          have CX : Blk wr X (rowW 8 v.list) 96 := BX
                          have KV : Keeps (fun i => i = V) w7 wr := KW.mono (fun _ h _ => h.elim)
                          have hfin : st.add v = absorb (i2 + 1) Q ivSt := by rw [HNX.out, blockOf64_eq, ← HWS.out, ← HF.out]
                          have HFI := shut hfin
                          clear hfin BX B0 KW
                          go_wp2_with fail
                          obtain ⟨w10, rfl⟩ : ∃ w10, w10 = wr := ⟨_, rfl⟩
                          go_loopw [21] (fun s0 wx => ∃ j : Nat, s0 = .int .i64 j ∧ j ≤ 8 ∧ Keeps (fun i => i = V) w7 wx ∧ Blk wx V (rowW 8 (addTo j st.list v.list)) 96 ∧ Blk wx X (rowW 8 v.list) 96) (fun s0 _ => 8 - (intOf s0).toNat)
                          case atStart => exact ⟨0, rfl, by omega, KV, CV, CX⟩
                          case round =>
                            clear KV CV CX
                            obtain ⟨j, rfl, hj, KV, CV, CX⟩ := hrel
                            by_cases hlt8 : j < 8
                            · have hlenA : (addTo j st.list v.list).length = 8 := by unfold addTo; simp
                              have ch : wr.cell? ⟨V, j, none⟩ = some (.int .u32 (at0 st.list j)) := blk_cell CV j (by rw [rowW_get (by rw [hlenA]; exact hlt8), addTo_ge (Nat.le_refl j) hlt8]; rfl)
                              have cv : wr.cell? ⟨X, j, none⟩ = some (.int .u32 (at0 v.list j)) := blk_cell CX j (rowW_get hlt8)
                              have hfr := blk_free CV j
                              have hset := addTo_set st.list v.list hlt8
                              have HSET := shut hset
                              obtain ⟨x, hx⟩ : ∃ x, at0 st.list j = x := ⟨_, rfl⟩
                              obtain ⟨y, hy⟩ : ∃ y, at0 v.list j = y := ⟨_, rfl⟩
                              rw [hx] at ch HSET
                              rw [hy] at cv HSET
                              have g0 : (0 : Int) ≤ j := by omega
                              have l0 : (j : Int) < 8 := by omega
                              clear hset hx hy hlenA
                              go_wp2_with fail
                              go_still_tail 9, (by kernel_rfl)
                              change wpList _ _ _ _ _ wr.drew
                              have C0' : Blk wr.drew V (rowW 8 (addTo j st.list v.list)) 96 := CV
                              have C4' : Blk wr.drew X (rowW 8 v.list) 96 := CX
                              have KC' := KV.drew
                              have ch' : wr.drew.cell? ⟨V, j, none⟩ = some (.int .u32 x) := ch
                              have hfr' : wr.drew.frozen? ⟨V, j, none⟩ = false := hfr
                              clear CV CX KV ch cv hfr
                              generalize wr.drew = U at *
                              go_wp2_with fail
                              have hs := blk_set C0' j (u32V ((x + y) % 4294967296))
                              rw [HSET.out] at hs
                              go_roundw
                              case rel => exact ⟨j + 1, by go_num, by omega, Keeps.setCell (S := fun i => i = V) KC' (fun _ => rfl) _, hs, blk_other C4' _ (by show X ≠ V; omega) _⟩
                              case measure => simp [intOf]; omega
                            · have hj8 : j = 8 := by omega
                              have hA : rowW 8 (addTo j st.list v.list) = (st.add v).val := by rw [hj8]; rfl
                              rw [hA, HFI.out] at CV
                              have HJ3 : Shut (j2 + 64 = 64 * (i2 + 1)) := shut (by rw [HJ2.out]; omega)
                              have PF := P4.turn KV CV
                              clear hA hj8
                              go_wp2_with fail
                              go_roundw
                              case rel => exact ⟨i2 + 1, j2 + 64, by go_num, HJ3, h64, PF⟩
                              case measure => simp [intOf]; omega
            · have hi2 : i2 = M := by have h1 := HMM.out; have h2 := HJ2.out; omega
              rw [hi2, HFIN.out] at P4
              have hsha : outOf (absorb ((bs ++ padOf bs.length).length / 64) (bs ++ padOf bs.length) ivSt) = shaOf bs := rfl
              have HSH := shut hsha
              clear hsha hi2
              generalize absorb ((bs ++ padOf bs.length).length / 64) (bs ++ padOf bs.length) ivSt = sf at *
              have SV : ShaW w w7 H KB V sf := P4.sha
              clear P4
              have O0 := blk_new w7 (zeros32.map byteV).toArray 70
              have S5 : ShaW w (w7.alloc (.cells (zeros32.map byteV).toArray 70)) H KB V sf := SV.keepsN ((Keeps.refl _ _).alloc _)
              rw [zeros32_lit] at O0 S5
              have hOH : w7.heap.size ≠ H := by have := lt_of_block SV.h; omega
              have hOV : w7.heap.size ≠ V := by have := lt_of_block SV.v; omega
              have hOK : w7.heap.size ≠ KB := by have := lt_of_block SV.k; omega
              have hOw : w.heap.size ≤ w7.heap.size := SV.keep.size
              clear SV
              go_wp2_with fail
              rw [← zeros32_lit] at O0 S5 ⊢
              rw [← outTo_zero sf] at O0 S5 ⊢
              generalize w7.heap.size = O at *
              generalize w7.alloc (.cells ((outTo 0 sf).map byteV).toArray 70) = wy at *
              go_loopw [23] (fun s7 wx => ∃ t : Nat, s7 = .int .i64 t ∧ t ≤ 32 ∧ Blk wx O ((outTo t sf).map byteV).toArray 70 ∧ ShaW w wx H KB V sf) (fun s7 _ => 32 - (intOf s7).toNat)
              case atStart => exact ⟨0, rfl, by omega, O0, S5⟩
              case round =>
                clear O0 S5
                obtain ⟨t, rfl, ht, O0, S5⟩ := hrel
                by_cases ht32 : t < 32
                · have hfr := blk_free O0 t
                  have hq4 : t / 4 < 8 := by omega
                  have cv : wr.cell? ⟨V, t / 4, none⟩ = some (.int .u32 (at0 sf.list (t / 4))) := blk_cell S5.v (t / 4) (show (rowW 8 sf.list)[t / 4]? = _ from rowW_get hq4)
                  have hset := outTo_set sf ht32
                  have HSET := shut hset
                  obtain ⟨q, hq⟩ : ∃ q, 24 - 8 * (t % 4) = q := ⟨_, rfl⟩
                  rw [hq] at HSET
                  obtain ⟨x, hx⟩ : ∃ x, at0 sf.list (t / 4) = x := ⟨_, rfl⟩
                  rw [hx] at HSET cv
                  have e1 : (24 : Int) - 8 * ((t : Int) % 4) = q := by omega
                  have co : wr.cell? ⟨O, t, none⟩ = some (.int .u8 0) := blk_cell O0 t (outTo_at sf ht32)
                  have g0 : (0 : Int) ≤ t := by omega
                  have l0 : (t : Int) < 32 := by omega
                  have g1 : (0 : Int) ≤ (t : Int) / 4 := by omega
                  have l1 : (t : Int) / 4 < 8 := by omega
                  have l2 : ((t : Int) / 4).toNat = t / 4 := by omega
                  clear hset hx
                  go_wp2_with fail
                  have hs := blk_set O0 t (byteV (UInt8.ofNat (x >>> q % 256)))
                  rw [HSET.out, ← out_byte] at hs
                  go_roundw
                  case rel => exact ⟨t + 1, by go_num, by omega, hs, ⟨blk_other S5.h _ (Ne.symm hOH) _, blk_other S5.k _ (Ne.symm hOK) _, blk_other S5.v _ (Ne.symm hOV) _, S5.keep.setCell (fun h => absurd h (by show ¬ O < _; omega)) _, S5.hn, S5.kn, S5.vn, S5.hk, S5.hv, S5.kv⟩⟩
                  case measure => simp [intOf]; omega
                · have ht9 : t = 32 := by omega
                  have hYs := outTo_size t sf
                  rw [ht9, outTo_full, HSH.out] at O0 hYs
                  have hag := aggOk_agg 32 ((shaOf bs).map byteV).toArray hYs (bytes_all _)
                  obtain ⟨Y, hY⟩ : ∃ Y, ((shaOf bs).map byteV).toArray = Y := ⟨_, rfl⟩
                  rw [hY] at O0 hYs hag
                  have HY := shut hY
                  have HYS := shut hYs
                  clear hY hYs
                  have r1 := rowOk_blk O0 HYS.out
                  have e1 := rowOf_blk O0
                  have r2 : rowOk wr H 32 = true := rowOk_blk S5.h (by simp [zeros32])
                  go_wp2_with fail
                  refine bodyPost_ret (v := .agg Y) (results_cell_row rfl _ _ H _ Y (0, 0) _ rfl (blk_setRow (cs := Y) S5.h) Tryd.underlying70 rfl (by rw [infoHash, HYS.out])) rfl ?_
                  exact ⟨by rw [← HY.out]; rfl, S5.keep.setRow (fun h => absurd h (by have := S5.hn; omega)) Y⟩

end Go.Proofs.YteifmkfkekglpaaDoor
