/- usufructref25.GetMsg. -/
import Derived.Test.YteifmkfkekglpaaNet1b
import Derived.Test.YteifmkfkekglpaaNet6
import Derived.Test.YteifmkfkekglpaaRefE
namespace Go.Proofs.Yteifmkfkekglpaa
open Go.RowKit

theorem agg000 : aggOk 41 (.agg #[.int .i64 0, .int .i64 0, .int .i64 0, .int .i64 0, .int .i64 0, .string ⟨#[]⟩, .int .u8 0, .int .u8 0, .int .u8 0, .int .u8 0, .int .u8 0, .int .u8 0, .int .u8 0, .int .u8 0, .int .u8 0, .int .u8 0, .int .u8 0, .int .u8 0, .int .u8 0, .int .u8 0, .int .u8 0, .int .u8 0, .int .u8 0, .int .u8 0, .int .u8 0, .int .u8 0, .int .u8 0, .int .u8 0, .int .u8 0, .int .u8 0, .int .u8 0, .int .u8 0, .int .u8 0, .int .u8 0, .int .u8 0, .int .u8 0, .int .u8 0, .int .u8 0, .slice none 0 0, .string ⟨#[]⟩, .string ⟨#[]⟩]) = true := by rw [← zeroC_lit]; exact zeroC_is.row
/-- How GetMsg ends. -/
def RGetPost (w : World) (bs : List UInt8) (e : Ending) (w' : World) : Prop :=
  (∀ m, getM bs = some m → ∃ C ao cap, e = .returned (.tuple #[.agg C, .int .i64 0]) ∧ MsgC C m ao cap ∧ MsgAt w' m ao cap ∧ Keeps Nothing w w') ∧
  (getM bs = none → e = .returned (.tuple #[.agg zeroC, .int .i64 4]) ∧ Keeps Nothing w w')

attribute [local go_sem ↓] exec_mid_msg exec_store_msg exec_mid_hash exec_load_hash exec_storeM_hash
attribute [local go_sem] rowOk_new World.setRow_alloc_new

set_option maxRecDepth 100000 in
set_option maxHeartbeats 8000000 in
theorem rget_any {w : World} {bs : List UInt8} (hl : bs.length ≤ 5000) :
    Calls Try.prog 15 #[.string ⟨bs.toArray⟩] w (RGetPost w bs) := by
  have hlb : bs.length ≤ 1000000 := by omega
  go_enter Try.func15, Try.ntmps15
  go_upto_region 3 with fail
  rw [← zeroC_lit]
  obtain ⟨Z, hZ⟩ : ∃ Z, Z = zeroC := ⟨_, rfl⟩
  rw [← hZ]
  have HC0 : MsgC Z zeroM none 0 := by rw [hZ]; exact zeroC_is
  have HZ := HC0
  have HZC := shut hZ
  clear hZ
  have K0 := (((Keeps.refl Nothing w).alloc (.cells Z 26)).alloc (.cells #[.string ⟨bs.toArray⟩, .int .i64 0, .int .i64 0, .int .i64 0] 95)).alloc (.cells Z 26)
  have B20 := blk_alloc (blk_alloc (blk_new w Z 26) (.cells #[.string ⟨bs.toArray⟩, .int .i64 0, .int .i64 0, .int .i64 0] 95)) (.cells Z 26)
  have BR := blk_alloc (blk_new (w.alloc (.cells Z 26)) #[.string ⟨bs.toArray⟩, .int .i64 0, .int .i64 0, .int .i64 0] 95) (.cells Z 26)
  have BM0 := blk_new ((w.alloc (.cells Z 26)).alloc (.cells #[.string ⟨bs.toArray⟩, .int .i64 0, .int .i64 0, .int .i64 0] 95)) Z 26
  simp only [World.size_alloc] at BR BM0
  have hR0 : Rs _ _ bs (some 0) := .inl ⟨0, rfl, Nat.zero_le _, BR⟩
  clear BR
  generalize ((w.alloc (.cells Z 26)).alloc (.cells #[.string ⟨bs.toArray⟩, .int .i64 0, .int .i64 0, .int .i64 0] 95)).alloc (.cells Z 26) = wx0 at *
  obtain ⟨g2, hg2⟩ : ∃ g, w.heap.size = g := ⟨_, rfl⟩
  rw [hg2] at B20 hR0 BM0 ⊢
  have HG := shut hg2
  clear hg2
  have hP0 : Shut (parseM bs = (some 0).bind (gI bs (r1 bs))) := shut rfl
  obtain ⟨s0, hs0⟩ : ∃ s, some 0 = s := ⟨_, rfl⟩
  rw [hs0] at hR0 hP0
  clear hs0
  go_wp2_with fail
  refine (r_int hR0 hlb).mono ?_
  rintro e wy ⟨z0, rfl, zl0, zh0, hRy, ky, hz⟩
  have hP1 : Shut (parseM bs = (nextR s0 (fun k => ((decI (bs.drop k)).1, (decI (bs.drop k)).2.2))).bind (r1 bs z0)) := shut (hP0.out.trans (step_bind s0 (fun k => ((decI (bs.drop k)).1, (decI (bs.drop k)).2.2)) (fun k => (decI (bs.drop k)).2.1) z0 hz (r1 bs)))
  have BMy := ky.blk BM0 (fun h => by omega)
  have B2y := ky.blk B20 (fun h => by omega)
  have Ky : Keeps Nothing w wy := K0.trans ky (fun j hj hlt => by have := HG.out; omega)
  have f9 := blk_free BMy 0
  have c9 := blk_cell BMy 0 HC0.c0
  have kS : Keeps (fun j => j = g2 + 2) wy (wy.setCell ⟨g2 + 2, 0, none⟩ (.int .i64 z0)) := (Keeps.refl (fun j => j = g2 + 2) wy).setCell (p := ⟨g2 + 2, 0, none⟩) (fun _ => rfl) _
  have hR1 := hRy.keeps kS (fun h => by omega)
  have HC1 := HC0.setKind z0
  have BM1 := blk_set BMy 0 (.int .i64 z0)
  have B21 := kS.blk B2y (fun h => by omega)
  have K1 := Ky.trans kS (fun j hj hlt => by have := HG.out; omega)
  clear hP0 BM0 HC0 hR0 hz B20 K0 B2y Ky hRy ky
  go_upto_region 4 with fail
  clear f9 c9 BMy kS
  generalize wy.setCell ⟨g2 + 2, 0, none⟩ (.int .i64 z0) = wx1 at *
  obtain ⟨s1, hs1⟩ : ∃ s, nextR s0 (fun k => ((decI (bs.drop k)).1, (decI (bs.drop k)).2.2)) = s := ⟨_, rfl⟩
  rw [hs1] at hR1 hP1
  clear hs1
  go_wp2_with fail
  refine (r_int hR1 hlb).mono ?_
  rintro e wy ⟨z1, rfl, zl1, zh1, hRy, ky, hz⟩
  have hP2 : Shut (parseM bs = (nextR s1 (fun k => ((decI (bs.drop k)).1, (decI (bs.drop k)).2.2))).bind (r2 bs z0 z1)) := shut (hP1.out.trans (step_bind s1 (fun k => ((decI (bs.drop k)).1, (decI (bs.drop k)).2.2)) (fun k => (decI (bs.drop k)).2.1) z1 hz (r2 bs z0)))
  have BMy := ky.blk BM1 (fun h => by omega)
  have B2y := ky.blk B21 (fun h => by omega)
  have Ky : Keeps Nothing w wy := K1.trans ky (fun j hj hlt => by have := HG.out; omega)
  have f9 := blk_free BMy 1
  have c9 := blk_cell BMy 1 HC1.c1
  have kS : Keeps (fun j => j = g2 + 2) wy (wy.setCell ⟨g2 + 2, 1, none⟩ (.int .i64 z1)) := (Keeps.refl (fun j => j = g2 + 2) wy).setCell (p := ⟨g2 + 2, 1, none⟩) (fun _ => rfl) _
  have hR2 := hRy.keeps kS (fun h => by omega)
  have HC2 := HC1.setFrm z1
  have BM2 := blk_set BMy 1 (.int .i64 z1)
  have B22 := kS.blk B2y (fun h => by omega)
  have K2 := Ky.trans kS (fun j hj hlt => by have := HG.out; omega)
  clear hP1 BM1 HC1 hR1 hz B21 K1 B2y Ky hRy ky
  go_upto_region 5 with fail
  clear f9 c9 BMy kS
  generalize wy.setCell ⟨g2 + 2, 1, none⟩ (.int .i64 z1) = wx2 at *
  obtain ⟨s2, hs2⟩ : ∃ s, nextR s1 (fun k => ((decI (bs.drop k)).1, (decI (bs.drop k)).2.2)) = s := ⟨_, rfl⟩
  rw [hs2] at hR2 hP2
  clear hs2
  go_wp2_with fail
  refine (r_int hR2 hlb).mono ?_
  rintro e wy ⟨z2, rfl, zl2, zh2, hRy, ky, hz⟩
  have hP3 : Shut (parseM bs = (nextR s2 (fun k => ((decI (bs.drop k)).1, (decI (bs.drop k)).2.2))).bind (r3 bs z0 z1 z2)) := shut (hP2.out.trans (step_bind s2 (fun k => ((decI (bs.drop k)).1, (decI (bs.drop k)).2.2)) (fun k => (decI (bs.drop k)).2.1) z2 hz (r3 bs z0 z1)))
  have BMy := ky.blk BM2 (fun h => by omega)
  have B2y := ky.blk B22 (fun h => by omega)
  have Ky : Keeps Nothing w wy := K2.trans ky (fun j hj hlt => by have := HG.out; omega)
  have f9 := blk_free BMy 2
  have c9 := blk_cell BMy 2 HC2.c2
  have kS : Keeps (fun j => j = g2 + 2) wy (wy.setCell ⟨g2 + 2, 2, none⟩ (.int .i64 z2)) := (Keeps.refl (fun j => j = g2 + 2) wy).setCell (p := ⟨g2 + 2, 2, none⟩) (fun _ => rfl) _
  have hR3 := hRy.keeps kS (fun h => by omega)
  have HC3 := HC2.setTo z2
  have BM3 := blk_set BMy 2 (.int .i64 z2)
  have B23 := kS.blk B2y (fun h => by omega)
  have K3 := Ky.trans kS (fun j hj hlt => by have := HG.out; omega)
  clear hP2 BM2 HC2 hR2 hz B22 K2 B2y Ky hRy ky
  go_upto_region 6 with fail
  clear f9 c9 BMy kS
  generalize wy.setCell ⟨g2 + 2, 2, none⟩ (.int .i64 z2) = wx3 at *
  obtain ⟨s3, hs3⟩ : ∃ s, nextR s2 (fun k => ((decI (bs.drop k)).1, (decI (bs.drop k)).2.2)) = s := ⟨_, rfl⟩
  rw [hs3] at hR3 hP3
  clear hs3
  go_wp2_with fail
  refine (r_int hR3 hlb).mono ?_
  rintro e wy ⟨z3, rfl, zl3, zh3, hRy, ky, hz⟩
  have hP4 : Shut (parseM bs = (nextR s3 (fun k => ((decI (bs.drop k)).1, (decI (bs.drop k)).2.2))).bind (r4 bs z0 z1 z2 z3)) := shut (hP3.out.trans (step_bind s3 (fun k => ((decI (bs.drop k)).1, (decI (bs.drop k)).2.2)) (fun k => (decI (bs.drop k)).2.1) z3 hz (r4 bs z0 z1 z2)))
  have BMy := ky.blk BM3 (fun h => by omega)
  have B2y := ky.blk B23 (fun h => by omega)
  have Ky : Keeps Nothing w wy := K3.trans ky (fun j hj hlt => by have := HG.out; omega)
  have f9 := blk_free BMy 3
  have c9 := blk_cell BMy 3 HC3.c3
  have kS : Keeps (fun j => j = g2 + 2) wy (wy.setCell ⟨g2 + 2, 3, none⟩ (.int .i64 z3)) := (Keeps.refl (fun j => j = g2 + 2) wy).setCell (p := ⟨g2 + 2, 3, none⟩) (fun _ => rfl) _
  have hR4 := hRy.keeps kS (fun h => by omega)
  have HC4 := HC3.setCrate z3
  have BM4 := blk_set BMy 3 (.int .i64 z3)
  have B24 := kS.blk B2y (fun h => by omega)
  have K4 := Ky.trans kS (fun j hj hlt => by have := HG.out; omega)
  clear hP3 BM3 HC3 hR3 hz B23 K3 B2y Ky hRy ky
  go_upto_region 7 with fail
  clear f9 c9 BMy kS
  generalize wy.setCell ⟨g2 + 2, 3, none⟩ (.int .i64 z3) = wx4 at *
  obtain ⟨s4, hs4⟩ : ∃ s, nextR s3 (fun k => ((decI (bs.drop k)).1, (decI (bs.drop k)).2.2)) = s := ⟨_, rfl⟩
  rw [hs4] at hR4 hP4
  clear hs4
  go_wp2_with fail
  refine (r_int hR4 hlb).mono ?_
  rintro e wy ⟨z4, rfl, zl4, zh4, hRy, ky, hz⟩
  have hP5 : Shut (parseM bs = (nextR s4 (fun k => ((decI (bs.drop k)).1, (decI (bs.drop k)).2.2))).bind (r5 bs z0 z1 z2 z3 z4)) := shut (hP4.out.trans (step_bind s4 (fun k => ((decI (bs.drop k)).1, (decI (bs.drop k)).2.2)) (fun k => (decI (bs.drop k)).2.1) z4 hz (r5 bs z0 z1 z2 z3)))
  have BMy := ky.blk BM4 (fun h => by omega)
  have B2y := ky.blk B24 (fun h => by omega)
  have Ky : Keeps Nothing w wy := K4.trans ky (fun j hj hlt => by have := HG.out; omega)
  have f9 := blk_free BMy 4
  have c9 := blk_cell BMy 4 HC4.c4
  have kS : Keeps (fun j => j = g2 + 2) wy (wy.setCell ⟨g2 + 2, 4, none⟩ (.int .i64 z4)) := (Keeps.refl (fun j => j = g2 + 2) wy).setCell (p := ⟨g2 + 2, 4, none⟩) (fun _ => rfl) _
  have hR5 := hRy.keeps kS (fun h => by omega)
  have HC5 := HC4.setEpoch z4
  have BM5 := blk_set BMy 4 (.int .i64 z4)
  have B25 := kS.blk B2y (fun h => by omega)
  have K5 := Ky.trans kS (fun j hj hlt => by have := HG.out; omega)
  clear hP4 BM4 HC4 hR4 hz B24 K4 B2y Ky hRy ky
  go_upto_region 8 with fail
  clear f9 c9 BMy kS
  generalize wy.setCell ⟨g2 + 2, 4, none⟩ (.int .i64 z4) = wx5 at *
  obtain ⟨s5, hs5⟩ : ∃ s, nextR s4 (fun k => ((decI (bs.drop k)).1, (decI (bs.drop k)).2.2)) = s := ⟨_, rfl⟩
  rw [hs5] at hR5 hP5
  clear hs5
  go_wp2_with fail
  refine (r_text hR5 hlb 32 (by decide)).mono ?_
  rintro e wy ⟨nm, rfl, nml, hRy, ky, hz⟩
  have hP6 : Shut (parseM bs = (nextR s5 (fun k => ((decText 32 (bs.drop k)).1, (decText 32 (bs.drop k)).2.2))).bind (r5h bs z0 z1 z2 z3 z4 nm)) := shut (hP5.out.trans (step_bind s5 (fun k => ((decText 32 (bs.drop k)).1, (decText 32 (bs.drop k)).2.2)) (fun k => (decText 32 (bs.drop k)).2.1) nm hz (r5h bs z0 z1 z2 z3 z4)))
  have BMy := ky.blk BM5 (fun h => by omega)
  have B2y := ky.blk B25 (fun h => by omega)
  have Ky : Keeps Nothing w wy := K5.trans ky (fun j hj hlt => by have := HG.out; omega)
  have f9 := blk_free BMy 5
  have c9 := blk_cell BMy 5 HC5.c5
  have kS : Keeps (fun j => j = g2 + 2) wy (wy.setCell ⟨g2 + 2, 5, none⟩ (.string ⟨nm.toArray⟩)) := (Keeps.refl (fun j => j = g2 + 2) wy).setCell (p := ⟨g2 + 2, 5, none⟩) (fun _ => rfl) _
  have hR6 := hRy.keeps kS (fun h => by omega)
  have HC6 := HC5.setName nm
  have BM6 := blk_set BMy 5 (.string ⟨nm.toArray⟩)
  have B26 := kS.blk B2y (fun h => by omega)
  have K6 := Ky.trans kS (fun j hj hlt => by have := HG.out; omega)
  clear hP5 BM5 HC5 hR5 hz B25 K5 B2y Ky hRy ky
  go_upto_region 9 with fail
  clear f9 c9 BMy kS
  generalize wy.setCell ⟨g2 + 2, 5, none⟩ (.string ⟨nm.toArray⟩) = wx6 at *
  obtain ⟨s6, hs6⟩ : ∃ s, nextR s5 (fun k => ((decText 32 (bs.drop k)).1, (decText 32 (bs.drop k)).2.2)) = s := ⟨_, rfl⟩
  rw [hs6] at hR6 hP6
  clear hs6
  go_wp2_with fail
  refine (r_hash hR6 hlb).mono ?_
  rintro e wy ⟨hh, rfl, hh32, hRy, ky, hz⟩
  have hP7 : Shut (parseM bs = (nextR s6 (fun k => ((decHash (bs.drop k)).1, (decHash (bs.drop k)).2.2))).bind (r6 bs z0 z1 z2 z3 z4 nm hh)) := shut (hP6.out.trans (step_bind s6 (fun k => ((decHash (bs.drop k)).1, (decHash (bs.drop k)).2.2)) (fun k => (decHash (bs.drop k)).2.1) hh hz (r6 bs z0 z1 z2 z3 z4 nm)))
  have BMy := ky.blk BM6 (fun h => by omega)
  have B2y := ky.blk B26 (fun h => by omega)
  have Ky : Keeps Nothing w wy := K6.trans ky (fun j hj hlt => by have := HG.out; omega)
  have f9 : midFit wy (g2 + 1 + 1) 6 32 = true := midFit_blk BMy (by rw [HC6.size]; decide)
  have HC7 := HC6.setHash hh hh32
  obtain ⟨HV, hHV⟩ : ∃ HV, (hh.map byteV).toArray = HV := ⟨_, rfl⟩
  have hag : aggOk 32 (.agg HV) = true := by rw [← hHV]; exact aggOk_agg 32 _ (by simp [hh32]) (bytes_all _)
  rw [hHV] at HC7 ⊢
  clear hHV
  have kS : Keeps (fun j => j = g2 + 2) wy (midSet wy (g2 + 1 + 1) 6 HV) := midSet_keeps (Keeps.refl (fun j => j = g2 + 2) wy) (fun _ => rfl) 6 HV
  have hR7 := hRy.keeps kS (fun h => by omega)
  have BM7 := blk_midSet BMy 6 HV
  have B27 := kS.blk B2y (fun h => by omega)
  have K7 := Ky.trans kS (fun j hj hlt => by have := HG.out; omega)
  clear hP6 BM6 HC6 hR6 hz B26 K6 B2y Ky hRy ky
  go_upto_region 10 with fail
  clear f9 BMy kS hag
  generalize midSet wy (g2 + 1 + 1) 6 HV = wx7 at *
  obtain ⟨s7, hs7⟩ : ∃ s, nextR s6 (fun k => ((decHash (bs.drop k)).1, (decHash (bs.drop k)).2.2)) = s := ⟨_, rfl⟩
  rw [hs7] at hR7 hP7
  clear hs7
  go_wp2_with fail
  refine (r_small hR7 hlb 64 (by decide)).mono ?_
  rintro e wx8 ⟨n, rfl, hR8, ky, hz, hz0⟩
  have hn64 : n ≤ 64 := by
    cases s7 with
    | none => have := hz0 rfl; omega
    | some k => rw [hz k rfl]; exact decSmall_le _
  have hP8 : Shut (parseM bs = (nextR s7 (fun k => ((decSmall 64 (bs.drop k)).1, (decSmall 64 (bs.drop k)).2.2))).bind (r7 bs z0 z1 z2 z3 z4 nm hh n)) := shut (hP7.out.trans (step_bind s7 (fun k => ((decSmall 64 (bs.drop k)).1, (decSmall 64 (bs.drop k)).2.2)) (fun k => (decSmall 64 (bs.drop k)).2.1) n hz (r7 bs z0 z1 z2 z3 z4 nm hh)))
  have BM8 := ky.blk BM7 (fun h => by omega)
  have B28 := ky.blk B27 (fun h => by omega)
  have K8 : Keeps Nothing w wx8 := K7.trans ky (fun j hj hlt => by have := HG.out; omega)
  clear hP7 BM7 hR7 hz hz0 B27 K7 ky
  obtain ⟨s8, hs8⟩ : ∃ s, nextR s7 (fun k => ((decSmall 64 (bs.drop k)).1, (decSmall 64 (bs.drop k)).2.2)) = s := ⟨_, rfl⟩
  rw [hs8] at hR8 hP8
  clear hs8
  have HC8 : MsgC _ ⟨z0, z1, z2, z3, z4, nm, hh, [], [], []⟩ none 0 := HC7
  clear HC7
  generalize midCs _ HV 6 = C8 at *
  go_wp2_with fail
  go_loopw [6] (fun s6 wx => ∃ (j : Nat) (hs : List (List UInt8)) (ah : Option Addr) (ch : Nat) (C : Array Value) (st : Option Nat), s6 = .int .i64 j ∧ hs.length + j ≤ 64 ∧ Rs wx (g2 + 1) bs st ∧ Blk wx (g2 + 1 + 1) C 26 ∧ MsgC C ⟨z0, z1, z2, z3, z4, nm, hh, hs, [], []⟩ ah ch ∧ OwnH wx ah ch hs ∧ (∀ h ∈ hs, h.length = 32) ∧ (∀ g, blockOf ah = some g → w.heap.size ≤ g) ∧ Keeps Nothing w wx ∧ Blk wx g2 Z 26 ∧ Shut (parseM bs = st.bind (gHs bs (r8 bs z0 z1 z2 z3 z4 nm hh) j hs))) (fun s6 _ => (intOf s6).toNat)
  case atStart => exact ⟨n, [], none, 0, C8, s8, rfl, by simpa using hn64, hR8, BM8, HC8, World.ownsRow_nil _ _ _ _, by simp, (fun g e => by cases e), K8, B28, hP8⟩
  case round =>
    clear hR8 BM8 HC8 K8 B28 hP8 hn64
    obtain ⟨j, hs, ah, ch, C, st, rfl, hj64, hR, BM, HC, HO, h32s, hfr, KK, B2, hP⟩ := hrel
    by_cases hlt : 0 < j
    · have m1 : (0 : Int) < j := by omega
      rcases hR with ⟨k, rfl, hk, hRR⟩ | ⟨rfl, k, cc, aa, hcc, hRR⟩
      · have g2c := hRR.c2
        have hR : Rs wr (g2 + 1) bs (some k) := .inl ⟨k, rfl, hk, hRR⟩
        have hx1 : ∀ g, blockOf ah = some g → ¬ g = g2 + 1 := fun g hg h => by subst h; exact own_ne HO hRR (by decide) (by rw [ownBlock_eq]; exact hg)
        have hx2 : ∀ g, blockOf ah = some g → ¬ g = g2 + 1 + 1 := fun g hg h => by subst h; exact own_ne HO BM (by decide) (by rw [ownBlock_eq]; exact hg)
        have hx3 : ∀ g, blockOf ah = some g → ¬ g = g2 := fun g hg h => by subst h; exact own_ne HO B2 (by decide) (by rw [ownBlock_eq]; exact hg)
        go_wp2_with fail
        have c38 := blk_cell BM 38 HC.c38
        simp only at c38
        refine wp_region_mixT (fun W => W.cell? ⟨g2 + 1 + 1, 38, none⟩ = some (.slice ah hs.length ch)) 7 (.take 0 (.take 1 (.take 2 (.one 3 (.one 4 (.one 5 (.take 6 (.one 7 .done)))))))) (by kernel_rfl) (by kernel_rfl) c38 ?_
        simp only [itemsT, PlanT.map, List.getD_cons_zero, List.getD_cons_succ, Nat.reduceBEq]
        repeat (refine wpMixT_free (fun K hK => ?_); go_simp; refine hK _ ?_; clear hK K)
        refine wpMixT_yield (v := .slice ah hs.length ch) (fun W hW => ?_) (fun K hK => ?_)
        · have zz := hW
          go_simp
        go_simp
        refine hK _ ?_
        clear hK K
        repeat (refine wpMixT_free (fun K hK => ?_); go_simp; refine hK _ ?_; clear hK K)
        refine wpMixT_one (fun K hK => ?_)
        go_wp2_with fail
        refine (r_hash (hR.keeps (Keeps.refl Nothing wr).drew (fun h => h)) hlb).mono ?_
        rintro e wy ⟨x, rfl, x32, hRy, ky0, hz⟩
        have ky : Keeps (fun i => i = g2 + 1) wr wy := ((Keeps.refl Nothing wr).drew.mono (fun _ h _ => h.elim)).trans ky0 (fun _ h _ => h)
        have BMy := ky.blk BM (fun h => by omega)
        have B2y := ky.blk B2 (fun h => by omega)
        have HOy : OwnH wy ah ch hs := ky.own HO (fun g hg => by rw [ownBlock_eq] at hg; exact hx1 g hg)
        have Ky : Keeps Nothing w wy := KK.trans ky (fun j hj hlt => by have := HG.out; omega)
        have hP2 : Shut (parseM bs = (nextR (some k) (fun k => ((decHash (bs.drop k)).1, (decHash (bs.drop k)).2.2))).bind (gHs bs (r8 bs z0 z1 z2 z3 z4 nm hh) (j - 1) (hs ++ [x]))) := shut (by
          rw [hP.out]
          obtain ⟨j', rfl⟩ : ∃ j', j = j' + 1 := ⟨j - 1, by omega⟩
          rw [Nat.add_sub_cancel]
          exact step_bind (some k) (fun k => ((decHash (bs.drop k)).1, (decHash (bs.drop k)).2.2)) (fun k => (decHash (bs.drop k)).2.1) x hz (fun h => gHs bs (r8 bs z0 z1 z2 z3 z4 nm hh) j' (hs ++ [h])))
        have c38y := ky.cell c38 (fun h => by simp only at h; omega)
        obtain ⟨X, hX⟩ : ∃ X, (x.map byteV).toArray = X := ⟨_, rfl⟩
        have hXs : X.size = 32 := by rw [← hX]; simp [x32]
        have HXX := shut hX
        rw [hX]
        clear hX hz hP KK B2 BM HO c38 ky ky0 hR hRR g2c
        go_wp2_with fail
        refine hK _ _ (.inr c38y) ?_
        clear hK K
        refine wpMixT_one (fun K hK => ?_)
        go_wp2_with fail
        rw [← zeros32_lit, fill32 zeros32_size hXs]
        have ka := (Keeps.refl Nothing wy).alloc (.cells X 23)
        have D := blk_new wy X 23
        have c38z := ka.cell c38y (fun h => h)
        have BMz := ka.blk BMy (fun h => h)
        have B2z := ka.blk B2y (fun h => h)
        have HOz : OwnH _ ah ch hs := ka.own HOy (fun _ _ h => h)
        have Kz := Ky.trans ka (fun _ h _ => h)
        have hRz := hRy.keeps ka (fun h => h)
        clear c38y BMy B2y HOy Ky hRy ka
        generalize wy.alloc (.cells X 23) = wz at *
        generalize wy.heap.size = gz at *
        refine hK _ _ (.inr c38z) ?_
        clear hK K
        refine wpMixT_one (fun K hK => ?_)
        refine wpList_appH _ rfl (.tmp 47) (.tmp 50) rfl ah ch hs hs.length rfl rfl HOz gz x x32 HXX.out.symm rfl D (by omega) ?_
        intro a6 c6 w6 o6 k6 m6
        have c386 := k6.cell c38z (fun h => hx2 _ h rfl)
        have BM6 := k6.blk BMz (fun h => hx2 _ h rfl)
        have B26 := k6.blk B2z (fun h => hx3 _ h rfl)
        have K6 := Kz.trans k6 (fun i hi hlt => by have := hfr i hi; omega)
        have hR6 := hRz.keeps k6 (fun h => hx1 _ h rfl)
        have hfr6 : ∀ g, blockOf a6 = some g → w.heap.size ≤ g := m6.new Kz.size hfr
        have ha6 : ∀ g, blockOf a6 = some g → g ≠ g2 + 1 + 1 := fun g hg h => by subst h; exact own_ne o6 BM6 (by decide) (by rw [ownBlock_eq]; exact hg)
        clear c38z BMz B2z HOz Kz hRz k6 m6 D hfr
        go_wp2_with fail
        refine hK _ _ (.inr c386) ?_
        clear hK K
        repeat (refine wpMixT_free (fun K hK => ?_); go_simp; refine hK _ ?_; clear hK K)
        have f386 := blk_free BM6 38
        have kS : Keeps (fun i => i = g2 + 1 + 1) w6 (w6.setCell ⟨g2 + 1 + 1, 38, none⟩ (.slice a6 (hs.length + 1) c6)) := (Keeps.refl (fun i => i = g2 + 1 + 1) w6).setCell (p := ⟨g2 + 1 + 1, 38, none⟩) (fun _ => rfl) _
        refine wpMixT_one (fun K hK => ?_)
        go_wp2_with fail
        refine hK _ _ (.inl trivial) ?_
        clear hK K
        refine wpMixT_done ?_
        have HC7 := HC.setHashes (hs ++ [x]) a6 c6
        rw [List.length_append, List.length_singleton] at HC7
        have BM7 := blk_set BM6 38 (.slice a6 (hs.length + 1) c6)
        have B27 := kS.blk B26 (fun h => by omega)
        have o7 : OwnH _ a6 c6 (hs ++ [x]) := kS.own o6 (fun g hg => by rw [ownBlock_eq] at hg; exact ha6 g hg)
        have K7 := K6.trans kS (fun i hi hlt => by have := HG.out; omega)
        have hR7 := hR6.keeps kS (fun h => by omega)
        clear BM6 B26 o6 K6 hR6 kS c386 f386
        generalize w6.setCell ⟨g2 + 1 + 1, 38, none⟩ (.slice a6 (hs.length + 1) c6) = w7 at *
        go_wp2_with fail
        go_roundw
        case rel =>
          refine ⟨j - 1, hs ++ [x], a6, c6, _, _, by go_num, by rw [List.length_append, List.length_singleton]; omega, hR7, BM7, HC7, o7, fun h hh => ?_, hfr6, K7, B27, hP2⟩
          rcases List.mem_append.1 hh with hh | hh
          · exact h32s h hh
          · rw [List.mem_singleton] at hh; rw [hh]; exact x32
        case measure => simp [intOf]; omega
      · have g2c := hRR.c2
        have hcc2 : (cc == 0) = false := by rw [beq_eq_false_iff_ne]; simpa using hcc
        have hR : Rs wr (g2 + 1) bs none := .inr ⟨rfl, k, cc, aa, hcc, hRR⟩
        have hP9 : Shut (parseM bs = (none : Option Nat).bind (r8 bs z0 z1 z2 z3 z4 nm hh hs)) := shut hP.out
        clear hP hRR
        obtain ⟨st, hst⟩ : ∃ s : Option Nat, none = s := ⟨_, rfl⟩
        rw [hst] at hR hP9
        clear hst
        have hRq := hR
        have hx1 : ∀ g, blockOf ah = some g → ¬ g = g2 + 1 := fun g hg h => by
          subst h
          rcases hRq with ⟨_, _, _, hq⟩ | ⟨_, _, _, _, _, hq⟩ <;> exact own_ne HO hq (by decide) (by rw [ownBlock_eq]; exact hg)
        have hx2 : ∀ g, blockOf ah = some g → ¬ g = g2 + 1 + 1 := fun g hg h => by subst h; exact own_ne HO BM (by decide) (by rw [ownBlock_eq]; exact hg)
        have hx3 : ∀ g, blockOf ah = some g → ¬ g = g2 := fun g hg h => by subst h; exact own_ne HO B2 (by decide) (by rw [ownBlock_eq]; exact hg)
        clear hRq
        have hP := hP9
        clear hP9
        go_wp2_with fail
        refine (r_text hR hlb 4194304 (by decide)).mono ?_
        rintro e wy ⟨bl, rfl, bll, hRy, ky, hz⟩
        have hP9 : Shut (parseM bs = (nextR st (fun k => ((decText 4194304 (bs.drop k)).1, (decText 4194304 (bs.drop k)).2.2))).bind (r9 bs z0 z1 z2 z3 z4 nm hh hs bl)) := shut (hP.out.trans (step_bind st (fun k => ((decText 4194304 (bs.drop k)).1, (decText 4194304 (bs.drop k)).2.2)) (fun k => (decText 4194304 (bs.drop k)).2.1) bl hz (r9 bs z0 z1 z2 z3 z4 nm hh hs)))
        have BMy := ky.blk BM (fun h => by omega)
        have B2y := ky.blk B2 (fun h => by omega)
        have HOy : OwnH wy ah ch hs := ky.own HO (fun g hg => by rw [ownBlock_eq] at hg; exact hx1 g hg)
        have Ky : Keeps Nothing w wy := KK.trans ky (fun j hj hlt => by have := HG.out; omega)
        have f9 := blk_free BMy 39
        have c9 := blk_cell BMy 39 HC.c39
        have kS : Keeps (fun j => j = g2 + 1 + 1) wy (wy.setCell ⟨g2 + 1 + 1, 39, none⟩ (.string ⟨bl.toArray⟩)) := (Keeps.refl (fun j => j = g2 + 1 + 1) wy).setCell (p := ⟨g2 + 1 + 1, 39, none⟩) (fun _ => rfl) _
        have hR9 := hRy.keeps kS (fun h => by omega)
        have HC9 := HC.setBlob bl
        have BM9 := blk_set BMy 39 (.string ⟨bl.toArray⟩)
        have B29 := kS.blk B2y (fun h => by omega)
        have HO9 : OwnH _ ah ch hs := kS.own HOy (fun g hg => by rw [ownBlock_eq] at hg; exact hx2 g hg)
        have KK9 := Ky.trans kS (fun j hj hlt => by have := HG.out; omega)
        clear hP BM HC hR hz B2 KK B2y Ky hRy ky HO HOy
        go_upto_region 15 with fail
        clear f9 c9 BMy kS
        generalize wy.setCell ⟨g2 + 1 + 1, 39, none⟩ (.string ⟨bl.toArray⟩) = wx9 at *
        obtain ⟨st9, hs9⟩ : ∃ s, nextR st (fun k => ((decText 4194304 (bs.drop k)).1, (decText 4194304 (bs.drop k)).2.2)) = s := ⟨_, rfl⟩
        rw [hs9] at hR9 hP9
        clear hs9
        go_wp2_with fail
        refine (r_text hR9 hlb 4194304 (by decide)).mono ?_
        rintro e wy ⟨sg, rfl, sgl, hRy, ky, hz⟩
        have hP10 : Shut (parseM bs = (nextR st9 (fun k => ((decText 4194304 (bs.drop k)).1, (decText 4194304 (bs.drop k)).2.2))).bind (r10 z0 z1 z2 z3 z4 nm hh hs bl sg)) := shut (hP9.out.trans (step_bind st9 (fun k => ((decText 4194304 (bs.drop k)).1, (decText 4194304 (bs.drop k)).2.2)) (fun k => (decText 4194304 (bs.drop k)).2.1) sg hz (r10 z0 z1 z2 z3 z4 nm hh hs bl)))
        have BMy := ky.blk BM9 (fun h => by omega)
        have B2y := ky.blk B29 (fun h => by omega)
        have HOy : OwnH wy ah ch hs := ky.own HO9 (fun g hg => by rw [ownBlock_eq] at hg; exact hx1 g hg)
        have Ky : Keeps Nothing w wy := KK9.trans ky (fun j hj hlt => by have := HG.out; omega)
        have f9 := blk_free BMy 40
        have c9 := blk_cell BMy 40 HC9.c40
        have kS : Keeps (fun j => j = g2 + 1 + 1) wy (wy.setCell ⟨g2 + 1 + 1, 40, none⟩ (.string ⟨sg.toArray⟩)) := (Keeps.refl (fun j => j = g2 + 1 + 1) wy).setCell (p := ⟨g2 + 1 + 1, 40, none⟩) (fun _ => rfl) _
        have hR10 := hRy.keeps kS (fun h => by omega)
        have HC10 := HC9.setSig sg
        have BM10 := blk_set BMy 40 (.string ⟨sg.toArray⟩)
        have B210 := kS.blk B2y (fun h => by omega)
        have HO10 : OwnH _ ah ch hs := kS.own HOy (fun g hg => by rw [ownBlock_eq] at hg; exact hx2 g hg)
        have KK10 := Ky.trans kS (fun j hj hlt => by have := HG.out; omega)
        clear hP9 BM9 HC9 hR9 hz B29 KK9 B2y Ky hRy ky HO9 HOy
        go_upto_region 16 with fail
        clear f9 c9 BMy kS
        generalize wy.setCell ⟨g2 + 1 + 1, 40, none⟩ (.string ⟨sg.toArray⟩) = wx10 at *
        obtain ⟨st10, hs10⟩ : ∃ s, nextR st9 (fun k => ((decText 4194304 (bs.drop k)).1, (decText 4194304 (bs.drop k)).2.2)) = s := ⟨_, rfl⟩
        rw [hs10] at hR10 hP10
        clear hs10

        obtain ⟨CF, hCF⟩ : ∃ CF, (C.setIfInBounds 39 (.string ⟨bl.toArray⟩)).setIfInBounds 40 (.string ⟨sg.toArray⟩) = CF := ⟨_, rfl⟩
        rw [hCF] at HC10 BM10
        clear hCF
        rcases hR10 with ⟨k, rfl, hk, hRR⟩ | ⟨rfl, k, cc, aa, hcc, hRR⟩
        rotate_left
        · have hpn : parseM bs = none := hP10.out
          have hgn : Shut (getM bs = none) := shut (by unfold getM; rw [hpn]; rfl)
          have g2c := hRR.c2
          have rE := rowOk_blk B210 HZ.size
          have hag0 := agg000
          go_wp2_with fail
          rw [← zeroC_lit]
          have b3 := blk_setRow (cs := zeroC) B210
          refine bodyPost_ret (v := .tuple #[.agg zeroC, .int .i64 4]) (results_row_tmp rfl _ _ g2 zeroC _ rfl rfl (loadVar_msg _ _ _ _ b3 zeroC_is.size)) rfl ?_
          have hg2 := HG.out
          exact ⟨fun m hm => (by rw [hgn.out] at hm; cases hm), fun _ => ⟨rfl, KK10.trans ((Keeps.refl (fun i => i = g2) wx10).setRow (fun _ => rfl) zeroC) (fun i hi hlt => by omega)⟩⟩
        · have hpm : Shut (parseM bs = some ⟨z0, z1, z2, z3, z4, nm, hh, hs, bl, sg⟩) := shut hP10.out
          have g2c := hRR.c2
          obtain ⟨x1, x2⟩ := blk_mid BM10 HC10.size
          have hMA : MsgAt wx10 ⟨z0, z1, z2, z3, z4, nm, hh, hs, bl, sg⟩ ah ch := ⟨zl0, zh0, zl1, zh1, zl2, zh2, zl3, zh3, zl4, zh4, ownH_at HO10 h32s, h32s, (ownH_cap HO10).1, (ownH_cap HO10).2⟩
          have hsm : MsgSmall ⟨z0, z1, z2, z3, z4, nm, hh, hs, bl, sg⟩ := ⟨Nat.le_trans nml hl, Nat.le_trans bll hl, Nat.le_trans sgl hl⟩
          have hput := rput_of (rmay_any HC10) HC10 hMA hsm
          obtain ⟨m, hm⟩ : ∃ m : MsgT, m = ⟨z0, z1, z2, z3, z4, nm, hh, hs, bl, sg⟩ := ⟨_, rfl⟩
          rw [← hm] at hput hpm HC10 hMA
          have HM := shut hm
          clear hm hP10 hsm
          by_cases hy : mayP m
          · have hrp : rPut m = (encMsg m, 0) := by unfold rPut; rw [if_pos hy]
            rw [hrp] at hput
            clear hrp
            by_cases he : encMsg m = bs
            · have hgm : Shut (getM bs = some m) := shut (by unfold getM; rw [hpm.out]; show (if _ then _ else _) = _; rw [if_pos ⟨hy, he⟩])
              rw [he] at hput
              clear he
              go_wp2_with fail
              refine hput.mono ?_
              rintro e wp ⟨rfl, kp⟩
              clear x1 x2 hput
              obtain ⟨x1, x2⟩ := blk_mid (kp.blk BM10 (fun h => h)) HC10.size
              have B2p := kp.blk B210 (fun h => h)
              have rE := rowOk_blk B2p HZ.size
              have hrw := HC10.row
              have HOp : OwnH wp ah ch hs := kp.own HO10 (fun _ _ h => h)
              go_wp2_with fail
              have b3 := blk_setRow (cs := CF) B2p
              refine bodyPost_ret (v := .tuple #[.agg CF, .int .i64 0]) (results_row_tmp rfl _ _ g2 CF _ rfl rfl (loadVar_msg _ _ _ _ b3 HC10.size)) rfl ?_
              have hg2 := HG.out
              have kr := (Keeps.refl (fun i => i = g2) wp).setRow (g := g2) (fun _ => rfl) CF
              have hOf : OwnH _ ah ch hs := kr.own HOp (fun g hg h => by rw [ownBlock_eq] at hg; exact hx3 g hg h)
              refine ⟨fun m' hm' => ?_, fun h => (by rw [hgm.out] at h; cases h)⟩
              rw [hgm.out] at hm'
              obtain rfl := Option.some.inj hm'
              refine ⟨_, ah, ch, rfl, HC10, ?_, KK10.trans ((kp.mono (S' := fun i => i = g2) (fun _ h _ => h.elim)).trans kr (fun _ h _ => h)) (fun i hi hlt => by omega)⟩
              rw [HM.out]
              exact ⟨zl0, zh0, zl1, zh1, zl2, zh2, zl3, zh3, zl4, zh4, ownH_at hOf h32s, h32s, (ownH_cap hOf).1, (ownH_cap hOf).2⟩
            · have hgn : Shut (getM bs = none) := shut (by unfold getM; rw [hpm.out]; show (if _ then _ else _) = _; rw [if_neg (fun h => he h.2)])
              go_wp2_with fail
              refine hput.mono ?_
              rintro e wp ⟨rfl, kp⟩
              have B2p := kp.blk B210 (fun h => h)
              have rE := rowOk_blk B2p HZ.size
              have hag0 := agg000
              have hne1 : (encMsg m == bs) = false := by rw [beq_eq_false_iff_ne]; exact he
              have KP := KK10.trans kp (fun _ h _ => h)
              generalize encMsg m = EM at *
              go_wp2_with fail
              rw [← zeroC_lit]
              have b3 := blk_setRow (cs := zeroC) B2p
              refine bodyPost_ret (v := .tuple #[.agg zeroC, .int .i64 4]) (results_row_tmp rfl _ _ g2 zeroC _ rfl rfl (loadVar_msg _ _ _ _ b3 zeroC_is.size)) rfl ?_
              have hg2 := HG.out
              exact ⟨fun m hm => (by rw [hgn.out] at hm; cases hm), fun _ => ⟨rfl, KP.trans ((Keeps.refl (fun i => i = g2) wp).setRow (fun _ => rfl) zeroC) (fun i hi hlt => by omega)⟩⟩
          · have hrp : rPut m = ([], 1) := by unfold rPut; rw [if_neg hy]
            rw [hrp] at hput
            have hgn : Shut (getM bs = none) := shut (by unfold getM; rw [hpm.out]; show (if _ then _ else _) = _; rw [if_neg (fun h => hy h.1)])
            go_wp2_with fail
            refine hput.mono ?_
            rintro e wp ⟨rfl, kp⟩
            have B2p := kp.blk B210 (fun h => h)
            have rE := rowOk_blk B2p HZ.size
            have hag0 := agg000
            have KP := KK10.trans kp (fun _ h _ => h)
            go_wp2_with fail
            rw [← zeroC_lit]
            have b3 := blk_setRow (cs := zeroC) B2p
            refine bodyPost_ret (v := .tuple #[.agg zeroC, .int .i64 4]) (results_row_tmp rfl _ _ g2 zeroC _ rfl rfl (loadVar_msg _ _ _ _ b3 zeroC_is.size)) rfl ?_
            have hg2 := HG.out
            exact ⟨fun m hm => (by rw [hgn.out] at hm; cases hm), fun _ => ⟨rfl, KP.trans ((Keeps.refl (fun i => i = g2) wp).setRow (fun _ => rfl) zeroC) (fun i hi hlt => by omega)⟩⟩
    · obtain rfl : j = 0 := by omega
      have m1 : ¬ (0 : Int) < ((0 : Nat) : Int) := by omega
      have hP9 : Shut (parseM bs = st.bind (r8 bs z0 z1 z2 z3 z4 nm hh hs)) := hP
      clear hP
      have hRq := hR
      have hx1 : ∀ g, blockOf ah = some g → ¬ g = g2 + 1 := fun g hg h => by
        subst h
        rcases hRq with ⟨_, _, _, hq⟩ | ⟨_, _, _, _, _, hq⟩ <;> exact own_ne HO hq (by decide) (by rw [ownBlock_eq]; exact hg)
      have hx2 : ∀ g, blockOf ah = some g → ¬ g = g2 + 1 + 1 := fun g hg h => by subst h; exact own_ne HO BM (by decide) (by rw [ownBlock_eq]; exact hg)
      have hx3 : ∀ g, blockOf ah = some g → ¬ g = g2 := fun g hg h => by subst h; exact own_ne HO B2 (by decide) (by rw [ownBlock_eq]; exact hg)
      clear hRq
      have hP := hP9
      clear hP9
      go_wp2_with fail
      refine (r_text hR hlb 4194304 (by decide)).mono ?_
      rintro e wy ⟨bl, rfl, bll, hRy, ky, hz⟩
      have hP9 : Shut (parseM bs = (nextR st (fun k => ((decText 4194304 (bs.drop k)).1, (decText 4194304 (bs.drop k)).2.2))).bind (r9 bs z0 z1 z2 z3 z4 nm hh hs bl)) := shut (hP.out.trans (step_bind st (fun k => ((decText 4194304 (bs.drop k)).1, (decText 4194304 (bs.drop k)).2.2)) (fun k => (decText 4194304 (bs.drop k)).2.1) bl hz (r9 bs z0 z1 z2 z3 z4 nm hh hs)))
      have BMy := ky.blk BM (fun h => by omega)
      have B2y := ky.blk B2 (fun h => by omega)
      have HOy : OwnH wy ah ch hs := ky.own HO (fun g hg => by rw [ownBlock_eq] at hg; exact hx1 g hg)
      have Ky : Keeps Nothing w wy := KK.trans ky (fun j hj hlt => by have := HG.out; omega)
      have f9 := blk_free BMy 39
      have c9 := blk_cell BMy 39 HC.c39
      have kS : Keeps (fun j => j = g2 + 1 + 1) wy (wy.setCell ⟨g2 + 1 + 1, 39, none⟩ (.string ⟨bl.toArray⟩)) := (Keeps.refl (fun j => j = g2 + 1 + 1) wy).setCell (p := ⟨g2 + 1 + 1, 39, none⟩) (fun _ => rfl) _
      have hR9 := hRy.keeps kS (fun h => by omega)
      have HC9 := HC.setBlob bl
      have BM9 := blk_set BMy 39 (.string ⟨bl.toArray⟩)
      have B29 := kS.blk B2y (fun h => by omega)
      have HO9 : OwnH _ ah ch hs := kS.own HOy (fun g hg => by rw [ownBlock_eq] at hg; exact hx2 g hg)
      have KK9 := Ky.trans kS (fun j hj hlt => by have := HG.out; omega)
      clear hP BM HC hR hz B2 KK B2y Ky hRy ky HO HOy
      go_upto_region 15 with fail
      clear f9 c9 BMy kS
      generalize wy.setCell ⟨g2 + 1 + 1, 39, none⟩ (.string ⟨bl.toArray⟩) = wx9 at *
      obtain ⟨st9, hs9⟩ : ∃ s, nextR st (fun k => ((decText 4194304 (bs.drop k)).1, (decText 4194304 (bs.drop k)).2.2)) = s := ⟨_, rfl⟩
      rw [hs9] at hR9 hP9
      clear hs9
      go_wp2_with fail
      refine (r_text hR9 hlb 4194304 (by decide)).mono ?_
      rintro e wy ⟨sg, rfl, sgl, hRy, ky, hz⟩
      have hP10 : Shut (parseM bs = (nextR st9 (fun k => ((decText 4194304 (bs.drop k)).1, (decText 4194304 (bs.drop k)).2.2))).bind (r10 z0 z1 z2 z3 z4 nm hh hs bl sg)) := shut (hP9.out.trans (step_bind st9 (fun k => ((decText 4194304 (bs.drop k)).1, (decText 4194304 (bs.drop k)).2.2)) (fun k => (decText 4194304 (bs.drop k)).2.1) sg hz (r10 z0 z1 z2 z3 z4 nm hh hs bl)))
      have BMy := ky.blk BM9 (fun h => by omega)
      have B2y := ky.blk B29 (fun h => by omega)
      have HOy : OwnH wy ah ch hs := ky.own HO9 (fun g hg => by rw [ownBlock_eq] at hg; exact hx1 g hg)
      have Ky : Keeps Nothing w wy := KK9.trans ky (fun j hj hlt => by have := HG.out; omega)
      have f9 := blk_free BMy 40
      have c9 := blk_cell BMy 40 HC9.c40
      have kS : Keeps (fun j => j = g2 + 1 + 1) wy (wy.setCell ⟨g2 + 1 + 1, 40, none⟩ (.string ⟨sg.toArray⟩)) := (Keeps.refl (fun j => j = g2 + 1 + 1) wy).setCell (p := ⟨g2 + 1 + 1, 40, none⟩) (fun _ => rfl) _
      have hR10 := hRy.keeps kS (fun h => by omega)
      have HC10 := HC9.setSig sg
      have BM10 := blk_set BMy 40 (.string ⟨sg.toArray⟩)
      have B210 := kS.blk B2y (fun h => by omega)
      have HO10 : OwnH _ ah ch hs := kS.own HOy (fun g hg => by rw [ownBlock_eq] at hg; exact hx2 g hg)
      have KK10 := Ky.trans kS (fun j hj hlt => by have := HG.out; omega)
      clear hP9 BM9 HC9 hR9 hz B29 KK9 B2y Ky hRy ky HO9 HOy
      go_upto_region 16 with fail
      clear f9 c9 BMy kS
      generalize wy.setCell ⟨g2 + 1 + 1, 40, none⟩ (.string ⟨sg.toArray⟩) = wx10 at *
      obtain ⟨st10, hs10⟩ : ∃ s, nextR st9 (fun k => ((decText 4194304 (bs.drop k)).1, (decText 4194304 (bs.drop k)).2.2)) = s := ⟨_, rfl⟩
      rw [hs10] at hR10 hP10
      clear hs10

      obtain ⟨CF, hCF⟩ : ∃ CF, (C.setIfInBounds 39 (.string ⟨bl.toArray⟩)).setIfInBounds 40 (.string ⟨sg.toArray⟩) = CF := ⟨_, rfl⟩
      rw [hCF] at HC10 BM10
      clear hCF
      rcases hR10 with ⟨k, rfl, hk, hRR⟩ | ⟨rfl, k, cc, aa, hcc, hRR⟩
      rotate_left
      · have hpn : parseM bs = none := hP10.out
        have hgn : Shut (getM bs = none) := shut (by unfold getM; rw [hpn]; rfl)
        have g2c := hRR.c2
        have rE := rowOk_blk B210 HZ.size
        have hag0 := agg000
        go_wp2_with fail
        rw [← zeroC_lit]
        have b3 := blk_setRow (cs := zeroC) B210
        refine bodyPost_ret (v := .tuple #[.agg zeroC, .int .i64 4]) (results_row_tmp rfl _ _ g2 zeroC _ rfl rfl (loadVar_msg _ _ _ _ b3 zeroC_is.size)) rfl ?_
        have hg2 := HG.out
        exact ⟨fun m hm => (by rw [hgn.out] at hm; cases hm), fun _ => ⟨rfl, KK10.trans ((Keeps.refl (fun i => i = g2) wx10).setRow (fun _ => rfl) zeroC) (fun i hi hlt => by omega)⟩⟩
      · have hpm : Shut (parseM bs = some ⟨z0, z1, z2, z3, z4, nm, hh, hs, bl, sg⟩) := shut hP10.out
        have g2c := hRR.c2
        obtain ⟨x1, x2⟩ := blk_mid BM10 HC10.size
        have hMA : MsgAt wx10 ⟨z0, z1, z2, z3, z4, nm, hh, hs, bl, sg⟩ ah ch := ⟨zl0, zh0, zl1, zh1, zl2, zh2, zl3, zh3, zl4, zh4, ownH_at HO10 h32s, h32s, (ownH_cap HO10).1, (ownH_cap HO10).2⟩
        have hsm : MsgSmall ⟨z0, z1, z2, z3, z4, nm, hh, hs, bl, sg⟩ := ⟨Nat.le_trans nml hl, Nat.le_trans bll hl, Nat.le_trans sgl hl⟩
        have hput := rput_of (rmay_any HC10) HC10 hMA hsm
        obtain ⟨m, hm⟩ : ∃ m : MsgT, m = ⟨z0, z1, z2, z3, z4, nm, hh, hs, bl, sg⟩ := ⟨_, rfl⟩
        rw [← hm] at hput hpm HC10 hMA
        have HM := shut hm
        clear hm hP10 hsm
        by_cases hy : mayP m
        · have hrp : rPut m = (encMsg m, 0) := by unfold rPut; rw [if_pos hy]
          rw [hrp] at hput
          clear hrp
          by_cases he : encMsg m = bs
          · have hgm : Shut (getM bs = some m) := shut (by unfold getM; rw [hpm.out]; show (if _ then _ else _) = _; rw [if_pos ⟨hy, he⟩])
            rw [he] at hput
            clear he
            go_wp2_with fail
            refine hput.mono ?_
            rintro e wp ⟨rfl, kp⟩
            clear x1 x2 hput
            obtain ⟨x1, x2⟩ := blk_mid (kp.blk BM10 (fun h => h)) HC10.size
            have B2p := kp.blk B210 (fun h => h)
            have rE := rowOk_blk B2p HZ.size
            have hrw := HC10.row
            have HOp : OwnH wp ah ch hs := kp.own HO10 (fun _ _ h => h)
            go_wp2_with fail
            have b3 := blk_setRow (cs := CF) B2p
            refine bodyPost_ret (v := .tuple #[.agg CF, .int .i64 0]) (results_row_tmp rfl _ _ g2 CF _ rfl rfl (loadVar_msg _ _ _ _ b3 HC10.size)) rfl ?_
            have hg2 := HG.out
            have kr := (Keeps.refl (fun i => i = g2) wp).setRow (g := g2) (fun _ => rfl) CF
            have hOf : OwnH _ ah ch hs := kr.own HOp (fun g hg h => by rw [ownBlock_eq] at hg; exact hx3 g hg h)
            refine ⟨fun m' hm' => ?_, fun h => (by rw [hgm.out] at h; cases h)⟩
            rw [hgm.out] at hm'
            obtain rfl := Option.some.inj hm'
            refine ⟨_, ah, ch, rfl, HC10, ?_, KK10.trans ((kp.mono (S' := fun i => i = g2) (fun _ h _ => h.elim)).trans kr (fun _ h _ => h)) (fun i hi hlt => by omega)⟩
            rw [HM.out]
            exact ⟨zl0, zh0, zl1, zh1, zl2, zh2, zl3, zh3, zl4, zh4, ownH_at hOf h32s, h32s, (ownH_cap hOf).1, (ownH_cap hOf).2⟩
          · have hgn : Shut (getM bs = none) := shut (by unfold getM; rw [hpm.out]; show (if _ then _ else _) = _; rw [if_neg (fun h => he h.2)])
            go_wp2_with fail
            refine hput.mono ?_
            rintro e wp ⟨rfl, kp⟩
            have B2p := kp.blk B210 (fun h => h)
            have rE := rowOk_blk B2p HZ.size
            have hag0 := agg000
            have hne1 : (encMsg m == bs) = false := by rw [beq_eq_false_iff_ne]; exact he
            have KP := KK10.trans kp (fun _ h _ => h)
            generalize encMsg m = EM at *
            go_wp2_with fail
            rw [← zeroC_lit]
            have b3 := blk_setRow (cs := zeroC) B2p
            refine bodyPost_ret (v := .tuple #[.agg zeroC, .int .i64 4]) (results_row_tmp rfl _ _ g2 zeroC _ rfl rfl (loadVar_msg _ _ _ _ b3 zeroC_is.size)) rfl ?_
            have hg2 := HG.out
            exact ⟨fun m hm => (by rw [hgn.out] at hm; cases hm), fun _ => ⟨rfl, KP.trans ((Keeps.refl (fun i => i = g2) wp).setRow (fun _ => rfl) zeroC) (fun i hi hlt => by omega)⟩⟩
        · have hrp : rPut m = ([], 1) := by unfold rPut; rw [if_neg hy]
          rw [hrp] at hput
          have hgn : Shut (getM bs = none) := shut (by unfold getM; rw [hpm.out]; show (if _ then _ else _) = _; rw [if_neg (fun h => hy h.1)])
          go_wp2_with fail
          refine hput.mono ?_
          rintro e wp ⟨rfl, kp⟩
          have B2p := kp.blk B210 (fun h => h)
          have rE := rowOk_blk B2p HZ.size
          have hag0 := agg000
          have KP := KK10.trans kp (fun _ h _ => h)
          go_wp2_with fail
          rw [← zeroC_lit]
          have b3 := blk_setRow (cs := zeroC) B2p
          refine bodyPost_ret (v := .tuple #[.agg zeroC, .int .i64 4]) (results_row_tmp rfl _ _ g2 zeroC _ rfl rfl (loadVar_msg _ _ _ _ b3 zeroC_is.size)) rfl ?_
          have hg2 := HG.out
          exact ⟨fun m hm => (by rw [hgn.out] at hm; cases hm), fun _ => ⟨rfl, KP.trans ((Keeps.refl (fun i => i = g2) wp).setRow (fun _ => rfl) zeroC) (fun i hi hlt => by omega)⟩⟩

end Go.Proofs.Yteifmkfkekglpaa
