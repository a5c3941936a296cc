/- sha.block. -/
import Derived.Test.YteifmkfkekglpaaDoorSha2
import Derived.Deep.WholeRow
namespace Go.Proofs.YteifmkfkekglpaaDoor
open Go.RowKit

/-- The eight words while a block is taken in. -/
structure St where
  (a b c d e f g h : Nat)
def St.list (s : St) : List Nat := [s.a, s.b, s.c, s.d, s.e, s.f, s.g, s.h]
def St.Ok (s : St) : Prop := s.a < 4294967296 ∧ s.b < 4294967296 ∧ s.c < 4294967296 ∧ s.d < 4294967296 ∧ s.e < 4294967296 ∧ s.f < 4294967296 ∧ s.g < 4294967296 ∧ s.h < 4294967296
def St.one (s : St) (k w : Nat) : Nat := (s.h + (rot s.e 6 ^^^ rot s.e 11 ^^^ rot s.e 25) + ((s.e &&& s.f) ^^^ ((4294967295 - s.e) &&& s.g)) + k + w) % 4294967296
def St.two (s : St) : Nat := ((rot s.a 2 ^^^ rot s.a 13 ^^^ rot s.a 22) + ((s.a &&& s.b) ^^^ (s.a &&& s.c) ^^^ (s.b &&& s.c))) % 4294967296
def St.next (s : St) (k w : Nat) : St := ⟨(s.one k w + s.two) % 4294967296, s.a, s.b, s.c, (s.d + s.one k w) % 4294967296, s.e, s.f, s.g⟩
def rounds64 (ks ws : List Nat) : Nat → St → St
  | 0, s => s
  | n + 1, s => rounds64 ks ws n (s.next (at0 ks (63 - n)) (at0 ws (63 - n)))
def St.add (s t : St) : St := ⟨(s.a + t.a) % 4294967296, (s.b + t.b) % 4294967296, (s.c + t.c) % 4294967296, (s.d + t.d) % 4294967296, (s.e + t.e) % 4294967296, (s.f + t.f) % 4294967296, (s.g + t.g) % 4294967296, (s.h + t.h) % 4294967296⟩
/-- A block taken into the eight words. -/
def blockOf64 (ks : List Nat) (bs : List UInt8) (s : St) : St := s.add (rounds64 ks (sched 48 (words16 bs)) 64 s)
def St.val (s : St) : Array Value := #[u32V s.a, u32V s.b, u32V s.c, u32V s.d, u32V s.e, u32V s.f, u32V s.g, u32V s.h]

/-- The first j words added. -/
def addTo (j : Nat) (l m : List Nat) : List Nat := (List.range 8).map fun i => if i < j then (at0 l i + at0 m i) % 4294967296 else at0 l i
theorem at0_addTo {j i : Nat} {l m : List Nat} (hi : i < 8) : at0 (addTo j l m) i = if i < j then (at0 l i + at0 m i) % 4294967296 else at0 l i := by
  unfold addTo
  conv => lhs; unfold at0 List.getD
  rw [List.getElem?_map, List.getElem?_range hi]
  rfl
theorem addTo_ge {j i : Nat} {l m : List Nat} (h : j ≤ i) (hi : i < 8) : at0 (addTo j l m) i = at0 l i := by
  rw [at0_addTo hi, if_neg (by omega)]
theorem addTo_set (l m : List Nat) {j : Nat} (hj : j < 8) : (rowW 8 (addTo j l m)).setIfInBounds j (u32V ((at0 l j + at0 m j) % 4294967296)) = rowW 8 (addTo (j + 1) l m) := by
  have h8 : ∀ k, (addTo k l m).length = 8 := fun k => by unfold addTo; simp
  apply Array.ext
  · rw [Array.size_setIfInBounds, rowW_size (by rw [h8]; omega), rowW_size (by rw [h8]; omega)]
  · intro i h1 h2
    rw [Array.size_setIfInBounds, rowW_size (by rw [h8]; omega)] at h1
    apply Option.some.inj
    rw [← Array.getElem?_eq_getElem, ← Array.getElem?_eq_getElem, rowW_get (by rw [h8]; exact h1), at0_addTo h1]
    by_cases hij : j = i
    · subst hij
      rw [Array.getElem?_setIfInBounds_self_of_lt (by rw [rowW_size (by rw [h8]; omega)]; exact hj), if_pos (by omega)]
    · rw [Array.getElem?_setIfInBounds_ne hij, rowW_get (by rw [h8]; exact h1), at0_addTo h1]
      by_cases h3 : i < j
      · rw [if_pos h3, if_pos (by omega)]
      · rw [if_neg h3, if_neg (by omega)]

theorem not_bits {x : Nat} (h : x < 4294967296) : bits .xor .u32 IntKind.u32.max (x : Int) = ((4294967295 - x : Nat) : Int) := by
  have h1 := u32_xor_nat 4294967295 x (by decide) h
  refine Eq.trans h1 ?_
  congr 1
  have e : (4294967295 ^^^ x) = (~~~ (BitVec.ofNat 32 x)).toNat := by
    rw [BitVec.not_def, BitVec.toNat_xor, BitVec.toNat_allOnes, BitVec.toNat_ofNat, Nat.mod_eq_of_lt h]
  rw [e, BitVec.toNat_not, BitVec.toNat_ofNat, Nat.mod_eq_of_lt h]
theorem one_bits (s : St) {kk ww : Nat} (he : s.e < 4294967296) (hf : s.f < 4294967296) (hg : s.g < 4294967296) :
    IntKind.u32.wrap (IntKind.u32.wrap (IntKind.u32.wrap (IntKind.u32.wrap ((s.h : Int) + bits .xor .u32 (bits .xor .u32 (rot s.e 6 : Int) (rot s.e 11 : Int)) (rot s.e 25 : Int)) +
      bits .xor .u32 (bits .and .u32 (s.e : Int) (s.f : Int)) (bits .and .u32 (bits .xor .u32 IntKind.u32.max (s.e : Int)) (s.g : Int))) + (kk : Int)) + (ww : Int)) = ((s.one kk ww : Nat) : Int) := by
  rw [not_bits he, xor3 (rot_lt _ _ he) (rot_lt _ _ he) (rot_lt _ _ he), u32_and_nat _ _ he hf, u32_and_nat _ _ (by omega) hg, u32_xor_nat _ _ (Nat.and_lt_two_pow (n := 32) _ hf) (Nat.and_lt_two_pow (n := 32) _ hg)]
  unfold St.one
  generalize rot s.e 6 ^^^ rot s.e 11 ^^^ rot s.e 25 = x
  generalize (s.e &&& s.f) ^^^ ((4294967295 - s.e) &&& s.g) = y
  rw [IntKind.wrap_u32, IntKind.wrap_u32, IntKind.wrap_u32, IntKind.wrap_u32]
  omega
theorem two_bits (s : St) (ha : s.a < 4294967296) (hb : s.b < 4294967296) (hc : s.c < 4294967296) :
    IntKind.u32.wrap (bits .xor .u32 (bits .xor .u32 (rot s.a 2 : Int) (rot s.a 13 : Int)) (rot s.a 22 : Int) +
      bits .xor .u32 (bits .xor .u32 (bits .and .u32 (s.a : Int) (s.b : Int)) (bits .and .u32 (s.a : Int) (s.c : Int))) (bits .and .u32 (s.b : Int) (s.c : Int))) = ((s.two : Nat) : Int) := by
  rw [xor3 (rot_lt _ _ ha) (rot_lt _ _ ha) (rot_lt _ _ ha), u32_and_nat _ _ ha hb, u32_and_nat _ _ ha hc, u32_and_nat _ _ hb hc, xor3 (Nat.and_lt_two_pow (n := 32) _ hb) (Nat.and_lt_two_pow (n := 32) _ hc) (Nat.and_lt_two_pow (n := 32) _ hc)]
  unfold St.two
  rw [IntKind.wrap_u32]
  omega

theorem add_ok (s t : St) : (s.add t).Ok :=
  ⟨Nat.mod_lt _ (by decide), Nat.mod_lt _ (by decide), Nat.mod_lt _ (by decide), Nat.mod_lt _ (by decide), Nat.mod_lt _ (by decide), Nat.mod_lt _ (by decide), Nat.mod_lt _ (by decide), Nat.mod_lt _ (by decide)⟩
theorem blockOf64_ok (ks : List Nat) (bs : List UInt8) (s : St) : (blockOf64 ks bs s).Ok := add_ok _ _

attribute [local go_sem ↓] exec_load_w64 exec_store_w64 exec_load_w8 exec_store_w8
theorem rowOk_new2 (w : World) (A : Obj) (cs : Array Value) (t : TypeId) (n : Nat) : rowOk ((w.alloc A).alloc (.cells cs t)) (w.heap.size + 1) n = (cs.size == n) := by
  have := rowOk_new (w.alloc A) cs t n
  rwa [World.size_alloc] at this
theorem setRow_new2 (w : World) (A : Obj) (c c' : Array Value) (t : TypeId) : ((w.alloc A).alloc (.cells c t)).setRow (w.heap.size + 1) c' = (w.alloc A).alloc (.cells c' t) := by
  have := World.setRow_alloc_new (w.alloc A) c c' t
  rwa [World.size_alloc] at this
theorem aggOk_w8 (a b c d e f g h : Int) : aggOk 8 (.agg #[.int .u32 a, .int .u32 b, .int .u32 c, .int .u32 d, .int .u32 e, .int .u32 f, .int .u32 g, .int .u32 h]) = true := by
  simp [aggOk, Value.oneCell']
attribute [local go_sem] rowOk_new World.setRow_alloc_new rowOk_new2 setRow_new2 aggOk_w8

set_option maxRecDepth 100000 in
set_option maxHeartbeats 2000000 in
theorem block_any {w : World} {g off : Nat} (c : Nat) {bs : List UInt8} (hB : BytesAt w (some ⟨g, off, none⟩) bs) (hl : bs.length = 64) (s : St) (hs : s.Ok) (ks : List Nat) (hks : ks.length = 64) (hk : ∀ i, at0 ks i < 4294967296) :
    Calls Tryd.prog 58 #[.agg s.val, .agg (rowW 64 ks), .slice (some ⟨g, off, none⟩) 64 c] w fun e w' => e = .returned (.agg (blockOf64 ks bs s).val) ∧ Keeps Nothing w w' := by
  have HL := shut hl
  have HKS := shut hks
  have HK := shut hk
  have HS := shut hs
  clear hl hks hk hs
  obtain ⟨Z, hZ⟩ : ∃ Z, s.val = Z := ⟨_, rfl⟩
  obtain ⟨KZ, hKZ⟩ : ∃ KZ, rowW 64 ks = KZ := ⟨_, rfl⟩
  rw [hZ, hKZ]
  have hZs : Z.size = 8 := by rw [← hZ]; rfl
  have hZ1 : Z.all (·.oneCell') = true := by rw [← hZ]; simp [St.val, u32V, Value.oneCell']
  have hz8 : (rowW 8 []).size = 8 := rowW_size (by simp)
  have HZ := shut hZ
  have HKZ := shut hKZ
  clear hZ hKZ
  go_enter Tryd.func58, Tryd.ntmps58
  go_wp2_with fail
  rw [← rowW_lit8]
  have hBa : BytesAt (((w.alloc (.cells Z 96)).alloc (.cells KZ 97)).alloc (.cells (rowW 8 []) 96)) (some ⟨g, off, none⟩) bs := hB.keeps ((((Keeps.refl Nothing w).alloc _).alloc _).alloc _) (fun _ _ h => h)
  have KA : Keeps Nothing w (((w.alloc (.cells Z 96)).alloc (.cells KZ 97)).alloc (.cells (rowW 8 []) 96)) := (((Keeps.refl Nothing w).alloc _).alloc _).alloc _
  have A0 : Blk (((w.alloc (.cells Z 96)).alloc (.cells KZ 97)).alloc (.cells (rowW 8 []) 96)) w.heap.size Z 96 := blk_alloc (blk_alloc (blk_new w _ _) _) _
  have A1 : Blk (((w.alloc (.cells Z 96)).alloc (.cells KZ 97)).alloc (.cells (rowW 8 []) 96)) (w.heap.size + 1) KZ 97 := by
    have := blk_new (w.alloc (.cells Z 96)) KZ 97
    rw [World.size_alloc] at this
    exact blk_alloc this _
  have A2 : Blk (((w.alloc (.cells Z 96)).alloc (.cells KZ 97)).alloc (.cells (rowW 8 []) 96)) (w.heap.size + 1 + 1) (rowW 8 []) 96 := by
    have := blk_new ((w.alloc (.cells Z 96)).alloc (.cells KZ 97)) (rowW 8 []) 96
    rw [World.size_alloc, World.size_alloc] at this
    exact this
  refine (spread_any c hBa HL.out).mono ?_
  rintro e w1 ⟨rfl, K1⟩
  have B0 := K1.blk A0 (fun h => h)
  have B1 := K1.blk A1 (fun h => h)
  have B2 := K1.blk A2 (fun h => h)
  have KB := KA.trans K1 (fun _ h _ => h)
  clear hBa KA A0 A1 A2 K1
  obtain ⟨ws, hws⟩ : ∃ ws, sched 48 (words16 bs) = ws := ⟨_, rfl⟩
  have HWL : Shut (ws.length = 64) := shut (by rw [← hws]; exact sched_len 48 _ (by unfold words16; simp) (by omega))
  have HWB : Shut (∀ i, at0 ws i < 4294967296) := shut (by rw [← hws]; exact sched_lt 48 _ (words16_lt bs))
  rw [hws]
  have HWS := shut hws
  clear hws
  obtain ⟨WZ, hWZ⟩ : ∃ WZ, rowW 64 ws = WZ := ⟨_, rfl⟩
  rw [hWZ]
  have hWs : WZ.size = 64 := by rw [← hWZ]; exact rowW_size (by rw [HWL.out]; exact Nat.le_refl _)
  have hag := aggOk_agg 64 WZ hWs (by rw [← hWZ]; exact rowW_one _ _)
  have hag8 := aggOk_agg 8 Z hZs hZ1
  have HWZ := shut hWZ
  clear hWZ
  have ro : ∀ o, rowOk (w1.alloc o) w.heap.size 8 = true := fun o => rowOk_blk (blk_alloc B0 o) hZs
  have rv : ∀ o, rowOf (w1.alloc o) w.heap.size = Z := fun o => rowOf_blk (blk_alloc B0 o)
  have hw1 : w.heap.size + 1 + 1 < w1.heap.size := lt_of_block B2
  go_wp2_with fail
  obtain ⟨W, hW⟩ : ∃ W, W = (w1.alloc (.cells WZ 97)).alloc (.cells Z 96) := ⟨_, rfl⟩
  rw [← hW]
  have C0 : Blk W w.heap.size Z 96 := hW ▸ blk_alloc (blk_alloc B0 _) _
  have C1 : Blk W (w.heap.size + 1) KZ 97 := hW ▸ blk_alloc (blk_alloc B1 _) _
  have C2 : Blk W (w.heap.size + 1 + 1) (rowW 8 []) 96 := hW ▸ blk_alloc (blk_alloc B2 _) _
  have C3 : Blk W w1.heap.size WZ 97 := hW ▸ blk_alloc (blk_new w1 _ _) _
  have C4 : Blk W (w1.heap.size + 1) Z 96 := by
    rw [hW]
    have := blk_new (w1.alloc (.cells WZ 97)) Z 96
    rw [World.size_alloc] at this
    exact this
  have KC : Keeps Nothing w W := hW ▸ ((KB.alloc _).alloc _)
  obtain ⟨q, hq⟩ : ∃ q, w1.heap.size = q := ⟨_, rfl⟩
  rw [hq] at C3 C4 hw1 ⊢
  clear hW B0 B1 B2 KB ro rv hag hag8 hq
  go_loopw [22] (fun s0 wr => ∃ (i : Nat) (v : St), s0 = .int .i64 i ∧ i ≤ 64 ∧ v.Ok ∧ Shut (rounds64 ks ws (64 - i) v = rounds64 ks ws 64 s) ∧ Blk wr w.heap.size Z 96 ∧ Blk wr (w.heap.size + 1) KZ 97 ∧ Blk wr (w.heap.size + 1 + 1) (rowW 8 []) 96 ∧ Blk wr q WZ 97 ∧ Blk wr (q + 1) v.val 96 ∧ Keeps Nothing w wr) (fun s0 _ => 64 - (intOf s0).toNat)
  case atStart => exact ⟨0, s, rfl, by omega, HS.out, shut rfl, C0, C1, C2, C3, HZ.out ▸ C4, KC⟩
  case round =>
    clear C0 C1 C2 C3 C4 KC
    obtain ⟨i, v, rfl, hi, hv, HR, C0, C1, C2, C3, C4, KC⟩ := hrel
    by_cases hlt : i < 64
    · obtain ⟨va, vb, vc, vd, ve, vf, vg, vh⟩ := v
      obtain ⟨oa, ob, oc, od, oe, of, og, oh⟩ := hv
      simp only at oa ob oc od oe of og oh
      have ca : wr.cell? ⟨q + 1, 0, none⟩ = some (.int .u32 va) := blk_cell C4 0 rfl
      have cb : wr.cell? ⟨q + 1, 1, none⟩ = some (.int .u32 vb) := blk_cell C4 1 rfl
      have cc : wr.cell? ⟨q + 1, 2, none⟩ = some (.int .u32 vc) := blk_cell C4 2 rfl
      have cd : wr.cell? ⟨q + 1, 3, none⟩ = some (.int .u32 vd) := blk_cell C4 3 rfl
      have ce : wr.cell? ⟨q + 1, 4, none⟩ = some (.int .u32 ve) := blk_cell C4 4 rfl
      have cf : wr.cell? ⟨q + 1, 5, none⟩ = some (.int .u32 vf) := blk_cell C4 5 rfl
      have cg : wr.cell? ⟨q + 1, 6, none⟩ = some (.int .u32 vg) := blk_cell C4 6 rfl
      have ch : wr.cell? ⟨q + 1, 7, none⟩ = some (.int .u32 vh) := blk_cell C4 7 rfl
      have ck : wr.cell? ⟨w.heap.size + 1, i, none⟩ = some (.int .u32 (at0 ks i)) := blk_cell C1 i (by rw [← HKZ.out]; exact rowW_get (by rw [HKS.out]; exact hlt))
      have cw : wr.cell? ⟨q, i, none⟩ = some (.int .u32 (at0 ws i)) := blk_cell C3 i (by rw [← HWZ.out]; exact rowW_get (by rw [HWL.out]; exact hlt))
      have ok := HK.out i
      have ow := HWB.out i
      have hrn : rounds64 ks ws (64 - (i + 1)) (St.next ⟨va, vb, vc, vd, ve, vf, vg, vh⟩ (at0 ks i) (at0 ws i)) = rounds64 ks ws 64 s := by
        rw [← HR.out, show 64 - i = (64 - (i + 1)) + 1 by omega]
        show _ = rounds64 ks ws (64 - (i + 1)) (St.next _ (at0 ks (63 - (64 - (i + 1)))) (at0 ws (63 - (64 - (i + 1)))))
        rw [show 63 - (64 - (i + 1)) = i by omega]
      have HRN := shut hrn
      obtain ⟨kk, hkk⟩ : ∃ kk, at0 ks i = kk := ⟨_, rfl⟩
      obtain ⟨ww, hww⟩ : ∃ ww, at0 ws i = ww := ⟨_, rfl⟩
      rw [hkk] at ck ok HRN
      rw [hww] at cw ow HRN
      have g0 : (0 : Int) ≤ i := by omega
      have l0 : (i : Int) < 64 := by omega
      have f8 := rowOk_blk C4 (show (St.val ⟨va, vb, vc, vd, ve, vf, vg, vh⟩).size = 8 from rfl)
      clear hrn hkk hww
      go_wp2_with fail
      go_quiet (fail)
      go_wp2_with fail
      have D0 : Blk (wr.drewN nq).drew w.heap.size Z 96 := C0
      have D1 : Blk (wr.drewN nq).drew (w.heap.size + 1) KZ 97 := C1
      have D2 : Blk (wr.drewN nq).drew (w.heap.size + 1 + 1) (rowW 8 []) 96 := C2
      have D3 : Blk (wr.drewN nq).drew q WZ 97 := C3
      have D4 : Blk (wr.drewN nq).drew (q + 1) (St.val ⟨va, vb, vc, vd, ve, vf, vg, vh⟩) 96 := C4
      have KD : Keeps Nothing w (wr.drewN nq).drew := (KC.drewN nq).drew
      have f9 : rowOk (wr.drewN nq).drew (q + 1) 8 = true := f8
      have hsg : (if IntKind.u32.signed = true then (-1 : Int) else IntKind.u32.max) = IntKind.u32.max := rfl
      refine wp_region_mix (fun W => W.cell? ⟨q + 1, 7, none⟩ = some (.int .u32 vh) ∧ W.cell? ⟨w.heap.size + 1, i, none⟩ = some (.int .u32 kk) ∧ W.cell? ⟨q, i, none⟩ = some (.int .u32 ww)) [(true, 0), (true, 1), (true, 2), (true, 4), (true, 7), (true, 11), (true, 12), (true, 13), (true, 14), (true, 15), (true, 16), (true, 17), (true, 18), (true, 20), (true, 21), (true, 22), (true, 24), (true, 25), (true, 26), (false, 3), (false, 5), (true, 6), (false, 8), (true, 9), (true, 10), (true, 19), (true, 23), (true, 27), (true, 28)] (by kernel_rfl) (by kernel_rfl) ⟨ch, ck, cw⟩ ?_
      simp only [mixItems, List.map_cons, List.map_nil, List.getD_cons_zero, List.getD_cons_succ]
      change wpMix _ _ _ _ _ _ (wr.drewN nq).drew
      have ca := blk_cell D4 0 (show (St.val ⟨va, vb, vc, vd, ve, vf, vg, vh⟩)[0]? = some (.int .u32 va) from rfl)
      have cd := blk_cell D4 3 (show (St.val ⟨va, vb, vc, vd, ve, vf, vg, vh⟩)[3]? = some (.int .u32 vd) from rfl)
      have ch := blk_cell D4 7 (show (St.val ⟨va, vb, vc, vd, ve, vf, vg, vh⟩)[7]? = some (.int .u32 vh) from rfl)
      have ck : (wr.drewN nq).drew.cell? ⟨w.heap.size + 1, i, none⟩ = some (.int .u32 kk) := ck
      have cw : (wr.drewN nq).drew.cell? ⟨q, i, none⟩ = some (.int .u32 ww) := cw
      clear cb cc ce cf cg C0 C1 C2 C3 C4 KC f8
      generalize (wr.drewN nq).drew = U at *
      repeat (refine wpMix_free (fun K hK => ?_); go_simp; refine hK _ ?_; clear hK K)
      refine wpMix_yield (v := .int .u32 vh) (fun W hW => ?_) (fun K hK => ?_)
      · obtain ⟨z1, z2, z3⟩ := hW
        go_simp
      go_simp
      refine hK _ ?_
      clear hK K
      repeat (refine wpMix_free (fun K hK => ?_); go_simp; refine hK _ ?_; clear hK K)
      refine wpMix_yield (v := .int .u32 kk) (fun W hW => ?_) (fun K hK => ?_)
      · obtain ⟨z1, z2, z3⟩ := hW
        go_simp
      go_simp
      refine hK _ ?_
      clear hK K
      repeat (refine wpMix_free (fun K hK => ?_); go_simp; refine hK _ ?_; clear hK K)
      refine wpMix_yield (v := .int .u32 ww) (fun W hW => ?_) (fun K hK => ?_)
      · obtain ⟨z1, z2, z3⟩ := hW
        go_simp
      go_simp
      refine hK _ ?_
      clear hK K
      refine wpMix_one (fun K hK => ?_)
      refine wpList_plain rfl (fun K2 hK2 => ?_)
      go_simp
      refine (turn_at ve oe 6 6 rfl (by omega) (by omega) _).mono ?_
      rintro e w' ⟨rfl, rfl⟩
      go_simp
      refine hK2 _ _ (hK _ _ ⟨ch, ck, cw⟩ ?_)
      clear hK K hK2 K2
      refine wpMix_one (fun K hK => ?_)
      refine wpList_plain rfl (fun K2 hK2 => ?_)
      go_simp
      refine (turn_at ve oe 11 11 rfl (by omega) (by omega) _).mono ?_
      rintro e w' ⟨rfl, rfl⟩
      go_simp
      refine hK2 _ _ (hK _ _ ⟨ch, ck, cw⟩ ?_)
      clear hK K hK2 K2
      repeat (refine wpMix_free (fun K hK => ?_); go_simp; refine hK _ ?_; clear hK K)
      refine wpMix_one (fun K hK => ?_)
      refine wpList_plain rfl (fun K2 hK2 => ?_)
      go_simp
      refine (turn_at ve oe 25 25 rfl (by omega) (by omega) _).mono ?_
      rintro e w' ⟨rfl, rfl⟩
      go_simp
      refine hK2 _ _ (hK _ _ ⟨ch, ck, cw⟩ ?_)
      clear hK K hK2 K2
      repeat (refine wpMix_free (fun K hK => ?_); go_simp; refine hK _ ?_; clear hK K)
      rw [one_bits ⟨va, vb, vc, vd, ve, vf, vg, vh⟩ oe of og]
      have hon : St.one ⟨va, vb, vc, vd, ve, vf, vg, vh⟩ kk ww < 4294967296 := Nat.mod_lt _ (by decide)
      obtain ⟨on, hone⟩ : ∃ on, St.one ⟨va, vb, vc, vd, ve, vf, vg, vh⟩ kk ww = on := ⟨_, rfl⟩
      rw [hone] at hon ⊢
      have HONE := shut hone
      clear hone
      refine wpMix_nil ?_
      go_wp2_with fail
      refine (turn_at va oa 2 2 rfl (by omega) (by omega) _).mono ?_
      rintro e w' ⟨rfl, rfl⟩
      go_wp2_with fail
      refine (turn_at va oa 13 13 rfl (by omega) (by omega) _).mono ?_
      rintro e w' ⟨rfl, rfl⟩
      go_wp2_with fail
      refine (turn_at va oa 22 22 rfl (by omega) (by omega) _).mono ?_
      rintro e w' ⟨rfl, rfl⟩
      have tb := two_bits ⟨va, vb, vc, vd, ve, vf, vg, vh⟩ oa ob oc
      simp only at tb
      have htw : St.two ⟨va, vb, vc, vd, ve, vf, vg, vh⟩ < 4294967296 := Nat.mod_lt _ (by decide)
      obtain ⟨tw, htwo⟩ : ∃ tw, St.two ⟨va, vb, vc, vd, ve, vf, vg, vh⟩ = tw := ⟨_, rfl⟩
      rw [htwo] at htw tb
      have HTWO := shut htwo
      clear htwo
      go_wp2_with fail
      have hrow : (#[Value.int .u32 (((on : Int) + (tw : Int)) % 4294967296), Value.int .u32 (va : Int), Value.int .u32 (vb : Int), Value.int .u32 (vc : Int), Value.int .u32 (((vd : Int) + (on : Int)) % 4294967296), Value.int .u32 (ve : Int), Value.int .u32 (vf : Int), Value.int .u32 (vg : Int)] : Array Value) = (St.next ⟨va, vb, vc, vd, ve, vf, vg, vh⟩ kk ww).val := by
        show _ = #[u32V ((St.one ⟨va, vb, vc, vd, ve, vf, vg, vh⟩ kk ww + St.two ⟨va, vb, vc, vd, ve, vf, vg, vh⟩) % 4294967296), u32V va, u32V vb, u32V vc, u32V ((vd + St.one ⟨va, vb, vc, vd, ve, vf, vg, vh⟩ kk ww) % 4294967296), u32V ve, u32V vf, u32V vg]
        rw [HONE.out, HTWO.out]
        rfl
      rw [hrow]
      have hok : (St.next ⟨va, vb, vc, vd, ve, vf, vg, vh⟩ kk ww).Ok := ⟨Nat.mod_lt _ (by decide), oa, ob, oc, Nat.mod_lt _ (by decide), oe, of, og⟩
      have E4 := blk_setRow (cs := (St.next ⟨va, vb, vc, vd, ve, vf, vg, vh⟩ kk ww).val) D4
      generalize St.next ⟨va, vb, vc, vd, ve, vf, vg, vh⟩ kk ww = v2 at *
      clear hrow tb hsg
      go_roundw
      case rel => exact ⟨i + 1, v2, by go_num, by omega, hok, HRN, blk_setRow_other D0 (by omega), blk_setRow_other D1 (by omega), blk_setRow_other D2 (by omega), blk_setRow_other D3 (by omega), E4, KD.setRow (fun h => absurd h (by have := lt_of_block D2; omega)) _⟩
      case measure => simp [intOf]; omega
    · have hi64 : i = 64 := by omega
      have hfin : v = rounds64 ks ws 64 s := by have := HR.out; rw [hi64] at this; exact this
      have HF := shut hfin
      clear hi64 hfin
      have hZ8 : Z = rowW 8 (addTo 0 s.list v.list) := by rw [← HZ.out]; rfl
      have HZ8 := shut hZ8
      clear hZ8
      go_wp2_with fail
      go_loopw [100] (fun s0 wx => ∃ j : Nat, s0 = .int .i64 j ∧ j ≤ 8 ∧ Blk wx w.heap.size (rowW 8 (addTo j s.list v.list)) 96 ∧ Blk wx (w.heap.size + 1 + 1) (rowW 8 []) 96 ∧ Blk wx (q + 1) (rowW 8 v.list) 96 ∧ Keeps Nothing w wx) (fun s0 _ => 8 - (intOf s0).toNat)
      case atStart => exact ⟨0, rfl, by omega, HZ8.out ▸ C0, C2, C4, KC⟩
      case round =>
        clear C0 C2 C4 KC
        obtain ⟨j, rfl, hj, C0, C2, C4, KC⟩ := hrel
        by_cases hlt8 : j < 8
        · have hlenA : (addTo j s.list v.list).length = 8 := by unfold addTo; simp
          have ch : wr.cell? ⟨w.heap.size, j, none⟩ = some (.int .u32 (at0 s.list j)) := blk_cell C0 j (by rw [rowW_get (by rw [hlenA]; exact hlt8), addTo_ge (Nat.le_refl j) hlt8]; rfl)
          have cv : wr.cell? ⟨q + 1, j, none⟩ = some (.int .u32 (at0 v.list j)) := blk_cell C4 j (rowW_get hlt8)
          have hfr := blk_free C0 j
          have hset := addTo_set s.list v.list hlt8
          have HSET := shut hset
          obtain ⟨x, hx⟩ : ∃ x, at0 s.list j = x := ⟨_, rfl⟩
          obtain ⟨y, hy⟩ : ∃ y, at0 v.list j = y := ⟨_, rfl⟩
          rw [hx] at ch HSET
          rw [hy] at cv HSET
          have g0 : (0 : Int) ≤ j := by omega
          have l0 : (j : Int) < 8 := by omega
          clear hset hx hy hlenA
          go_wp2_with fail
          go_still_tail 9, (by kernel_rfl)
          change wpList _ _ _ _ _ wr.drew
          have C0' : Blk wr.drew w.heap.size (rowW 8 (addTo j s.list v.list)) 96 := C0
          have C2' : Blk wr.drew (w.heap.size + 1 + 1) (rowW 8 []) 96 := C2
          have C4' : Blk wr.drew (q + 1) (rowW 8 v.list) 96 := C4
          have KC' := KC.drew
          have ch' : wr.drew.cell? ⟨w.heap.size, j, none⟩ = some (.int .u32 x) := ch
          have hfr' : wr.drew.frozen? ⟨w.heap.size, j, none⟩ = false := hfr
          clear C0 C2 C4 KC ch cv hfr
          generalize wr.drew = V at *
          go_wp2_with fail
          go_roundw
          case rel =>
            have hs := blk_set C0' j (u32V ((x + y) % 4294967296))
            rw [HSET.out] at hs
            exact ⟨j + 1, by go_num, by omega, hs, blk_other C2' _ (by show _ ≠ w.heap.size; omega) _, blk_other C4' _ (by show _ ≠ w.heap.size; omega) _, KC'.setCell (fun h => absurd h (Nat.lt_irrefl _)) _⟩
          case measure => simp [intOf]; omega
        · have hj8 : j = 8 := by omega
          have hA : rowW 8 (addTo j s.list v.list) = (s.add v).val := by rw [hj8]; rfl
          rw [hA] at C0
          clear hA hj8
          have hfin : s.add v = blockOf64 ks bs s := by rw [HF.out, ← HWS.out]; rfl
          rw [hfin] at C0
          clear hfin
          obtain ⟨Y, hY⟩ : ∃ Y, (blockOf64 ks bs s).val = Y := ⟨_, rfl⟩
          have hYs : Y.size = 8 := by rw [← hY]; rfl
          have hag := aggOk_agg 8 Y hYs (by rw [← hY]; simp [St.val, u32V, Value.oneCell'])
          rw [hY] at C0
          have HY := shut hY
          clear hY
          have r1 := rowOk_blk C0 hYs
          have r2 := rowOk_blk C2 hz8
          have e2 := rowOf_blk C0
          go_wp2_with fail
          have b3 := blk_setRow (cs := Y) C2
          refine bodyPost_ret (v := .agg Y) (results_cell_row rfl _ _ (w.heap.size + 1 + 1) _ Y (0, 0) _ rfl b3 Tryd.underlying96 rfl (by rw [infoW8, hYs])) rfl ?_
          exact ⟨by rw [HY.out], KC.setRow (fun h => absurd h (by omega)) Y⟩

attribute [irreducible] rounds64 blockOf64

end Go.Proofs.YteifmkfkekglpaaDoor
