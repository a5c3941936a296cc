/- sha.Sum. -/
import Derived.Test.YteifmkfkekglpaaDoorSha4
import Derived.Deep.LoopGhost
namespace Go.Proofs.YteifmkfkekglpaaDoor
open Go.RowKit

attribute [local go_sem ↓] exec_load_w64 exec_store_w64 exec_load_w8 exec_store_w8 exec_load_hash exec_store_hash
attribute [local go_sem] rowOk_new World.setRow_alloc_new rowOk_new2 setRow_new2 aggOk_w8

theorem size8 (w : World) : (sizeOf (Tryd.prog.elem 25)).run Tryd.prog w = .ok 1 w := by kernel_rfl

set_option maxRecDepth 100000 in
/-- 's[j:]' of a slice of bytes, in whatever world; where its bytes lie. -/
theorem slice_from {w : World} {ao : Option Addr} {n c j : Nat} {bs : List UInt8} (hn : bs.length = n) (hB : BytesAt w ao bs) (hsp : ∀ a, ao = some a → a.spot = none) (hj : j ≤ n) (hc : n ≤ c) :
    ∃ aoR, (∀ W, (Instr.slice 25 (.slice ao n c) (some (.int .i64 (j : Int))) none none).run Tryd.prog W = .ok (.slice aoR (n - j) (c - j)) W) ∧ BytesAt w aoR (bs.drop j) := by
  have hrun : ∀ W, (Instr.slice 25 (.slice ao n c) (some (.int .i64 (j : Int))) none none).run Tryd.prog W = .ok (sliced ao j n c 1) W := fun W => by
    rw [run_slice_l W 25 ao n c (by exact Tryd.underlying25) .i64 j (by omega) (by omega), size8]
    simp [Result.andThen]
  have hdrop : j = n → bs.drop j = [] := fun e => List.drop_of_length_le (by omega)
  cases ao with
  | none =>
    have hb := hB.1 rfl
    have hn0 : n = 0 := by rw [← hn, hb]; rfl
    refine ⟨none, fun W => ?_, ?_⟩
    · rw [hrun W]; simp [sliced]
    · rw [hb, List.drop_nil]; exact bytesAt_nil none
  | some a =>
    by_cases hcj : c = j
    · refine ⟨some a, fun W => ?_, ?_⟩
      · rw [hrun W]; simp [sliced, hcj]
      · rw [hdrop (by omega)]; exact bytesAt_nil _
    · refine ⟨some (a.add j), fun W => ?_, ⟨fun e => (by cases e), fun a' e i x hx => ?_⟩⟩
      · rw [hrun W]; simp [sliced, hcj]
      · obtain rfl := Option.some.inj e
        have hs := hsp a rfl
        obtain ⟨b, o, sp⟩ := a
        simp only at hs
        subst hs
        rw [List.getElem?_drop] at hx
        have := hB.2 _ rfl (j + i) x hx
        rw [Addr.add_mid'] at this ⊢
        rw [Addr.add_mid', Nat.add_assoc]
        exact this

/-- The words' and the eight words' blocks. -/
structure ShaW (w0 w : World) (H K V : Nat) (s : St) : Prop where
  h : Blk w H (zeros32.map byteV).toArray 70
  k : Blk w K (rowW 64 kWords) 97
  v : Blk w V s.val 96
  keep : Keeps Nothing w0 w
  hn : w0.heap.size ≤ H
  kn : w0.heap.size ≤ K
  vn : w0.heap.size ≤ V
  hk : H ≠ K
  hv : H ≠ V
  kv : K ≠ V

theorem ShaW.keepsN {w0 w w' : World} {H K V : Nat} {s : St} (h : ShaW w0 w H K V s) (k : Keeps Nothing w w') : ShaW w0 w' H K V s :=
  ⟨k.blk h.h (fun h => h), k.blk h.k (fun h => h), k.blk h.v (fun h => h), h.keep.trans k (fun _ h _ => h), h.hn, h.kn, h.vn, h.hk, h.hv, h.kv⟩
theorem ShaW.put {w0 w : World} {H K V : Nat} {s : St} (h : ShaW w0 w H K V s) (t : St) : ShaW w0 (w.setRow V t.val) H K V t :=
  ⟨blk_setRow_other h.h h.hv, blk_setRow_other h.k h.kv, blk_setRow h.v, h.keep.setRow (fun hh => absurd hh (by have := h.vn; omega)) _, h.hn, h.kn, h.vn, h.hk, h.hv, h.kv⟩
theorem ShaW.grow {w0 w w' : World} {H K V : Nat} {s : St} {ao : Option Addr} {cap : Nat} {P : List UInt8} (h : ShaW w0 w H K V s) (ho : Own8 w 5 ao cap P) (k : Keeps (fun k => blockOf ao = some k) w w') (hf : ∀ g, blockOf ao = some g → w0.heap.size ≤ g) : ShaW w0 w' H K V s :=
  ⟨k.blk h.h (own8_ne ho h.h (by decide)), k.blk h.k (own8_ne ho h.k (by decide)), k.blk h.v (own8_ne ho h.v (by decide)), h.keep.trans k (fun i hi hlt => by have := hf i hi; omega), h.hn, h.kn, h.vn, h.hk, h.hv, h.kv⟩
/-- .. and a slice of bytes of its own. -/
structure ShaP (w0 w : World) (H K V : Nat) (s : St) (ao : Option Addr) (cap : Nat) (P : List UInt8) : Prop where
  sha : ShaW w0 w H K V s
  own : Own8 w 5 ao cap P
  fresh : ∀ g, blockOf ao = some g → w0.heap.size ≤ g
theorem ShaP.app {w0 w wa w1 : World} {H K V : Nat} {s : St} {ao ao' : Option Addr} {cap cap' : Nat} {P P' : List UInt8} (h : ShaP w0 w H K V s ao cap P) (ka : Keeps Nothing w wa) (ho : Own8 w1 5 ao' cap' P') (k : Keeps (fun k => blockOf ao = some k) wa w1) {B : Nat} (m : Moved B ao ao') (hB : w.heap.size ≤ B) :
    ShaP w0 w1 H K V s ao' cap' P' :=
  ⟨(h.sha.keepsN ka).grow (ka.own h.own (fun _ _ h => h)) k h.fresh, ho, m.new (by have := h.sha.keep.size; omega) h.fresh⟩
theorem ShaP.empty {w0 w : World} {H K V : Nat} {s : St} (h : ShaW w0 w H K V s) : ShaP w0 (w.alloc (.cells #[] 5)) H K V s (some ⟨w.heap.size, 0, none⟩) 0 [] :=
  ⟨h.keepsN ((Keeps.refl _ _).alloc _), own8_empty w, fun g hg => by simp [blockOf] at hg; have := h.keep.size; omega⟩
theorem padZ_lt (n : Nat) : padZ n < 64 := Nat.mod_lt _ (by decide)
theorem padZ_stop (n z : Nat) (h : z < padZ n) : (n + 1 + z) % 64 ≠ 56 := by unfold padZ at h; omega
theorem padZ_end (n : Nat) : (n + 1 + padZ n) % 64 = 56 := by unfold padZ; omega
theorem St.val_size (s : St) : s.val.size = 8 := rfl
theorem St.val_one (s : St) : s.val.all (·.oneCell') = true := by simp [St.val, u32V, Value.oneCell']
theorem next_ok {s : St} (k w : Nat) (h : s.Ok) : (s.next k w).Ok := by
  obtain ⟨oa, ob, oc, od, oe, of, og, oh⟩ := h
  exact ⟨Nat.mod_lt _ (by decide), oa, ob, oc, Nat.mod_lt _ (by decide), oe, of, og⟩
theorem absorb_ok (n : Nat) : ∀ (l : List UInt8) (s : St), s.Ok → (absorb n l s).Ok := by
  induction n with
  | zero => intro l s h; rw [absorb_zero]; exact h
  | succ n ih => intro l s _; rw [absorb_step]; exact ih _ _ (blockOf64_ok _ _ _)
theorem absorb_add (n : Nat) : ∀ (m : Nat) (l : List UInt8) (s : St), absorb (n + m) l s = absorb m (l.drop (64 * n)) (absorb n l s) := by
  induction n with
  | zero => intro m l s; rw [absorb_zero, Nat.zero_add, Nat.mul_zero, List.drop_zero]
  | succ n ih =>
    intro m l s
    rw [show n + 1 + m = (n + m) + 1 by omega, absorb_step, absorb_step, ih, List.drop_drop, show 64 + 64 * n = 64 * (n + 1) by omega]
theorem absorb_succ (n : Nat) (l : List UInt8) (s : St) : absorb (n + 1) l s = blockOf64 kWords ((l.drop (64 * n)).take 64) (absorb n l s) := by
  rw [absorb_add, absorb_step, absorb_zero]

theorem be8_len (x : Nat) : (be8 x).length = 8 := by unfold be8; simp
theorem be8_take (x : Nat) {t : Nat} (ht : t < 8) : (be8 x).take (t + 1) = (be8 x).take t ++ [UInt8.ofNat (x >>> (56 - 8 * t) % 256)] := by
  have h : (be8 x)[t]? = some (UInt8.ofNat (x >>> (56 - 8 * t) % 256)) := by
    unfold be8
    rw [List.getElem?_map, List.getElem?_range ht]
    rfl
  rw [List.take_add_one, h]
  rfl
theorem be_byte (n q : Nat) : Value.int .u8 ((n : Int) * 8 / 2 ^ q % 256) = byteV (UInt8.ofNat ((n * 8) >>> q % 256)) := by
  rw [← byteV_nat (Nat.mod_lt _ (by decide)), Nat.shiftRight_eq_div_pow]
  simp
theorem ShaP.keepsN {w0 w w' : World} {H K V : Nat} {s : St} {ao : Option Addr} {cap : Nat} {P : List UInt8} (h : ShaP w0 w H K V s ao cap P) (k : Keeps Nothing w w') : ShaP w0 w' H K V s ao cap P :=
  ⟨h.sha.keepsN k, k.own h.own (fun _ _ h => h), h.fresh⟩
theorem ShaP.put {w0 w : World} {H K V : Nat} {s : St} {ao : Option Addr} {cap : Nat} {P : List UInt8} (h : ShaP w0 w H K V s ao cap P) (t : St) : ShaP w0 (w.setRow V t.val) H K V t ao cap P :=
  ⟨h.sha.put t, ((Keeps.refl (fun k => k = V) w).setRow (fun _ => rfl) _).own h.own (fun g hg h2 => own8_ne h.own h.sha.v (by decide) (show blockOf ao = some V from by cases ao with | none => cases hg | some a => rw [← h2]; exact hg)), h.fresh⟩
theorem pad_join (R : List UInt8) (n : Nat) : R ++ 128 :: List.replicate (padZ n) 0 ++ be8 (n * 8) = R ++ padOf n := by
  unfold padOf
  rw [List.append_assoc]
  rfl
theorem padOf_len (n : Nat) : (padOf n).length = 1 + padZ n + 8 := by
  unfold padOf
  rw [List.length_cons, List.length_append, List.length_replicate, be8_len]
  omega
theorem absorb_front (i : Nat) : ∀ (l r : List UInt8) (s : St), 64 * i ≤ l.length → absorb i (l ++ r) s = absorb i l s := by
  induction i with
  | zero => intro l r s _; rw [absorb_zero, absorb_zero]
  | succ i ih =>
    intro l r s h
    rw [absorb_step, absorb_step, List.drop_append_of_le_length (by omega), List.take_append_of_le_length (by omega), ih _ _ _ (by rw [List.length_drop]; omega)]
/-- The whole. -/
theorem sha_join {bs R Q : List UInt8} {n i j m : Nat} (hn : bs.length = n) (hj : j = 64 * i) (hjn : j ≤ n) (hR : bs.drop j = R) (hQ : Q = R ++ padOf n) (hm : Q.length = 64 * m) :
    absorb m Q (absorb i bs ivSt) = absorb ((bs ++ padOf bs.length).length / 64) (bs ++ padOf bs.length) ivSt := by
  have h1 : bs ++ padOf n = bs.take j ++ Q := by rw [hQ, ← hR, ← List.append_assoc, List.take_append_drop]
  have h2 : (bs.take j).length = j := by rw [List.length_take]; omega
  have h3 : (bs ++ padOf n).length / 64 = i + m := by rw [h1, List.length_append, h2, hm, hj]; omega
  have h4 : (bs ++ padOf n).drop (64 * i) = Q := by rw [h1, ← hj, List.drop_append_of_le_length (by omega), List.drop_of_length_le (by omega)]; rfl
  rw [hn, h3, absorb_add, h4, absorb_front i bs (padOf n) ivSt (by omega)]

def outTo (t : Nat) (s : St) : List UInt8 := (List.range 32).map fun i => if i < t then UInt8.ofNat (at0 s.list (i / 4) >>> (24 - 8 * (i % 4)) % 256) else 0
theorem outTo_zero (s : St) : outTo 0 s = zeros32 := by unfold outTo; simp; rfl
theorem outTo_full (s : St) : outTo 32 s = outOf s := by
  unfold outTo outOf
  refine List.map_congr_left fun i hi => ?_
  rw [if_pos (List.mem_range.mp hi)]
theorem outTo_set (s : St) {t : Nat} (ht : t < 32) : ((outTo t s).map byteV).toArray.setIfInBounds t (byteV (UInt8.ofNat (at0 s.list (t / 4) >>> (24 - 8 * (t % 4)) % 256))) = ((outTo (t + 1) s).map byteV).toArray := by
  apply Array.ext_getElem?
  intro i
  rw [Array.getElem?_setIfInBounds]
  unfold outTo
  simp only [List.size_toArray, List.length_map, List.length_range, List.getElem?_toArray, List.getElem?_map]
  by_cases hi : i < 32
  · rw [List.getElem?_range hi]
    simp only [Option.map_some]
    by_cases e : t = i
    · subst e; simp [ht]
    · rw [if_neg e]
      by_cases h2 : i < t
      · simp [h2, show i < t + 1 by omega]
      · simp [h2, show ¬ i < t + 1 by omega]
  · rw [List.getElem?_eq_none (by simp; omega)]
    simp
    omega
theorem outTo_at (s : St) {t : Nat} (ht : t < 32) : ((outTo t s).map byteV).toArray[t]? = some (.int .u8 0) := by
  unfold outTo
  simp only [List.getElem?_toArray, List.getElem?_map]
  rw [List.getElem?_range ht]
  simp
  rfl
theorem outTo_size (t : Nat) (s : St) : ((outTo t s).map byteV).toArray.size = 32 := by unfold outTo; simp
theorem out_byte (x q : Nat) : Value.int .u8 ((x : Int) / 2 ^ q % 256) = byteV (UInt8.ofNat (x >>> q % 256)) := by
  rw [← byteV_nat (Nat.mod_lt _ (by decide)), Nat.shiftRight_eq_div_pow]
  simp

set_option maxRecDepth 100000 in
set_option maxHeartbeats 16000000 in
theorem sum_any {w : World} {ao : Option Addr} (c : Nat) {bs : List UInt8} {n : Nat} (hn : bs.length = n) (hB : BytesAt w ao bs) (hsp : ∀ a, ao = some a → a.spot = none) (hc : n ≤ c) (hcm : c ≤ maxLen) (hl : n ≤ 1000000) :
    Calls Tryd.prog 47 #[.slice ao n c] w fun e w' => e = .returned (hashV (shaOf bs)) ∧ Keeps Nothing w w' := by
  have HN := shut hn
  clear hn
  go_enter Tryd.func47, Tryd.ntmps47
  go_wp2_with fail
  rw [← zeros32_lit]
  obtain ⟨ZZ, hZZ⟩ : ∃ ZZ, (zeros32.map byteV).toArray = ZZ := ⟨_, rfl⟩
  rw [hZZ]
  have HZZ := shut hZZ
  clear hZZ
  refine (words_any _).mono ?_
  rintro e w1 ⟨rfl, K1⟩
  have B0 := K1.blk (blk_new w ZZ 70) (fun h => h)
  have KA : Keeps Nothing w w1 := ((Keeps.refl Nothing w).alloc _).trans K1 (fun _ h _ => h)
  have hsz := lt_of_block B0
  have hk := aggOk_k
  clear K1
  go_wp2_with fail
  have hiv : (#[Value.int .u32 1779033703, Value.int .u32 3144134277, Value.int .u32 1013904242, Value.int .u32 2773480762, Value.int .u32 1359893119, Value.int .u32 2600822924, Value.int .u32 528734635, Value.int .u32 1541459225] : Array Value) = ivSt.val := rfl
  rw [hiv]
  clear hiv
  have S0 : ShaW w ((w1.alloc (.cells (rowW 64 kWords) 97)).alloc (.cells ivSt.val 96)) w.heap.size w1.heap.size (w1.heap.size + 1) ivSt := by
    refine ⟨blk_alloc (blk_alloc (HZZ.out ▸ B0) _) _, blk_alloc (blk_new w1 _ _) _, ?_, (KA.alloc _).alloc _, Nat.le_refl _, KA.size, by have := KA.size; omega, by omega, by omega, by omega⟩
    have := blk_new (w1.alloc (.cells (rowW 64 kWords) 97)) ivSt.val 96
    rw [World.size_alloc] at this
    exact this
  generalize (w1.alloc (.cells (rowW 64 kWords) 97)).alloc (.cells ivSt.val 96) = W at *
  generalize w1.heap.size + 1 = V at *
  generalize w1.heap.size = KB at *
  generalize w.heap.size = H at *
  clear B0 KA hsz hk
  obtain ⟨KZ, hKZ⟩ : ∃ KZ, rowW 64 kWords = KZ := ⟨_, rfl⟩
  have hKs : KZ.size = 64 := by rw [← hKZ]; exact rowW_size (by decide)
  have HKZ := shut hKZ
  have HKS := shut hKs
  clear hKZ hKs
  have hcm9 : c < 9223372036854775808 := by unfold maxLen at hcm; omega
  clear hcm
  go_loopw [5] (fun s0 wr => ∃ i j : Nat, s0 = .int .i64 j ∧ Shut (j = 64 * i) ∧ j ≤ n ∧ ShaW w wr H KB V (absorb i bs ivSt)) (fun s0 _ => n - (intOf s0).toNat)
  case atStart => exact ⟨0, 0, rfl, shut rfl, Nat.zero_le _, by rw [absorb_zero]; exact S0⟩
  case round =>
    clear S0
    obtain ⟨i, j, rfl, HJ, hj, S1⟩ := hrel
    by_cases hlt : (64 : Int) ≤ (n : Int) - j
    · obtain ⟨g, off, rfl⟩ : ∃ g off, ao = some ⟨g, off, none⟩ := by
        cases ao with
        | none => have := hB.1 rfl; have h2 := HN.out; subst this; simp at h2; try omega
        | some a => have := hsp a rfl; obtain ⟨g, off, s⟩ := a; simp only at this; subst this; exact ⟨g, off, rfl⟩
      have hBj : BytesAt w (some ⟨g, off + j, none⟩) ((bs.drop j).take 64) := bytesAt_take hB j 64
      have hBl : ((bs.drop j).take 64).length = 64 := by rw [List.length_take, List.length_drop, HN.out]; omega
      have hok := absorb_ok i bs ivSt ivSt_ok
      have hnx : absorb (i + 1) bs ivSt = blockOf64 kWords ((bs.drop j).take 64) (absorb i bs ivSt) := by rw [absorb_succ, HJ.out]
      have HBL := shut hBl
      have HNX := shut hnx
      have HOK := shut hok
      clear hBl hnx hok
      generalize (bs.drop j).take 64 = cs at *
      generalize absorb i bs ivSt = st at *
      have S2 : ShaW w wr.drew H KB V st := S1.keepsN (Keeps.refl _ _).drew
      have hblk := fun W (k : Keeps Nothing w W) => block_any (w := W) (c - j) (hBj.keeps k (fun _ _ h => h)) HBL.out st HOK.out kWords kWords_len kWords_lt
      rw [HKZ.out] at hblk
      have r1 := rowOk_blk S2.v st.val_size
      have r2 := rowOf_blk S2.v
      have r3 : rowOk wr.drew KB 64 = true := rowOk_blk S2.k (by rw [HKZ.out]; exact HKS.out)
      have r4 := rowOf_blk S2.k
      rw [HKZ.out] at r4
      have HBLK := shut hblk
      clear hblk
      obtain ⟨sv, hsv⟩ : ∃ sv, st.val = sv := ⟨_, rfl⟩
      rw [hsv] at r2 HBLK
      have HSV := shut hsv
      clear hsv
      have e1 : IntKind.i64.wrap ((j : Int) + 64) = (j : Int) + 64 := by rw [IntKind.wrap_i64]; omega
      have n5 : ((j : Int) + 64).toNat - j = 64 := by omega
      have i1 : (0 : Int) ≤ j := by omega
      have i2 : (j : Int) ≤ (j : Int) + 64 := by omega
      have i3 : (j : Int) + 64 ≤ c := by omega
      have i4 : ¬ c = j := by omega
      have i5 : (0 : Int) ≤ (j : Int) + 64 := by omega
      go_wp2_with fail
      refine wp_region_mix (fun W => rowOk W KB 64 = true ∧ rowOf W KB = KZ) [(true, 1), (true, 2), (true, 3), (true, 4), (true, 5), (true, 6), (false, 0), (false, 7), (false, 8)] (by kernel_rfl) (by kernel_rfl) ⟨r3, r4⟩ ?_
      simp only [mixItems, List.map_cons, List.map_nil, List.getD_cons_zero, List.getD_cons_succ]
      change wpMix _ _ _ _ _ _ wr.drew
      refine wpMix_yield (v := .agg KZ) (fun W hW => ?_) (fun K hK => ?_)
      · obtain ⟨z3, z4⟩ := hW
        go_simp
      go_simp
      refine hK _ ?_
      clear hK K
      repeat (refine wpMix_free (fun K hK => ?_); go_simp; refine hK _ ?_; clear hK K)
      refine wpMix_one (fun K hK => ?_)
      go_wp2_with fail
      refine hK _ _ ⟨r3, r4⟩ ?_
      clear hK K
      refine wpMix_one (fun K hK => ?_)
      go_wp2_with fail
      refine (HBLK.out _ S2.keep).mono ?_
      rintro e w2 ⟨rfl, K2⟩
      have S3 := S2.keepsN K2
      rw [← HNX.out]
      clear r1 r2 r3 r4 S2
      have r1 := rowOk_blk S3.v st.val_size
      have r3 : rowOk w2 KB 64 = true := rowOk_blk S3.k (by rw [HKZ.out]; exact HKS.out)
      have r4 := rowOf_blk S3.k
      rw [HKZ.out] at r4
      have S4 := S3.put (absorb (i + 1) bs ivSt)
      have hag := aggOk_agg 8 _ (absorb (i + 1) bs ivSt).val_size (absorb (i + 1) bs ivSt).val_one
      obtain ⟨nv, hnv⟩ : ∃ nv, (absorb (i + 1) bs ivSt).val = nv := ⟨_, rfl⟩
      rw [hnv] at hag ⊢
      have HNV := shut hnv
      clear hnv
      go_wp2_with fail
      refine hK _ _ ⟨r3, r4⟩ ?_
      clear hK K
      refine wpMix_one (fun K hK => ?_)
      go_wp2_with fail
      rw [HNV.out] at S4
      have r5 : rowOk (w2.setRow V nv) KB 64 = true := rowOk_blk S4.k (by rw [HKZ.out]; exact HKS.out)
      have r6 := rowOf_blk S4.k
      rw [HKZ.out] at r6
      refine hK _ _ ⟨r5, r6⟩ ?_
      clear hK K
      refine wpMix_nil ?_
      go_wp2_with fail
      have HJ2 : Shut (j + 64 = 64 * (i + 1)) := shut (by rw [HJ.out]; omega)
      go_roundw
      case rel => exact ⟨i + 1, j + 64, by go_num, HJ2, by omega, by rw [← HNV.out] at S4 ⊢; exact S4⟩
      case measure => simp [intOf]; omega
    · obtain ⟨aoR, hslR, hBR⟩ := slice_from HN.out hB hsp hj hc
      have hRl : (bs.drop j).length = n - j := by rw [List.length_drop, HN.out]
      have HRL := shut hRl
      clear hRl
      obtain ⟨R, hR⟩ : ∃ R, bs.drop j = R := ⟨_, rfl⟩
      rw [hR] at hBR HRL
      have HR := shut hR
      obtain ⟨m, hm⟩ : ∃ m, n - j = m := ⟨_, rfl⟩
      rw [hm] at hslR HRL
      have hm64 : m < 64 := by omega
      have HM := shut hm
      clear hR hm
      have hlt2 : ¬ (64 : Int) ≤ (n : Int) - j := hlt
      have S1a : ShaW w (wr.alloc (.cells #[] 5)) H KB V (absorb i bs ivSt) := S1.keepsN ((Keeps.refl _ _).alloc _)
      have hBRa : BytesAt (wr.alloc (.cells #[] 5)) aoR R := hBR.keeps S1a.keep (fun _ _ h => h)
      have hsR := src_at (c - j) hBRa
      rw [HRL.out] at hsR
      go_wp2_with (at_builtin; refine wpList_app8 _ rfl (.tmp 28) (.tmp 31) 25 rfl (some ⟨wr.heap.size, 0, none⟩) 0 [] rfl (own8_empty wr) _ rfl R (HRL.out.symm ▸ hsR) (by simp) (by have := HRL.out; omega) ?_)
      intro ao1 cap1 w1 o1 k1 m1
      have P1 := (ShaP.empty S1).app (Keeps.refl _ _) o1 k1 m1 (by simp)
      clear o1 k1 m1 hsR hBRa S1a S1
      go_wp2_with (at_builtin; refine wpList_app8 _ rfl (.tmp 32) (.tmp 33) 25 rfl ao1 cap1 R rfl (World.ownsRow.alloc P1.own _) _ rfl [128] (src_new w1 128 rfl) (by have := HRL.out; omega) (by decide) ?_)
      intro ao2 cap2 w2 o2 k2 m2
      have P2 := P1.app ((Keeps.refl _ _).alloc _) o2 k2 m2 (by simp)
      clear o2 k2 m2 P1
      have hPl : (R ++ [128]).length = m + 1 + 0 := by rw [List.length_append, HRL.out]; rfl
      have HPL := shut hPl
      have HP2 : Shut (R ++ [128] = R ++ 128 :: List.replicate 0 0) := shut rfl
      clear hPl hslR hBR
      have hpz := padZ_lt n
      go_wp2_with fail
      go_loopg [6] (padZ n) (fun g s6 wx => ∃ (z : Nat) (ao3 : Option Addr) (cap3 : Nat) (P : List UInt8), s6 = .slice ao3 P.length cap3 ∧ Shut (P = R ++ 128 :: List.replicate z 0) ∧ Shut (P.length = m + 1 + z) ∧ z ≤ padZ n ∧ Shut (g = padZ n - z) ∧ ShaP w wx H KB V (absorb i bs ivSt) ao3 cap3 P)
      case atStart => exact ⟨0, ao2, cap2, R ++ [128], by simp, HP2, HPL, Nat.zero_le _, shut rfl, P2⟩
      case round =>
        clear P2 HP2 HPL
        obtain ⟨z, ao3, cap3, P, rfl, HP, HPL, hz, HG, P3⟩ := hrel
        have hpl9 : P.length ≤ 200 := by rw [HPL.out]; omega
        by_cases hlz : z < padZ n
        · have hne : P.length % 64 ≠ 56 := by
            have := padZ_stop n z hlz
            rw [HPL.out, ← HM.out, HJ.out]
            have h2 := HJ.out
            omega
          have hb1 : ((P.length : Int) % 64 != 56) = true := by rw [bne_iff_ne]; omega
          have hb2 : ((P.length : Int) % 64 == 56) = false := by rw [beq_eq_false_iff_ne]; omega
          have hb3 : ¬ (P.length : Int) % 64 = 56 := by omega
          have hm0 : (0 : Int) ≤ P.length := by omega
          go_wp2_with (at_builtin; refine wpList_app8 _ rfl (.tmp 39) (.tmp 40) 25 rfl ao3 cap3 P rfl (World.ownsRow.alloc P3.own _) _ rfl [0] (src_new wr 0 rfl) (by omega) (by decide) ?_)
          intro ao4 cap4 w4 o4 k4 m4
          have P4 := P3.app ((Keeps.refl _ _).alloc _) o4 k4 m4 (by simp)
          have HP4 : Shut (P ++ [0] = R ++ 128 :: List.replicate (z + 1) 0) := shut (by rw [HP.out, List.append_assoc, List.replicate_succ']; rfl)
          have HPL4 : Shut ((P ++ [0]).length = m + 1 + (z + 1)) := shut (by rw [List.length_append, HPL.out]; rfl)
          clear o4 k4 m4 P3
          go_wp2_with fail
          go_roundg (padZ n - (z + 1))
          case measure => have := HG.out; omega
          case rel => exact ⟨z + 1, ao4, cap4, P ++ [0], by simp, HP4, HPL4, by omega, shut rfl, P4⟩
        · have hzz : z = padZ n := by omega
          rw [hzz] at HP HPL
          clear HG hlz hz hzz
          have heq : P.length % 64 = 56 := by
            have := padZ_end n
            have h2 := HJ.out
            have h3 := HM.out
            have h4 := HPL.out
            omega
          have hb1 : ((P.length : Int) % 64 != 56) = false := by rw [Bool.eq_false_iff, Ne, bne_iff_ne]; omega
          have hb2 : ((P.length : Int) % 64 == 56) = true := by rw [beq_iff_eq]; omega
          have hm0 : (0 : Int) ≤ P.length := by omega
          have HEQ := shut heq
          clear heq
          have en : IntKind.u64.wrap (IntKind.u64.wrap (n : Int) * 8) = ((n * 8 : Nat) : Int) := by rw [IntKind.wrap_u64, IntKind.wrap_u64]; omega
          go_wp2_with fail
          go_loopg [6, 8] 8 (fun g s6 s8 wx => ∃ (t : Nat) (ao4 : Option Addr) (cap4 : Nat) (Q : List UInt8), s6 = .slice ao4 Q.length cap4 ∧ s8 = .int .i64 (56 - 8 * (t : Int)) ∧ Shut (Q = P ++ (be8 (n * 8)).take t) ∧ Shut (Q.length = P.length + t) ∧ t ≤ 8 ∧ Shut (g = 8 - t) ∧ ShaP w wx H KB V (absorb i bs ivSt) ao4 cap4 Q)
          case atStart => exact ⟨0, ao3, cap3, P, by simp, by simp, shut (by simp), shut (by simp), by omega, shut rfl, P3⟩
          case round =>
            clear P3
            obtain ⟨t, ao4, cap4, Q, rfl, rfl, HQ, HQL, ht, HG2, P4⟩ := hrel
            have hql9 : Q.length ≤ 300 := by rw [HQL.out]; omega
            by_cases ht8 : t < 8
            · obtain ⟨q, hq⟩ : ∃ q : Nat, 56 - 8 * (t : Int) = (q : Int) := ⟨56 - 8 * t, by omega⟩
              rw [hq]
              have hq9 : q ≤ 56 := by omega
              go_wp2_with (at_builtin; refine wpList_app8 _ rfl (.tmp 50) (.tmp 56) 25 rfl ao4 cap4 Q rfl (World.ownsRow.alloc P4.own _) _ rfl [UInt8.ofNat ((n * 8) >>> q % 256)] (src_new wr _ (be_byte n q)) (by omega) (by simp) ?_)
              intro ao5 cap5 w5 o5 k5 m5
              have P5 := P4.app ((Keeps.refl _ _).alloc _) o5 k5 m5 (by simp)
              have HQ5 : Shut (Q ++ [UInt8.ofNat ((n * 8) >>> q % 256)] = P ++ (be8 (n * 8)).take (t + 1)) := shut (by rw [HQ.out, be8_take _ ht8, List.append_assoc, show 56 - 8 * t = q by omega])
              have HQL5 : Shut ((Q ++ [UInt8.ofNat ((n * 8) >>> q % 256)]).length = P.length + (t + 1)) := shut (by rw [List.length_append, HQL.out]; rfl)
              clear o5 k5 m5 P4
              have e8 : IntKind.i64.wrap ((q : Int) - 8) = 56 - 8 * ((t + 1 : Nat) : Int) := by rw [IntKind.wrap_i64]; omega
              have e9 : (q : Int) - 8 = 56 - 8 * ((t + 1 : Nat) : Int) := by omega
              go_wp2_with fail
              go_roundg (8 - (t + 1))
              case measure => have := HG2.out; omega
              case rel => exact ⟨t + 1, ao5, cap5, Q ++ [UInt8.ofNat ((n * 8) >>> q % 256)], by simp, by simp, HQ5, HQL5, by omega, shut rfl, P5⟩
            · have ht9 : t = 8 := by omega
              rw [ht9] at HQ HQL ⊢
              rw [show (56 : Int) - 8 * ((8 : Nat) : Int) = -8 from rfl]
              have hQ : Q = R ++ padOf n := by rw [HQ.out, List.take_of_length_le (by rw [be8_len]; exact Nat.le_refl _), HP.out, pad_join]
              have HQR := shut hQ
              obtain ⟨M, hM⟩ : ∃ M, Q.length = 64 * M := ⟨Q.length / 64, by have h1 := HQL.out; have h2 := HEQ.out; omega⟩
              have HMM := shut hM
              have hfin := sha_join HN.out HJ.out hj HR.out hQ hM
              obtain ⟨s0, hs0⟩ : ∃ s0, absorb i bs ivSt = s0 := ⟨_, rfl⟩
              have hok0 : s0.Ok := by rw [← hs0]; exact absorb_ok i bs ivSt ivSt_ok
              rw [hs0] at P4 hfin
              have HFIN := shut hfin
              have HOK0 := shut hok0
              clear HQ HQL ht ht8 ht9 HG2 hQ hM hfin hs0 hok0 HPL HP HEQ hb1 hb2 hm0 hpl9
              go_wp2_with fail
              go_loopw [5] (fun s5 wx => ∃ i2 j2 : Nat, s5 = .int .i64 j2 ∧ Shut (j2 = 64 * i2) ∧ j2 ≤ Q.length ∧ ShaP w wx H KB V (absorb i2 Q s0) ao4 cap4 Q) (fun s5 _ => Q.length - (intOf s5).toNat)
              case atStart => exact ⟨0, 0, rfl, shut rfl, Nat.zero_le _, by rw [absorb_zero]; exact P4⟩
              case round =>
                clear P4
                obtain ⟨i2, j2, rfl, HJ2, hj2, P4⟩ := hrel
                have hcap := own8_cap P4.own
                by_cases hlt2 : j2 < Q.length
                · have h64 : j2 + 64 ≤ Q.length := by have h1 := HMM.out; have h2 := HJ2.out; omega
                  obtain ⟨g, rfl⟩ := own8_head P4.own (by rintro rfl; simp at hlt2)
                  have hBj : BytesAt wr (some ⟨g, j2, none⟩) ((Q.drop j2).take 64) := by
                    have := bytesAt_take (own8_at P4.own) j2 64
                    rw [Nat.zero_add] at this
                    exact this
                  have hBl : ((Q.drop j2).take 64).length = 64 := by rw [List.length_take, List.length_drop]; omega
                  have hok := absorb_ok i2 Q s0 HOK0.out
                  have hnx : absorb (i2 + 1) Q s0 = blockOf64 kWords ((Q.drop j2).take 64) (absorb i2 Q s0) := by rw [absorb_succ, HJ2.out]
                  have HBL := shut hBl
                  have HNX := shut hnx
                  have HOK := shut hok
                  clear hBl hnx hok
                  generalize (Q.drop j2).take 64 = cs at *
                  generalize absorb i2 Q s0 = st at *
                  have S2 : ShaP w wr.drew H KB V st (some ⟨g, 0, none⟩) cap4 Q := P4.keepsN (Keeps.refl _ _).drew
                  have hblk := fun W (k : Keeps Nothing wr W) => block_any (w := W) (cap4 - j2) (hBj.keeps k (fun _ _ h => h)) HBL.out st HOK.out kWords kWords_len kWords_lt
                  rw [HKZ.out] at hblk
                  clear P4
                  have r1 := rowOk_blk S2.sha.v st.val_size
                  have r2 := rowOf_blk S2.sha.v
                  have r3 : rowOk wr.drew KB 64 = true := rowOk_blk S2.sha.k (by rw [HKZ.out]; exact HKS.out)
                  have r4 := rowOf_blk S2.sha.k
                  rw [HKZ.out] at r4
                  have HBLK := shut hblk
                  clear hblk
                  obtain ⟨sv, hsv⟩ : ∃ sv, st.val = sv := ⟨_, rfl⟩
                  rw [hsv] at r2 HBLK
                  have HSV := shut hsv
                  clear hsv
                  have e1 : IntKind.i64.wrap ((j2 : Int) + 64) = (j2 : Int) + 64 := by rw [IntKind.wrap_i64]; omega
                  have n5 : ((j2 : Int) + 64).toNat - j2 = 64 := by omega
                  have i1 : (0 : Int) ≤ j2 := by omega
                  have i2' : (j2 : Int) ≤ (j2 : Int) + 64 := by omega
                  have i3 : (j2 : Int) + 64 ≤ cap4 := by omega
                  have i4 : ¬ cap4 = j2 := by omega
                  have i5 : (0 : Int) ≤ (j2 : Int) + 64 := by omega
                  go_wp2_with fail
                  refine wp_region_mix (fun W => rowOk W KB 64 = true ∧ rowOf W KB = KZ) [(true, 1), (true, 2), (true, 3), (true, 4), (true, 5), (true, 6), (false, 0), (false, 7), (false, 8)] (by kernel_rfl) (by kernel_rfl) ⟨r3, r4⟩ ?_
                  simp only [mixItems, List.map_cons, List.map_nil, List.getD_cons_zero, List.getD_cons_succ]
                  change wpMix _ _ _ _ _ _ wr.drew
                  refine wpMix_yield (v := .agg KZ) (fun W hW => ?_) (fun K hK => ?_)
                  · obtain ⟨z3, z4⟩ := hW
                    go_simp
                  go_simp
                  refine hK _ ?_
                  clear hK K
                  repeat (refine wpMix_free (fun K hK => ?_); go_simp; refine hK _ ?_; clear hK K)
                  refine wpMix_one (fun K hK => ?_)
                  go_wp2_with fail
                  refine hK _ _ ⟨r3, r4⟩ ?_
                  clear hK K
                  refine wpMix_one (fun K hK => ?_)
                  go_wp2_with fail
                  refine (HBLK.out _ (Keeps.refl _ _).drew).mono ?_
                  rintro e w2 ⟨rfl, K2⟩
                  have S3 := S2.keepsN K2
                  rw [← HNX.out]
                  clear r1 r2 r3 r4 S2
                  have r1 := rowOk_blk S3.sha.v st.val_size
                  have r3 : rowOk w2 KB 64 = true := rowOk_blk S3.sha.k (by rw [HKZ.out]; exact HKS.out)
                  have r4 := rowOf_blk S3.sha.k
                  rw [HKZ.out] at r4
                  have S4 := S3.put (absorb (i2 + 1) Q s0)
                  have hag := aggOk_agg 8 _ (absorb (i2 + 1) Q s0).val_size (absorb (i2 + 1) Q s0).val_one
                  obtain ⟨nv, hnv⟩ : ∃ nv, (absorb (i2 + 1) Q s0).val = nv := ⟨_, rfl⟩
                  rw [hnv] at hag ⊢
                  have HNV := shut hnv
                  clear hnv
                  go_wp2_with fail
                  refine hK _ _ ⟨r3, r4⟩ ?_
                  clear hK K
                  refine wpMix_one (fun K hK => ?_)
                  go_wp2_with fail
                  rw [HNV.out] at S4
                  have r5 : rowOk (w2.setRow V nv) KB 64 = true := rowOk_blk S4.sha.k (by rw [HKZ.out]; exact HKS.out)
                  have r6 := rowOf_blk S4.sha.k
                  rw [HKZ.out] at r6
                  refine hK _ _ ⟨r5, r6⟩ ?_
                  clear hK K
                  refine wpMix_nil ?_
                  go_wp2_with fail
                  have HJ3 : Shut (j2 + 64 = 64 * (i2 + 1)) := shut (by rw [HJ2.out]; omega)
                  go_roundw
                  case rel => exact ⟨i2 + 1, j2 + 64, by go_num, HJ3, h64, by rw [← HNV.out] at S4 ⊢; exact S4⟩
                  case measure => simp [intOf]; omega
                · have hi2 : i2 = M := by have h1 := HMM.out; have h2 := HJ2.out; omega
                  rw [hi2, HFIN.out] at P4
                  have hsha : outOf (absorb ((bs ++ padOf bs.length).length / 64) (bs ++ padOf bs.length) ivSt) = shaOf bs := rfl
                  have hokf := absorb_ok ((bs ++ padOf bs.length).length / 64) (bs ++ padOf bs.length) ivSt ivSt_ok
                  have HSH := shut hsha
                  have HOKF := shut hokf
                  clear hsha hokf hi2
                  generalize absorb ((bs ++ padOf bs.length).length / 64) (bs ++ padOf bs.length) ivSt = sf at *
                  have SV : ShaW w wr H KB V sf := P4.sha
                  clear P4
                  go_wp2_with fail
                  rw [← zeros32_lit]
                  have O0 := blk_new wr (zeros32.map byteV).toArray 70
                  rw [← outTo_zero sf] at O0 ⊢
                  have S5 : ShaW w (wr.alloc (.cells ((outTo 0 sf).map byteV).toArray 70)) H KB V sf := SV.keepsN ((Keeps.refl _ _).alloc _)
                  have hOH : wr.heap.size ≠ H := by have := lt_of_block SV.h; omega
                  have hOV : wr.heap.size ≠ V := by have := lt_of_block SV.v; omega
                  have hOK : wr.heap.size ≠ KB := by have := lt_of_block SV.k; omega
                  have hOw : w.heap.size ≤ wr.heap.size := SV.keep.size
                  clear SV
                  generalize wr.heap.size = O at *
                  generalize wr.alloc (.cells ((outTo 0 sf).map byteV).toArray 70) = wy at *
                  go_loopw [72] (fun s7 wx => ∃ t : Nat, s7 = .int .i64 t ∧ t ≤ 32 ∧ Blk wx O ((outTo t sf).map byteV).toArray 70 ∧ ShaW w wx H KB V sf) (fun s7 _ => 32 - (intOf s7).toNat)
                  case atStart => exact ⟨0, rfl, by omega, O0, S5⟩
                  case round =>
                    clear O0 S5
                    obtain ⟨t, rfl, ht, O0, S5⟩ := hrel
                    by_cases ht32 : t < 32
                    · have hfr := blk_free O0 t
                      have hq4 : t / 4 < 8 := by omega
                      have hval : sf.val = rowW 8 sf.list := rfl
                      have cv : wr.cell? ⟨V, t / 4, none⟩ = some (.int .u32 (at0 sf.list (t / 4))) := blk_cell S5.v (t / 4) (hval ▸ rowW_get hq4)
                      have hset := outTo_set sf ht32
                      have HSET := shut hset
                      obtain ⟨q, hq⟩ : ∃ q, 24 - 8 * (t % 4) = q := ⟨_, rfl⟩
                      rw [hq] at HSET
                      obtain ⟨x, hx⟩ : ∃ x, at0 sf.list (t / 4) = x := ⟨_, rfl⟩
                      rw [hx] at HSET cv
                      have e1 : (24 : Int) - 8 * ((t : Int) % 4) = q := by omega
                      have co : wr.cell? ⟨O, t, none⟩ = some (.int .u8 0) := blk_cell O0 t (outTo_at sf ht32)
                      have g0 : (0 : Int) ≤ t := by omega
                      have l0 : (t : Int) < 32 := by omega
                      have g1 : (0 : Int) ≤ (t : Int) / 4 := by omega
                      have l1 : (t : Int) / 4 < 8 := by omega
                      have l2 : ((t : Int) / 4).toNat = t / 4 := by omega
                      clear hset hx
                      go_wp2_with fail
                      have hs := blk_set O0 t (byteV (UInt8.ofNat (x >>> q % 256)))
                      rw [HSET.out, ← out_byte] at hs
                      go_roundw
                      case rel => exact ⟨t + 1, by go_num, by omega, hs, ⟨blk_other S5.h _ (Ne.symm hOH) _, blk_other S5.k _ (Ne.symm hOK) _, blk_other S5.v _ (Ne.symm hOV) _, S5.keep.setCell (fun h => absurd h (by show ¬ O < _; omega)) _, S5.hn, S5.kn, S5.vn, S5.hk, S5.hv, S5.kv⟩⟩
                      case measure => simp [intOf]; omega
                    · have ht9 : t = 32 := by omega
                      have hYs := outTo_size t sf
                      rw [ht9, outTo_full, HSH.out] at O0 hYs
                      have hag := aggOk_agg 32 ((shaOf bs).map byteV).toArray hYs (bytes_all _)
                      obtain ⟨Y, hY⟩ : ∃ Y, ((shaOf bs).map byteV).toArray = Y := ⟨_, rfl⟩
                      rw [hY] at O0 hYs hag
                      have HY := shut hY
                      have HYS := shut hYs
                      clear hY hYs
                      have r1 := rowOk_blk O0 HYS.out
                      have e1 := rowOf_blk O0
                      have r2 : rowOk wr H 32 = true := rowOk_blk S5.h (by simp [zeros32])
                      go_wp2_with fail
                      refine bodyPost_ret (v := .agg Y) (results_cell_row rfl _ _ H _ Y (0, 0) _ rfl (blk_setRow (cs := Y) S5.h) Tryd.underlying70 rfl (by rw [infoHash, HYS.out])) rfl ?_
                      exact ⟨by rw [← HY.out]; rfl, S5.keep.setRow (fun h => absurd h (by have := S5.hn; omega)) Y⟩

end Go.Proofs.YteifmkfkekglpaaDoor
