/- usufructlaw5.told. -/
import Derived.Test.YtdmfomjgmmkaeaaMerk12
import Derived.Test.YtdmfomjgmmkaeaaMixJ
import Derived.Test.YtdmfomjgmmkaeaaSha16
namespace Go.Proofs.Ytdmfomjgmmkaeaa
open Go.RowKit

theorem ownH_at {w : World} {ao : Option Addr} {cap : Nat} {hs : List (List UInt8)} (h : OwnH w ao cap hs) (h32 : ∀ x ∈ hs, x.length = 32) : HashesAt w ao hs := by
  rcases h.2 with ⟨hv, hn⟩ | ⟨g, cap', cur, hv, _⟩
  · simp only [Value.slice.injEq] at hv
    obtain ⟨rfl, _, _⟩ := hv
    have : hs = [] := List.eq_nil_of_length_eq_zero hn
    subst this
    exact ⟨fun _ => rfl, fun a e => by cases e⟩
  · simp only [Value.slice.injEq] at hv
    obtain ⟨rfl, _, rfl⟩ := hv
    refine ⟨fun e => (by cases e), fun a e j x hx => ?_⟩
    obtain rfl := Option.some.inj e
    have hx32 := h32 x (List.mem_of_getElem? hx)
    refine ⟨rfl, hx32, fun t v hv => ?_⟩
    have hf : ∀ (l : List (List UInt8)) (j : Nat) (x : List UInt8), (∀ y ∈ l, y.length = 32) → l[j]? = some x → ∀ t v, (x.map byteV)[t]? = some v → (l.flatMap (·.map byteV))[j * 32 + t]? = some v := by
      intro l
      induction l with
      | nil => intro j x _ h; simp at h
      | cons y l ih =>
        intro j x hall hj t v ht
        rw [List.flatMap_cons]
        have hy : (y.map byteV).length = 32 := by rw [List.length_map]; exact hall y (by simp)
        cases j with
        | zero =>
          obtain rfl : y = x := by simpa using hj
          have htl : t < (y.map byteV).length := (List.getElem?_eq_some_iff.1 ht).1
          rw [Nat.zero_mul, Nat.zero_add, List.getElem?_append_left htl]
          exact ht
        | succ j =>
          rw [List.getElem?_append_right (by rw [hy]; omega), hy, show (j + 1) * 32 + t - 32 = j * 32 + t by omega]
          exact ih j x (fun z hz => hall z (List.mem_cons_of_mem _ hz)) (by simpa using hj) t v ht
    have hc := World.ownsRow.cells h (g := g) rfl (j * 32 + t) v (hf hs j x h32 hx t v hv)
    rw [Addr.add_mid', Nat.zero_add] at hc
    show w.cell? ⟨g, 0 + j * 32 + t, none⟩ = some v
    rw [Nat.zero_add]
    exact hc
theorem ownH_cap {w : World} {ao : Option Addr} {cap : Nat} {hs : List (List UInt8)} (h : OwnH w ao cap hs) : hs.length ≤ cap ∧ cap ≤ maxLen := by
  rcases h.2 with ⟨hv, hn⟩ | ⟨g, cap', cur, hv, _, _, h1, h2, _⟩
  · simp only [Value.slice.injEq] at hv
    obtain ⟨_, _, rfl⟩ := hv
    exact ⟨by omega, Nat.zero_le _⟩
  · simp only [Value.slice.injEq] at hv
    obtain ⟨_, _, rfl⟩ := hv
    exact ⟨h1, h2⟩
theorem frz_other (V : World) (h k i : Nat) (hi : i ≠ h) : (V.freeze ⟨h, k, none⟩ 1).heap[i]? = V.heap[i]? := by
  unfold World.freeze
  rw [if_neg (by decide)]
  show (V.heap.modify h _)[i]? = _
  rw [Array.getElem?_modify, if_neg (fun e => hi e.symm)]
theorem frz_self {V : World} {h k : Nat} {C : Array Value} {t : TypeId} (hB : Blk V h C t) : (V.freeze ⟨h, k, none⟩ 1).heap[h]? = some (.cells C t (k, k + 1)) := by
  unfold World.freeze
  rw [if_neg (by decide)]
  show (V.heap.modify h _)[h]? = _
  rw [Array.getElem?_modify, if_pos rfl, hB]
  rfl
theorem frz_keeps {W V : World} (k : Keeps Nothing W V) {h j : Nat} (hh : W.heap.size ≤ h) : Keeps Nothing W (V.freeze ⟨h, j, none⟩ 1) := by
  have hsz : (V.freeze ⟨h, j, none⟩ 1).heap.size = V.heap.size := by
    unfold World.freeze
    rw [if_neg (by decide)]
    simp
  refine ⟨?_, ?_, ?_, by rw [hsz]; exact k.size, fun i hi hn => (frz_other V h j i (by omega)).trans (k.block i hi hn)⟩
  · rw [← k.os]; unfold World.freeze; rw [if_neg (by decide)]
  · rw [← k.tape]; unfold World.freeze; rw [if_neg (by decide)]
  · rw [← k.output]; unfold World.freeze; rw [if_neg (by decide)]
theorem convert_mark {V : World} {h : Nat} {C : Array Value} (hB : Blk V h C 5) (n c : Nat) : (convert 22 22 (.slice (some ⟨h, 0, none⟩) n c)).run Try.prog V = .ok (.slice (some ⟨h, 0, none⟩) n c) (V.freeze ⟨h, C.size, none⟩ 1) := by
  have hsh : V.shape? h = some (5, C.size) := by unfold World.shape?; rw [hB]
  simp [convert, run_underlying Try.underlying22, run_underlying Try.underlying5, markStringish, hsh]
theorem bytesAt_mark {V : World} {h : Nat} {C : Array Value} {bs : List UInt8} {r : Nat × Nat} {t : TypeId} (hB : V.heap[h]? = some (.cells C t r)) (hC : C = (bs.map byteV).toArray) : BytesAt V (some ⟨h, 0, none⟩) bs := by
  subst hC
  refine ⟨fun e => (by cases e), fun a e j c hj => ?_⟩
  obtain rfl := Option.some.inj e
  rw [Addr.add_mid', Nat.zero_add]
  simp [World.cell?, hB, hj, byteV]
def rows3 : List (List UInt8) := [[1], [2], [3]]
theorem path2_len : (pathL rows3 2).length = 1 := rfl
theorem path0_len : (pathL rows3 0).length = 2 := rfl
theorem check_1 : checkL (rootL rows3) [1] 0 3 (pathL rows3 0) = true := by decide +kernel
theorem check_2 : checkL (rootL rows3) [2] 0 3 (pathL rows3 0) = false := by decide +kernel
theorem rows3_at {W : World} {g1 g2 g3 g : Nat} (h1 : Blk W g1 #[.int .u8 1] 5) (h2 : Blk W g2 #[.int .u8 2] 5) (h3 : Blk W g3 #[.int .u8 3] 5)
    (h : Blk W g #[.slice (some ⟨g1, 0, none⟩) 1 1, .slice (some ⟨g2, 0, none⟩) 1 1, .slice (some ⟨g3, 0, none⟩) 1 1] 22) : RowsAt W (some ⟨g, 0, none⟩) rows3 := by
  refine ⟨fun e => (by cases e), fun a e i l hi => ?_⟩
  obtain rfl := Option.some.inj e
  refine ⟨rfl, ?_⟩
  rw [Addr.add_mid', Nat.zero_add]
  match i, hi with
  | 0, hi =>
    obtain rfl := Option.some.inj hi
    exact ⟨_, 1, blk_cell h 0 rfl, bytesAt_blk h1 rfl, Nat.le_refl _, by decide⟩
  | 1, hi =>
    obtain rfl := Option.some.inj hi
    exact ⟨_, 1, blk_cell h 1 rfl, bytesAt_blk h2 rfl, Nat.le_refl _, by decide⟩
  | 2, hi =>
    obtain rfl := Option.some.inj hi
    exact ⟨_, 1, blk_cell h 2 rfl, bytesAt_blk h3 rfl, Nat.le_refl _, by decide⟩
  | i + 3, hi => simp [rows3] at hi

attribute [local go_sem ↓] exec_mid_hash exec_load_hash exec_store_hash exec_store_proof
attribute [local go_sem] rowOk_new World.setRow_alloc_new aggOk_proof

set_option maxRecDepth 100000 in
set_option maxHeartbeats 8000000 in
theorem told5_any (w : World) : Calls Try.prog 24 #[] w (SaysTrue w) := by
  go_enter Try.func24, Try.ntmps24
  go_wp2_with fail
  have hsz : ((((w.alloc (.cells #[.int .u8 1] 5)).alloc (.cells #[.int .u8 2] 5)).alloc (.cells #[.int .u8 3] 5)).alloc (.cells #[.slice (some ⟨w.heap.size, 0, none⟩) 1 1, .slice (some ⟨w.heap.size + 1, 0, none⟩) 1 1, .slice (some ⟨w.heap.size + 1 + 1, 0, none⟩) 1 1] 22)).heap.size = w.heap.size + 1 + 1 + 1 + 1 := by simp only [World.size_alloc]
  have K0 : Keeps Nothing w ((((w.alloc (.cells #[.int .u8 1] 5)).alloc (.cells #[.int .u8 2] 5)).alloc (.cells #[.int .u8 3] 5)).alloc (.cells #[.slice (some ⟨w.heap.size, 0, none⟩) 1 1, .slice (some ⟨w.heap.size + 1, 0, none⟩) 1 1, .slice (some ⟨w.heap.size + 1 + 1, 0, none⟩) 1 1] 22)) := ((((Keeps.refl _ _).alloc _).alloc _).alloc _).alloc _
  have hR : RowsAt ((((w.alloc (.cells #[.int .u8 1] 5)).alloc (.cells #[.int .u8 2] 5)).alloc (.cells #[.int .u8 3] 5)).alloc (.cells #[.slice (some ⟨w.heap.size, 0, none⟩) 1 1, .slice (some ⟨w.heap.size + 1, 0, none⟩) 1 1, .slice (some ⟨w.heap.size + 1 + 1, 0, none⟩) 1 1] 22)) (some ⟨w.heap.size + 1 + 1 + 1, 0, none⟩) rows3 := by
    have h1 : Blk (w.alloc (.cells #[.int .u8 1] 5)) w.heap.size #[.int .u8 1] 5 := blk_new w _ _
    have h2 : Blk ((w.alloc (.cells #[.int .u8 1] 5)).alloc (.cells #[.int .u8 2] 5)) (w.heap.size + 1) #[.int .u8 2] 5 := by have := blk_new (w.alloc (.cells #[.int .u8 1] 5)) #[.int .u8 2] 5; simp only [World.size_alloc] at this; exact this
    have h3 : Blk (((w.alloc (.cells #[.int .u8 1] 5)).alloc (.cells #[.int .u8 2] 5)).alloc (.cells #[.int .u8 3] 5)) (w.heap.size + 1 + 1) #[.int .u8 3] 5 := by have := blk_new ((w.alloc (.cells #[.int .u8 1] 5)).alloc (.cells #[.int .u8 2] 5)) #[.int .u8 3] 5; simp only [World.size_alloc] at this; exact this
    have h4 : Blk ((((w.alloc (.cells #[.int .u8 1] 5)).alloc (.cells #[.int .u8 2] 5)).alloc (.cells #[.int .u8 3] 5)).alloc (.cells #[.slice (some ⟨w.heap.size, 0, none⟩) 1 1, .slice (some ⟨w.heap.size + 1, 0, none⟩) 1 1, .slice (some ⟨w.heap.size + 1 + 1, 0, none⟩) 1 1] 22)) (w.heap.size + 1 + 1 + 1) #[.slice (some ⟨w.heap.size, 0, none⟩) 1 1, .slice (some ⟨w.heap.size + 1, 0, none⟩) 1 1, .slice (some ⟨w.heap.size + 1 + 1, 0, none⟩) 1 1] 22 := by have := blk_new (((w.alloc (.cells #[.int .u8 1] 5)).alloc (.cells #[.int .u8 2] 5)).alloc (.cells #[.int .u8 3] 5)) #[.slice (some ⟨w.heap.size, 0, none⟩) 1 1, .slice (some ⟨w.heap.size + 1, 0, none⟩) 1 1, .slice (some ⟨w.heap.size + 1 + 1, 0, none⟩) 1 1] 22; simp only [World.size_alloc] at this; exact this
    exact rows3_at (blk_alloc (blk_alloc (blk_alloc h1 _) _) _) (blk_alloc (blk_alloc h2 _) _) (blk_alloc h3 _) h4
  generalize ((((w.alloc (.cells #[.int .u8 1] 5)).alloc (.cells #[.int .u8 2] 5)).alloc (.cells #[.int .u8 3] 5)).alloc (.cells #[.slice (some ⟨w.heap.size, 0, none⟩) 1 1, .slice (some ⟨w.heap.size + 1, 0, none⟩) 1 1, .slice (some ⟨w.heap.size + 1 + 1, 0, none⟩) 1 1] 22)) = w4 at *
  generalize w.heap.size + 1 + 1 + 1 = g11 at *
  clear hsz
  have hb3 : ∀ r ∈ rows3, r.length ≤ 1000 := by decide
  refine (prove_any (w := w4) (rows := rows3) rfl (by decide) (Nat.le_refl 3) (by decide) hR hb3 2).mono ?_
  rintro e w5 ⟨hp, _⟩
  obtain ⟨ao2, cap2, rfl, o2, k5, _⟩ := hp ⟨by decide, by decide⟩
  rw [show ((2 : Int).toNat) = 2 from rfl] at o2 ⊢
  rw [path2_len, show proofV 2 (rows3.length : Nat) ao2 1 cap2 = .agg #[.int .i64 2, .int .i64 3, .slice ao2 1 cap2] from rfl]
  clear hp
  go_wp2_with fail
  have K5 := (K0.trans k5 (fun _ h _ => h)).alloc (.cells #[.int .i64 2, .int .i64 3, .slice ao2 1 cap2] 46)
  have hR5 := hR.keepsN (k5.alloc (.cells #[.int .i64 2, .int .i64 3, .slice ao2 1 cap2] 46))
  have P2 := blk_new w5 #[.int .i64 2, .int .i64 3, .slice ao2 1 cap2] 46
  clear K0 k5 hR o2
  generalize w5.alloc (.cells #[.int .i64 2, .int .i64 3, .slice ao2 1 cap2] 46) = w6 at *
  generalize w5.heap.size = gp2 at *
  refine (prove_any (w := w6) (rows := rows3) rfl (by decide) (Nat.le_refl 3) (by decide) hR5 hb3 0).mono ?_
  rintro e w7 ⟨hp, _⟩
  obtain ⟨ao4, cap4, rfl, o4, k7, _⟩ := hp ⟨by decide, by decide⟩
  rw [show ((0 : Int).toNat) = 0 from rfl] at o4 ⊢
  rw [path0_len, show proofV 0 (rows3.length : Nat) ao4 2 cap4 = .agg #[.int .i64 0, .int .i64 3, .slice ao4 2 cap4] from rfl]
  clear hp
  go_wp2_with fail
  have K7 := (K5.trans k7 (fun _ h _ => h)).alloc (.cells #[.int .i64 0, .int .i64 3, .slice ao4 2 cap4] 46)
  have kk7 := k7.alloc (.cells #[.int .i64 0, .int .i64 3, .slice ao4 2 cap4] 46)
  have hR7 := hR5.keepsN kk7
  have P2b := kk7.blk P2 (fun h => h)
  have P4 := blk_new w7 #[.int .i64 0, .int .i64 3, .slice ao4 2 cap4] 46
  have o4b : OwnH (w7.alloc (.cells #[.int .i64 0, .int .i64 3, .slice ao4 2 cap4] 46)) ao4 cap4 (pathL rows3 0) := World.ownsRow.alloc o4 _
  clear K5 k7 kk7 hR5 P2 o4
  generalize w7.alloc (.cells #[.int .i64 0, .int .i64 3, .slice ao4 2 cap4] 46) = w8 at *
  generalize w7.heap.size = gp4 at *
  refine (prove_any (w := w8) (rows := rows3) rfl (by decide) (Nat.le_refl 3) (by decide) hR7 hb3 3).mono ?_
  rintro e w9 ⟨_, hp⟩
  obtain ⟨ev, rfl, hev, k9⟩ := hp (by decide)
  rw [show proofV 0 0 none 0 0 = .agg #[.int .i64 0, .int .i64 0, .slice none 0 0] from rfl]
  clear hp
  go_wp2_with fail
  have kk9 := k9.alloc (.cells #[.int .i64 0, .int .i64 0, .slice none 0 0] 46)
  have K9 := K7.trans kk9 (fun _ h _ => h)
  have hR9 := hR7.keepsN kk9
  have P2c := kk9.blk P2b (fun h => h)
  have P4c := kk9.blk P4 (fun h => h)
  have o4c := kk9.own o4b (fun _ _ h => h)
  have hev9 := hev.keeps ((Keeps.refl Nothing w9).alloc (.cells #[.int .i64 0, .int .i64 0, .slice none 0 0] 46)) (fun _ h => h.elim)
  clear K7 k9 kk9 hR7 P2b P4 o4b hev
  generalize w9.alloc (.cells #[.int .i64 0, .int .i64 0, .slice none 0 0] 46) = W at *
  generalize w9.heap.size = gp6 at *
  have HEV := shut hev9
  clear hev9
  have hH := ownH_at o4c (pathL_32 3 rows3 0 (by decide))
  obtain ⟨hc4, hm4⟩ := ownH_cap o4c
  rw [path0_len] at hc4
  have p22 := blk_cell P2c 2 (show (#[.int .i64 2, .int .i64 3, .slice ao2 1 cap2] : Array Value)[2]? = some (.slice ao2 1 cap2) from rfl)
  have p40 := blk_cell P4c 0 (show (#[.int .i64 0, .int .i64 3, .slice ao4 2 cap4] : Array Value)[0]? = some (.int .i64 0) from rfl)
  have p41 := blk_cell P4c 1 (show (#[.int .i64 0, .int .i64 3, .slice ao4 2 cap4] : Array Value)[1]? = some (.int .i64 3) from rfl)
  have p42 := blk_cell P4c 2 (show (#[.int .i64 0, .int .i64 3, .slice ao4 2 cap4] : Array Value)[2]? = some (.slice ao4 2 cap4) from rfl)
  have hroot := fun V (K : Keeps Nothing W V) => root_any (w := V) (rows := rows3) rfl (by decide) (Nat.le_refl 3) (by decide) (hR9.keepsN K) hb3
  have hnil := fun V => root_any (w := V) (ao := none) (n := 0) (c := 0) (rows := []) rfl (by decide) (Nat.le_refl _) (by decide) ⟨fun _ => rfl, fun a e => (by cases e)⟩ (by simp)
  obtain ⟨RT, hRT⟩ : ∃ RT, RT = ((rootL rows3).map byteV).toArray := ⟨_, rfl⟩
  have hrl : (rootL rows3).length = 32 := by unfold rootL; split <;> exact sha_len _
  have hchk1 := fun V (K : Keeps Nothing W V) (g : Nat) (hB : Blk V g #[.int .u8 1] 5) => check_any (w := V) (cb := 1) hrl hRT (bytesAt_blk (bs := [1]) hB rfl) rfl (by decide) 0 3 (by decide) (by decide) path0_len (hH.keepsN K) hc4 hm4 (by decide)
  have hchk2 := fun V (K : Keeps Nothing W V) (g : Nat) (hB : Blk V g #[.int .u8 2] 5) => check_any (w := V) (cb := 1) hrl hRT (bytesAt_blk (bs := [2]) hB rfl) rfl (by decide) 0 3 (by decide) (by decide) path0_len (hH.keepsN K) hc4 hm4 (by decide)
  rw [check_1] at hchk1
  rw [check_2] at hchk2
  rw [show hashV (rootL rows3) = .agg RT from by rw [hRT]; rfl] at hroot
  obtain ⟨X0, hX0, hXv0, hXs0, hag0⟩ := hash_agg (topB 0 [])
  obtain ⟨X1, hX1, hXv1, hXs1, hag1⟩ := hash_agg (leafB [120])
  rw [show rootL [] = shaOf (topB 0 []) from rfl, hXv0] at hnil
  have hsum0 := fun V (g : Nat) (hB : Blk V g #[.int .u8 2, .int .u8 0, .int .u8 0, .int .u8 0, .int .u8 0, .int .u8 0, .int .u8 0, .int .u8 0, .int .u8 0] 5) => rsum_any (w := V) 9 (n := 9) (bs := topB 0 []) rfl (bytesAt_blk hB (by rfl)) (by decide)
  have hsum1 := fun V (g : Nat) (hB : Blk V g #[.int .u8 0, .int .u8 120] 5) => rsum_any (w := V) 2 (n := 2) (bs := leafB [120]) rfl (bytesAt_blk hB (by rfl)) (by decide)
  have hlf := fun V (g : Nat) (hB : V.heap[g]? = some (.cells #[.int .u8 120] 5 (1, 2))) => bigleaf_any (w := V) 1 (n := 1) (bs := [120]) rfl (bytesAt_mark hB (by rfl)) (by decide)
  rw [hXv0] at hsum0
  rw [hXv1] at hsum1 hlf
  have heq0 : ∀ V, (Op.equalIn 10000 25 (.agg X0) (.agg X0)).run Try.prog V = .ok true V := fun V => by
    rw [hX0, eql_hash_run _ _ (sha_len _) (sha_len _) V]; simp
  have heq1 : ∀ V, (Op.equalIn 10000 25 (.agg X1) (.agg X1)).run Try.prog V = .ok true V := fun V => by
    rw [hX1, eql_hash_run _ _ (sha_len _) (sha_len _) V]; simp
  clear hX0 hXv0 hX1 hXv1 hRT hR9 hH o4c P2c P4c hrl hb3 hc4 hm4
  refine wp_region_mixJ (fun V => Keeps Nothing W V) 51 (.join (.two 0 1 (.one 1 .done) (.one 0 .done)) (.one 2 (.take 3 (.take 4 (.join (.two 5 8 (.two 6 8 (.two 7 8 (.one 8 .done) (.one 7 .done)) (.one 6 (.one 7 .done))) (.one 5 (.one 6 (.one 7 .done)))) (.one 9 (.take 10 (.take 11 (.take 12 (.take 13 (.take 14 (.take 15 (.take 16 (.take 17 (.take 18 (.take 19 (.take 20 (.take 21 (.take 22 (.take 23 (.take 24 (.take 25 (.take 26 (.take 27 (.take 28 (.take 29 (.take 30 (.take 31 (.take 32 (.take 33 (.take 36 (.join (.two 34 35 (.one 35 .done) (.one 34 .done)) (.one 37 (.take 38 (.take 39 (.take 40 (.take 43 (.join (.two 41 42 (.one 42 .done) (.one 41 .done)) (.one 44 (.take 45 (.take 46 (.take 47 (.take 48 (.one 49 (.take 50 (.one 51 .done)))))))))))))))))))))))))))))))))))))))))))))) (by kernel_rfl) (by kernel_rfl) ((Keeps.refl _ _).drew) ?_
  simp only [itemsJ, PlanJ.map, List.getD_cons_zero, List.getD_cons_succ, Nat.reduceBEq]
  refine wpMixJ_join (fun a0 a V => Keeps Nothing W V ∧ ∃ g, a = (a0.put (some 27) (.agg X0)).put (some 28) (.slice (some ⟨g, 0, none⟩) 9 9) ∧ Blk V g #[.int .u8 2, .int .u8 0, .int .u8 0, .int .u8 0, .int .u8 0, .int .u8 0, .int .u8 0, .int .u8 0, .int .u8 0] 5) ?_ ?_
  · refine wpMixJ_two (fun K hK => ?_) (fun K hK => ?_)
    · go_wp2_with fail
      refine (hnil _).mono ?_
      rintro e V1 ⟨rfl, q1⟩
      have q1' := ((Keeps.refl Nothing W).drew).trans q1 (fun _ h _ => h)
      go_wp2_with fail
      refine hK _ _ (.inr q1') ?_
      clear hK K
      refine wpMixJ_one (fun K hK => ?_)
      go_wp2_with fail
      refine hK _ _ (.inr (q1'.alloc _)) ?_
      refine wpMixJ_done ?_
      exact ⟨q1'.alloc _, V1.heap.size, rfl, blk_new V1 _ _⟩
    · go_wp2_with fail
      have q0 : Keeps Nothing W (W.drew.alloc (.cells #[.int .u8 2, .int .u8 0, .int .u8 0, .int .u8 0, .int .u8 0, .int .u8 0, .int .u8 0, .int .u8 0, .int .u8 0] 5)) := ((Keeps.refl Nothing W).drew).alloc _
      refine hK _ _ (.inr q0) ?_
      clear hK K
      refine wpMixJ_one (fun K hK => ?_)
      go_wp2_with fail
      refine (hnil _).mono ?_
      rintro e V1 ⟨rfl, q1⟩
      go_wp2_with fail
      refine hK _ _ (.inr (q0.trans q1 (fun _ h _ => h))) ?_
      refine wpMixJ_done ?_
      exact ⟨q0.trans q1 (fun _ h _ => h), W.heap.size, rfl, q1.blk (blk_new W.drew _ _) (fun h => h)⟩
  · rintro a V1 ⟨kV1, g1, rfl, B1⟩
    refine wpMixJ_one (fun K hK => ?_)
    go_wp2_with fail
    refine (hsum0 V1 g1 B1).mono ?_
    rintro e V2 ⟨rfl, k2⟩
    have kV2 := kV1.trans k2 (fun _ h _ => h)
    go_wp2_with fail
    refine hK _ _ (.inr kV2) ?_
    clear hK K kV1 B1 k2 hnil hsum0
    repeat (refine wpMixJ_free (fun K hK => ?_); go_simp; refine hK _ ?_; clear hK K)
    refine wpMixJ_join (fun a0 a V => Keeps Nothing W V ∧ ∃ g h, a = (((a0.put (some 32) (.slice (some ⟨h, 0, none⟩) 1 1)).put (some 33) (.slice (some ⟨h, 0, none⟩) 1 1)).put (some 34) (.agg X1)).put (some 35) (.slice (some ⟨g, 0, none⟩) 2 2) ∧ Blk V g #[.int .u8 0, .int .u8 120] 5) ?_ ?_
    · have hWV : W.heap.size ≤ V2.heap.size := kV2.size
      refine wpMixJ_two (fun K hK => ?_) (fun K hK => ?_)
      · go_wp2_with fail
        have kA := kV2.alloc (.cells #[.int .u8 120] 5)
        have BX := blk_new V2 #[.int .u8 120] 5
        refine hK _ _ (.inr kA) ?_
        clear hK K
        generalize V2.alloc (.cells #[.int .u8 120] 5) = V3 at *
        generalize V2.heap.size = h3 at *
        refine wpMixJ_two (fun K hK => ?_) (fun K hK => ?_)
        · have hcv := convert_mark BX 1 1
          go_wp2_with fail
          have kF : Keeps Nothing W (V3.freeze ⟨h3, 1, none⟩ 1) := frz_keeps kA hWV
          have BF : (V3.freeze ⟨h3, 1, none⟩ 1).heap[h3]? = some (.cells #[.int .u8 120] 5 (1, 2)) := frz_self BX
          refine hK _ _ (.inr kF) ?_
          clear hK K hcv
          generalize V3.freeze ⟨h3, 1, none⟩ 1 = V4 at *
          refine wpMixJ_two (fun K hK => ?_) (fun K hK => ?_)
          · go_wp2_with fail
            refine (hlf V4 h3 BF).mono ?_
            rintro e V5 ⟨rfl, k5⟩
            have kV5 := kF.trans k5 (fun _ h _ => h)
            go_wp2_with fail
            refine hK _ _ (.inr kV5) ?_
            clear hK K
            refine wpMixJ_one (fun K hK => ?_)
            go_wp2_with fail
            refine hK _ _ (.inr (kV5.alloc _)) ?_
            refine wpMixJ_done ?_
            exact ⟨kV5.alloc _, V5.heap.size, h3, rfl, blk_new V5 _ _⟩
          · go_wp2_with fail
            have kG := kF.alloc (.cells #[.int .u8 0, .int .u8 120] 5)
            have BG : (V4.alloc (.cells #[.int .u8 0, .int .u8 120] 5)).heap[h3]? = some (.cells #[.int .u8 120] 5 (1, 2)) := ((Keeps.refl Nothing V4).alloc (.cells #[.int .u8 0, .int .u8 120] 5)).blk BF (fun h => h)
            have B2 := blk_new V4 #[.int .u8 0, .int .u8 120] 5
            refine hK _ _ (.inr kG) ?_
            clear hK K
            generalize V4.alloc (.cells #[.int .u8 0, .int .u8 120] 5) = V5 at *
            generalize V4.heap.size = g5 at *
            refine wpMixJ_one (fun K hK => ?_)
            go_wp2_with fail
            refine (hlf V5 h3 BG).mono ?_
            rintro e V6 ⟨rfl, k6⟩
            go_wp2_with fail
            refine hK _ _ (.inr (kG.trans k6 (fun _ h _ => h))) ?_
            refine wpMixJ_done ?_
            exact ⟨kG.trans k6 (fun _ h _ => h), g5, h3, rfl, k6.blk B2 (fun h => h)⟩
        · go_wp2_with fail
          have kG := kA.alloc (.cells #[.int .u8 0, .int .u8 120] 5)
          have BX4 := blk_alloc BX (.cells #[.int .u8 0, .int .u8 120] 5)
          have B2 := blk_new V3 #[.int .u8 0, .int .u8 120] 5
          have hne : V3.heap.size ≠ h3 := by have := lt_of_block BX; omega
          refine hK _ _ (.inr kG) ?_
          clear hK K
          generalize V3.alloc (.cells #[.int .u8 0, .int .u8 120] 5) = V4 at *
          generalize V3.heap.size = g4 at *
          refine wpMixJ_one (fun K hK => ?_)
          have hcv := convert_mark BX4 1 1
          go_wp2_with fail
          have kF : Keeps Nothing W (V4.freeze ⟨h3, 1, none⟩ 1) := frz_keeps kG hWV
          have BF : (V4.freeze ⟨h3, 1, none⟩ 1).heap[h3]? = some (.cells #[.int .u8 120] 5 (1, 2)) := frz_self BX4
          have B2F : Blk (V4.freeze ⟨h3, 1, none⟩ 1) g4 #[.int .u8 0, .int .u8 120] 5 := (frz_other V4 h3 1 g4 hne).trans B2
          refine hK _ _ (.inr kF) ?_
          clear hK K hcv
          generalize V4.freeze ⟨h3, 1, none⟩ 1 = V5 at *
          refine wpMixJ_one (fun K hK => ?_)
          go_wp2_with fail
          refine (hlf V5 h3 BF).mono ?_
          rintro e V6 ⟨rfl, k6⟩
          go_wp2_with fail
          refine hK _ _ (.inr (kF.trans k6 (fun _ h _ => h))) ?_
          refine wpMixJ_done ?_
          exact ⟨kF.trans k6 (fun _ h _ => h), g4, h3, rfl, k6.blk B2F (fun h => h)⟩
      · go_wp2_with fail
        have kB := kV2.alloc (.cells #[.int .u8 0, .int .u8 120] 5)
        have B23 := blk_new V2 #[.int .u8 0, .int .u8 120] 5
        have hWV3 : W.heap.size ≤ (V2.alloc (.cells #[.int .u8 0, .int .u8 120] 5)).heap.size := kB.size
        refine hK _ _ (.inr kB) ?_
        clear hK K
        generalize V2.alloc (.cells #[.int .u8 0, .int .u8 120] 5) = V3 at *
        generalize V2.heap.size = g3 at *
        refine wpMixJ_one (fun K hK => ?_)
        go_wp2_with fail
        have kV4 := kB.alloc (.cells #[.int .u8 120] 5)
        have B24 := blk_alloc B23 (.cells #[.int .u8 120] 5)
        have BX4 := blk_new V3 #[.int .u8 120] 5
        have hne : g3 ≠ V3.heap.size := by have := lt_of_block B23; omega
        refine hK _ _ (.inr kV4) ?_
        clear hK K
        generalize V3.alloc (.cells #[.int .u8 120] 5) = V4 at *
        generalize V3.heap.size = h4 at *
        refine wpMixJ_one (fun K hK => ?_)
        have hcv := convert_mark BX4 1 1
        go_wp2_with fail
        have kF : Keeps Nothing W (V4.freeze ⟨h4, 1, none⟩ 1) := frz_keeps kV4 hWV3
        have BF : (V4.freeze ⟨h4, 1, none⟩ 1).heap[h4]? = some (.cells #[.int .u8 120] 5 (1, 2)) := frz_self BX4
        have B2F : Blk (V4.freeze ⟨h4, 1, none⟩ 1) g3 #[.int .u8 0, .int .u8 120] 5 := (frz_other V4 h4 1 g3 hne).trans B24
        refine hK _ _ (.inr kF) ?_
        clear hK K hcv
        generalize V4.freeze ⟨h4, 1, none⟩ 1 = V5 at *
        refine wpMixJ_one (fun K hK => ?_)
        go_wp2_with fail
        refine (hlf V5 h4 BF).mono ?_
        rintro e V6 ⟨rfl, k6⟩
        go_wp2_with fail
        refine hK _ _ (.inr (kF.trans k6 (fun _ h _ => h))) ?_
        refine wpMixJ_done ?_
        exact ⟨kF.trans k6 (fun _ h _ => h), g3, h4, rfl, k6.blk B2F (fun h => h)⟩
    · rintro a V5 ⟨kV5, g5, h5, rfl, B5⟩
      clear kV2 hlf
      refine wpMixJ_one (fun K hK => ?_)
      go_wp2_with fail
      refine (hsum1 V5 g5 B5).mono ?_
      rintro e V6 ⟨rfl, k6⟩
      have kV6 := kV5.trans k6 (fun _ h _ => h)
      go_wp2_with fail
      refine hK _ _ (.inr kV6) ?_
      clear hK K kV5 B5 k6 hsum1
      repeat (refine wpMixJ_free (fun K hK => ?_); go_simp; refine hK _ ?_; clear hK K)
      refine wpMixJ_yield (v := .slice ao2 1 cap2) (fun V hV => ?_) (fun K hK => ?_)
      · have y1 := hV.cell p22 (fun h => h)
        have y2 := hV.cell p40 (fun h => h)
        have y3 := hV.cell p41 (fun h => h)
        have y4 := hV.cell p42 (fun h => h)
        go_simp
      go_simp
      refine hK _ ?_
      clear hK K
      repeat (refine wpMixJ_free (fun K hK => ?_); go_simp; refine hK _ ?_; clear hK K)
      refine wpMixJ_yield (v := .slice ao4 2 cap4) (fun V hV => ?_) (fun K hK => ?_)
      · have y1 := hV.cell p22 (fun h => h)
        have y2 := hV.cell p40 (fun h => h)
        have y3 := hV.cell p41 (fun h => h)
        have y4 := hV.cell p42 (fun h => h)
        go_simp
      go_simp
      refine hK _ ?_
      clear hK K
      repeat (refine wpMixJ_free (fun K hK => ?_); go_simp; refine hK _ ?_; clear hK K)
      refine wpMixJ_yield (v := .agg #[.int .i64 0, .int .i64 3, .slice ao4 2 cap4]) (fun V hV => ?_) (fun K hK => ?_)
      · have y1 := hV.cell p22 (fun h => h)
        have y2 := hV.cell p40 (fun h => h)
        have y3 := hV.cell p41 (fun h => h)
        have y4 := hV.cell p42 (fun h => h)
        go_simp
      go_simp
      refine hK _ ?_
      clear hK K
      refine wpMixJ_join (fun a0 a V => Keeps Nothing W V ∧ ∃ g, a = (a0.put (some 61) (.agg RT)).put (some 62) (.slice (some ⟨g, 0, none⟩) 1 1) ∧ Blk V g #[.int .u8 1] 5) ?_ ?_
      · refine wpMixJ_two (fun K hK => ?_) (fun K hK => ?_)
        · go_wp2_with fail
          refine (hroot V6 kV6).mono ?_
          rintro e U1 ⟨rfl, q1⟩
          have q1' := kV6.trans q1 (fun _ h _ => h)
          go_wp2_with fail
          refine hK _ _ (.inr q1') ?_
          clear hK K
          refine wpMixJ_one (fun K hK => ?_)
          go_wp2_with fail
          refine hK _ _ (.inr (q1'.alloc _)) ?_
          refine wpMixJ_done ?_
          exact ⟨q1'.alloc _, U1.heap.size, rfl, blk_new U1 _ _⟩
        · go_wp2_with fail
          have q0 := kV6.alloc (.cells #[.int .u8 1] 5)
          have B0 := blk_new V6 #[.int .u8 1] 5
          refine hK _ _ (.inr q0) ?_
          clear hK K
          generalize V6.alloc (.cells #[.int .u8 1] 5) = U0 at *
          generalize V6.heap.size = u0 at *
          refine wpMixJ_one (fun K hK => ?_)
          go_wp2_with fail
          refine (hroot U0 q0).mono ?_
          rintro e U1 ⟨rfl, q1⟩
          go_wp2_with fail
          refine hK _ _ (.inr (q0.trans q1 (fun _ h _ => h))) ?_
          refine wpMixJ_done ?_
          exact ⟨q0.trans q1 (fun _ h _ => h), u0, rfl, q1.blk B0 (fun h => h)⟩
      · rintro a V8 ⟨kV8, g8, rfl, B8⟩
        clear kV6
        refine wpMixJ_one (fun K hK => ?_)
        go_wp2_with fail
        refine (hchk1 V8 kV8 g8 B8).mono ?_
        rintro e V9 ⟨rfl, k9⟩
        have kV9 := kV8.trans k9 (fun _ h _ => h)
        go_wp2_with fail
        refine hK _ _ (.inr kV9) ?_
        clear hK K kV8 B8 k9 hchk1
        repeat (refine wpMixJ_free (fun K hK => ?_); go_simp; refine hK _ ?_; clear hK K)
        refine wpMixJ_yield (v := .agg #[.int .i64 0, .int .i64 3, .slice ao4 2 cap4]) (fun V hV => ?_) (fun K hK => ?_)
        · have y1 := hV.cell p22 (fun h => h)
          have y2 := hV.cell p40 (fun h => h)
          have y3 := hV.cell p41 (fun h => h)
          have y4 := hV.cell p42 (fun h => h)
          go_simp
        go_simp
        refine hK _ ?_
        clear hK K
        refine wpMixJ_join (fun a0 a V => Keeps Nothing W V ∧ ∃ g, a = (a0.put (some 68) (.agg RT)).put (some 69) (.slice (some ⟨g, 0, none⟩) 1 1) ∧ Blk V g #[.int .u8 2] 5) ?_ ?_
        · refine wpMixJ_two (fun K hK => ?_) (fun K hK => ?_)
          · go_wp2_with fail
            refine (hroot V9 kV9).mono ?_
            rintro e U1 ⟨rfl, q1⟩
            have q1' := kV9.trans q1 (fun _ h _ => h)
            go_wp2_with fail
            refine hK _ _ (.inr q1') ?_
            clear hK K
            refine wpMixJ_one (fun K hK => ?_)
            go_wp2_with fail
            refine hK _ _ (.inr (q1'.alloc _)) ?_
            refine wpMixJ_done ?_
            exact ⟨q1'.alloc _, U1.heap.size, rfl, blk_new U1 _ _⟩
          · go_wp2_with fail
            have q0 := kV9.alloc (.cells #[.int .u8 2] 5)
            have B0 := blk_new V9 #[.int .u8 2] 5
            refine hK _ _ (.inr q0) ?_
            clear hK K
            generalize V9.alloc (.cells #[.int .u8 2] 5) = U0 at *
            generalize V9.heap.size = u0 at *
            refine wpMixJ_one (fun K hK => ?_)
            go_wp2_with fail
            refine (hroot U0 q0).mono ?_
            rintro e U1 ⟨rfl, q1⟩
            go_wp2_with fail
            refine hK _ _ (.inr (q0.trans q1 (fun _ h _ => h))) ?_
            refine wpMixJ_done ?_
            exact ⟨q0.trans q1 (fun _ h _ => h), u0, rfl, q1.blk B0 (fun h => h)⟩
        · rintro a V11 ⟨kV11, g11', rfl, B11⟩
          clear kV9
          refine wpMixJ_one (fun K hK => ?_)
          go_wp2_with fail
          refine (hchk2 V11 kV11 g11' B11).mono ?_
          rintro e V12 ⟨rfl, k12⟩
          have kV12 := kV11.trans k12 (fun _ h _ => h)
          go_wp2_with fail
          refine hK _ _ (.inr kV12) ?_
          clear hK K kV11 B11 k12 hchk2 hroot
          repeat (refine wpMixJ_free (fun K hK => ?_); go_simp; refine hK _ ?_; clear hK K)
          refine wpMixJ_one (fun K hK => ?_)
          go_wp2_with fail
          refine (is_any (HEV.out.keeps kV12 (fun _ h => h.elim)) 2 0).mono ?_
          rintro e V13 ⟨rfl, n13, rfl⟩
          rw [show decide ((2 : Int) = 2 ∧ (0 : Int) = 0) = true from rfl]
          go_wp2_with fail
          refine hK _ _ (.inr (kV12.drewN _)) ?_
          clear hK K
          repeat (refine wpMixJ_free (fun K hK => ?_); go_simp; refine hK _ ?_; clear hK K)
          refine wpMixJ_one (fun K hK => ?_)
          go_wp2_with fail
          refine hK _ _ (.inl trivial) ?_
          clear hK K
          refine wpMixJ_done ?_
          go_wp2_with fail
          go_ret
          exact ⟨rfl, (K9.trans kV12 (fun _ h _ => h)).drewN _⟩

end Go.Proofs.Ytdmfomjgmmkaeaa
