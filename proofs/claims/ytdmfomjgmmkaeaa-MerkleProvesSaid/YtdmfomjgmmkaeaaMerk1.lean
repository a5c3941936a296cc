/- merkle.leaf, Leaf, node, top, split. -/
import Derived.Test.YtdmfomjgmmkaeaaSha5
import Derived.Test.YtdmfomjgmmkaeaaArgs2
import Derived.Test.YtdmfomjgmmkaeaaMix
import Derived.OwnWalk
namespace Go.Proofs.Ytdmfomjgmmkaeaa
open Go.RowKit

def leafB (b : List UInt8) : List UInt8 := 0 :: b
def nodeB (l r : List UInt8) : List UInt8 := 1 :: (l ++ r)
def topB (n : Nat) (t : List UInt8) : List UInt8 := 2 :: (be8 n ++ t)
/-- The greatest power of two below n, from k on. -/
def splitF (n : Nat) : Nat → Nat → Nat
  | 0, k => k
  | f + 1, k => if k < n - k then splitF n f (k * 2) else k
def splitN (n : Nat) : Nat := splitF n n 1
theorem splitF_step {n f k : Nat} (h : k < n - k) : splitF n (f + 1) k = splitF n f (k * 2) := by
  show (if k < n - k then splitF n f (k * 2) else k) = _
  rw [if_pos h]
theorem splitF_stop {n f k : Nat} (h : ¬ k < n - k) : splitF n f k = k := by
  cases f with
  | zero => rfl
  | succ f =>
    show (if k < n - k then splitF n f (k * 2) else k) = _
    rw [if_neg h]
theorem splitF_more (n : Nat) : ∀ (f g k : Nat), 0 < k → n ≤ f + k → n ≤ g + k → splitF n f k = splitF n g k := by
  intro f
  induction f with
  | zero =>
    intro g k hk hf _
    rw [splitF_stop (by omega), splitF_stop (by omega)]
  | succ f ih =>
    intro g k hk hf hg
    by_cases h : k < n - k
    · cases g with
      | zero => omega
      | succ g =>
        rw [splitF_step h, splitF_step h]
        exact ih g (k * 2) (by omega) (by omega) (by omega)
    · rw [splitF_stop h, splitF_stop h]
theorem splitF_lt (n : Nat) : ∀ (f k : Nat), 0 < k → k < n → 0 < splitF n f k ∧ splitF n f k < n := by
  intro f
  induction f with
  | zero => intro k h0 h1; exact ⟨h0, h1⟩
  | succ f ih =>
    intro k h0 h1
    by_cases h : k < n - k
    · rw [splitF_step h]; exact ih (k * 2) (by omega) (by omega)
    · rw [splitF_stop h]; exact ⟨h0, h1⟩
theorem splitN_lt {n : Nat} (h : 2 ≤ n) : 0 < splitN n ∧ splitN n < n := splitF_lt n n 1 (by decide) (by omega)

theorem sha_len (bs : List UInt8) : (shaOf bs).length = 32 := by unfold shaOf outOf; simp
theorem own8_spot {w : World} {e : TypeId} {ao : Option Addr} {cap : Nat} {bs : List UInt8} (h : Own8 w e ao cap bs) : ∀ a, ao = some a → a.spot = none := by
  intro a e
  subst e
  rcases h.2 with ⟨hv, _⟩ | ⟨g, cap', cur, hv, _⟩
  · simp at hv
  · simp only [Value.slice.injEq] at hv
    obtain ⟨h1, _, _⟩ := hv
    obtain rfl := Option.some.inj h1
    rfl
/-- The sum of a row of its own. -/
theorem sum_own {w : World} {ao : Option Addr} {cap : Nat} {bs : List UInt8} (h : Own8 w 5 ao cap bs) (hl : bs.length ≤ 1000000) :
    Calls Try.prog 14 #[.slice ao bs.length cap] w fun e w' => e = .returned (hashV (shaOf bs)) ∧ Keeps Nothing w w' := by
  have hc := own8_cap h
  exact sum_any cap rfl (own8_at h) (own8_spot h) hc.1 (by unfold maxLen; omega) hl

theorem own8_one (w : World) (c : UInt8) {u : Value} (hu : u = byteV c) : Own8 (w.alloc (.cells #[u] 5)) 5 (some ⟨w.heap.size, 0, none⟩) 1 [c] := by
  subst hu
  exact ⟨rfl, .inr ⟨w.heap.size, 1, #[byteV c], rfl, Nat.zero_le _, heap_alloc_new w _, Nat.le_refl _, by decide, rfl, rfl⟩⟩

set_option maxHeartbeats 400000 in
theorem leaf_any {w : World} {ao : Option Addr} {n : Nat} (c : Nat) {bs : List UInt8} (hn : bs.length = n) (h : BytesAt w ao bs) (hl : n ≤ 1000000) :
    Calls Try.prog 55 #[.slice ao n c] w (NewBytes w (leafB bs)) := by
  have h' : BytesAt (w.alloc (.cells #[.int .u8 0] 5)) ao bs := h.keeps ((Keeps.refl Nothing w).alloc _) (fun _ _ h => h)
  have hs := src_at c h'
  rw [hn] at hs
  have HN := shut hn
  go_enter Try.func55, Try.ntmps55
  go_wp2_with (at_builtin; refine wpList_app8 _ rfl (.tmp 3) (.tmp 4) 22 rfl (some ⟨w.heap.size, 0, none⟩) 1 [0] rfl (own8_one w 0 rfl) _ rfl bs (by rw [HN.out]; exact hs) (by simp) (by omega) ?_)
  intro ao1 cap1 w1 ho1 hk1 hm1
  go_wp2_with fail
  go_ret
  have K1 : Keeps Nothing w w1 := ((Keeps.refl Nothing w).alloc _).trans hk1 (fun i hi hlt => by simp [blockOf] at hi; omega)
  refine ⟨ao1, cap1, by rw [show (leafB bs).length = n + 1 from by simp [leafB, hn]]; rfl, ho1, K1, ?_⟩
  intro g hg
  rcases hm1 with h | ⟨g', h, hg'⟩
  · rw [h] at hg; simp [blockOf] at hg; omega
  · rw [h] at hg; obtain rfl := Option.some.inj hg; first | omega | (simp only [World.size_alloc] at hg'; omega)

attribute [local go_sem ↓] exec_load_hash exec_store_hash
attribute [local go_sem] rowOk_new World.setRow_alloc_new

set_option maxHeartbeats 400000 in
theorem bigleaf_any {w : World} {ao : Option Addr} {n : Nat} (c : Nat) {bs : List UInt8} (hn : bs.length = n) (h : BytesAt w ao bs) (hl : n ≤ 1000) :
    Calls Try.prog 42 #[.slice ao n c] w fun e w' => e = .returned (hashV (shaOf (leafB bs))) ∧ Keeps Nothing w w' := by
  obtain ⟨Z, hZ⟩ : ∃ Z, Z = (zeros32.map byteV).toArray := ⟨_, rfl⟩
  have hZs : Z.size = 32 := by rw [hZ]; rfl
  have hzl := zeros32_lit
  rw [← hZ] at hzl
  clear hZ
  obtain ⟨X, hX⟩ : ∃ X, ((shaOf (leafB bs)).map byteV).toArray = X := ⟨_, rfl⟩
  have hXs : X.size = 32 := by rw [← hX]; simp [sha_len]
  have hag : aggOk 32 (.agg X) = true := aggOk_agg 32 X hXs (by rw [← hX]; exact bytes_all _)
  have HX := shut hX
  clear hX
  go_enter Try.func42, Try.ntmps42
  go_wp2_with fail
  rw [← hzl]
  have B0 := blk_new w Z 25
  have K0 := (Keeps.refl Nothing w).alloc (.cells Z 25)
  have h0 := h.keeps K0 (fun _ _ h => h)
  generalize w.alloc (.cells Z 25) = w0 at *
  generalize hg : w.heap.size = g at *
  have HG := shut hg
  clear hg hzl
  refine (leaf_any c hn h0 (by omega)).mono ?_
  rintro e w1 ⟨a1, c1, rfl, o1, k1, _⟩
  have B1 := k1.blk B0 (fun h => h)
  have K1 := K0.trans k1 (fun _ h _ => h)
  go_wp2_with fail
  refine (sum_own o1 (by simp [leafB]; omega)).mono ?_
  rintro e w2 ⟨rfl, k2⟩
  rw [show hashV (shaOf (leafB bs)) = .agg X from by rw [← HX.out]; rfl]
  have B2 := k2.blk B1 (fun h => h)
  have K2 := K1.trans k2 (fun _ h _ => h)
  have r2 := rowOk_blk B2 hZs
  clear B0 K0 h0 o1 B1 K1 k1 k2
  go_wp2_with fail
  have b3 := blk_setRow (cs := X) B2
  refine bodyPost_ret (v := .agg X) (results_cell_row rfl _ _ g _ X (0, 0) _ rfl b3 Try.underlying25 rfl (by rw [infoHash, hXs])) rfl ?_
  exact ⟨by rw [← HX.out]; rfl, K2.setRow (fun h => absurd h (by have := HG.out; omega)) X⟩

/-- The bytes of a row that holds them whole. -/
theorem bytesAt_blk {w : World} {g : Nat} {bs : List UInt8} {C : Array Value} {t : TypeId} (h : Blk w g C t) (hC : C = (bs.map byteV).toArray) : BytesAt w (some ⟨g, 0, none⟩) bs := by
  subst hC
  refine ⟨fun e => (by cases e), fun a e j c hj => ?_⟩
  obtain rfl := Option.some.inj e
  rw [Addr.add_mid', Nat.zero_add]
  exact blk_cell h j (by simp [hj, byteV])

set_option maxHeartbeats 1000000 in
theorem node_any (w : World) {l r : List UInt8} (hl : l.length = 32) (hr : r.length = 32) {L R : Array Value} (eL : (l.map byteV).toArray = L) (eR : (r.map byteV).toArray = R) :
    Calls Try.prog 56 #[.agg L, .agg R] w (NewBytes w (nodeB l r)) := by
  have hLs : L.size = 32 := by rw [← eL]; simp [hl]
  have hRs : R.size = 32 := by rw [← eR]; simp [hr]
  have EL := shut eL.symm
  have ER := shut eR.symm
  have HL := shut hl
  have HR := shut hr
  clear eL eR hl hr
  go_enter Try.func56, Try.ntmps56
  go_wp2_with fail
  have b1 : Blk ((w.alloc (.cells L 25)).alloc (.cells R 25)) w.heap.size L 25 := blk_alloc (blk_new w L _) _
  have b2 : Blk ((w.alloc (.cells L 25)).alloc (.cells R 25)) (w.heap.size + 1) R 25 := by have := blk_new (w.alloc (.cells L 25)) R 25; rw [World.size_alloc] at this; exact this
  have K0 : Keeps Nothing w ((w.alloc (.cells L 25)).alloc (.cells R 25)) := ((Keeps.refl _ _).alloc _).alloc _
  generalize (w.alloc (.cells L 25)).alloc (.cells R 25) = W0 at *
  obtain ⟨g1, hg1⟩ : ∃ g1, w.heap.size = g1 := ⟨_, rfl⟩
  obtain ⟨g2, hg2⟩ : ∃ g2, g1 + 1 = g2 := ⟨_, rfl⟩
  rw [hg1] at b1 b2 ⊢
  rw [hg2] at b2 ⊢
  refine wp_region_mix (fun _ => True) [(true, 1), (true, 3), (false, 0), (false, 2), (false, 4), (true, 5)] (by kernel_rfl) (by kernel_rfl) trivial ?_
  simp only [mixItems, List.map_cons, List.map_nil, List.getD_cons_zero, List.getD_cons_succ]
  repeat (refine wpMix_free (fun K hK => ?_); go_simp; refine hK _ ?_; clear hK K)
  refine wpMix_one (fun K hK => ?_)
  go_wp2_with fail
  refine hK _ _ trivial ?_
  clear hK K
  have K1 : Keeps Nothing w (W0.drew.alloc (.cells #[.int .u8 1] 5)) := K0.drew.alloc _
  have o0 : Own8 (W0.drew.alloc (.cells #[.int .u8 1] 5)) 5 (some ⟨W0.heap.size, 0, none⟩) 1 [1] := own8_one W0.drew 1 rfl
  have c1 : Blk (W0.drew.alloc (.cells #[.int .u8 1] 5)) g1 L 25 := blk_alloc (w := W0.drew) b1 _
  have c2 : Blk (W0.drew.alloc (.cells #[.int .u8 1] 5)) g2 R 25 := blk_alloc (w := W0.drew) b2 _
  have s1 := src_at 32 (bytesAt_blk c1 EL.out)
  rw [HL.out] at s1
  have hw0 : w.heap.size ≤ W0.heap.size := K0.size
  have hg0 : g2 < W0.heap.size := lt_of_block b2
  clear b1 b2
  refine wpMix_one (fun K hK => ?_)
  refine wpList_app8 _ rfl (.tmp 5) (.tmp 6) 22 rfl (some ⟨W0.heap.size, 0, none⟩) 1 [1] rfl o0 _ rfl l (by rw [HL.out]; exact s1) (by simp) (by rw [HL.out]; decide) ?_
  intro a1 p1 w1 o1 k1 m1
  have n1 := m1.new (B := W0.heap.size) (by simp) (fun g hg => by simp [blockOf] at hg; omega)
  have d2 : Blk w1 g2 R 25 := k1.blk c2 (fun h => by simp [blockOf] at h; omega)
  have K2 : Keeps Nothing w w1 := K1.trans k1 (fun i hi hlt => by simp [blockOf] at hi; omega)
  have s2 := src_at 32 (bytesAt_blk d2 ER.out)
  rw [HR.out] at s2
  have l1 : ([1] ++ l).length = 33 := by simp [HL.out]
  clear c1 c2 s1 k1 m1 o0 K1
  generalize hP : ([1] ++ l) = P at *
  rw [l1]
  go_wp2_with fail
  refine hK _ _ trivial ?_
  clear hK K
  refine wpMix_one (fun K hK => ?_)
  refine wpList_app8 _ rfl (.tmp 7) (.tmp 8) 22 rfl a1 p1 P (by rw [l1]; rfl) o1 _ rfl r (by rw [HR.out]; exact s2) (by omega) (by rw [HR.out]; decide) ?_
  intro a2 p2 w2 o2 k2 m2
  have K3 : Keeps Nothing w w2 := K2.trans k2 (fun i hi hlt => by have := n1 i hi; omega)
  have n2 := m2.new (B := w.heap.size) (by have := K2.size; omega) (fun g hg => by have := n1 g hg; omega)
  have l2 : (P ++ r).length = 65 := by rw [List.length_append, l1, HR.out]
  have hN : P ++ r = nodeB l r := by rw [← hP]; rfl
  have HNN := shut hN
  clear hN hP
  rw [l2]
  go_wp2_with fail
  refine hK _ _ trivial ?_
  clear hK K
  repeat (refine wpMix_free (fun K hK => ?_); go_simp; refine hK _ ?_; clear hK K)
  refine wpMix_nil ?_
  go_wp2_with fail
  go_ret
  rw [HNN.out] at o2 l2
  exact ⟨a2, p2, by rw [l2]; rfl, o2, K3, n2⟩

end Go.Proofs.Ytdmfomjgmmkaeaa
