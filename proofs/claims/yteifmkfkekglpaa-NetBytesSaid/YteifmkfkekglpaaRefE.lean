/- The document's reader behind an error; both states in one. -/
import Derived.Test.YteifmkfkekglpaaRefRd4
import Derived.Test.YteifmkfkekglpaaCanon2
import Derived.Deep.Cut
import Derived.Deep.CutBlock
namespace Go.Proofs.Yteifmkfkekglpaa
open Go.RowKit

/-- st = some k: no error yet, it stands at k. -/
def Rs (w : World) (x : Nat) (bs : List UInt8) (st : Option Nat) : Prop := (∃ k, st = some k ∧ k ≤ bs.length ∧ RefR w x bs k 0 0) ∨ (st = none ∧ ∃ k c a : Int, (c != 0) = true ∧ RefR w x bs k c a)
/-- Behind one reading: which state comes. -/
def nextR (st : Option Nat) (f : Nat → Nat × Nat) : Option Nat := st.bind fun k => if (f k).1 = 0 then some (k + (f k).2) else none
theorem Rs.keeps {S : Nat → Prop} {w w' : World} {x : Nat} {bs : List UInt8} {st : Option Nat} (h : Rs w x bs st) (k : Keeps S w w') (hx : ¬ S x) : Rs w' x bs st := by
  rcases h with ⟨j, h1, h2, h3⟩ | ⟨h1, j, c, a, h2, h3⟩
  · exact .inl ⟨j, h1, h2, k.blk h3 hx⟩
  · exact .inr ⟨h1, j, c, a, h2, k.blk h3 hx⟩
theorem Rs.of {w : World} {x : Nat} {bs : List UInt8} {k : Nat} {c n : Nat} {p : Int} (h : RefR w x bs (k + n : Nat) c p) (hp : p = posOf c k) (hn : c = 0 → k + n ≤ bs.length) (f : Nat → Nat × Nat) (hf : f k = (c, n)) : Rs w x bs (nextR (some k) f) := by
  unfold nextR
  simp only [Option.bind_some, hf]
  by_cases hc : c = 0
  · subst hc
    rw [if_pos rfl]
    have : p = 0 := by rw [hp]; rfl
    subst this
    exact .inl ⟨_, rfl, hn rfl, h⟩
  · rw [if_neg hc]
    exact .inr ⟨rfl, _, _, _, by simp only [bne_iff_ne, ne_eq]; omega, h⟩

section
variable {w : World} {x : Nat} {bs : List UInt8} {k c a : Int}
theorem uint_e (h : RefR w x bs k c a) (hc : (c != 0) = true) : Calls Try.prog 59 #[.pointer (some ⟨x, 0, none⟩)] w fun e w' => e = .returned (.int .u64 0) ∧ w' = w := by
  have g2 := h.c2
  go_enter Try.func59, Try.ntmps59
  go_wp2_with fail
  go_ret
  exact ⟨rfl, rfl⟩
theorem int_e (h : RefR w x bs k c a) (hc : (c != 0) = true) : Calls Try.prog 46 #[.pointer (some ⟨x, 0, none⟩)] w fun e w' => e = .returned (.int .i64 0) ∧ w' = w := by
  have hU := uint_e h hc
  go_enter Try.func46, Try.ntmps46
  go_wp2_with fail
  refine hU.mono ?_
  rintro e w' ⟨rfl, rfl⟩
  go_wp2_with fail
  go_ret
  exact ⟨rfl, rfl⟩
theorem small_e (h : RefR w x bs k c a) (hc : (c != 0) = true) (most : Int) : Calls Try.prog 49 #[.pointer (some ⟨x, 0, none⟩), .int .i64 most] w fun e w' => e = .returned (.int .i64 0) ∧ w' = w := by
  have hU := uint_e h hc
  have g2 := h.c2
  have g1 := h.c1
  have hc2 : (c == 0) = false := by rw [beq_eq_false_iff_ne]; simpa using hc
  go_enter Try.func49, Try.ntmps49
  go_wp2_with fail
  refine hU.mono ?_
  rintro e w' ⟨rfl, rfl⟩
  go_wp2_with fail
  go_ret
  exact ⟨rfl, rfl⟩
theorem text_e (h : RefR w x bs k c a) (hc : (c != 0) = true) (most : Int) : Calls Try.prog 47 #[.pointer (some ⟨x, 0, none⟩), .int .i64 most] w fun e w' => e = .returned (.string ⟨#[]⟩) ∧ w' = w := by
  have hU := uint_e h hc
  have g2 := h.c2
  have g1 := h.c1
  go_enter Try.func47, Try.ntmps47
  go_wp2_with fail
  refine hU.mono ?_
  rintro e w' ⟨rfl, rfl⟩
  go_wp2_with fail
  go_ret
  exact ⟨rfl, rfl⟩
end
attribute [local go_sem ↓] exec_load_hash exec_store_hash

set_option maxRecDepth 100000 in
set_option maxHeartbeats 1000000 in
theorem hash_e {w : World} {x : Nat} {bs : List UInt8} {k c a : Int} (h : RefR w x bs k c a) (hc : (c != 0) = true) : Calls Try.prog 48 #[.pointer (some ⟨x, 0, none⟩)] w fun e w' => e = .returned (hashV zeros32) ∧ Keeps Nothing w w' := by
  have hx := lt_of_block h
  have g2 := h.c2
  go_enter Try.func48, Try.ntmps48
  go_upto_region 2 with fail
  rw [← zeros32_lit]
  obtain ⟨Z, hZ⟩ : ∃ Z, Z = (zeros32.map byteV).toArray := ⟨_, rfl⟩
  rw [← hZ]
  have hZs : Z.size = 32 := by rw [hZ]; rfl
  have hZ1 : Z.all (·.oneCell') = true := by rw [hZ]; exact bytes_all _
  have HZ := Lib.hid hZ
  clear hZ
  obtain ⟨W, hW⟩ : ∃ W, W = (w.alloc (.cells Z 23)).alloc (.cells Z 23) := ⟨_, rfl⟩
  rw [← hW]
  have hR : RefR W x bs k c a := hW ▸ blk_alloc (blk_alloc h _) _
  have b1 : Blk W w.heap.size Z 23 := hW ▸ (blk_alloc (blk_new w Z _) _)
  have b2 : Blk W (w.heap.size + 1) Z 23 := by rw [hW]; have := blk_new (w.alloc (.cells Z 23)) Z 23; rw [World.size_alloc] at this; exact this
  have hKW : Keeps Nothing w W := hW ▸ (((Keeps.refl _ _).alloc _).alloc _)
  clear hW g2
  have g2 := hR.c2
  have r1' := rowOk_blk b1 hZs
  have r2' := rowOk_blk b2 hZs
  have e2' := rowOf_blk b2
  have hag := aggOk_agg 32 Z hZs hZ1
  go_wp2_with fail
  have b3 := blk_setRow (cs := Z) b1
  refine bodyPost_ret (v := .agg Z) (results_cell_row rfl _ _ w.heap.size _ Z (0, 0) _ rfl b3 Try.underlying23 rfl (by rw [infoHash, hZs])) rfl ?_
  refine ⟨by rw [HZ.out]; rfl, Keeps.setRow (S := Nothing) hKW (fun h => absurd h (Nat.lt_irrefl _)) Z⟩

theorem Canon.le {l : List UInt8} {c n : Nat} {b : List UInt8} (h : Canon l c n b) (hc : c = 0) : n ≤ l.length := by
  rcases h with ⟨h, _⟩ | ⟨_, h, _⟩
  · exact absurd hc h
  · exact h
theorem decSmall_len (most : Int) (l : List UInt8) : (decSmall most l).2.2 ≤ l.length := by
  unfold decSmall
  split
  · exact Nat.zero_le _
  · rename_i h0
    split
    · exact Nat.zero_le _
    · exact (canonU l).le (by simpa using h0)

theorem r_int {w : World} {x : Nat} {bs : List UInt8} {st : Option Nat} (h : Rs w x bs st) (hl : bs.length ≤ 1000000) :
    Calls Try.prog 46 #[.pointer (some ⟨x, 0, none⟩)] w fun e w' => ∃ z : Int, e = .returned (.int .i64 z) ∧ -9223372036854775808 ≤ z ∧ z < 9223372036854775808 ∧ Rs w' x bs (nextR st fun k => ((decI (bs.drop k)).1, (decI (bs.drop k)).2.2)) ∧ Keeps (fun i => i = x) w w' ∧
      ∀ k, st = some k → z = (decI (bs.drop k)).2.1 := by
  rcases h with ⟨k, rfl, hk, hR⟩ | ⟨rfl, k, c, a, hc, hR⟩
  · refine (ref_int hR hl hk).mono fun e w' ⟨he, hR', k'⟩ => ⟨_, he, (decI_bd _).1, (decI_bd _).2, Rs.of hR' rfl (fun h0 => ?_) _ rfl, k', fun j hj => by obtain rfl := Option.some.inj hj; rfl⟩
    have := (canonI (bs.drop k)).le h0
    rw [List.length_drop] at this
    omega
  · exact (int_e hR hc).mono fun e w' ⟨he, hw⟩ => ⟨0, he, by decide, by decide, by rw [hw]; exact .inr ⟨rfl, k, c, a, hc, hR⟩, by rw [hw]; exact Keeps.refl _ _, fun j hj => by cases hj⟩
theorem r_small {w : World} {x : Nat} {bs : List UInt8} {st : Option Nat} (h : Rs w x bs st) (hl : bs.length ≤ 1000000) (most : Int) (hm : most < 9223372036854775808) :
    Calls Try.prog 49 #[.pointer (some ⟨x, 0, none⟩), .int .i64 most] w fun e w' => ∃ z : Nat, e = .returned (.int .i64 z) ∧ Rs w' x bs (nextR st fun k => ((decSmall most (bs.drop k)).1, (decSmall most (bs.drop k)).2.2)) ∧ Keeps (fun i => i = x) w w' ∧
      (∀ k, st = some k → z = (decSmall most (bs.drop k)).2.1) ∧ (st = none → z = 0) := by
  rcases h with ⟨k, rfl, hk, hR⟩ | ⟨rfl, k, c, a, hc, hR⟩
  · refine (ref_small hR hl hk most hm).mono fun e w' ⟨he, hR', k'⟩ => ⟨_, he, Rs.of hR' rfl (fun _ => ?_) _ rfl, k', fun j hj => by (obtain rfl := Option.some.inj hj); rfl, fun h => by cases h⟩
    have := decSmall_len most (bs.drop k)
    rw [List.length_drop] at this
    omega
  · exact (small_e hR hc most).mono fun e w' ⟨he, hw⟩ => ⟨0, he, by rw [hw]; exact .inr ⟨rfl, k, c, a, hc, hR⟩, by rw [hw]; exact Keeps.refl _ _, fun j hj => (by cases hj), fun _ => rfl⟩
theorem r_text {w : World} {x : Nat} {bs : List UInt8} {st : Option Nat} (h : Rs w x bs st) (hl : bs.length ≤ 1000000) (most : Int) (hm : most < 9223372036854775808) :
    Calls Try.prog 47 #[.pointer (some ⟨x, 0, none⟩), .int .i64 most] w fun e w' => ∃ z : List UInt8, e = .returned (.string ⟨z.toArray⟩) ∧ z.length ≤ bs.length ∧ Rs w' x bs (nextR st fun k => ((decText most (bs.drop k)).1, (decText most (bs.drop k)).2.2)) ∧ Keeps (fun i => i = x) w w' ∧
      ∀ k, st = some k → z = (decText most (bs.drop k)).2.1 := by
  rcases h with ⟨k, rfl, hk, hR⟩ | ⟨rfl, k, c, a, hc, hR⟩
  · refine (ref_text hR hl hk most hm).mono fun e w' ⟨he, hR', k'⟩ => ⟨_, he, ?_, Rs.of hR' rfl (fun h0 => ?_) _ rfl, k', fun j hj => by obtain rfl := Option.some.inj hj; rfl⟩
    · have := decText_bd most (bs.drop k)
      rw [List.length_drop] at this
      omega
    · have := (canonS most (bs.drop k)).le h0
      rw [List.length_drop] at this
      omega
  · exact (text_e hR hc most).mono fun e w' ⟨he, hw⟩ => ⟨[], he, Nat.zero_le _, by rw [hw]; exact .inr ⟨rfl, k, c, a, hc, hR⟩, by rw [hw]; exact Keeps.refl _ _, fun j hj => by cases hj⟩
theorem r_hash {w : World} {x : Nat} {bs : List UInt8} {st : Option Nat} (h : Rs w x bs st) (hl : bs.length ≤ 1000000) :
    Calls Try.prog 48 #[.pointer (some ⟨x, 0, none⟩)] w fun e w' => ∃ z : List UInt8, e = .returned (.agg (z.map byteV).toArray) ∧ z.length = 32 ∧ Rs w' x bs (nextR st fun k => ((decHash (bs.drop k)).1, (decHash (bs.drop k)).2.2)) ∧ Keeps (fun i => i = x) w w' ∧
      ∀ k, st = some k → z = (decHash (bs.drop k)).2.1 := by
  rcases h with ⟨k, rfl, hk, hR⟩ | ⟨rfl, k, c, a, hc, hR⟩
  · by_cases hs : bs.length - k < 32
    · have hd : decHash (bs.drop k) = (3, zeros32, 0) := by unfold decHash; rw [if_pos (by rw [List.length_drop]; exact hs)]; rfl
      refine (ref_hash_short hR hk hs).mono fun e w' ⟨he, hR', k'⟩ => ⟨zeros32, he, rfl, Rs.of (n := 0) (c := 3) hR' rfl (fun h0 => by cases h0) _ (by rw [hd]), k', fun j hj => by obtain rfl := Option.some.inj hj; rw [hd]⟩
    · have hd : decHash (bs.drop k) = (0, (bs.drop k).take 32, 32) := by unfold decHash; rw [if_neg (by rw [List.length_drop]; exact hs)]
      refine (ref_hash_ok hR hl hs).mono fun e w' ⟨he, hR', k'⟩ => ⟨_, he, by rw [List.length_take, List.length_drop]; omega, Rs.of (n := 32) (c := 0) hR' rfl (fun h0 => by omega) _ (by rw [hd]), k', fun j hj => by obtain rfl := Option.some.inj hj; rw [hd]⟩
  · exact (hash_e hR hc).mono fun e w' ⟨he, hw⟩ => ⟨zeros32, he, rfl, .inr ⟨rfl, k, c, a, hc, hw.blk hR (fun h => h)⟩, hw.mono (fun _ h _ => h.elim), fun j hj => by cases hj⟩

end Go.Proofs.Yteifmkfkekglpaa
