/- net's getter. -/
import Derived.Test.YteifmkfkekglpaaNet3
import Derived.Laws.ResultCell
import Derived.Deep.Cut
import Derived.Deep.CutBlock
namespace Go.Proofs.Yteifmkfkekglpaa
open Go.RowKit

/-- A getter within a call: st = some k: no error yet, the reader stands at k. -/
def Gs (w0 w : World) (t q : Nat) (ao : Option Addr) (cap : Nat) (bs : List UInt8) (st : Option Nat) : Prop :=
  Keeps (fun i => i = t ∨ i = q) w0 w ∧ t ≠ q ∧ ∃ (ev : Value) (k : Nat), Blk w t #[.pointer (some ⟨q, 0, none⟩), ev] 85 ∧ Rd w q ao cap bs k ∧
    ((st = some k ∧ ev = .nilIface) ∨ (st = none ∧ ∃ T u, ev = .iface T u))
theorem Gs.keeps {w0 w : World} {t q : Nat} {ao : Option Addr} {cap : Nat} {bs : List UInt8} {st : Option Nat} (h : Gs w0 w t q ao cap bs st) : Keeps (fun i => i = t ∨ i = q) w0 w := h.1
theorem Gs.le {w0 w : World} {t q : Nat} {ao : Option Addr} {cap : Nat} {bs : List UInt8} {k : Nat} (h : Gs w0 w t q ao cap bs (some k)) : k ≤ bs.length := by
  obtain ⟨_, _, ev, k', _, hR, h | h⟩ := h
  · obtain rfl := Option.some.inj h.1; exact hR.le
  · cases h.1
theorem Gs.more {w0 w w' : World} {t q : Nat} {ao : Option Addr} {cap : Nat} {bs : List UInt8} {st : Option Nat} (h : Gs w0 w t q ao cap bs st) {S : Nat → Prop} (k : Keeps S w w') (hS : ∀ i, S i → i < w0.heap.size → i = t ∨ i = q) (ht : ¬ S t) (hq : ¬ S q) (ha : ∀ g, blockOf ao = some g → ¬ S g) : Gs w0 w' t q ao cap bs st := by
  obtain ⟨K, hne, ev, j, hB, hR, hs⟩ := h
  exact ⟨K.trans k hS, hne, ev, j, k.blk hB ht, ⟨k.blk hR.blk hq, k.own hR.own (fun g hg => by rw [ownBlock_eq] at hg; exact ha g hg), hR.le⟩, hs⟩
theorem IsErr.shape {B : Nat} {w : World} {v : Value} {c p : Int} (h : IsErr B w v c p) : v = .nilIface ∨ ∃ T u, v = .iface T u := by
  rcases h with ⟨h, _⟩ | ⟨b, _, _, h, _⟩
  · exact .inl h
  · exact .inr ⟨_, _, h⟩
/-- The first error stays. -/
def keptE (ev v : Value) : Value := match ev with | .nilIface => v | x => x
/-- How the error is kept. -/
theorem keep_any {w : World} {t : Nat} {qv ev : Value} (h : Blk w t #[qv, ev] 85) {v : Value} (hev : ev = .nilIface ∨ ∃ T u, ev = .iface T u) (hv : v = .nilIface ∨ ∃ T u, v = .iface T u) :
    Calls Try.prog 44 #[.pointer (some ⟨t, 0, none⟩), v] w fun e w' => e = .returned (.tuple #[]) ∧ Blk w' t #[qv, keptE ev v] 85 ∧ Keeps (fun i => i = t) w w' := by
  have c1 := blk_cell h 1 rfl
  have f1 := blk_free h 1
  rcases hev with rfl | ⟨T, u, rfl⟩
  · have hs := blk_set h 1 v
    show Calls _ _ _ _ fun e w' => e = .returned (.tuple #[]) ∧ Blk w' t #[qv, v] _ ∧ _
    rcases hv with rfl | ⟨T, u, rfl⟩
    · go_enter Try.func44, Try.ntmps44
      go_wp2_with fail
      go_end0
      exact ⟨rfl, hs, (Keeps.refl (fun i => i = t) w).setCell (p := ⟨t, 1, none⟩) (fun _ => rfl) _⟩
    · go_enter Try.func44, Try.ntmps44
      go_wp2_with fail
      go_end0
      exact ⟨rfl, hs, (Keeps.refl (fun i => i = t) w).setCell (p := ⟨t, 1, none⟩) (fun _ => rfl) _⟩
  · show Calls _ _ _ _ fun e w' => e = .returned (.tuple #[]) ∧ Blk w' t #[qv, .iface T u] _ ∧ _
    go_enter Try.func44, Try.ntmps44
    go_wp2_with fail
    go_end0
    exact ⟨rfl, h, Keeps.refl _ _⟩
/-- Behind one reading: which state comes. -/
def nextS (st : Option Nat) (f : Nat → Nat × Nat) : Option Nat := st.bind fun k => if (f k).1 = 0 then some (k + (f k).2) else none
theorem gs_read {w0 w w1 w2 : World} {t q : Nat} {ao : Option Addr} {cap : Nat} {bs : List UInt8} {k : Nat} {ev : Value} {st : Option Nat} (K : Keeps (fun i => i = t ∨ i = q) w0 w) (hne : t ≠ q) (hB : Blk w t #[.pointer (some ⟨q, 0, none⟩), ev] 85)
    (hs : (st = some k ∧ ev = .nilIface) ∨ (st = none ∧ ∃ T u, ev = .iface T u)) {c n : Nat} {p : Int} {ev1 : Value} (hE : IsErr w.heap.size w1 ev1 c p) (hR : Rd w1 q ao cap bs (k + n)) (k1 : Keeps (fun i => i = q) w w1)
    (hB2 : Blk w2 t #[.pointer (some ⟨q, 0, none⟩), keptE ev ev1] 85) (k2 : Keeps (fun i => i = t) w1 w2) (f : Nat → Nat × Nat) (hf : f k = (c, n)) : Gs w0 w2 t q ao cap bs (nextS st f) := by
  have ha : ∀ g, blockOf ao = some g → g ≠ t := fun g hg e => by
    subst e
    have := own8_ne hR.own (k1.blk hB (fun h => hne h)) (by decide)
    exact this hg
  refine ⟨(K.trans k1 (fun i hi _ => .inr hi)).trans k2 (fun i hi _ => .inl hi), hne, _, k + n, hB2, ⟨k2.blk hR.blk (fun h => hne h.symm), k2.own hR.own (fun g hg => by rw [ownBlock_eq] at hg; exact ha g hg), hR.le⟩, ?_⟩
  rcases hs with ⟨rfl, rfl⟩ | ⟨rfl, T, u, rfl⟩
  · show (_ ∧ ev1 = .nilIface) ∨ (_ ∧ ∃ T u, ev1 = .iface T u)
    unfold nextS
    simp only [Option.bind_some, hf]
    rcases hE with ⟨rfl, h0, _⟩ | ⟨b, _, hc, rfl, _⟩
    · have : c = 0 := by omega
      exact .inl ⟨by rw [if_pos this], rfl⟩
    · have : c ≠ 0 := by omega
      exact .inr ⟨by rw [if_neg this], _, _, rfl⟩
  · exact .inr ⟨rfl, T, u, rfl⟩

theorem gnumber {w0 w : World} {t q : Nat} {ao : Option Addr} {cap : Nat} {bs : List UInt8} {st : Option Nat} (h : Gs w0 w t q ao cap bs st) (hl : bs.length ≤ 1000000) :
    Calls Try.prog 40 #[.pointer (some ⟨t, 0, none⟩)] w fun e w' => ∃ z : Int, e = .returned (.int .i64 z) ∧ -9223372036854775808 ≤ z ∧ z < 9223372036854775808 ∧ Gs w0 w' t q ao cap bs (nextS st fun k => ((decI (bs.drop k)).1, (decI (bs.drop k)).2.2)) ∧
      ∀ k, st = some k → z = (decI (bs.drop k)).2.1 := by
  obtain ⟨K, hne, ev, k, hB, hR, hs⟩ := h
  have c0 := blk_cell hB 0 rfl
  have hev : ev = .nilIface ∨ ∃ T u, ev = .iface T u := hs.imp (fun h => h.2) (fun h => h.2)
  have bd := decI_bd (bs.drop k)
  have hr := rInt_any hR hl
  have hfin : ∀ {w1 w2 : World} {ev1 : Value}, IsErr w.heap.size w1 ev1 (decI (bs.drop k)).1 (posOf (decI (bs.drop k)).1 k) → Rd w1 q ao cap bs (k + (decI (bs.drop k)).2.2) → Keeps (fun i => i = q) w w1 → Blk w2 t #[.pointer (some ⟨q, 0, none⟩), keptE ev ev1] 85 → Keeps (fun i => i = t) w1 w2 → Gs w0 w2 t q ao cap bs (nextS st fun k => ((decI (bs.drop k)).1, (decI (bs.drop k)).2.2)) :=
    fun hE hR1 k1 hB2 k2 => gs_read K hne hB hs hE hR1 k1 hB2 k2 _ rfl
  have hz : ∀ k', st = some k' → (decI (bs.drop k)).2.1 = (decI (bs.drop k')).2.1 := fun k' hk => by
    rcases hs with ⟨h1, _⟩ | ⟨h1, _⟩
    · rw [h1] at hk; obtain rfl := Option.some.inj hk; rfl
    · rw [h1] at hk; cases hk
  have HZ := shut hz
  have HF := @hfin
  clear hfin hz hs K
  generalize (nextS st fun k => ((decI (bs.drop k)).1, (decI (bs.drop k)).2.2)) = st' at *
  generalize decI (bs.drop k) = d at *
  obtain ⟨c, z, n⟩ := d
  simp only at *
  go_enter Try.func40, Try.ntmps40
  go_wp2_with fail
  refine hr.mono ?_
  rintro e w1 ⟨ev1, rfl, hE, hR1, k1⟩
  go_wp2_with fail
  refine (keep_any (k1.blk hB (fun h => hne h)) (v := ev1) hev hE.shape).mono ?_
  rintro e w2 ⟨rfl, hB2, k2⟩
  go_wp2_with fail
  go_ret
  exact ⟨z, rfl, bd.1, bd.2, HF hE hR1 k1 hB2 k2, fun k' hk => HZ.out k' hk⟩

theorem gtext {w0 w : World} {t q : Nat} {ao : Option Addr} {cap : Nat} {bs : List UInt8} {st : Option Nat} (h : Gs w0 w t q ao cap bs st) (hl : bs.length ≤ 1000000) (most : Int) (hmost : most < 9223372036854775808) :
    Calls Try.prog 41 #[.pointer (some ⟨t, 0, none⟩), .int .i64 most] w fun e w' => ∃ z : List UInt8, e = .returned (.string ⟨z.toArray⟩) ∧ z.length ≤ bs.length ∧ Gs w0 w' t q ao cap bs (nextS st fun k => ((decText most (bs.drop k)).1, (decText most (bs.drop k)).2.2)) ∧
      ∀ k, st = some k → z = (decText most (bs.drop k)).2.1 := by
  obtain ⟨K, hne, ev, k, hB, hR, hs⟩ := h
  have c0 := blk_cell hB 0 rfl
  have hev : ev = .nilIface ∨ ∃ T u, ev = .iface T u := hs.imp (fun h => h.2) (fun h => h.2)
  have bd := Nat.le_trans (decText_bd most (bs.drop k)) (show (bs.drop k).length ≤ bs.length by rw [List.length_drop]; omega)
  have hr := rText_any hR hl most hmost
  have hfin : ∀ {w1 w2 : World} {ev1 : Value}, IsErr w.heap.size w1 ev1 (decText most (bs.drop k)).1 (posOf (decText most (bs.drop k)).1 k) → Rd w1 q ao cap bs (k + (decText most (bs.drop k)).2.2) → Keeps (fun i => i = q) w w1 → Blk w2 t #[.pointer (some ⟨q, 0, none⟩), keptE ev ev1] 85 → Keeps (fun i => i = t) w1 w2 → Gs w0 w2 t q ao cap bs (nextS st fun k => ((decText most (bs.drop k)).1, (decText most (bs.drop k)).2.2)) :=
    fun hE hR1 k1 hB2 k2 => gs_read K hne hB hs hE hR1 k1 hB2 k2 _ rfl
  have hz : ∀ k', st = some k' → (decText most (bs.drop k)).2.1 = (decText most (bs.drop k')).2.1 := fun k' hk => by
    rcases hs with ⟨h1, _⟩ | ⟨h1, _⟩
    · rw [h1] at hk; obtain rfl := Option.some.inj hk; rfl
    · rw [h1] at hk; cases hk
  have HZ := shut hz
  have HF := @hfin
  clear hfin hz hs K
  generalize (nextS st fun k => ((decText most (bs.drop k)).1, (decText most (bs.drop k)).2.2)) = st' at *
  generalize decText most (bs.drop k) = d at *
  obtain ⟨c, z, n⟩ := d
  simp only at *
  go_enter Try.func41, Try.ntmps41
  go_wp2_with fail
  refine hr.mono ?_
  rintro e w1 ⟨ev1, rfl, hE, hR1, k1⟩
  go_wp2_with fail
  refine (keep_any (k1.blk hB (fun h => hne h)) (v := ev1) hev hE.shape).mono ?_
  rintro e w2 ⟨rfl, hB2, k2⟩
  go_wp2_with fail
  go_ret
  exact ⟨z, rfl, bd, HF hE hR1 k1 hB2 k2, fun k' hk => HZ.out k' hk⟩

attribute [local go_sem ↓] exec_load_hash exec_store_hash
attribute [local go_sem] rowOk_new World.setRow_alloc_new

set_option maxRecDepth 100000 in
set_option maxHeartbeats 1000000 in
theorem ghash {w0 w : World} {t q : Nat} {ao : Option Addr} {cap : Nat} {bs : List UInt8} {st : Option Nat} (h : Gs w0 w t q ao cap bs st) (hl : bs.length ≤ 1000000) :
    Calls Try.prog 42 #[.pointer (some ⟨t, 0, none⟩)] w fun e w' => ∃ z : List UInt8, e = .returned (.agg (z.map byteV).toArray) ∧ z.length = 32 ∧ Gs w0 w' t q ao cap bs (nextS st fun k => ((decHash (bs.drop k)).1, (decHash (bs.drop k)).2.2)) ∧
      ∀ k, st = some k → z = (decHash (bs.drop k)).2.1 := by
  obtain ⟨K, hne, ev, k, hB, hR, hs⟩ := h
  have c0 := blk_cell hB 0 rfl
  have hev : ev = .nilIface ∨ ∃ T u, ev = .iface T u := hs.imp (fun h => h.2) (fun h => h.2)
  have bd := decHash_bd (bs.drop k)
  have hr := fun W (K : Keeps Nothing w W) => rHash_any (hR.keepsN K) hl
  have hfin : ∀ {W w1 w2 : World} {ev1 : Value}, Keeps Nothing w W → IsErr W.heap.size w1 ev1 (decHash (bs.drop k)).1 (posOf (decHash (bs.drop k)).1 k) → Rd w1 q ao cap bs (k + (decHash (bs.drop k)).2.2) → Keeps (fun i => i = q) W w1 → Blk w2 t #[.pointer (some ⟨q, 0, none⟩), keptE ev ev1] 85 → Keeps (fun i => i = t) w1 w2 → Gs w0 w2 t q ao cap bs (nextS st fun k => ((decHash (bs.drop k)).1, (decHash (bs.drop k)).2.2)) :=
    fun kW hE hR1 k1 hB2 k2 => gs_read (K.trans kW (fun _ h _ => h.elim)) hne (kW.blk hB (fun h => h)) hs hE hR1 k1 hB2 k2 _ rfl
  have hz : ∀ k', st = some k' → (decHash (bs.drop k)).2.1 = (decHash (bs.drop k')).2.1 := fun k' hk => by
    rcases hs with ⟨h1, _⟩ | ⟨h1, _⟩
    · rw [h1] at hk; obtain rfl := Option.some.inj hk; rfl
    · rw [h1] at hk; cases hk
  have HZ := shut hz
  have HF := @hfin
  have hKs := K.size
  clear hfin hz hs K
  generalize (nextS st fun k => ((decHash (bs.drop k)).1, (decHash (bs.drop k)).2.2)) = st' at *
  generalize decHash (bs.drop k) = d at *
  obtain ⟨c, z, n⟩ := d
  simp only at *
  have htl := lt_of_block hB
  have hql := lt_of_block hR.blk
  go_enter Try.func42, Try.ntmps42
  go_upto_region 1 with fail
  rw [← zeros32_lit]
  obtain ⟨Z, hZ⟩ : ∃ Z, Z = (zeros32.map byteV).toArray := ⟨_, rfl⟩
  rw [← hZ]
  have hZs : Z.size = 32 := by rw [hZ]; rfl
  clear hZ
  have kW := (Keeps.refl Nothing w).alloc (.cells Z 23)
  have BZ := blk_new w Z 23
  have hrW := hr _ kW
  have hBW := kW.blk hB (fun h => h)
  have hoR : ∀ g, blockOf ao = some g → g < w.heap.size := fun g hg => own_lt hR.own (by rw [ownBlock_eq]; exact hg)
  have HFW := fun (w1 w2 : World) (ev1 : Value) => @HF _ w1 w2 ev1 kW
  clear HF hr hB hR
  obtain ⟨W, hW⟩ : ∃ W, w.alloc (.cells Z 23) = W := ⟨_, rfl⟩
  rw [hW] at hrW hBW BZ ⊢
  simp only [hW] at HFW
  have c0W := blk_cell hBW 0 rfl
  clear c0 hW
  go_wp2_with fail
  refine hrW.mono ?_
  rintro e w1 ⟨ev1, rfl, hE, hR1, k1⟩
  unfold hashV
  obtain ⟨H, hH⟩ : ∃ H, (z.map byteV).toArray = H := ⟨_, rfl⟩
  have hHs : H.size = 32 := by rw [← hH]; simp [bd]
  have hag : aggOk 32 (.agg H) = true := by rw [← hH]; exact aggOk_agg 32 _ (by simp [bd]) (bytes_all _)
  rw [hH]
  have HH := shut hH
  clear hH
  go_wp2_with fail
  have ka := (Keeps.refl Nothing w1).alloc (.cells H 23)
  have BH := blk_new w1 H 23
  have l1 := lt_of_block BZ
  have l2 := k1.size
  have BZ1 := ka.blk (k1.blk BZ (fun h => by omega)) (fun h => h)
  refine (keep_any (ka.blk (k1.blk hBW (fun h => hne h)) (fun h => h)) (v := ev1) hev hE.shape).mono ?_
  rintro e w2 ⟨rfl, hB2, k2⟩
  have BH2 := k2.blk BH (fun h => by omega)
  have BZ2 := k2.blk BZ1 (fun h => by omega)
  have r1 := rowOk_blk BH2 hHs
  have r2 := rowOf_blk BH2
  have r3 := rowOk_blk BZ2 hZs
  go_wp2_with fail
  have b3 := blk_setRow (cs := H) BZ2
  refine bodyPost_ret (v := .agg H) (results_cell_row rfl _ _ w.heap.size _ H (0, 0) _ rfl b3 Try.underlying23 rfl (by rw [infoHash, hHs])) rfl ?_
  have hG := HFW _ _ _ hE hR1 k1 hB2 ((ka.mono (S' := fun i => i = t) (fun _ h _ => h.elim)).trans k2 (fun _ hi _ => hi))
  refine ⟨z, by rw [HH.out], bd, hG.more (S := fun i => i = w.heap.size) ((Keeps.refl (fun i => i = w.heap.size) w2).setRow (fun _ => rfl) H) (fun i hi hlt => by omega) (fun h => by omega) (fun h => by omega) (fun g hg h => by have := hoR g hg; omega), fun k' hk => HZ.out k' hk⟩

end Go.Proofs.Yteifmkfkekglpaa
