/- net.Get. -/
import Derived.Test.YteifmkfkekglpaaNet5
import Derived.Test.YteifmkfkekglpaaMixT
import Derived.Deep.LoopGhost
namespace Go.Proofs.Yteifmkfkekglpaa
open Go.RowKit

theorem equal_any (w : World) {aa ab : Option Addr} {na nb : Nat} (ca cb : Nat) {a b : List UInt8} (hna : a.length = na) (hnb : b.length = nb) (hA : BytesAt w aa a) (hB : BytesAt w ab b) :
    Calls Try.prog 45 #[.slice aa na ca, .slice ab nb cb] w fun e w' => e = .returned (.bool (a == b)) ∧ w' = w := by
  have e1 := run_str w ca a hna hA
  have e2 := run_str w cb b hnb hB
  go_enter Try.func45, Try.ntmps45
  go_wp2_with fail
  go_ret
  exact ⟨rfl, rfl⟩

/-- A part of a literal, laid cell by cell. -/
theorem fill_list : ∀ (l : List Value) (k : Nat) (Z : Array Value) (i : Nat), (List.foldl (fun cs (x : Value × Nat) => cs.setIfInBounds x.snd x.fst) Z (l.zipIdx k))[i]? = if i < k then Z[i]? else if i < k + l.length ∧ i < Z.size then l[i - k]? else Z[i]? := by
  intro l
  induction l with
  | nil => intro k Z i; simp; omega
  | cons v l ih =>
    intro k Z i
    rw [List.zipIdx_cons, List.foldl_cons, ih, Array.size_setIfInBounds, List.length_cons]
    by_cases h1 : i < k
    · rw [if_pos (by omega), if_pos h1, Array.getElem?_setIfInBounds, if_neg (by omega)]
    · rw [if_neg h1]
      by_cases h2 : i = k
      · subst h2
        rw [if_pos (by omega), Array.getElem?_setIfInBounds, if_pos rfl]
        by_cases h3 : i < Z.size
        · rw [if_pos h3, if_pos ⟨by omega, h3⟩, Nat.sub_self]; rfl
        · rw [if_neg h3, if_neg (by omega), Array.getElem?_eq_none (by omega)]
      · rw [if_neg (by omega)]
        by_cases h3 : i < k + (l.length + 1) ∧ i < Z.size
        · rw [if_pos ⟨by omega, h3.2⟩, if_pos h3, show i - k = (i - (k + 1)) + 1 by omega, List.getElem?_cons_succ]
        · rw [if_neg (by omega), if_neg h3, Array.getElem?_setIfInBounds, if_neg (by omega)]
theorem fill32 {Z C : Array Value} (hZ : Z.size = 32) (hC : C.size = 32) : Array.foldl (fun cs (x : Value × Nat) => cs.setIfInBounds x.snd x.fst) Z C.zipIdx 0 32 = C := by
  have h1 : (C.zipIdx).size = 32 := by simp [hC]
  have h2 : Array.foldl (fun cs (x : Value × Nat) => cs.setIfInBounds x.snd x.fst) Z C.zipIdx 0 32 = List.foldl (fun cs (x : Value × Nat) => cs.setIfInBounds x.snd x.fst) Z (C.toList.zipIdx 0) := by
    rw [← Array.toList_zipIdx, Array.foldl_toList, h1]
  rw [h2]
  apply Array.ext_getElem?
  intro i
  have hl : C.toList.length = 32 := by rw [Array.length_toList]; exact hC
  rw [fill_list, if_neg (by omega), hl, hZ]
  by_cases hi : i < 32
  · rw [if_pos ⟨by omega, hi⟩, Nat.sub_zero, Array.getElem?_toList]
  · rw [if_neg (by omega), Array.getElem?_eq_none (by omega), Array.getElem?_eq_none (by omega)]
theorem zeros32_size : ((zeros32.map byteV).toArray).size = 32 := rfl
section
variable {A : Type}
def gI (bs : List UInt8) (R : Int → Nat → Option A) (k : Nat) : Option A := if (decI (bs.drop k)).1 = 0 then R (decI (bs.drop k)).2.1 (k + (decI (bs.drop k)).2.2) else none
def gT (bs : List UInt8) (most : Int) (R : List UInt8 → Nat → Option A) (k : Nat) : Option A := if (decText most (bs.drop k)).1 = 0 then R (decText most (bs.drop k)).2.1 (k + (decText most (bs.drop k)).2.2) else none
def gH (bs : List UInt8) (R : List UInt8 → Nat → Option A) (k : Nat) : Option A := if (decHash (bs.drop k)).1 = 0 then R (decHash (bs.drop k)).2.1 (k + (decHash (bs.drop k)).2.2) else none
def gN (bs : List UInt8) (most : Int) (R : Nat → Nat → Option A) (k : Nat) : Option A := if (decSmall most (bs.drop k)).1 = 0 then R (decSmall most (bs.drop k)).2.1 (k + (decSmall most (bs.drop k)).2.2) else none
def gHs (bs : List UInt8) (R : List (List UInt8) → Nat → Option A) : Nat → List (List UInt8) → Nat → Option A
  | 0, acc, k => R acc k
  | n + 1, acc, k => gH bs (fun h => gHs bs R n (acc ++ [h])) k
theorem step_bind {α : Type} (st : Option Nat) (f : Nat → Nat × Nat) (val : Nat → α) (z : α) (hz : ∀ k, st = some k → z = val k) (R : α → Nat → Option A) :
    st.bind (fun k => if (f k).1 = 0 then R (val k) (k + (f k).2) else none) = (nextS st f).bind (R z) := by
  cases st with
  | none => rfl
  | some k =>
    unfold nextS
    simp only [Option.bind_some]
    rw [hz k rfl]
    by_cases h : (f k).1 = 0
    · rw [if_pos h, if_pos h]; rfl
    · rw [if_neg h, if_neg h]; rfl
end
def r10 (a b c d e : Int) (nm h : List UInt8) (hs : List (List UInt8)) (bl sg : List UInt8) (_ : Nat) : Option MsgT := some ⟨a, b, c, d, e, nm, h, hs, bl, sg⟩
def r9 (bs : List UInt8) (a b c d e : Int) (nm h : List UInt8) (hs : List (List UInt8)) (bl : List UInt8) : Nat → Option MsgT := gT bs 4194304 (r10 a b c d e nm h hs bl)
def r8 (bs : List UInt8) (a b c d e : Int) (nm h : List UInt8) (hs : List (List UInt8)) : Nat → Option MsgT := gT bs 4194304 (r9 bs a b c d e nm h hs)
def r7 (bs : List UInt8) (a b c d e : Int) (nm h : List UInt8) (n : Nat) : Nat → Option MsgT := gHs bs (r8 bs a b c d e nm h) n []
def r6 (bs : List UInt8) (a b c d e : Int) (nm h : List UInt8) : Nat → Option MsgT := gN bs 64 (r7 bs a b c d e nm h)
def r5h (bs : List UInt8) (a b c d e : Int) (nm : List UInt8) : Nat → Option MsgT := gH bs (r6 bs a b c d e nm)
def r5 (bs : List UInt8) (a b c d e : Int) : Nat → Option MsgT := gT bs 32 (r5h bs a b c d e)
def r4 (bs : List UInt8) (a b c d : Int) : Nat → Option MsgT := gI bs (r5 bs a b c d)
def r3 (bs : List UInt8) (a b c : Int) : Nat → Option MsgT := gI bs (r4 bs a b c)
def r2 (bs : List UInt8) (a b : Int) : Nat → Option MsgT := gI bs (r3 bs a b)
def r1 (bs : List UInt8) (a : Int) : Nat → Option MsgT := gI bs (r2 bs a)
def parseM (bs : List UInt8) : Option MsgT := gI bs (r1 bs) 0
/-- The message of bytes. -/
def getM (bs : List UInt8) : Option MsgT := (parseM bs).bind fun m => if mayP m ∧ encMsg m = bs then some m else none

theorem decSmall_le (l : List UInt8) : (decSmall 64 l).2.1 ≤ 64 := by
  unfold decSmall
  split
  · exact Nat.zero_le _
  · split
    · exact Nat.zero_le _
    · omega
theorem loadVar_msg (w : World) (g : Nat) (cs : Array Value) (t : TypeId) (hb : Blk w g cs t) (hs : cs.size = 41) : (loadVar 26 ⟨g, 0, none⟩).run Try.prog w = .ok (.agg cs) w :=
  run_loadVar_row w g t _ cs (0, 0) _ hb Try.underlying26 rfl (by rw [infoMsg, hs])
theorem Gs.step {w0 w w' : World} {t q : Nat} {ao : Option Addr} {cap : Nat} {bs : List UInt8} {st : Option Nat} (h : Gs w0 w t q ao cap bs st) {S : Nat → Prop} (k : Keeps S w w') (ht : ¬ S t) (hq : ¬ S q) (ha : ∀ g, blockOf ao = some g → ¬ S g) : Gs w' w' t q ao cap bs st := by
  obtain ⟨K, hne, ev, j, hB, hR, hs⟩ := h
  exact ⟨Keeps.refl _ _, hne, ev, j, k.blk hB ht, ⟨k.blk hR.blk hq, k.own hR.own (fun g hg => by rw [ownBlock_eq] at hg; exact ha g hg), hR.le⟩, hs⟩
theorem Gs.ne {w0 w : World} {t q : Nat} {ao : Option Addr} {cap : Nat} {bs : List UInt8} {st : Option Nat} (h : Gs w0 w t q ao cap bs st) {p : Nat} {cs : Array Value} {T : TypeId} (hp : Blk w p cs T) (hT : 5 ≠ T) : ∀ g, blockOf ao = some g → g ≠ p := fun g hg e => by
  obtain ⟨_, _, _, _, _, hR, _⟩ := h
  subst e
  exact own8_ne hR.own hp hT hg
/-- How Get ends. -/
def GetPost (w : World) (bs : List UInt8) (e : Ending) (w' : World) : Prop :=
  (∀ m, getM bs = some m → ∃ C ao cap, e = .returned (.tuple #[.agg C, .nilIface]) ∧ MsgC C m ao cap ∧ MsgAt w' m ao cap ∧ Keeps Nothing w w') ∧
  (getM bs = none → ∃ ev, e = .returned (.tuple #[.agg zeroC, ev]) ∧ IsErr w.heap.size w' ev 4 0 ∧ Keeps Nothing w w')

theorem exec_storeM_hash (ρ : Operand → Value) (dst : Option Tmp) (x y : Operand) (ty' : TypeId) (pos : String) (af : Array Edge) (gd : Option (Nat × Bool)) (w : World) (h : midFitV w 32 (ρ x) = true) (hy : aggOk 32 (ρ y) = true) :
    (execOp ρ ⟨dst, .store 23 x y, ty', pos, af, gd⟩).run Try.prog w = .ok .skip (midSetV w (ρ x) (aggOf (ρ y))) := exec_store_mid _ 32 infoHash ρ dst x y ty' pos af gd w h hy

attribute [local go_sem ↓] exec_mid_msg exec_store_msg exec_mid_hash exec_load_hash exec_storeM_hash
attribute [local go_sem] rowOk_new World.setRow_alloc_new

set_option maxRecDepth 100000 in
set_option maxHeartbeats 8000000 in
theorem get_any {w : World} {ab : Option Addr} {c : Nat} {bs : List UInt8} (hB : BytesAt w ab bs) (hl : bs.length ≤ 5000) :
    Calls Try.prog 14 #[.slice ab bs.length c] w (GetPost w bs) := by
  have hlb : bs.length ≤ 1000000 := by omega
  go_enter Try.func14, Try.ntmps14
  go_upto_region 1 with fail
  rw [← zeroC_lit]
  obtain ⟨Z, hZ⟩ : ∃ Z, Z = zeroC := ⟨_, rfl⟩
  rw [← hZ]
  have HZ : MsgC Z zeroM none 0 := by rw [hZ]; exact zeroC_is
  have HZC := shut hZ
  clear hZ
  have k0 := (Keeps.refl Nothing w).alloc (.cells Z 26)
  have B2 := blk_new w Z 26
  have hrd := newReader_any c (hB.keeps k0 (fun _ _ h => h)) hlb
  obtain ⟨g2, hg2⟩ : ∃ g2, w.heap.size = g2 := ⟨_, rfl⟩
  rw [hg2] at B2 ⊢
  have HG2 := shut hg2
  clear hg2
  generalize w.alloc (.cells Z 26) = wa at *
  go_wp2_with fail
  refine hrd.mono ?_
  rintro e wb ⟨q, ao, cap, rfl, hR, kb, hqn, hfr⟩
  have B2b := kb.blk B2 (fun h => h)
  have l2 := lt_of_block B2
  have hg0 := HG2.out
  have K1 := k0.trans kb (fun _ h _ => h)
  have hqz : g2 < q := by omega
  clear hrd kb B2 k0
  go_upto_region 3 with fail
  rw [← zeroC_lit, ← HZC.out]
  obtain ⟨t, ht⟩ : ∃ t, wb.heap.size = t := ⟨_, rfl⟩
  have lq := lt_of_block hR.blk
  have lg2 := lt_of_block B2b
  have kc := ((Keeps.refl Nothing wb).alloc (.cells #[.pointer (some ⟨q, 0, none⟩), .nilIface] 85)).alloc (.cells Z 26)
  have BT := blk_alloc (blk_new wb #[.pointer (some ⟨q, 0, none⟩), .nilIface] 85) (.cells Z 26)
  have B5 := blk_new (wb.alloc (.cells #[.pointer (some ⟨q, 0, none⟩), .nilIface] 85)) Z 26
  rw [World.size_alloc] at B5
  have hG : Gs _ _ wb.heap.size q ao cap bs (some 0) := ⟨Keeps.refl Nothing _ |>.mono (fun _ h _ => h.elim), by omega, _, 0, BT, hR.keepsN kc, .inl ⟨rfl, rfl⟩⟩
  have B2 := kc.blk B2b (fun h => h)
  have K := K1.trans kc (fun _ h _ => h)
  rw [ht] at B5 hG BT lq lg2 ⊢
  have hw2 : w.heap.size ≤ t := by have := K1.size; omega
  have hw1 : w.heap.size ≤ q := by omega
  clear kc BT hR K1 B2b hfr hqn l2 ht hg0
  generalize (wb.alloc (.cells #[.pointer (some ⟨q, 0, none⟩), .nilIface] 85)).alloc (.cells Z 26) = wc at *
  go_wp2_with fail
  have ka := (Keeps.refl Nothing wc).alloc (.cells #[.pointer (some ⟨t + 1, 0, none⟩), .pointer (some ⟨t + 1, 1, none⟩), .pointer (some ⟨t + 1, 2, none⟩), .pointer (some ⟨t + 1, 3, none⟩), .pointer (some ⟨t + 1, 4, none⟩)] 86)
  have BA := blk_new wc #[.pointer (some ⟨t + 1, 0, none⟩), .pointer (some ⟨t + 1, 1, none⟩), .pointer (some ⟨t + 1, 2, none⟩), .pointer (some ⟨t + 1, 3, none⟩), .pointer (some ⟨t + 1, 4, none⟩)] 86
  have l5 := lt_of_block B5
  have hG := hG.step ka (fun h => h) (fun h => h) (fun _ _ h => h)
  have B2 := ka.blk B2 (fun h => h)
  have B5 := ka.blk B5 (fun h => h)
  have K := K.trans ka (fun _ h _ => h)
  clear ka
  obtain ⟨ga, hga⟩ : ∃ ga, wc.heap.size = ga := ⟨_, rfl⟩
  rw [hga] at BA l5 ⊢
  generalize wc.alloc (.cells #[.pointer (some ⟨t + 1, 0, none⟩), .pointer (some ⟨t + 1, 1, none⟩), .pointer (some ⟨t + 1, 2, none⟩), .pointer (some ⟨t + 1, 3, none⟩), .pointer (some ⟨t + 1, 4, none⟩)] 86) = wx at *
  clear hga
  have hP : Shut (parseM bs = (some 0).bind (gI bs (r1 bs))) := shut rfl
  have htq : t ≠ q := by omega
  obtain ⟨s0, hs0⟩ : ∃ s0, some 0 = s0 := ⟨_, rfl⟩
  rw [hs0] at hG hP
  clear hs0
  have HC0 := HZ
  have hG0 := hG
  have hP0 := hP
  have B50 := B5
  have BA0 := BA
  have B20 := B2
  have K0 := K
  clear hG hP B5 BA B2 K
  have HE : Shut (w.heap.size ≤ q ∧ w.heap.size ≤ t) := shut ⟨hw1, hw2⟩
  refine wp_loop_rounds 6 ?_
  rw [rounds_succ]
  have a9 := blk_cell BA0 0 rfl
  go_wp2_with fail
  refine (gnumber hG0 hlb).mono ?_
  rintro e wy ⟨z0, rfl, zl0, zh0, hGy, hz⟩
  have kG := hGy.keeps
  have B5y : Blk wy (t + 1) _ 26 := kG.blk B50 (fun h => by omega)
  have B2y := kG.blk B20 (fun h => by omega)
  have BAy := kG.blk BA0 (fun h => by omega)
  have Ky : Keeps Nothing w wy := K0.trans kG (fun i hi hlt => by have := HE.out; omega)
  have f9 := blk_free B5y 0
  have c9 := blk_cell B5y 0 HC0.c0
  have kS : Keeps (fun i => i = t + 1) wy (wy.setCell ⟨t + 1, 0, none⟩ (.int .i64 z0)) := (Keeps.refl (fun i => i = t + 1) wy).setCell (p := ⟨t + 1, 0, none⟩) (fun _ => rfl) _
  have hG1 := hGy.step kS (fun h => by omega) (fun h => by omega) (fun g hg h => hGy.ne B5y (by decide) g hg h)
  have HC1 := HC0.setKind z0
  have B51 := blk_set B5y 0 (.int .i64 z0)
  have hP1 : Shut (parseM bs = (nextS s0 (fun k => ((decI (bs.drop k)).1, (decI (bs.drop k)).2.2))).bind (r1 bs z0)) := shut (hP0.out.trans (step_bind s0 (fun k => ((decI (bs.drop k)).1, (decI (bs.drop k)).2.2)) (fun k => (decI (bs.drop k)).2.1) z0 hz (r1 bs)))
  clear hP0 B50 HC0 hG0 hz BA0 B20 K0 a9
  have BA1 := kS.blk BAy (fun h => by omega)
  have B21 := kS.blk B2y (fun h => by omega)
  have K1 := Ky.trans kS (fun i hi hlt => by have := HE.out; omega)
  clear BAy B2y Ky kG hGy
  go_wp2_with fail
  clear f9 c9 B5y kS
  generalize wy.setCell ⟨t + 1, 0, none⟩ (.int .i64 z0) = wx1 at *
  obtain ⟨s1, hs1⟩ : ∃ s, nextS s0 (fun k => ((decI (bs.drop k)).1, (decI (bs.drop k)).2.2)) = s := ⟨_, rfl⟩
  rw [hs1] at hG1 hP1
  clear hs1
  rw [rounds_succ]
  have a9 := blk_cell BA1 1 rfl
  go_wp2_with fail
  refine (gnumber hG1 hlb).mono ?_
  rintro e wy ⟨z1, rfl, zl1, zh1, hGy, hz⟩
  have kG := hGy.keeps
  have B5y : Blk wy (t + 1) _ 26 := kG.blk B51 (fun h => by omega)
  have B2y := kG.blk B21 (fun h => by omega)
  have BAy := kG.blk BA1 (fun h => by omega)
  have Ky : Keeps Nothing w wy := K1.trans kG (fun i hi hlt => by have := HE.out; omega)
  have f9 := blk_free B5y 1
  have c9 := blk_cell B5y 1 HC1.c1
  have kS : Keeps (fun i => i = t + 1) wy (wy.setCell ⟨t + 1, 1, none⟩ (.int .i64 z1)) := (Keeps.refl (fun i => i = t + 1) wy).setCell (p := ⟨t + 1, 1, none⟩) (fun _ => rfl) _
  have hG2 := hGy.step kS (fun h => by omega) (fun h => by omega) (fun g hg h => hGy.ne B5y (by decide) g hg h)
  have HC2 := HC1.setFrm z1
  have B52 := blk_set B5y 1 (.int .i64 z1)
  have hP2 : Shut (parseM bs = (nextS s1 (fun k => ((decI (bs.drop k)).1, (decI (bs.drop k)).2.2))).bind (r2 bs z0 z1)) := shut (hP1.out.trans (step_bind s1 (fun k => ((decI (bs.drop k)).1, (decI (bs.drop k)).2.2)) (fun k => (decI (bs.drop k)).2.1) z1 hz (r2 bs z0)))
  clear hP1 B51 HC1 hG1 hz BA1 B21 K1 a9
  have BA2 := kS.blk BAy (fun h => by omega)
  have B22 := kS.blk B2y (fun h => by omega)
  have K2 := Ky.trans kS (fun i hi hlt => by have := HE.out; omega)
  clear BAy B2y Ky kG hGy
  go_wp2_with fail
  clear f9 c9 B5y kS
  generalize wy.setCell ⟨t + 1, 1, none⟩ (.int .i64 z1) = wx2 at *
  obtain ⟨s2, hs2⟩ : ∃ s, nextS s1 (fun k => ((decI (bs.drop k)).1, (decI (bs.drop k)).2.2)) = s := ⟨_, rfl⟩
  rw [hs2] at hG2 hP2
  clear hs2
  rw [rounds_succ]
  have a9 := blk_cell BA2 2 rfl
  go_wp2_with fail
  refine (gnumber hG2 hlb).mono ?_
  rintro e wy ⟨z2, rfl, zl2, zh2, hGy, hz⟩
  have kG := hGy.keeps
  have B5y : Blk wy (t + 1) _ 26 := kG.blk B52 (fun h => by omega)
  have B2y := kG.blk B22 (fun h => by omega)
  have BAy := kG.blk BA2 (fun h => by omega)
  have Ky : Keeps Nothing w wy := K2.trans kG (fun i hi hlt => by have := HE.out; omega)
  have f9 := blk_free B5y 2
  have c9 := blk_cell B5y 2 HC2.c2
  have kS : Keeps (fun i => i = t + 1) wy (wy.setCell ⟨t + 1, 2, none⟩ (.int .i64 z2)) := (Keeps.refl (fun i => i = t + 1) wy).setCell (p := ⟨t + 1, 2, none⟩) (fun _ => rfl) _
  have hG3 := hGy.step kS (fun h => by omega) (fun h => by omega) (fun g hg h => hGy.ne B5y (by decide) g hg h)
  have HC3 := HC2.setTo z2
  have B53 := blk_set B5y 2 (.int .i64 z2)
  have hP3 : Shut (parseM bs = (nextS s2 (fun k => ((decI (bs.drop k)).1, (decI (bs.drop k)).2.2))).bind (r3 bs z0 z1 z2)) := shut (hP2.out.trans (step_bind s2 (fun k => ((decI (bs.drop k)).1, (decI (bs.drop k)).2.2)) (fun k => (decI (bs.drop k)).2.1) z2 hz (r3 bs z0 z1)))
  clear hP2 B52 HC2 hG2 hz BA2 B22 K2 a9
  have BA3 := kS.blk BAy (fun h => by omega)
  have B23 := kS.blk B2y (fun h => by omega)
  have K3 := Ky.trans kS (fun i hi hlt => by have := HE.out; omega)
  clear BAy B2y Ky kG hGy
  go_wp2_with fail
  clear f9 c9 B5y kS
  generalize wy.setCell ⟨t + 1, 2, none⟩ (.int .i64 z2) = wx3 at *
  obtain ⟨s3, hs3⟩ : ∃ s, nextS s2 (fun k => ((decI (bs.drop k)).1, (decI (bs.drop k)).2.2)) = s := ⟨_, rfl⟩
  rw [hs3] at hG3 hP3
  clear hs3
  rw [rounds_succ]
  have a9 := blk_cell BA3 3 rfl
  go_wp2_with fail
  refine (gnumber hG3 hlb).mono ?_
  rintro e wy ⟨z3, rfl, zl3, zh3, hGy, hz⟩
  have kG := hGy.keeps
  have B5y : Blk wy (t + 1) _ 26 := kG.blk B53 (fun h => by omega)
  have B2y := kG.blk B23 (fun h => by omega)
  have BAy := kG.blk BA3 (fun h => by omega)
  have Ky : Keeps Nothing w wy := K3.trans kG (fun i hi hlt => by have := HE.out; omega)
  have f9 := blk_free B5y 3
  have c9 := blk_cell B5y 3 HC3.c3
  have kS : Keeps (fun i => i = t + 1) wy (wy.setCell ⟨t + 1, 3, none⟩ (.int .i64 z3)) := (Keeps.refl (fun i => i = t + 1) wy).setCell (p := ⟨t + 1, 3, none⟩) (fun _ => rfl) _
  have hG4 := hGy.step kS (fun h => by omega) (fun h => by omega) (fun g hg h => hGy.ne B5y (by decide) g hg h)
  have HC4 := HC3.setCrate z3
  have B54 := blk_set B5y 3 (.int .i64 z3)
  have hP4 : Shut (parseM bs = (nextS s3 (fun k => ((decI (bs.drop k)).1, (decI (bs.drop k)).2.2))).bind (r4 bs z0 z1 z2 z3)) := shut (hP3.out.trans (step_bind s3 (fun k => ((decI (bs.drop k)).1, (decI (bs.drop k)).2.2)) (fun k => (decI (bs.drop k)).2.1) z3 hz (r4 bs z0 z1 z2)))
  clear hP3 B53 HC3 hG3 hz BA3 B23 K3 a9
  have BA4 := kS.blk BAy (fun h => by omega)
  have B24 := kS.blk B2y (fun h => by omega)
  have K4 := Ky.trans kS (fun i hi hlt => by have := HE.out; omega)
  clear BAy B2y Ky kG hGy
  go_wp2_with fail
  clear f9 c9 B5y kS
  generalize wy.setCell ⟨t + 1, 3, none⟩ (.int .i64 z3) = wx4 at *
  obtain ⟨s4, hs4⟩ : ∃ s, nextS s3 (fun k => ((decI (bs.drop k)).1, (decI (bs.drop k)).2.2)) = s := ⟨_, rfl⟩
  rw [hs4] at hG4 hP4
  clear hs4
  rw [rounds_succ]
  have a9 := blk_cell BA4 4 rfl
  go_wp2_with fail
  refine (gnumber hG4 hlb).mono ?_
  rintro e wy ⟨z4, rfl, zl4, zh4, hGy, hz⟩
  have kG := hGy.keeps
  have B5y : Blk wy (t + 1) _ 26 := kG.blk B54 (fun h => by omega)
  have B2y := kG.blk B24 (fun h => by omega)
  have BAy := kG.blk BA4 (fun h => by omega)
  have Ky : Keeps Nothing w wy := K4.trans kG (fun i hi hlt => by have := HE.out; omega)
  have f9 := blk_free B5y 4
  have c9 := blk_cell B5y 4 HC4.c4
  have kS : Keeps (fun i => i = t + 1) wy (wy.setCell ⟨t + 1, 4, none⟩ (.int .i64 z4)) := (Keeps.refl (fun i => i = t + 1) wy).setCell (p := ⟨t + 1, 4, none⟩) (fun _ => rfl) _
  have hG5 := hGy.step kS (fun h => by omega) (fun h => by omega) (fun g hg h => hGy.ne B5y (by decide) g hg h)
  have HC5 := HC4.setEpoch z4
  have B55 := blk_set B5y 4 (.int .i64 z4)
  have hP5 : Shut (parseM bs = (nextS s4 (fun k => ((decI (bs.drop k)).1, (decI (bs.drop k)).2.2))).bind (r5 bs z0 z1 z2 z3 z4)) := shut (hP4.out.trans (step_bind s4 (fun k => ((decI (bs.drop k)).1, (decI (bs.drop k)).2.2)) (fun k => (decI (bs.drop k)).2.1) z4 hz (r5 bs z0 z1 z2 z3)))
  clear hP4 B54 HC4 hG4 hz BA4 B24 K4 a9
  have BA5 := kS.blk BAy (fun h => by omega)
  have B25 := kS.blk B2y (fun h => by omega)
  have K5 := Ky.trans kS (fun i hi hlt => by have := HE.out; omega)
  clear BAy B2y Ky kG hGy
  go_wp2_with fail
  clear f9 c9 B5y kS
  generalize wy.setCell ⟨t + 1, 4, none⟩ (.int .i64 z4) = wx5 at *
  obtain ⟨s5, hs5⟩ : ∃ s, nextS s4 (fun k => ((decI (bs.drop k)).1, (decI (bs.drop k)).2.2)) = s := ⟨_, rfl⟩
  rw [hs5] at hG5 hP5
  clear hs5
  rw [rounds_succ]
  go_wp2_with fail
  clear BA5
  refine (gtext hG5 hlb 32 (by decide)).mono ?_
  rintro e wy ⟨nm, rfl, nml, hGy, hz⟩
  have kG := hGy.keeps
  have B5y : Blk wy (t + 1) _ 26 := kG.blk B55 (fun h => by omega)
  have B2y := kG.blk B25 (fun h => by omega)
  have Ky : Keeps Nothing w wy := K5.trans kG (fun i hi hlt => by have := HE.out; omega)
  have f9 := blk_free B5y 5
  have c9 := blk_cell B5y 5 HC5.c5
  have kS : Keeps (fun i => i = t + 1) wy (wy.setCell ⟨t + 1, 5, none⟩ (.string ⟨nm.toArray⟩)) := (Keeps.refl (fun i => i = t + 1) wy).setCell (p := ⟨t + 1, 5, none⟩) (fun _ => rfl) _
  have hG6 := hGy.step kS (fun h => by omega) (fun h => by omega) (fun g hg h => hGy.ne B5y (by decide) g hg h)
  have HC6 := HC5.setName nm
  have B56 := blk_set B5y 5 (.string ⟨nm.toArray⟩)
  have hP6 : Shut (parseM bs = (nextS s5 (fun k => ((decText 32 (bs.drop k)).1, (decText 32 (bs.drop k)).2.2))).bind (r5h bs z0 z1 z2 z3 z4 nm)) := shut (hP5.out.trans (step_bind s5 (fun k => ((decText 32 (bs.drop k)).1, (decText 32 (bs.drop k)).2.2)) (fun k => (decText 32 (bs.drop k)).2.1) nm hz (r5h bs z0 z1 z2 z3 z4)))
  clear hP5 B55 HC5 hG5 hz B25 K5
  have B26 := kS.blk B2y (fun h => by omega)
  have K6 := Ky.trans kS (fun i hi hlt => by have := HE.out; omega)
  clear B2y Ky kG hGy
  go_wp2_with fail
  clear f9 c9 B5y kS
  generalize wy.setCell ⟨t + 1, 5, none⟩ (.string ⟨nm.toArray⟩) = wx6 at *
  obtain ⟨s6, hs6⟩ : ∃ s, nextS s5 (fun k => ((decText 32 (bs.drop k)).1, (decText 32 (bs.drop k)).2.2)) = s := ⟨_, rfl⟩
  rw [hs6] at hG6 hP6
  clear hs6
  refine (ghash hG6 hlb).mono ?_
  rintro e wy ⟨hh, rfl, hh32, hGy, hz⟩
  have kG := hGy.keeps
  have B5y : Blk wy (t + 1) _ 26 := kG.blk B56 (fun h => by omega)
  have B2y := kG.blk B26 (fun h => by omega)
  have Ky : Keeps Nothing w wy := K6.trans kG (fun i hi hlt => by have := HE.out; omega)
  have f9 : midFit wy (t + 1) 6 32 = true := midFit_blk B5y (by rw [HC6.size]; decide)
  have HC7 := HC6.setHash hh hh32
  have hP7 : Shut (parseM bs = (nextS s6 (fun k => ((decHash (bs.drop k)).1, (decHash (bs.drop k)).2.2))).bind (r6 bs z0 z1 z2 z3 z4 nm hh)) := shut (hP6.out.trans (step_bind s6 (fun k => ((decHash (bs.drop k)).1, (decHash (bs.drop k)).2.2)) (fun k => (decHash (bs.drop k)).2.1) hh hz (r6 bs z0 z1 z2 z3 z4 nm)))
  obtain ⟨HV, hHV⟩ : ∃ HV, (hh.map byteV).toArray = HV := ⟨_, rfl⟩
  have hag : aggOk 32 (.agg HV) = true := by rw [← hHV]; exact aggOk_agg 32 _ (by simp [hh32]) (bytes_all _)
  rw [hHV] at HC7 ⊢
  have HHV := shut hHV
  clear hHV
  have kS : Keeps (fun i => i = t + 1) wy (midSet wy (t + 1) 6 HV) := midSet_keeps (Keeps.refl (fun i => i = t + 1) wy) (fun _ => rfl) 6 HV
  have hG7 := hGy.step kS (fun h => by omega) (fun h => by omega) (fun g hg h => hGy.ne B5y (by decide) g hg h)
  have B57 := blk_midSet B5y 6 HV
  clear hP6 B56 HC6 hG6 hz B26 K6
  have B27 := kS.blk B2y (fun h => by omega)
  have K7 := Ky.trans kS (fun i hi hlt => by have := HE.out; omega)
  clear B2y Ky kG hGy
  go_upto_region 10 with fail
  clear f9 B5y kS hag
  generalize midSet wy (t + 1) 6 HV = wx7 at *
  obtain ⟨s7, hs7⟩ : ∃ s, nextS s6 (fun k => ((decHash (bs.drop k)).1, (decHash (bs.drop k)).2.2)) = s := ⟨_, rfl⟩
  rw [hs7] at hG7 hP7
  clear hs7
  obtain ⟨KG, hne7, ev, k, hBt, hRt, hs⟩ := hG7
  have c0t := blk_cell hBt 0 rfl
  have hev : ev = .nilIface ∨ ∃ T u, ev = .iface T u := hs.imp (fun h => h.2) (fun h => h.2)
  have hsm := rSmall_any hRt hlb 64 (by decide)
  obtain ⟨n, hn⟩ : ∃ n, (decSmall 64 (bs.drop k)).2.1 = n := ⟨_, rfl⟩
  have hn64 : n ≤ 64 := by rw [← hn]; exact decSmall_le _
  have hz : ∀ k', s7 = some k' → n = (decSmall 64 (bs.drop k')).2.1 := fun k' hk => by
    rcases hs with ⟨h1, _⟩ | ⟨h1, _⟩
    · rw [h1] at hk; obtain rfl := Option.some.inj hk; exact hn.symm
    · rw [h1] at hk; cases hk
  have hP8 : Shut (parseM bs = (nextS s7 (fun k => ((decSmall 64 (bs.drop k)).1, (decSmall 64 (bs.drop k)).2.2))).bind (r7 bs z0 z1 z2 z3 z4 nm hh n)) := shut (hP7.out.trans (step_bind s7 (fun k => ((decSmall 64 (bs.drop k)).1, (decSmall 64 (bs.drop k)).2.2)) (fun k => (decSmall 64 (bs.drop k)).2.1) n hz (r7 bs z0 z1 z2 z3 z4 nm hh)))
  rw [hn] at hsm
  have HSr := shut (fun (w1 w2 : World) (ev1 : Value) (hE : IsErr wx7.heap.size w1 ev1 (decSmall 64 (bs.drop k)).1 (posOf (decSmall 64 (bs.drop k)).1 k)) (hR1 : Rd w1 q ao cap bs (k + (decSmall 64 (bs.drop k)).2.2)) (k1 : Keeps (fun i => i = q) wx7 w1) (hB2 : Blk w2 t #[.pointer (some ⟨q, 0, none⟩), keptE ev ev1] 85) (k2 : Keeps (fun i => i = t) w1 w2) => gs_read (w1 := w1) (w2 := w2) (ev1 := ev1) KG hne7 hBt hs hE hR1 k1 hB2 k2 (fun k => ((decSmall 64 (bs.drop k)).1, (decSmall 64 (bs.drop k)).2.2)) rfl)
  clear hz hn hs hP7 hRt KG
  generalize (decSmall 64 (bs.drop k)).1 = cd at *
  generalize (decSmall 64 (bs.drop k)).2.2 = nd at *
  go_wp2_with fail
  refine hsm.mono ?_
  rintro e wy ⟨ev1, rfl, hE, hR1, k1⟩
  go_wp2_with fail
  refine (keep_any (k1.blk hBt (fun h => hne7 h)) (v := ev1) hev hE.shape).mono ?_
  rintro e wz ⟨rfl, hBz, k2⟩
  have hG8 := HSr.out wy wz ev1 hE hR1 k1 hBz k2
  have kz : Keeps (fun i => i = t ∨ i = q) wx7 wz := hG8.keeps
  have B58 : Blk wz (t + 1) _ 26 := kz.blk B57 (fun h => by omega)
  have B28 := kz.blk B27 (fun h => by omega)
  have K8 := K7.trans kz (fun i hi hlt => by have := HE.out; omega)
  clear HSr hsm hBt c0t hE hR1 k1 hBz k2 kz B57 B27 K7
  obtain ⟨s8, hs8⟩ : ∃ s, nextS s7 (fun k => ((decSmall 64 (bs.drop k)).1, (decSmall 64 (bs.drop k)).2.2)) = s := ⟨_, rfl⟩
  rw [hs8] at hG8 hP8
  clear hs8
  have hG80 := hG8.step (Keeps.refl Nothing wz) (fun h => h) (fun h => h) (fun _ _ h => h)
  go_wp2_with fail
  go_loopg [10] n (fun g s10 wx => ∃ (i : Nat) (hs : List (List UInt8)) (ah : Option Addr) (ch : Nat) (C : Array Value) (st : Option Nat), i + g = n ∧ s10 = .int .i64 i ∧ Gs wx wx t q ao cap bs st ∧ Blk wx (t + 1) C 26 ∧ MsgC C ⟨z0, z1, z2, z3, z4, nm, hh, hs, [], []⟩ ah ch ∧ OwnH wx ah ch hs ∧ (∀ h ∈ hs, h.length = 32) ∧ hs.length = i ∧ (∀ g, blockOf ah = some g → w.heap.size ≤ g) ∧ Keeps Nothing w wx ∧ Blk wx g2 Z 26 ∧ Shut (parseM bs = st.bind (gHs bs (r8 bs z0 z1 z2 z3 z4 nm hh) (n - i) hs)))
  case atStart => exact ⟨0, [], none, 0, _, s8, by omega, rfl, hG80, B58, HC7, World.ownsRow_nil _ _ _ _, by simp, rfl, (fun g e => by cases e), K8, B28, hP8⟩
  case round =>
    obtain ⟨i, hs, ah, ch, C, st, hgk, rfl, hG, B5, HC, HO, h32s, hlen, hfr, KK, B2, hP⟩ := hrel
    have hG' := hG
    obtain ⟨-, -, ev', k', hBt', hRt', hst⟩ := hG'
    have c1t := blk_cell hBt' 1 rfl
    by_cases hlt : i < n
    · have m1 : (i : Int) < n := by omega
      rcases hst with ⟨rfl, rfl⟩ | ⟨rfl, T, u, rfl⟩
      · have c38 : wr.cell? ⟨t + 1, 38, none⟩ = some (.slice ah i ch) := by have := blk_cell B5 38 HC.c38; simp only [hlen] at this; exact this
        have hat : ∀ g, blockOf ah = some g → ¬ (g = t ∨ g = q) := fun g hg h => by
          rcases h with rfl | rfl
          · exact own_ne HO hBt' (by decide) (by rw [ownBlock_eq]; exact hg)
          · exact own_ne HO hRt'.blk (by decide) (by rw [ownBlock_eq]; exact hg)
        have ha5 : ∀ g, blockOf ah = some g → g ≠ t + 1 := fun g hg h => by
          subst h; exact own_ne HO B5 (by decide) (by rw [ownBlock_eq]; exact hg)
        have ha2 : ∀ g, blockOf ah = some g → g ≠ g2 := fun g hg h => by
          subst h; exact own_ne HO B2 (by decide) (by rw [ownBlock_eq]; exact hg)
        have hao : ∀ g, blockOf ao = some g → ¬ blockOf ah = some g := fun g hg h => by
          rcases HO.2 with ⟨hv, _⟩ | ⟨g', cap', cur, hv, _, hb, _⟩
          · simp only [Value.slice.injEq] at hv
            rw [hv.1] at h; cases h
          · simp only [Value.slice.injEq] at hv
            rw [hv.1] at h
            obtain rfl := Option.some.inj h
            exact own8_ne hRt'.own hb (by decide) hg
        have kd : Keeps Nothing wr wr.drew := (Keeps.refl _ _).drew
        have hGd := hG.step kd (fun h => h) (fun h => h) (fun _ _ h => h)
        clear hG
        go_wp2_with fail
        refine wp_region_mixT (fun W => W.cell? ⟨t + 1, 38, none⟩ = some (.slice ah i ch)) 7 (.take 0 (.take 1 (.take 2 (.one 3 (.one 4 (.one 5 (.take 6 (.one 7 .done)))))))) (by kernel_rfl) (by kernel_rfl) c38 ?_
        simp only [itemsT, PlanT.map, List.getD_cons_zero, List.getD_cons_succ, Nat.reduceBEq]
        repeat (refine wpMixT_free (fun K hK => ?_); go_simp; refine hK _ ?_; clear hK K)
        refine wpMixT_yield (v := .slice ah i ch) (fun W hW => ?_) (fun K hK => ?_)
        · have zz := hW
          go_simp
        go_simp
        refine hK _ ?_
        clear hK K
        repeat (refine wpMixT_free (fun K hK => ?_); go_simp; refine hK _ ?_; clear hK K)
        refine wpMixT_one (fun K hK => ?_)
        go_wp2_with fail
        refine (ghash hGd hlb).mono ?_
        rintro e wy ⟨x, rfl, x32, hGy, hz⟩
        have kG := hGy.keeps
        have kGr : Keeps (fun i => i = t ∨ i = q) wr wy := (kd.mono (S' := fun i => i = t ∨ i = q) (fun _ h _ => h.elim)).trans kG (fun _ h _ => h)
        have B5y : Blk wy (t + 1) C 26 := kGr.blk B5 (fun h => by omega)
        have B2y := kGr.blk B2 (fun h => by omega)
        have HOy : OwnH wy ah ch hs := kGr.own HO (fun g hg => by rw [ownBlock_eq] at hg; exact hat g hg)
        have Ky : Keeps Nothing w wy := KK.trans kGr (fun i hi hlt => by have := HE.out; omega)
        have hfry := hfr
        have hP2 : Shut (parseM bs = (nextS (some k') (fun k => ((decHash (bs.drop k)).1, (decHash (bs.drop k)).2.2))).bind (gHs bs (r8 bs z0 z1 z2 z3 z4 nm hh) (n - (i + 1)) (hs ++ [x]))) := shut (by
          rw [hP.out, show n - i = (n - (i + 1)) + 1 by omega]
          exact step_bind (some k') (fun k => ((decHash (bs.drop k)).1, (decHash (bs.drop k)).2.2)) (fun k => (decHash (bs.drop k)).2.1) x hz (fun h => gHs bs (r8 bs z0 z1 z2 z3 z4 nm hh) (n - (i + 1)) (hs ++ [h])))
        have c38y := kGr.cell c38 (fun h => by simp only at h; omega)
        obtain ⟨X, hX⟩ : ∃ X, (x.map byteV).toArray = X := ⟨_, rfl⟩
        have hXs : X.size = 32 := by rw [← hX]; simp [x32]
        have HXX := shut hX
        rw [hX]
        clear hX hz hP KK B2 B5 HO c38 kG kGr hG8 hP8
        go_wp2_with fail
        refine hK _ _ (.inr c38y) ?_
        clear hK K
        refine wpMixT_one (fun K hK => ?_)
        go_wp2_with fail
        rw [← zeros32_lit, fill32 zeros32_size hXs]
        have ka := (Keeps.refl Nothing wy).alloc (.cells X 23)
        have D := blk_new wy X 23
        have c38z := ka.cell c38y (fun h => h)
        have B5z := ka.blk B5y (fun h => h)
        have B2z := ka.blk B2y (fun h => h)
        have HOz : OwnH _ ah ch hs := ka.own HOy (fun _ _ h => h)
        have Kz := Ky.trans ka (fun _ h _ => h)
        have hGz := hGy.step ka (fun h => h) (fun h => h) (fun _ _ h => h)
        clear c38y B5y B2y HOy Ky hGy ka
        generalize wy.alloc (.cells X 23) = wz at *
        generalize wy.heap.size = gz at *
        refine hK _ _ (.inr c38z) ?_
        clear hK K
        refine wpMixT_one (fun K hK => ?_)
        refine wpList_appH _ rfl (.tmp 63) (.tmp 66) rfl ah ch hs i hlen rfl HOz gz x x32 HXX.out.symm rfl D (by omega) ?_
        intro a6 c6 w6 o6 k6 m6
        have c386 := k6.cell c38z (fun h => ha5 _ h rfl)
        have B56 := k6.blk B5z (fun h => ha5 _ h rfl)
        have B26 := k6.blk B2z (fun h => ha2 _ h rfl)
        have K6 := Kz.trans k6 (fun i hi hlt => by have := hfry i hi; omega)
        have hG6 := hGz.step k6 (fun h => hat _ h (.inl rfl)) (fun h => hat _ h (.inr rfl)) hao
        have hfr6 : ∀ g, blockOf a6 = some g → w.heap.size ≤ g := fun g hg => by
          have hsz := Kz.size
          rcases m6 with m6 | ⟨g', m6, h2⟩
          · exact hfry g (m6 ▸ hg)
          · rw [m6] at hg
            obtain rfl := Option.some.inj hg
            omega
        have ha56 : ∀ g, blockOf a6 = some g → g ≠ t + 1 := fun g hg h => by
          subst h; exact own_ne o6 B56 (by decide) (by rw [ownBlock_eq]; exact hg)
        clear c38z B5z B2z HOz Kz hGz k6 m6 D hfr hfry
        go_wp2_with fail
        refine hK _ _ (.inr c386) ?_
        clear hK K
        repeat (refine wpMixT_free (fun K hK => ?_); go_simp; refine hK _ ?_; clear hK K)
        have f386 := blk_free B56 38
        have kS : Keeps (fun i => i = t + 1) w6 (w6.setCell ⟨t + 1, 38, none⟩ (.slice a6 (i + 1) c6)) := (Keeps.refl (fun i => i = t + 1) w6).setCell (p := ⟨t + 1, 38, none⟩) (fun _ => rfl) _
        refine wpMixT_one (fun K hK => ?_)
        go_wp2_with fail
        refine hK _ _ (.inl trivial) ?_
        clear hK K
        refine wpMixT_done ?_
        have hGf := hG6.step kS (fun h => by omega) (fun h => by omega) (fun g hg h => hG6.ne B56 (by decide) g hg h)
        have B5f := blk_set B56 38 (.slice a6 (i + 1) c6)
        have B2f := kS.blk B26 (fun h => by omega)
        have Kf := K6.trans kS (fun i hi hlt => by have := HE.out; omega)
        have HOf : OwnH _ a6 c6 (hs ++ [x]) := kS.own o6 (fun g hg h => by rw [ownBlock_eq] at hg; exact ha56 g hg h)
        have hln : (hs ++ [x]).length = i + 1 := by simp [hlen]
        have HCf := HC.setHashes (hs ++ [x]) a6 c6
        rw [hln] at HCf
        clear kS f386 c386 B56 B26 K6 hG6 o6
        generalize w6.setCell ⟨t + 1, 38, none⟩ (.slice a6 (i + 1) c6) = w7 at *
        go_wp2_with fail
        go_roundg (n - (i + 1))
        case measure => omega
        case rel => exact ⟨i + 1, hs ++ [x], a6, c6, _, _, by omega, by go_num, hGf, B5f, HCf, HOf, (fun h hh => by rcases List.mem_append.1 hh with h1 | h1; exact h32s h h1; simp at h1; subst h1; exact x32), hln, hfr6, Kf, B2f, hP2⟩
      · have hP9 : Shut (parseM bs = (none : Option Nat).bind (r8 bs z0 z1 z2 z3 z4 nm hh hs)) := shut hP.out
        have hat : ∀ g, blockOf ah = some g → ¬ (g = t ∨ g = q) := fun g hg h => by
          rcases h with rfl | rfl
          · exact own_ne HO hBt' (by decide) (by rw [ownBlock_eq]; exact hg)
          · exact own_ne HO hRt'.blk (by decide) (by rw [ownBlock_eq]; exact hg)
        have ha5 : ∀ g, blockOf ah = some g → g ≠ t + 1 := fun g hg h => by
          subst h; exact own_ne HO B5 (by decide) (by rw [ownBlock_eq]; exact hg)
        go_wp2_with fail
        clear hP c1t hBt' hRt'
        refine (gtext hG hlb 4194304 (by decide)).mono ?_
        rintro e wy ⟨bl, rfl, bll, hGy, hz⟩
        have kG := hGy.keeps
        have B5y : Blk wy (t + 1) _ 26 := kG.blk B5 (fun h => by omega)
        have B2y := kG.blk B2 (fun h => by omega)
        have HOy : OwnH wy ah ch hs := kG.own HO (fun g hg => by rw [ownBlock_eq] at hg; exact hat g hg)
        have Ky : Keeps Nothing w wy := (KK).trans kG (fun i hi hlt => by have := HE.out; omega)
        have f9 := blk_free B5y 39
        have c9 := blk_cell B5y 39 HC.c39
        have kS : Keeps (fun i => i = t + 1) wy (wy.setCell ⟨t + 1, 39, none⟩ (.string ⟨bl.toArray⟩)) := (Keeps.refl (fun i => i = t + 1) wy).setCell (p := ⟨t + 1, 39, none⟩) (fun _ => rfl) _
        have hG9 := hGy.step kS (fun h => by omega) (fun h => by omega) (fun g hg h => hGy.ne B5y (by decide) g hg h)
        have HC9 := HC.setBlob bl
        have B59 := blk_set B5y 39 (.string ⟨bl.toArray⟩)
        have hP9 : Shut (parseM bs = (nextS (none : Option Nat) (fun k => ((decText 4194304 (bs.drop k)).1, (decText 4194304 (bs.drop k)).2.2))).bind (r9 bs z0 z1 z2 z3 z4 nm hh hs bl)) := shut (hP9.out.trans (step_bind (none : Option Nat) (fun k => ((decText 4194304 (bs.drop k)).1, (decText 4194304 (bs.drop k)).2.2)) (fun k => (decText 4194304 (bs.drop k)).2.1) bl hz (r9 bs z0 z1 z2 z3 z4 nm hh hs)))
        have HO9 : OwnH _ ah ch hs := kS.own HOy (fun g hg h => by rw [ownBlock_eq] at hg; exact ha5 g hg h)
        have B29 := kS.blk B2y (fun h => by omega)
        have K9 := Ky.trans kS (fun i hi hlt => by have := HE.out; omega)
        clear B2y Ky kG hGy HOy hz
        go_wp2_with fail
        clear f9 c9 B5y kS
        generalize wy.setCell ⟨t + 1, 39, none⟩ (.string ⟨bl.toArray⟩) = wx9 at *
        obtain ⟨s9, hs9⟩ : ∃ s, nextS (none : Option Nat) (fun k => ((decText 4194304 (bs.drop k)).1, (decText 4194304 (bs.drop k)).2.2)) = s := ⟨_, rfl⟩
        rw [hs9] at hG9 hP9
        clear hs9
        clear hG B5 HC HO B2 KK
        refine (gtext hG9 hlb 4194304 (by decide)).mono ?_
        rintro e wy ⟨sg, rfl, sgl, hGy, hz⟩
        have kG := hGy.keeps
        have B5y : Blk wy (t + 1) _ 26 := kG.blk B59 (fun h => by omega)
        have B2y := kG.blk B29 (fun h => by omega)
        have HOy : OwnH wy ah ch hs := kG.own HO9 (fun g hg => by rw [ownBlock_eq] at hg; exact hat g hg)
        have Ky : Keeps Nothing w wy := (K9).trans kG (fun i hi hlt => by have := HE.out; omega)
        have f9 := blk_free B5y 40
        have c9 := blk_cell B5y 40 HC9.c40
        have kS : Keeps (fun i => i = t + 1) wy (wy.setCell ⟨t + 1, 40, none⟩ (.string ⟨sg.toArray⟩)) := (Keeps.refl (fun i => i = t + 1) wy).setCell (p := ⟨t + 1, 40, none⟩) (fun _ => rfl) _
        have hG10 := hGy.step kS (fun h => by omega) (fun h => by omega) (fun g hg h => hGy.ne B5y (by decide) g hg h)
        have HC10 := HC9.setSig sg
        have B510 := blk_set B5y 40 (.string ⟨sg.toArray⟩)
        have hP10 : Shut (parseM bs = (nextS s9 (fun k => ((decText 4194304 (bs.drop k)).1, (decText 4194304 (bs.drop k)).2.2))).bind (r10 z0 z1 z2 z3 z4 nm hh hs bl sg)) := shut (hP9.out.trans (step_bind s9 (fun k => ((decText 4194304 (bs.drop k)).1, (decText 4194304 (bs.drop k)).2.2)) (fun k => (decText 4194304 (bs.drop k)).2.1) sg hz (r10 z0 z1 z2 z3 z4 nm hh hs bl)))
        have HO10 : OwnH _ ah ch hs := kS.own HOy (fun g hg h => by rw [ownBlock_eq] at hg; exact ha5 g hg h)
        have B210 := kS.blk B2y (fun h => by omega)
        have K10 := Ky.trans kS (fun i hi hlt => by have := HE.out; omega)
        clear B2y Ky kG hGy HOy hz
        go_upto_region 18 with fail
        clear f9 c9 B5y kS
        generalize wy.setCell ⟨t + 1, 40, none⟩ (.string ⟨sg.toArray⟩) = wx10 at *
        obtain ⟨s10, hs10⟩ : ∃ s, nextS s9 (fun k => ((decText 4194304 (bs.drop k)).1, (decText 4194304 (bs.drop k)).2.2)) = s := ⟨_, rfl⟩
        rw [hs10] at hG10 hP10
        clear hs10
        clear hG9 B59 HC9 HO9 B29 K9 hP9
        obtain ⟨-, -, ev, k, hBt, -, hst10⟩ := hG10
        have c1t := blk_cell hBt 1 rfl
        rcases hst10 with ⟨rfl, rfl⟩ | ⟨rfl, T9, u9, rfl⟩
        rotate_left
        · have hpn : parseM bs = none := hP10.out
          go_upto_region 22 with fail
          have hgn : Shut (getM bs = none) := shut (by unfold getM; rw [hpn]; rfl)
          have hnew := new_err 4 0 wx10 rfl
          have hagZ := HZ.row
          go_wp2_with fail
          rw [← zeroC_lit, ← HZC.out]
          refine hnew.mono ?_
          rintro e wf ⟨rfl, rfl⟩
          have kf := (Keeps.refl Nothing wx10).alloc (.cells #[.int .i64 4, .int .i64 0, .iface 64 (.int .i64 4)] 102)
          have B2e := kf.blk B210 (fun h => h)
          have rE := rowOk_blk B2e HZ.size
          go_wp2_with fail
          have b3 := blk_setRow (cs := Z) B2e
          refine bodyPost_ret (v := .tuple #[.agg Z, .iface 100 (.pointer (some ⟨(wx10).heap.size, 0, none⟩))]) (results_row_tmp rfl _ _ g2 Z _ rfl rfl (loadVar_msg _ _ _ _ b3 HZ.size)) rfl ?_
          have hg2 := HG2.out
          have hse := isErr_new wx10 4 0 rfl
          have kr : Keeps (fun i => i = g2) ((wx10).alloc (.cells #[.int .i64 4, .int .i64 0, .iface 64 (.int .i64 4)] 102)) _ := (Keeps.refl (fun i => i = g2) _).setRow (fun _ => rfl) Z
          have lgW := lt_of_block B210
          refine ⟨fun m hm => (by rw [hgn.out] at hm; cases hm), fun _ => ⟨_, by rw [HZC.out], ?_, ((K10).trans kf (fun _ h _ => h)).trans kr (fun i hi hlt => by omega)⟩⟩
          have hs2 := hse.keeps kr (fun i hi => by omega)
          rcases hs2 with ⟨hq, _⟩ | ⟨b, hb, hr⟩
          · cases hq
          · exact .inr ⟨b, Nat.le_trans (K10).size hb, hr⟩
        · have hpm : Shut (parseM bs = some ⟨z0, z1, z2, z3, z4, nm, hh, hs, bl, sg⟩) := shut hP10.out
          obtain ⟨x1, x2⟩ := blk_mid B510 HC10.size
          have hMA : MsgAt wx10 ⟨z0, z1, z2, z3, z4, nm, hh, hs, bl, sg⟩ ah ch := ⟨zl0, by omega, zl1, by omega, zl2, by omega, zl3, by omega, zl4, by omega, ownH_at HO10 h32s, h32s, (ownH_cap HO10).1, (ownH_cap HO10).2⟩
          have hsm : MsgSmall ⟨z0, z1, z2, z3, z4, nm, hh, hs, bl, sg⟩ := ⟨Nat.le_trans nml hl, Nat.le_trans bll hl, Nat.le_trans sgl hl⟩
          have hput := put_any HC10 hMA hsm
          generalize (C.setIfInBounds 39 (.string ⟨bl.toArray⟩)).setIfInBounds 40 (.string ⟨sg.toArray⟩) = C10 at *
          go_wp2_with fail
          refine hput.mono ?_
          rintro e wp hpp
          clear hput x1 x2 c1t
          by_cases hmay : mayP ⟨z0, z1, z2, z3, z4, nm, hh, hs, bl, sg⟩
          · obtain ⟨a11, c11, rfl, o11, k11, -⟩ := hpp.1 hmay
            have K11 := K10.trans k11 (fun _ h _ => h)
            have heq := equal_any wp c11 c rfl rfl (own8_at o11) (hB.keeps K11 (fun _ _ h => h))
            obtain ⟨Z2, hZ2⟩ : ∃ Z2, (encMsg ⟨z0, z1, z2, z3, z4, nm, hh, hs, bl, sg⟩ == bs) = Z2 := ⟨_, rfl⟩
            rw [hZ2] at heq
            have HZ2 := shut hZ2
            have B5p := k11.blk B510 (fun h => h)
            have B2p := k11.blk B210 (fun h => h)
            have HOp : OwnH wp ah ch hs := k11.own HO10 (fun _ _ h => h)
            clear hZ2 hpp o11
            generalize (encMsg ⟨z0, z1, z2, z3, z4, nm, hh, hs, bl, sg⟩).length = LE at *
            go_wp2_with fail
            refine heq.mono ?_
            rintro e wq ⟨rfl, rfl⟩
            clear heq
            cases Z2 with
            | true =>
              have hgm : Shut (getM bs = some ⟨z0, z1, z2, z3, z4, nm, hh, hs, bl, sg⟩) := shut (by unfold getM; rw [hpm.out]; show (if _ then _ else _) = _; rw [if_pos ⟨hmay, by simpa using HZ2.out⟩])
              obtain ⟨y1, y2⟩ := blk_mid B5p HC10.size
              have rE := rowOk_blk B2p HZ.size
              have hrw := HC10.row
              go_wp2_with fail
              have b3 := blk_setRow (cs := C10) B2p
              refine bodyPost_ret (v := .tuple #[.agg C10, .nilIface]) (results_row_tmp rfl _ _ g2 C10 _ rfl rfl (loadVar_msg _ _ _ _ b3 HC10.size)) rfl ?_
              have hg2 := HG2.out
              have kr := (Keeps.refl (fun i => i = g2) wq).setRow (g := g2) (fun _ => rfl) C10
              have hOf : OwnH _ ah ch hs := kr.own HOp (fun g hg h => by rw [ownBlock_eq] at hg; subst h; exact own_ne HOp B2p (by decide) (by rw [ownBlock_eq]; exact hg))
              refine ⟨fun m hm => ?_, fun h => (by rw [hgm.out] at h; cases h)⟩
              rw [hgm.out] at hm
              obtain rfl := Option.some.inj hm
              exact ⟨_, ah, ch, rfl, HC10, ⟨zl0, by omega, zl1, by omega, zl2, by omega, zl3, by omega, zl4, by omega, ownH_at hOf h32s, h32s, (ownH_cap hOf).1, (ownH_cap hOf).2⟩, K11.trans kr (fun i hi hlt => by omega)⟩
            | false =>
              go_upto_region 22 with fail
              have hgn : Shut (getM bs = none) := shut (by unfold getM; rw [hpm.out]; show (if _ then _ else _) = _; rw [if_neg (fun h => by have := HZ2.out; rw [h.2] at this; simp at this)])
              have hnew := new_err 4 0 wq rfl
              have hagZ := HZ.row
              go_wp2_with fail
              rw [← zeroC_lit, ← HZC.out]
              refine hnew.mono ?_
              rintro e wf ⟨rfl, rfl⟩
              have kf := (Keeps.refl Nothing wq).alloc (.cells #[.int .i64 4, .int .i64 0, .iface 64 (.int .i64 4)] 102)
              have B2e := kf.blk B2p (fun h => h)
              have rE := rowOk_blk B2e HZ.size
              go_wp2_with fail
              have b3 := blk_setRow (cs := Z) B2e
              refine bodyPost_ret (v := .tuple #[.agg Z, .iface 100 (.pointer (some ⟨(wq).heap.size, 0, none⟩))]) (results_row_tmp rfl _ _ g2 Z _ rfl rfl (loadVar_msg _ _ _ _ b3 HZ.size)) rfl ?_
              have hg2 := HG2.out
              have hse := isErr_new wq 4 0 rfl
              have kr : Keeps (fun i => i = g2) ((wq).alloc (.cells #[.int .i64 4, .int .i64 0, .iface 64 (.int .i64 4)] 102)) _ := (Keeps.refl (fun i => i = g2) _).setRow (fun _ => rfl) Z
              have lgW := lt_of_block B2p
              refine ⟨fun m hm => (by rw [hgn.out] at hm; cases hm), fun _ => ⟨_, by rw [HZC.out], ?_, ((K11).trans kf (fun _ h _ => h)).trans kr (fun i hi hlt => by omega)⟩⟩
              have hs2 := hse.keeps kr (fun i hi => by omega)
              rcases hs2 with ⟨hq, _⟩ | ⟨b, hb, hr⟩
              · cases hq
              · exact .inr ⟨b, Nat.le_trans (K11).size hb, hr⟩
          · obtain ⟨ev2, rfl, hE2, k11⟩ := hpp.2 hmay
            obtain ⟨b2, rfl⟩ := isErr_yes hE2 (by decide)
            have K11 := K10.trans k11 (fun _ h _ => h)
            have B2p := k11.blk B210 (fun h => h)
            go_upto_region 22 with fail
            have hgn : Shut (getM bs = none) := shut (by unfold getM; rw [hpm.out]; show (if _ then _ else _) = _; rw [if_neg (fun h => hmay h.1)])
            have hnew := new_err 4 0 wp rfl
            have hagZ := HZ.row
            go_wp2_with fail
            rw [← zeroC_lit, ← HZC.out]
            refine hnew.mono ?_
            rintro e wf ⟨rfl, rfl⟩
            have kf := (Keeps.refl Nothing wp).alloc (.cells #[.int .i64 4, .int .i64 0, .iface 64 (.int .i64 4)] 102)
            have B2e := kf.blk B2p (fun h => h)
            have rE := rowOk_blk B2e HZ.size
            go_wp2_with fail
            have b3 := blk_setRow (cs := Z) B2e
            refine bodyPost_ret (v := .tuple #[.agg Z, .iface 100 (.pointer (some ⟨(wp).heap.size, 0, none⟩))]) (results_row_tmp rfl _ _ g2 Z _ rfl rfl (loadVar_msg _ _ _ _ b3 HZ.size)) rfl ?_
            have hg2 := HG2.out
            have hse := isErr_new wp 4 0 rfl
            have kr : Keeps (fun i => i = g2) ((wp).alloc (.cells #[.int .i64 4, .int .i64 0, .iface 64 (.int .i64 4)] 102)) _ := (Keeps.refl (fun i => i = g2) _).setRow (fun _ => rfl) Z
            have lgW := lt_of_block B2p
            refine ⟨fun m hm => (by rw [hgn.out] at hm; cases hm), fun _ => ⟨_, by rw [HZC.out], ?_, ((K11).trans kf (fun _ h _ => h)).trans kr (fun i hi hlt => by omega)⟩⟩
            have hs2 := hse.keeps kr (fun i hi => by omega)
            rcases hs2 with ⟨hq, _⟩ | ⟨b, hb, hr⟩
            · cases hq
            · exact .inr ⟨b, Nat.le_trans (K11).size hb, hr⟩
    · have m1 : ¬ (i : Int) < n := by omega
      have hP9 : Shut (parseM bs = st.bind (r8 bs z0 z1 z2 z3 z4 nm hh hs)) := shut (by rw [hP.out, show n - i = 0 by omega]; rfl)
      have hat : ∀ g, blockOf ah = some g → ¬ (g = t ∨ g = q) := fun g hg h => by
        rcases h with rfl | rfl
        · exact own_ne HO hBt' (by decide) (by rw [ownBlock_eq]; exact hg)
        · exact own_ne HO hRt'.blk (by decide) (by rw [ownBlock_eq]; exact hg)
      have ha5 : ∀ g, blockOf ah = some g → g ≠ t + 1 := fun g hg h => by
        subst h; exact own_ne HO B5 (by decide) (by rw [ownBlock_eq]; exact hg)
      go_wp2_with fail
      clear hP c1t hBt' hRt'
      refine (gtext hG hlb 4194304 (by decide)).mono ?_
      rintro e wy ⟨bl, rfl, bll, hGy, hz⟩
      have kG := hGy.keeps
      have B5y : Blk wy (t + 1) _ 26 := kG.blk B5 (fun h => by omega)
      have B2y := kG.blk B2 (fun h => by omega)
      have HOy : OwnH wy ah ch hs := kG.own HO (fun g hg => by rw [ownBlock_eq] at hg; exact hat g hg)
      have Ky : Keeps Nothing w wy := (KK).trans kG (fun i hi hlt => by have := HE.out; omega)
      have f9 := blk_free B5y 39
      have c9 := blk_cell B5y 39 HC.c39
      have kS : Keeps (fun i => i = t + 1) wy (wy.setCell ⟨t + 1, 39, none⟩ (.string ⟨bl.toArray⟩)) := (Keeps.refl (fun i => i = t + 1) wy).setCell (p := ⟨t + 1, 39, none⟩) (fun _ => rfl) _
      have hG9 := hGy.step kS (fun h => by omega) (fun h => by omega) (fun g hg h => hGy.ne B5y (by decide) g hg h)
      have HC9 := HC.setBlob bl
      have B59 := blk_set B5y 39 (.string ⟨bl.toArray⟩)
      have hP9 : Shut (parseM bs = (nextS st (fun k => ((decText 4194304 (bs.drop k)).1, (decText 4194304 (bs.drop k)).2.2))).bind (r9 bs z0 z1 z2 z3 z4 nm hh hs bl)) := shut (hP9.out.trans (step_bind st (fun k => ((decText 4194304 (bs.drop k)).1, (decText 4194304 (bs.drop k)).2.2)) (fun k => (decText 4194304 (bs.drop k)).2.1) bl hz (r9 bs z0 z1 z2 z3 z4 nm hh hs)))
      have HO9 : OwnH _ ah ch hs := kS.own HOy (fun g hg h => by rw [ownBlock_eq] at hg; exact ha5 g hg h)
      have B29 := kS.blk B2y (fun h => by omega)
      have K9 := Ky.trans kS (fun i hi hlt => by have := HE.out; omega)
      clear B2y Ky kG hGy HOy hz
      go_wp2_with fail
      clear f9 c9 B5y kS
      generalize wy.setCell ⟨t + 1, 39, none⟩ (.string ⟨bl.toArray⟩) = wx9 at *
      obtain ⟨s9, hs9⟩ : ∃ s, nextS st (fun k => ((decText 4194304 (bs.drop k)).1, (decText 4194304 (bs.drop k)).2.2)) = s := ⟨_, rfl⟩
      rw [hs9] at hG9 hP9
      clear hs9
      clear hG B5 HC HO B2 KK
      refine (gtext hG9 hlb 4194304 (by decide)).mono ?_
      rintro e wy ⟨sg, rfl, sgl, hGy, hz⟩
      have kG := hGy.keeps
      have B5y : Blk wy (t + 1) _ 26 := kG.blk B59 (fun h => by omega)
      have B2y := kG.blk B29 (fun h => by omega)
      have HOy : OwnH wy ah ch hs := kG.own HO9 (fun g hg => by rw [ownBlock_eq] at hg; exact hat g hg)
      have Ky : Keeps Nothing w wy := (K9).trans kG (fun i hi hlt => by have := HE.out; omega)
      have f9 := blk_free B5y 40
      have c9 := blk_cell B5y 40 HC9.c40
      have kS : Keeps (fun i => i = t + 1) wy (wy.setCell ⟨t + 1, 40, none⟩ (.string ⟨sg.toArray⟩)) := (Keeps.refl (fun i => i = t + 1) wy).setCell (p := ⟨t + 1, 40, none⟩) (fun _ => rfl) _
      have hG10 := hGy.step kS (fun h => by omega) (fun h => by omega) (fun g hg h => hGy.ne B5y (by decide) g hg h)
      have HC10 := HC9.setSig sg
      have B510 := blk_set B5y 40 (.string ⟨sg.toArray⟩)
      have hP10 : Shut (parseM bs = (nextS s9 (fun k => ((decText 4194304 (bs.drop k)).1, (decText 4194304 (bs.drop k)).2.2))).bind (r10 z0 z1 z2 z3 z4 nm hh hs bl sg)) := shut (hP9.out.trans (step_bind s9 (fun k => ((decText 4194304 (bs.drop k)).1, (decText 4194304 (bs.drop k)).2.2)) (fun k => (decText 4194304 (bs.drop k)).2.1) sg hz (r10 z0 z1 z2 z3 z4 nm hh hs bl)))
      have HO10 : OwnH _ ah ch hs := kS.own HOy (fun g hg h => by rw [ownBlock_eq] at hg; exact ha5 g hg h)
      have B210 := kS.blk B2y (fun h => by omega)
      have K10 := Ky.trans kS (fun i hi hlt => by have := HE.out; omega)
      clear B2y Ky kG hGy HOy hz
      go_upto_region 18 with fail
      clear f9 c9 B5y kS
      generalize wy.setCell ⟨t + 1, 40, none⟩ (.string ⟨sg.toArray⟩) = wx10 at *
      obtain ⟨s10, hs10⟩ : ∃ s, nextS s9 (fun k => ((decText 4194304 (bs.drop k)).1, (decText 4194304 (bs.drop k)).2.2)) = s := ⟨_, rfl⟩
      rw [hs10] at hG10 hP10
      clear hs10
      clear hG9 B59 HC9 HO9 B29 K9 hP9
      obtain ⟨-, -, ev, k, hBt, -, hst10⟩ := hG10
      have c1t := blk_cell hBt 1 rfl
      rcases hst10 with ⟨rfl, rfl⟩ | ⟨rfl, T9, u9, rfl⟩
      rotate_left
      · have hpn : parseM bs = none := hP10.out
        go_upto_region 22 with fail
        have hgn : Shut (getM bs = none) := shut (by unfold getM; rw [hpn]; rfl)
        have hnew := new_err 4 0 wx10 rfl
        have hagZ := HZ.row
        go_wp2_with fail
        rw [← zeroC_lit, ← HZC.out]
        refine hnew.mono ?_
        rintro e wf ⟨rfl, rfl⟩
        have kf := (Keeps.refl Nothing wx10).alloc (.cells #[.int .i64 4, .int .i64 0, .iface 64 (.int .i64 4)] 102)
        have B2e := kf.blk B210 (fun h => h)
        have rE := rowOk_blk B2e HZ.size
        go_wp2_with fail
        have b3 := blk_setRow (cs := Z) B2e
        refine bodyPost_ret (v := .tuple #[.agg Z, .iface 100 (.pointer (some ⟨(wx10).heap.size, 0, none⟩))]) (results_row_tmp rfl _ _ g2 Z _ rfl rfl (loadVar_msg _ _ _ _ b3 HZ.size)) rfl ?_
        have hg2 := HG2.out
        have hse := isErr_new wx10 4 0 rfl
        have kr : Keeps (fun i => i = g2) ((wx10).alloc (.cells #[.int .i64 4, .int .i64 0, .iface 64 (.int .i64 4)] 102)) _ := (Keeps.refl (fun i => i = g2) _).setRow (fun _ => rfl) Z
        have lgW := lt_of_block B210
        refine ⟨fun m hm => (by rw [hgn.out] at hm; cases hm), fun _ => ⟨_, by rw [HZC.out], ?_, ((K10).trans kf (fun _ h _ => h)).trans kr (fun i hi hlt => by omega)⟩⟩
        have hs2 := hse.keeps kr (fun i hi => by omega)
        rcases hs2 with ⟨hq, _⟩ | ⟨b, hb, hr⟩
        · cases hq
        · exact .inr ⟨b, Nat.le_trans (K10).size hb, hr⟩
      · have hpm : Shut (parseM bs = some ⟨z0, z1, z2, z3, z4, nm, hh, hs, bl, sg⟩) := shut hP10.out
        obtain ⟨x1, x2⟩ := blk_mid B510 HC10.size
        have hMA : MsgAt wx10 ⟨z0, z1, z2, z3, z4, nm, hh, hs, bl, sg⟩ ah ch := ⟨zl0, by omega, zl1, by omega, zl2, by omega, zl3, by omega, zl4, by omega, ownH_at HO10 h32s, h32s, (ownH_cap HO10).1, (ownH_cap HO10).2⟩
        have hsm : MsgSmall ⟨z0, z1, z2, z3, z4, nm, hh, hs, bl, sg⟩ := ⟨Nat.le_trans nml hl, Nat.le_trans bll hl, Nat.le_trans sgl hl⟩
        have hput := put_any HC10 hMA hsm
        generalize (C.setIfInBounds 39 (.string ⟨bl.toArray⟩)).setIfInBounds 40 (.string ⟨sg.toArray⟩) = C10 at *
        go_wp2_with fail
        refine hput.mono ?_
        rintro e wp hpp
        clear hput x1 x2 c1t
        by_cases hmay : mayP ⟨z0, z1, z2, z3, z4, nm, hh, hs, bl, sg⟩
        · obtain ⟨a11, c11, rfl, o11, k11, -⟩ := hpp.1 hmay
          have K11 := K10.trans k11 (fun _ h _ => h)
          have heq := equal_any wp c11 c rfl rfl (own8_at o11) (hB.keeps K11 (fun _ _ h => h))
          obtain ⟨Z2, hZ2⟩ : ∃ Z2, (encMsg ⟨z0, z1, z2, z3, z4, nm, hh, hs, bl, sg⟩ == bs) = Z2 := ⟨_, rfl⟩
          rw [hZ2] at heq
          have HZ2 := shut hZ2
          have B5p := k11.blk B510 (fun h => h)
          have B2p := k11.blk B210 (fun h => h)
          have HOp : OwnH wp ah ch hs := k11.own HO10 (fun _ _ h => h)
          clear hZ2 hpp o11
          generalize (encMsg ⟨z0, z1, z2, z3, z4, nm, hh, hs, bl, sg⟩).length = LE at *
          go_wp2_with fail
          refine heq.mono ?_
          rintro e wq ⟨rfl, rfl⟩
          clear heq
          cases Z2 with
          | true =>
            have hgm : Shut (getM bs = some ⟨z0, z1, z2, z3, z4, nm, hh, hs, bl, sg⟩) := shut (by unfold getM; rw [hpm.out]; show (if _ then _ else _) = _; rw [if_pos ⟨hmay, by simpa using HZ2.out⟩])
            obtain ⟨y1, y2⟩ := blk_mid B5p HC10.size
            have rE := rowOk_blk B2p HZ.size
            have hrw := HC10.row
            go_wp2_with fail
            have b3 := blk_setRow (cs := C10) B2p
            refine bodyPost_ret (v := .tuple #[.agg C10, .nilIface]) (results_row_tmp rfl _ _ g2 C10 _ rfl rfl (loadVar_msg _ _ _ _ b3 HC10.size)) rfl ?_
            have hg2 := HG2.out
            have kr := (Keeps.refl (fun i => i = g2) wq).setRow (g := g2) (fun _ => rfl) C10
            have hOf : OwnH _ ah ch hs := kr.own HOp (fun g hg h => by rw [ownBlock_eq] at hg; subst h; exact own_ne HOp B2p (by decide) (by rw [ownBlock_eq]; exact hg))
            refine ⟨fun m hm => ?_, fun h => (by rw [hgm.out] at h; cases h)⟩
            rw [hgm.out] at hm
            obtain rfl := Option.some.inj hm
            exact ⟨_, ah, ch, rfl, HC10, ⟨zl0, by omega, zl1, by omega, zl2, by omega, zl3, by omega, zl4, by omega, ownH_at hOf h32s, h32s, (ownH_cap hOf).1, (ownH_cap hOf).2⟩, K11.trans kr (fun i hi hlt => by omega)⟩
          | false =>
            go_upto_region 22 with fail
            have hgn : Shut (getM bs = none) := shut (by unfold getM; rw [hpm.out]; show (if _ then _ else _) = _; rw [if_neg (fun h => by have := HZ2.out; rw [h.2] at this; simp at this)])
            have hnew := new_err 4 0 wq rfl
            have hagZ := HZ.row
            go_wp2_with fail
            rw [← zeroC_lit, ← HZC.out]
            refine hnew.mono ?_
            rintro e wf ⟨rfl, rfl⟩
            have kf := (Keeps.refl Nothing wq).alloc (.cells #[.int .i64 4, .int .i64 0, .iface 64 (.int .i64 4)] 102)
            have B2e := kf.blk B2p (fun h => h)
            have rE := rowOk_blk B2e HZ.size
            go_wp2_with fail
            have b3 := blk_setRow (cs := Z) B2e
            refine bodyPost_ret (v := .tuple #[.agg Z, .iface 100 (.pointer (some ⟨(wq).heap.size, 0, none⟩))]) (results_row_tmp rfl _ _ g2 Z _ rfl rfl (loadVar_msg _ _ _ _ b3 HZ.size)) rfl ?_
            have hg2 := HG2.out
            have hse := isErr_new wq 4 0 rfl
            have kr : Keeps (fun i => i = g2) ((wq).alloc (.cells #[.int .i64 4, .int .i64 0, .iface 64 (.int .i64 4)] 102)) _ := (Keeps.refl (fun i => i = g2) _).setRow (fun _ => rfl) Z
            have lgW := lt_of_block B2p
            refine ⟨fun m hm => (by rw [hgn.out] at hm; cases hm), fun _ => ⟨_, by rw [HZC.out], ?_, ((K11).trans kf (fun _ h _ => h)).trans kr (fun i hi hlt => by omega)⟩⟩
            have hs2 := hse.keeps kr (fun i hi => by omega)
            rcases hs2 with ⟨hq, _⟩ | ⟨b, hb, hr⟩
            · cases hq
            · exact .inr ⟨b, Nat.le_trans (K11).size hb, hr⟩
        · obtain ⟨ev2, rfl, hE2, k11⟩ := hpp.2 hmay
          obtain ⟨b2, rfl⟩ := isErr_yes hE2 (by decide)
          have K11 := K10.trans k11 (fun _ h _ => h)
          have B2p := k11.blk B210 (fun h => h)
          go_upto_region 22 with fail
          have hgn : Shut (getM bs = none) := shut (by unfold getM; rw [hpm.out]; show (if _ then _ else _) = _; rw [if_neg (fun h => hmay h.1)])
          have hnew := new_err 4 0 wp rfl
          have hagZ := HZ.row
          go_wp2_with fail
          rw [← zeroC_lit, ← HZC.out]
          refine hnew.mono ?_
          rintro e wf ⟨rfl, rfl⟩
          have kf := (Keeps.refl Nothing wp).alloc (.cells #[.int .i64 4, .int .i64 0, .iface 64 (.int .i64 4)] 102)
          have B2e := kf.blk B2p (fun h => h)
          have rE := rowOk_blk B2e HZ.size
          go_wp2_with fail
          have b3 := blk_setRow (cs := Z) B2e
          refine bodyPost_ret (v := .tuple #[.agg Z, .iface 100 (.pointer (some ⟨(wp).heap.size, 0, none⟩))]) (results_row_tmp rfl _ _ g2 Z _ rfl rfl (loadVar_msg _ _ _ _ b3 HZ.size)) rfl ?_
          have hg2 := HG2.out
          have hse := isErr_new wp 4 0 rfl
          have kr : Keeps (fun i => i = g2) ((wp).alloc (.cells #[.int .i64 4, .int .i64 0, .iface 64 (.int .i64 4)] 102)) _ := (Keeps.refl (fun i => i = g2) _).setRow (fun _ => rfl) Z
          have lgW := lt_of_block B2p
          refine ⟨fun m hm => (by rw [hgn.out] at hm; cases hm), fun _ => ⟨_, by rw [HZC.out], ?_, ((K11).trans kf (fun _ h _ => h)).trans kr (fun i hi hlt => by omega)⟩⟩
          have hs2 := hse.keeps kr (fun i hi => by omega)
          rcases hs2 with ⟨hq, _⟩ | ⟨b, hb, hr⟩
          · cases hq
          · exact .inr ⟨b, Nat.le_trans (K11).size hb, hr⟩
