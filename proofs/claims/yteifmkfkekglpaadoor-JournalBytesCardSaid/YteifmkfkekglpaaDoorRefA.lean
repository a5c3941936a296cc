/- usufructref2.Reader: look, fail, Uint, Int. usufructref2.Reader: fail, Uint, Int, Small, Bool, Text, End. usufructref2.Reader: Bool, Text, End. usufructref2.Reader: Hash. -/
import Derived.Test.YteifmkfkekglpaaDoorCanon2
import Derived.Lib.Strings
import Derived.Laws.DeepStrings4
import Derived.StillTailTactics
import Derived.Laws.Rows
namespace Go.Proofs.YteifmkfkekglpaaDoor
open Go.RowKit

def strOf (bs : List UInt8) : ByteArray := ⟨bs.toArray⟩

/-- The document's reader: the block x holds the bytes, where it stands, the error and its place. -/
def RefR (w : World) (x : Nat) (bs : List UInt8) (k c a : Int) : Prop := Blk w x #[.string ⟨bs.toArray⟩, .int .i64 k, .int .i64 c, .int .i64 a] 77

/-- What a reading of the document's reader leaves. -/
def RefPost (w : World) (x : Nat) (bs : List UInt8) (val : Value) (k c a : Int) (e : Ending) (w' : World) : Prop :=
  e = .returned val ∧ RefR w' x bs k c a ∧ Keeps (fun i => i = x) w w'

def lookTup (l : List UInt8) (k : Nat) : Value := .tuple #[.int .u64 (decU l).2.1, .int .i64 (if (decU l).1 = 0 then (k + (decU l).2.2 : Nat) else (0 : Nat)), .int .i64 (decU l).1]
theorem lookTup_eq {l : List UInt8} {k c v n : Nat} (h : decU l = (c, v, n)) : lookTup l k = .tuple #[.int .u64 v, .int .i64 (if c = 0 then (k + n : Nat) else (0 : Nat)), .int .i64 c] := by
  unfold lookTup; rw [h]

theorem ret3_eq {a a' b b' : Int} (h1 : a = a') (h2 : b = b') : Ending.returned (.tuple #[.int .u64 a, .int .i64 b, .int .i64 0]) = .returned (.tuple #[.int .u64 a', .int .i64 b', .int .i64 ((0 : Nat) : Int)]) := by
  subst h1; subst h2; rfl

set_option maxRecDepth 100000 in
set_option maxHeartbeats 1000000 in
theorem ref_look {bs : List UInt8} {k : Nat} (hl : bs.length ≤ 1000000) (hk : k ≤ bs.length) (w : World) :
    Calls Tryd.prog 62 #[.string ⟨bs.toArray⟩, .int .i64 k] w fun e w' => e = .returned (lookTup (bs.drop k) k) ∧ w' = w := by
  go_enter Tryd.func62, Tryd.ntmps62
  go_wp2_with fail
  go_loop [7, 8] (fun s t => ∃ (i v : Nat), s = .int .u64 v ∧ t = .int .i64 i ∧ i ≤ 9 ∧ v < 128 ^ i ∧ k + i ≤ bs.length ∧ decGo i v (bs.drop (k + i)) = decU (bs.drop k))
    (fun _ t => 10 - (intOf t).toNat)
  case atStart => exact ⟨0, 0, rfl, rfl, by omega, by decide, hk, rfl⟩
  case round =>
    obtain ⟨i, v, rfl, rfl, hi, hv, hki, hD⟩ := hrel
    have HD := Lib.hid hD
    clear hD
    by_cases hlt : k + i < bs.length
    · obtain ⟨c, hc⟩ : ∃ c, bs[k + i]? = some c := ⟨_, List.getElem?_eq_getElem hlt⟩
      have hsz : k + i < (⟨bs.toArray⟩ : ByteArray).size := by show k + i < bs.toArray.size; simpa using hlt
      have hcm : ((⟨bs.toArray⟩ : ByteArray)[k + i]'hsz).toNat = c.toNat := by
        have : (⟨bs.toArray⟩ : ByteArray)[k + i]'hsz = c := by
          have h2 := (List.getElem?_eq_some_iff.1 hc).2
          rw [← h2]; rfl
        rw [this]
      have hc256 : c.toNat < 256 := c.toNat_lt
      have HC := Lib.hid hc
      clear hc
      obtain ⟨m, hm⟩ : ∃ m, c.toNat = m := ⟨_, rfl⟩
      rw [hm] at hcm hc256
      have HM := Lib.hid hm
      clear hm
      go_wp2_with fail
      all_goals first
        | (have hcond : (i = 9 ∧ 1 < m) ∨ (0 < i ∧ m = 0) := by
             first
               | exact .inl ⟨by omega, by omega⟩
               | exact .inr ⟨by omega, beq0 (by assumption)⟩
               | exact .inr ⟨by omega, by omega⟩
           have E := lookTup_eq (k := k) (step_bad HD.out HC.out HM.out hcond)
           go_ret3
           exact ⟨by rw [E]; rfl, rfl⟩)
        | skip
      all_goals
        have hcond : ¬ ((i = 9 ∧ 1 < m) ∨ (0 < i ∧ m = 0)) := by omega
        have hnum := step_num hv hi hc256 (fun h9 => by omega)
      all_goals first
        | (have h9 : i = 9 := by omega
           subst h9
           have E := lookTup_eq (k := k) (step_last HD.out HC.out HM.out hcond (by omega))
           have hnum9 : bits .or .u64 (v : Int) (IntKind.u64.wrap (IntKind.u64.wrap (bits .and .u8 (m : Int) 127) * 9223372036854775808)) = ((v + m % 128 * 128 ^ 9 : Nat) : Int) := hnum
           go_ret3
           exact ⟨by rw [E]; exact ret3_eq hnum9 (by omega), rfl⟩)
        | (have hm128 : m < 128 := by omega
           have E := lookTup_eq (k := k) (step_last HD.out HC.out HM.out hcond hm128)
           go_ret3
           exact ⟨by rw [E]; exact ret3_eq hnum (by rw [if_pos rfl]; omega), rfl⟩)
        | (have hm0 : m = 0 := by omega
           subst hm0
           have E := lookTup_eq (k := k) (step_last HD.out HC.out HM.out hcond (by omega))
           go_ret3
           exact ⟨by rw [E]; exact ret3_eq hnum (by rw [if_pos rfl]; omega), rfl⟩)
        | (have E := step_more HD.out HC.out HM.out hcond (by omega)
           go_round
           case rel => exact ⟨i + 1, v + m % 128 * 128 ^ i, by rw [hnum], by go_num, by omega, step_lt hv, by omega, E⟩
           case measure => simp [intOf]; omega)
    · have E := step_short HD.out hlt
      have E2 := Lib.hid (lookTup_eq (k := k) E)
      clear E
      go_wp2_with fail
      go_ret3
      exact ⟨by rw [E2.out]; rfl, rfl⟩

end Go.Proofs.YteifmkfkekglpaaDoor

namespace Go.Proofs.YteifmkfkekglpaaDoor
open Go.RowKit

theorem RefR.setK {w : World} {x : Nat} {bs : List UInt8} {k c a : Int} (h : RefR w x bs k c a) (v : Int) : RefR (w.setCell ⟨x, 1, none⟩ (.int .i64 v)) x bs v c a := blk_set h 1 _
theorem RefR.setC {w : World} {x : Nat} {bs : List UInt8} {k c a : Int} (h : RefR w x bs k c a) (v : Int) : RefR (w.setCell ⟨x, 2, none⟩ (.int .i64 v)) x bs k v a := blk_set h 2 _
theorem RefR.setA {w : World} {x : Nat} {bs : List UInt8} {k c a : Int} (h : RefR w x bs k c a) (v : Int) : RefR (w.setCell ⟨x, 3, none⟩ (.int .i64 v)) x bs k c v := blk_set h 3 _
theorem RefR.c0 {w : World} {x : Nat} {bs : List UInt8} {k c a : Int} (h : RefR w x bs k c a) : w.cell? ⟨x, 0, none⟩ = some (.string ⟨bs.toArray⟩) := blk_cell h 0 rfl
theorem RefR.c1 {w : World} {x : Nat} {bs : List UInt8} {k c a : Int} (h : RefR w x bs k c a) : w.cell? ⟨x, 1, none⟩ = some (.int .i64 k) := blk_cell h 1 rfl
theorem RefR.c2 {w : World} {x : Nat} {bs : List UInt8} {k c a : Int} (h : RefR w x bs k c a) : w.cell? ⟨x, 2, none⟩ = some (.int .i64 c) := blk_cell h 2 rfl
theorem RefR.c3 {w : World} {x : Nat} {bs : List UInt8} {k c a : Int} (h : RefR w x bs k c a) : w.cell? ⟨x, 3, none⟩ = some (.int .i64 a) := blk_cell h 3 rfl

theorem ref_fail {w : World} {x : Nat} {bs : List UInt8} {k a : Int} (h : RefR w x bs k 0 a) (c p : Int) :
    Calls Tryd.prog 55 #[.pointer (some ⟨x, 0, none⟩), .int .i64 c, .int .i64 p] w (RefPost w x bs (.tuple #[]) k c p) := by
  have g2 := h.c2
  have f2 := blk_free h 2
  have f3 := blk_free h 3
  have g3 := h.c3
  go_enter Tryd.func55, Tryd.ntmps55
  go_wp2_with fail
  refine bodyPost_end (results_none rfl _ _ _) rfl ?_
  exact ⟨rfl, (h.setC c).setA p, (Keeps.setCell (S := fun i => i = x) (Keeps.refl _ _) (fun _ => rfl) _).setCell (fun _ => rfl) _⟩

theorem RefPost.drewN {w : World} {x : Nat} {bs : List UInt8} {v : Value} {k c a : Int} {e : Ending} {w' : World} {n : Nat} (h : RefPost (w.drewN n) x bs v k c a e w') : RefPost w x bs v k c a e w' :=
  ⟨h.1, h.2.1, (((Keeps.refl _ w).drewN n).trans h.2.2 (fun _ h _ => h))⟩

theorem RefR.drewN {w : World} {x : Nat} {bs : List UInt8} {k c a : Int} (h : RefR w x bs k c a) (n : Nat) : RefR (w.drewN n) x bs k c a := h

theorem RefPost.stay {w : World} {x : Nat} {bs : List UInt8} {v : Value} {k c a : Int} (h : RefR w x bs k c a) (n : Nat) {e : Ending} (he : e = .returned v) : RefPost w x bs v k c a e (w.drewN n) := ⟨he, h, (Keeps.refl _ w).drewN n⟩

set_option maxRecDepth 100000 in
set_option maxHeartbeats 1000000 in
theorem ref_uint_of {w : World} {x : Nat} {bs : List UInt8} {k : Nat} (h : RefR w x bs k 0 0) (hl : bs.length ≤ 1000000) (hk : k ≤ bs.length) {c v n : Nat} (hd : decU (bs.drop k) = (c, v, n)) :
    Calls Tryd.prog 54 #[.pointer (some ⟨x, 0, none⟩)] w (RefPost w x bs (.int .u64 v) (k + n : Nat) c (posOf c k)) := by
  have g2 := h.c2
  have g0 := h.c0
  have g1 := h.c1
  have f1 := blk_free h 1
  have hok := decU_ok _ hd
  have HL := fun wx : World => ref_look hl hk wx
  rw [lookTup_eq hd] at HL
  have HLK := Lib.hid HL
  clear HL hd
  go_enter Tryd.func54, Tryd.ntmps54
  go_wp2_with fail
  go_quiet (go_at_call 62 <;> refine Calls.quiet_of_same (HLK.out _))
  by_cases hc : c = 0
  · subst hc
    clear hok
    go_wp2_with fail
    go_ret
    exact ⟨rfl, (h.drewN _).setK _, Keeps.setCell (S := fun i => i = x) ((Keeps.refl _ w).drewN _) (fun _ => rfl) _⟩
  · have hc' : ¬ (c : Int) = 0 := by omega
    obtain ⟨rfl, rfl, _⟩ := hok.2 hc
    go_wp2_with fail
    refine (ref_fail (h.drewN _) c k).mono ?_
    rintro e w' ⟨rfl, r, k1⟩
    go_wp2_with fail
    go_ret
    refine ⟨rfl, ?_, ((Keeps.refl _ w).drewN _).trans k1 (fun _ h _ => h)⟩
    rw [show posOf c k = k from if_neg hc]
    exact r

theorem ref_uint {w : World} {x : Nat} {bs : List UInt8} {k : Nat} (h : RefR w x bs k 0 0) (hl : bs.length ≤ 1000000) (hk : k ≤ bs.length) :
    Calls Tryd.prog 54 #[.pointer (some ⟨x, 0, none⟩)] w (RefPost w x bs (.int .u64 (decU (bs.drop k)).2.1) (k + (decU (bs.drop k)).2.2 : Nat) (decU (bs.drop k)).1 (posOf (decU (bs.drop k)).1 k)) :=
  ref_uint_of h hl hk rfl

set_option maxHeartbeats 400000 in
theorem ref_int {w : World} {x : Nat} {bs : List UInt8} {k : Nat} (h : RefR w x bs k 0 0) (hl : bs.length ≤ 1000000) (hk : k ≤ bs.length) :
    Calls Tryd.prog 39 #[.pointer (some ⟨x, 0, none⟩)] w (RefPost w x bs (.int .i64 (decI (bs.drop k)).2.1) (k + (decI (bs.drop k)).2.2 : Nat) (decI (bs.drop k)).1 (posOf (decI (bs.drop k)).1 k)) := by
  have hU := ref_uint h hl hk
  have hv := decU_bd (bs.drop k)
  unfold decI
  obtain ⟨⟨c, v, n⟩, hD⟩ : ∃ x, decU (bs.drop k) = x := ⟨_, rfl⟩
  rw [hD] at hU hv ⊢
  clear hD
  simp only at hv
  have ha := and1 v hv
  by_cases hpar : v % 2 = 1
  · simp only [hpar, if_true]
    go_enter Tryd.func39, Tryd.ntmps39
    go_wp2_with fail
    refine hU.mono ?_
    rintro e w' ⟨rfl, r, k1⟩
    go_wp2_with fail
    go_ret
    exact ⟨congrArg (fun z => Ending.returned (.int .i64 z)) (by omega), r, k1⟩
  · simp only [hpar, if_false]
    go_enter Tryd.func39, Tryd.ntmps39
    go_wp2_with fail
    refine hU.mono ?_
    rintro e w' ⟨rfl, r, k1⟩
    go_wp2_with fail
    go_ret
    exact ⟨rfl, r, k1⟩

end Go.Proofs.YteifmkfkekglpaaDoor

namespace Go.Proofs.YteifmkfkekglpaaDoor
open Go.RowKit

theorem rstr_at {bs : List UInt8} {k : Nat} (h : k < bs.length) : ∃ (c : UInt8) (hs : k < (⟨bs.toArray⟩ : ByteArray).size), bs[k]? = some c ∧ ((⟨bs.toArray⟩ : ByteArray)[k]'hs).toNat = c.toNat := by
  refine ⟨bs[k], by show k < bs.toArray.size; simpa using h, List.getElem?_eq_getElem h, rfl⟩

set_option maxRecDepth 100000 in
set_option maxHeartbeats 1000000 in
theorem ref_end {w : World} {x : Nat} {bs : List UInt8} {k : Nat} (h : RefR w x bs k 0 0) :
    Calls Tryd.prog 41 #[.pointer (some ⟨x, 0, none⟩)] w (RefPost w x bs (.tuple #[]) k (endOf bs k) (posOf (endOf bs k) k)) := by
  have g2 := h.c2
  have g0 := h.c0
  have g1 := h.c1
  by_cases hlt : k < bs.length
  · rw [show endOf bs k = 4 from if_pos hlt]
    go_enter Tryd.func41, Tryd.ntmps41
    go_wp2_with fail
    go_quiet (fail)
    go_wp2_with fail
    refine (ref_fail (h.drewN _) 4 k).mono ?_
    rintro e w' ⟨rfl, r, k1⟩
    go_wp2_with fail
    refine bodyPost_end (results_none rfl _ _ _) rfl ?_
    exact ⟨rfl, r, ((Keeps.refl _ w).drewN _).trans k1 (fun _ h _ => h)⟩
  · rw [show endOf bs k = 0 from if_neg hlt]
    go_enter Tryd.func41, Tryd.ntmps41
    go_wp2_with fail
    go_quiet (fail)
    go_wp2_with fail
    refine bodyPost_end (results_none rfl _ _ _) rfl ?_
    exact ⟨rfl, h, (Keeps.refl _ _).drewN _⟩

set_option maxRecDepth 100000 in
set_option maxHeartbeats 1000000 in
theorem ref_text {w : World} {x : Nat} {bs : List UInt8} {k : Nat} (h : RefR w x bs k 0 0) (hl : bs.length ≤ 1000000) (hk : k ≤ bs.length) (most : Int) (hm : most < 9223372036854775808) :
    Calls Tryd.prog 40 #[.pointer (some ⟨x, 0, none⟩), .int .i64 most] w (RefPost w x bs (.string ⟨(decText most (bs.drop k)).2.1.toArray⟩) (k + (decText most (bs.drop k)).2.2 : Nat) (decText most (bs.drop k)).1 (posOf (decText most (bs.drop k)).1 k)) := by
  have hU := ref_uint h hl hk
  have g1 := h.c1
  unfold decText
  obtain ⟨⟨c, v, n⟩, hD⟩ : ∃ x, decU (bs.drop k) = x := ⟨_, rfl⟩
  have hok := decU_ok _ hD
  rw [hD] at hU ⊢
  clear hD
  simp only [List.length_drop, List.drop_drop]
  by_cases hc : c = 0
  · subst hc
    have hv := (hok.1 rfl).1
    have hn := (hok.1 rfl).2.1
    rw [List.length_drop] at hn
    clear hok
    by_cases hb : most < 0 ∨ most < (v : Int)
    · simp only [ne_eq, not_true_eq_false, if_false, hb, if_true]
      have hcase : most < 0 ∨ (¬ most < 0 ∧ most < (v : Int)) := by omega
      clear hb
      rcases hcase with hneg | ⟨hneg, hgt⟩
      all_goals
        go_enter Tryd.func40, Tryd.ntmps40
        go_wp2_with fail
        refine hU.mono ?_
        rintro e w' ⟨rfl, r, k1⟩
        have q1 : w'.cell? ⟨x, 1, none⟩ = some (.int .i64 ((k + n : Nat) : Int)) := r.c1
        have q2 : w'.cell? ⟨x, 2, none⟩ = some (.int .i64 0) := r.c2
        have f1 := blk_free r 1
        go_wp2_with fail
        refine (ref_fail (r.setK k) 5 k).mono ?_
        rintro e w2 ⟨rfl, r2, k2⟩
        go_wp2_with fail
        go_ret
        exact ⟨rfl, r2, (k1.setCell (fun _ => rfl) _).trans k2 (fun _ h _ => h)⟩
    · simp only [ne_eq, not_true_eq_false, if_false, hb]
      have hneg : ¬ most < 0 := fun h => hb (.inl h)
      have hvm : ¬ most < (v : Int) := fun h => hb (.inr h)
      clear hb
      by_cases hs : bs.length - (k + n) < v
      · simp only [hs, if_true]
        go_enter Tryd.func40, Tryd.ntmps40
        go_wp2_with fail
        refine hU.mono ?_
        rintro e w' ⟨rfl, r, k1⟩
        have q0 := r.c0
        have q1 : w'.cell? ⟨x, 1, none⟩ = some (.int .i64 ((k + n : Nat) : Int)) := r.c1
        have q2 : w'.cell? ⟨x, 2, none⟩ = some (.int .i64 0) := r.c2
        have f1 := blk_free r 1
        have hw1 : ((bs.length : Int) - ((k : Int) + n)) < v := by omega
        go_wp2_with fail
        go_quiet (fail)
        go_wp2_with fail
        refine (ref_fail ((r.drewN _).setK k) 3 k).mono ?_
        rintro e w2 ⟨rfl, r2, k2⟩
        go_wp2_with fail
        go_ret
        exact ⟨rfl, r2, (Keeps.setCell (S := fun i => i = x) (k1.drewN _) (fun _ => rfl) _).trans k2 (fun _ h _ => h)⟩
      · simp only [hs, if_false]
        rw [← extract_eq]
        go_enter Tryd.func40, Tryd.ntmps40
        go_wp2_with fail
        refine hU.mono ?_
        rintro e w' ⟨rfl, r, k1⟩
        have q0 := r.c0
        have q1 : w'.cell? ⟨x, 1, none⟩ = some (.int .i64 ((k + n : Nat) : Int)) := r.c1
        have q2 : w'.cell? ⟨x, 2, none⟩ = some (.int .i64 0) := r.c2
        have f1 := blk_free r 1
        have hw1 : ¬ ((bs.length : Int) - ((k : Int) + n)) < v := by omega
        go_wp2_with fail
        go_quiet (fail)
        go_wp2_with fail
        have hsl : ∀ w0 : World, (Instr.slice 9 (.string ⟨bs.toArray⟩) (some (.int .i64 ((k : Int) + n))) (some (.int .i64 ((k : Int) + n + v))) none).run Tryd.prog w0 = .ok (.string (ByteArray.extract ⟨bs.toArray⟩ (k + n) (k + n + v))) w0 := fun w0 => by
          have hsz : (⟨bs.toArray⟩ : ByteArray).size = bs.length := by show bs.toArray.size = _; simp
          rw [run_slice_string_if _ _ _ _ _ _ _ Tryd.underlying9, if_pos (by rw [hsz]; omega), if_pos (by omega)]
          rw [show ((k : Int) + n).toNat = k + n by omega, show ((k : Int) + n + v).toNat = k + n + v by omega]
        go_quiet (fail)
        go_wp2_with fail
        go_ret
        refine ⟨rfl, ?_, Keeps.setCell (S := fun i => i = x) (k1.drewN _) (fun _ => rfl) _⟩
        rw [show ((k + (n + v) : Nat) : Int) = (k : Int) + n + v by omega]
        exact (RefR.drewN r _).setK _
  · obtain ⟨rfl, rfl, _⟩ := hok.2 hc
    clear hok
    have hc' : ¬ (c : Int) = 0 := by omega
    simp only [ne_eq, hc, not_false_eq_true, if_true]
    go_enter Tryd.func40, Tryd.ntmps40
    go_wp2_with fail
    refine hU.mono ?_
    rintro e w' ⟨rfl, r, k1⟩
    have q2 : w'.cell? ⟨x, 2, none⟩ = some (.int .i64 c) := r.c2
    go_wp2_with fail
    go_ret
    exact ⟨rfl, r, k1⟩

end Go.Proofs.YteifmkfkekglpaaDoor

namespace Go.Proofs.YteifmkfkekglpaaDoor
open Go.RowKit

/-- The row while it is filled. -/
def rowAt (H : List UInt8) (i : Nat) : Array Value := ((H.take i ++ zeros32.drop i).map byteV).toArray
theorem rowAt_zero (H : List UInt8) : rowAt H 0 = (zeros32.map byteV).toArray := by unfold rowAt; simp
theorem rowAt_full {H : List UInt8} (hH : H.length = 32) : rowAt H 32 = (H.map byteV).toArray := by
  unfold rowAt
  rw [List.take_of_length_le (by omega), show zeros32.drop 32 = [] from rfl, List.append_nil]
theorem rowAt_size {H : List UInt8} (hH : H.length = 32) {i : Nat} (hi : i ≤ 32) : (rowAt H i).size = 32 := by
  unfold rowAt; simp [zeros32, hH]; omega
theorem rowAt_set {H : List UInt8} (hH : H.length = 32) {i : Nat} {c : UInt8} (hc : H[i]? = some c) : (rowAt H i).setIfInBounds i (byteV c) = rowAt H (i + 1) := by
  have hi : i < 32 := by have := (List.getElem?_eq_some_iff.1 hc).1; omega
  unfold rowAt
  rw [List.setIfInBounds_toArray, List.take_add_one, hc]
  congr 1
  have hz : zeros32.drop i = 0 :: zeros32.drop (i + 1) := by
    rw [List.drop_eq_getElem_cons (by show i < 32; omega)]
    congr 1
    show (List.replicate 32 (0 : UInt8))[i] = 0
    exact List.getElem_replicate ..
  rw [hz, List.map_append, List.set_append_right _ _ (by simp; omega)]
  simp [hH, Nat.min_eq_left (Nat.le_of_lt hi)]

theorem text_at (s : List UInt8) {t : Nat} {c : UInt8} (hc : s[t]? = some c) (k : IntKind) (W : World) : (Instr.index 9 (.string ⟨s.toArray⟩) (.int k (t : Int))).run Tryd.prog W = .ok (.int .u8 (c.toNat : Int)) W := by
  obtain ⟨h1, h2⟩ := List.getElem?_eq_some_iff.1 hc
  rw [run_index_string W _ _ _ _ Tryd.underlying9, dif_pos ⟨by omega, by show (t : Int) < s.length; omega⟩]
  subst h2
  rfl

attribute [local go_sem ↓] exec_load_hash exec_store_hash

end Go.Proofs.YteifmkfkekglpaaDoor
