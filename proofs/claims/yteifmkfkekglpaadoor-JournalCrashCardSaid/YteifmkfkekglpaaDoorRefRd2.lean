/- usufructref2.Reader: fail, Uint, Int, Small, Bool, Text, End. -/
import Derived.Test.YteifmkfkekglpaaDoorRefRd
namespace Go.Proofs.YteifmkfkekglpaaDoor
open Go.RowKit

theorem RefR.setK {w : World} {x : Nat} {bs : List UInt8} {k c a : Int} (h : RefR w x bs k c a) (v : Int) : RefR (w.setCell ⟨x, 1, none⟩ (.int .i64 v)) x bs v c a := blk_set h 1 _
theorem RefR.setC {w : World} {x : Nat} {bs : List UInt8} {k c a : Int} (h : RefR w x bs k c a) (v : Int) : RefR (w.setCell ⟨x, 2, none⟩ (.int .i64 v)) x bs k v a := blk_set h 2 _
theorem RefR.setA {w : World} {x : Nat} {bs : List UInt8} {k c a : Int} (h : RefR w x bs k c a) (v : Int) : RefR (w.setCell ⟨x, 3, none⟩ (.int .i64 v)) x bs k c v := blk_set h 3 _
theorem RefR.c0 {w : World} {x : Nat} {bs : List UInt8} {k c a : Int} (h : RefR w x bs k c a) : w.cell? ⟨x, 0, none⟩ = some (.string ⟨bs.toArray⟩) := blk_cell h 0 rfl
theorem RefR.c1 {w : World} {x : Nat} {bs : List UInt8} {k c a : Int} (h : RefR w x bs k c a) : w.cell? ⟨x, 1, none⟩ = some (.int .i64 k) := blk_cell h 1 rfl
theorem RefR.c2 {w : World} {x : Nat} {bs : List UInt8} {k c a : Int} (h : RefR w x bs k c a) : w.cell? ⟨x, 2, none⟩ = some (.int .i64 c) := blk_cell h 2 rfl
theorem RefR.c3 {w : World} {x : Nat} {bs : List UInt8} {k c a : Int} (h : RefR w x bs k c a) : w.cell? ⟨x, 3, none⟩ = some (.int .i64 a) := blk_cell h 3 rfl

theorem ref_fail {w : World} {x : Nat} {bs : List UInt8} {k a : Int} (h : RefR w x bs k 0 a) (c p : Int) :
    Calls Tryd.prog 55 #[.pointer (some ⟨x, 0, none⟩), .int .i64 c, .int .i64 p] w (RefPost w x bs (.tuple #[]) k c p) := by
  have g2 := h.c2
  have f2 := blk_free h 2
  have f3 := blk_free h 3
  have g3 := h.c3
  go_enter Tryd.func55, Tryd.ntmps55
  go_wp2_with fail
  refine bodyPost_end (results_none rfl _ _ _) rfl ?_
  exact ⟨rfl, (h.setC c).setA p, (Keeps.setCell (S := fun i => i = x) (Keeps.refl _ _) (fun _ => rfl) _).setCell (fun _ => rfl) _⟩

theorem RefPost.drewN {w : World} {x : Nat} {bs : List UInt8} {v : Value} {k c a : Int} {e : Ending} {w' : World} {n : Nat} (h : RefPost (w.drewN n) x bs v k c a e w') : RefPost w x bs v k c a e w' :=
  ⟨h.1, h.2.1, (((Keeps.refl _ w).drewN n).trans h.2.2 (fun _ h _ => h))⟩

theorem RefR.drewN {w : World} {x : Nat} {bs : List UInt8} {k c a : Int} (h : RefR w x bs k c a) (n : Nat) : RefR (w.drewN n) x bs k c a := h

theorem RefPost.stay {w : World} {x : Nat} {bs : List UInt8} {v : Value} {k c a : Int} (h : RefR w x bs k c a) (n : Nat) {e : Ending} (he : e = .returned v) : RefPost w x bs v k c a e (w.drewN n) := ⟨he, h, (Keeps.refl _ w).drewN n⟩

set_option maxRecDepth 100000 in
set_option maxHeartbeats 1000000 in
theorem ref_uint_of {w : World} {x : Nat} {bs : List UInt8} {k : Nat} (h : RefR w x bs k 0 0) (hl : bs.length ≤ 1000000) (hk : k ≤ bs.length) {c v n : Nat} (hd : decU (bs.drop k) = (c, v, n)) :
    Calls Tryd.prog 54 #[.pointer (some ⟨x, 0, none⟩)] w (RefPost w x bs (.int .u64 v) (k + n : Nat) c (posOf c k)) := by
  have g2 := h.c2
  have g0 := h.c0
  have g1 := h.c1
  have f1 := blk_free h 1
  have hok := decU_ok _ hd
  have HL := fun wx : World => ref_look hl hk wx
  rw [lookTup_eq hd] at HL
  have HLK := Lib.hid HL
  clear HL hd
  go_enter Tryd.func54, Tryd.ntmps54
  go_wp2_with fail
  go_quiet (go_at_call 62 <;> refine Calls.quiet_of_same (HLK.out _))
  by_cases hc : c = 0
  · subst hc
    clear hok
    go_wp2_with fail
    go_ret
    exact ⟨rfl, (h.drewN _).setK _, Keeps.setCell (S := fun i => i = x) ((Keeps.refl _ w).drewN _) (fun _ => rfl) _⟩
  · have hc' : ¬ (c : Int) = 0 := by omega
    obtain ⟨rfl, rfl, _⟩ := hok.2 hc
    go_wp2_with fail
    refine (ref_fail (h.drewN _) c k).mono ?_
    rintro e w' ⟨rfl, r, k1⟩
    go_wp2_with fail
    go_ret
    refine ⟨rfl, ?_, ((Keeps.refl _ w).drewN _).trans k1 (fun _ h _ => h)⟩
    rw [show posOf c k = k from if_neg hc]
    exact r

theorem ref_uint {w : World} {x : Nat} {bs : List UInt8} {k : Nat} (h : RefR w x bs k 0 0) (hl : bs.length ≤ 1000000) (hk : k ≤ bs.length) :
    Calls Tryd.prog 54 #[.pointer (some ⟨x, 0, none⟩)] w (RefPost w x bs (.int .u64 (decU (bs.drop k)).2.1) (k + (decU (bs.drop k)).2.2 : Nat) (decU (bs.drop k)).1 (posOf (decU (bs.drop k)).1 k)) :=
  ref_uint_of h hl hk rfl

set_option maxHeartbeats 400000 in
theorem ref_int {w : World} {x : Nat} {bs : List UInt8} {k : Nat} (h : RefR w x bs k 0 0) (hl : bs.length ≤ 1000000) (hk : k ≤ bs.length) :
    Calls Tryd.prog 39 #[.pointer (some ⟨x, 0, none⟩)] w (RefPost w x bs (.int .i64 (decI (bs.drop k)).2.1) (k + (decI (bs.drop k)).2.2 : Nat) (decI (bs.drop k)).1 (posOf (decI (bs.drop k)).1 k)) := by
  have hU := ref_uint h hl hk
  have hv := decU_bd (bs.drop k)
  unfold decI
  obtain ⟨⟨c, v, n⟩, hD⟩ : ∃ x, decU (bs.drop k) = x := ⟨_, rfl⟩
  rw [hD] at hU hv ⊢
  clear hD
  simp only at hv
  have ha := and1 v hv
  by_cases hpar : v % 2 = 1
  · simp only [hpar, if_true]
    go_enter Tryd.func39, Tryd.ntmps39
    go_wp2_with fail
    refine hU.mono ?_
    rintro e w' ⟨rfl, r, k1⟩
    go_wp2_with fail
    go_ret
    exact ⟨congrArg (fun z => Ending.returned (.int .i64 z)) (by omega), r, k1⟩
  · simp only [hpar, if_false]
    go_enter Tryd.func39, Tryd.ntmps39
    go_wp2_with fail
    refine hU.mono ?_
    rintro e w' ⟨rfl, r, k1⟩
    go_wp2_with fail
    go_ret
    exact ⟨rfl, r, k1⟩

end Go.Proofs.YteifmkfkekglpaaDoor
