/- usufructref2.Reader: Bool, Text, End. -/
import Derived.Test.YteifmkfkekglpaaDoorRefRd2
import Derived.Lib.Strings
import Derived.Laws.DeepStrings4
namespace Go.Proofs.YteifmkfkekglpaaDoor
open Go.RowKit

theorem str_at {bs : List UInt8} {k : Nat} (h : k < bs.length) : ∃ (c : UInt8) (hs : k < (⟨bs.toArray⟩ : ByteArray).size), bs[k]? = some c ∧ ((⟨bs.toArray⟩ : ByteArray)[k]'hs).toNat = c.toNat := by
  refine ⟨bs[k], by show k < bs.toArray.size; simpa using h, List.getElem?_eq_getElem h, rfl⟩

set_option maxRecDepth 100000 in
set_option maxHeartbeats 1000000 in
theorem ref_end {w : World} {x : Nat} {bs : List UInt8} {k : Nat} (h : RefR w x bs k 0 0) :
    Calls Tryd.prog 41 #[.pointer (some ⟨x, 0, none⟩)] w (RefPost w x bs (.tuple #[]) k (endOf bs k) (posOf (endOf bs k) k)) := by
  have g2 := h.c2
  have g0 := h.c0
  have g1 := h.c1
  by_cases hlt : k < bs.length
  · rw [show endOf bs k = 4 from if_pos hlt]
    go_enter Tryd.func41, Tryd.ntmps41
    go_wp2_with fail
    go_quiet (fail)
    go_wp2_with fail
    refine (ref_fail (h.drewN _) 4 k).mono ?_
    rintro e w' ⟨rfl, r, k1⟩
    go_wp2_with fail
    refine bodyPost_end (results_none rfl _ _ _) rfl ?_
    exact ⟨rfl, r, ((Keeps.refl _ w).drewN _).trans k1 (fun _ h _ => h)⟩
  · rw [show endOf bs k = 0 from if_neg hlt]
    go_enter Tryd.func41, Tryd.ntmps41
    go_wp2_with fail
    go_quiet (fail)
    go_wp2_with fail
    refine bodyPost_end (results_none rfl _ _ _) rfl ?_
    exact ⟨rfl, h, (Keeps.refl _ _).drewN _⟩

set_option maxRecDepth 100000 in
set_option maxHeartbeats 1000000 in
theorem ref_text {w : World} {x : Nat} {bs : List UInt8} {k : Nat} (h : RefR w x bs k 0 0) (hl : bs.length ≤ 1000000) (hk : k ≤ bs.length) (most : Int) (hm : most < 9223372036854775808) :
    Calls Tryd.prog 40 #[.pointer (some ⟨x, 0, none⟩), .int .i64 most] w (RefPost w x bs (.string ⟨(decText most (bs.drop k)).2.1.toArray⟩) (k + (decText most (bs.drop k)).2.2 : Nat) (decText most (bs.drop k)).1 (posOf (decText most (bs.drop k)).1 k)) := by
  have hU := ref_uint h hl hk
  have g1 := h.c1
  unfold decText
  obtain ⟨⟨c, v, n⟩, hD⟩ : ∃ x, decU (bs.drop k) = x := ⟨_, rfl⟩
  have hok := decU_ok _ hD
  rw [hD] at hU ⊢
  clear hD
  simp only [List.length_drop, List.drop_drop]
  by_cases hc : c = 0
  · subst hc
    have hv := (hok.1 rfl).1
    have hn := (hok.1 rfl).2.1
    rw [List.length_drop] at hn
    clear hok
    by_cases hb : most < 0 ∨ most < (v : Int)
    · simp only [ne_eq, not_true_eq_false, if_false, hb, if_true]
      have hcase : most < 0 ∨ (¬ most < 0 ∧ most < (v : Int)) := by omega
      clear hb
      rcases hcase with hneg | ⟨hneg, hgt⟩
      all_goals
        go_enter Tryd.func40, Tryd.ntmps40
        go_wp2_with fail
        refine hU.mono ?_
        rintro e w' ⟨rfl, r, k1⟩
        have q1 : w'.cell? ⟨x, 1, none⟩ = some (.int .i64 ((k + n : Nat) : Int)) := r.c1
        have q2 : w'.cell? ⟨x, 2, none⟩ = some (.int .i64 0) := r.c2
        have f1 := blk_free r 1
        go_wp2_with fail
        refine (ref_fail (r.setK k) 5 k).mono ?_
        rintro e w2 ⟨rfl, r2, k2⟩
        go_wp2_with fail
        go_ret
        exact ⟨rfl, r2, (k1.setCell (fun _ => rfl) _).trans k2 (fun _ h _ => h)⟩
    · simp only [ne_eq, not_true_eq_false, if_false, hb]
      have hneg : ¬ most < 0 := fun h => hb (.inl h)
      have hvm : ¬ most < (v : Int) := fun h => hb (.inr h)
      clear hb
      by_cases hs : bs.length - (k + n) < v
      · simp only [hs, if_true]
        go_enter Tryd.func40, Tryd.ntmps40
        go_wp2_with fail
        refine hU.mono ?_
        rintro e w' ⟨rfl, r, k1⟩
        have q0 := r.c0
        have q1 : w'.cell? ⟨x, 1, none⟩ = some (.int .i64 ((k + n : Nat) : Int)) := r.c1
        have q2 : w'.cell? ⟨x, 2, none⟩ = some (.int .i64 0) := r.c2
        have f1 := blk_free r 1
        have hw1 : ((bs.length : Int) - ((k : Int) + n)) < v := by omega
        go_wp2_with fail
        go_quiet (fail)
        go_wp2_with fail
        refine (ref_fail ((r.drewN _).setK k) 3 k).mono ?_
        rintro e w2 ⟨rfl, r2, k2⟩
        go_wp2_with fail
        go_ret
        exact ⟨rfl, r2, (Keeps.setCell (S := fun i => i = x) (k1.drewN _) (fun _ => rfl) _).trans k2 (fun _ h _ => h)⟩
      · simp only [hs, if_false]
        rw [← extract_eq]
        go_enter Tryd.func40, Tryd.ntmps40
        go_wp2_with fail
        refine hU.mono ?_
        rintro e w' ⟨rfl, r, k1⟩
        have q0 := r.c0
        have q1 : w'.cell? ⟨x, 1, none⟩ = some (.int .i64 ((k + n : Nat) : Int)) := r.c1
        have q2 : w'.cell? ⟨x, 2, none⟩ = some (.int .i64 0) := r.c2
        have f1 := blk_free r 1
        have hw1 : ¬ ((bs.length : Int) - ((k : Int) + n)) < v := by omega
        go_wp2_with fail
        go_quiet (fail)
        go_wp2_with fail
        have hsl : ∀ w0 : World, (Instr.slice 9 (.string ⟨bs.toArray⟩) (some (.int .i64 ((k : Int) + n))) (some (.int .i64 ((k : Int) + n + v))) none).run Tryd.prog w0 = .ok (.string (ByteArray.extract ⟨bs.toArray⟩ (k + n) (k + n + v))) w0 := fun w0 => by
          have hsz : (⟨bs.toArray⟩ : ByteArray).size = bs.length := by show bs.toArray.size = _; simp
          rw [run_slice_string_if _ _ _ _ _ _ _ Tryd.underlying9, if_pos (by rw [hsz]; omega), if_pos (by omega)]
          rw [show ((k : Int) + n).toNat = k + n by omega, show ((k : Int) + n + v).toNat = k + n + v by omega]
        go_quiet (fail)
        go_wp2_with fail
        go_ret
        refine ⟨rfl, ?_, Keeps.setCell (S := fun i => i = x) (k1.drewN _) (fun _ => rfl) _⟩
        rw [show ((k + (n + v) : Nat) : Int) = (k : Int) + n + v by omega]
        exact (RefR.drewN r _).setK _
  · obtain ⟨rfl, rfl, _⟩ := hok.2 hc
    clear hok
    have hc' : ¬ (c : Int) = 0 := by omega
    simp only [ne_eq, hc, not_false_eq_true, if_true]
    go_enter Tryd.func40, Tryd.ntmps40
    go_wp2_with fail
    refine hU.mono ?_
    rintro e w' ⟨rfl, r, k1⟩
    have q2 : w'.cell? ⟨x, 2, none⟩ = some (.int .i64 c) := r.c2
    go_wp2_with fail
    go_ret
    exact ⟨rfl, r, k1⟩

end Go.Proofs.YteifmkfkekglpaaDoor
