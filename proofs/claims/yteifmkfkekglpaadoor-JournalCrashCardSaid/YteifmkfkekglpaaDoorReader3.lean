/- wire.Reader: Text and Hash. -/
import Derived.Test.YteifmkfkekglpaaDoorReader2
namespace Go.Proofs.YteifmkfkekglpaaDoor
open Go.RowKit

set_option maxRecDepth 100000 in
set_option maxHeartbeats 1000000 in
theorem rText_any {w : World} {p : Nat} {ao : Option Addr} {cap : Nat} {bs : List UInt8} {k : Nat} (h : Rd w p ao cap bs k) (hl : bs.length ≤ 1000000) (most : Int) (hm : most < 9223372036854775808) :
    Calls Tryd.prog 53 #[.pointer (some ⟨p, 0, none⟩), .int .i64 most] w
      (RdPost w p ao cap bs (.string ⟨(decText most (bs.drop k)).2.1.toArray⟩) (decText most (bs.drop k)).1 (posOf (decText most (bs.drop k)).1 k) (k + (decText most (bs.drop k)).2.2)) := by
  have hU := rUint h hl
  have hle := h.le
  unfold decText
  obtain ⟨⟨c, v, n⟩, hD⟩ : ∃ x, decU (bs.drop k) = x := ⟨_, rfl⟩
  have hok := decU_ok _ hD
  rw [hD] at hU ⊢
  clear hD
  simp only [List.length_drop, List.drop_drop]
  by_cases hc : c = 0
  · subst hc
    have hv := (hok.1 rfl).1
    have hn := (hok.1 rfl).2.1
    have hn0 := (hok.1 rfl).2.2
    rw [List.length_drop] at hn
    clear hok
    by_cases hb : most < 0 ∨ most < (v : Int)
    · simp only [ne_eq, not_true_eq_false, if_false, hb, if_true]
      have hcase : most < 0 ∨ (¬ most < 0 ∧ most < (v : Int)) := by omega
      clear hb
      rcases hcase with hneg | ⟨hneg, hgt⟩
      all_goals
        go_enter Tryd.func53, Tryd.ntmps53
        go_wp2_with fail
        refine (rAt_any h).mono ?_
        rintro e w0 ⟨rfl, rfl⟩
        go_wp2_with fail
        refine hU.mono ?_
        rintro e w' ⟨ev, rfl, hev, hR, hK⟩
        obtain rfl := isErr_no hev
        clear hev
        have h1 : w'.cell? ⟨p, 1, none⟩ = some (.int .i64 ((k + n : Nat) : Int)) := blk_cell hR.blk 1 rfl
        have hf := blk_free hR.blk 1
        go_wp2_with fail
        refine (bad_any (hR.put k rfl hle) 5 rfl).mono ?_
        rintro e w2 ⟨ev, rfl, hev, hK2⟩
        go_wp2_with fail
        go_ret2
        refine ⟨_, rfl, hev.mono (by simpa using hK.size), (hR.put k rfl hle).keepsN hK2, ?_⟩
        exact (hK.put rfl 1 _).trans hK2 (fun _ h _ => h.elim)
    · simp only [ne_eq, not_true_eq_false, if_false, hb]
      have hneg : ¬ most < 0 := fun h => hb (.inl h)
      have hvm : ¬ most < (v : Int) := fun h => hb (.inr h)
      clear hb
      by_cases hs : bs.length - (k + n) < v
      · simp only [hs, if_true]
        go_enter Tryd.func53, Tryd.ntmps53
        go_wp2_with fail
        refine (rAt_any h).mono ?_
        rintro e w0 ⟨rfl, rfl⟩
        go_wp2_with fail
        refine hU.mono ?_
        rintro e w' ⟨ev, rfl, hev, hR, hK⟩
        obtain rfl := isErr_no hev
        clear hev
        have h0 : w'.cell? ⟨p, 0, none⟩ = some (.slice ao bs.length cap) := blk_cell hR.blk 0 rfl
        have h1 : w'.cell? ⟨p, 1, none⟩ = some (.int .i64 ((k + n : Nat) : Int)) := blk_cell hR.blk 1 rfl
        have hf := blk_free hR.blk 1
        go_wp2_with fail
        refine (bad_any (hR.put k rfl hle) 3 rfl).mono ?_
        rintro e w2 ⟨ev, rfl, hev, hK2⟩
        go_wp2_with fail
        go_ret2
        refine ⟨_, rfl, hev.mono (by simpa using hK.size), (hR.put k rfl hle).keepsN hK2, ?_⟩
        exact (hK.put rfl 1 _).trans hK2 (fun _ h _ => h.elim)
      · simp only [hs, if_false]
        have hne : bs ≠ [] := fun e => by rw [e] at hn hle; simp only [List.length_nil] at hn hle; omega
        obtain ⟨g, rfl⟩ := own8_head h.own hne
        have hcp := own8_cap h.own
        by_cases hcap : cap = k + n
        · obtain rfl : v = 0 := by omega
          subst hcap
          rw [show (bs.drop (k + n)).take 0 = [] from List.take_zero ..]
          go_enter Tryd.func53, Tryd.ntmps53
          go_wp2_with fail
          refine (rAt_any h).mono ?_
          rintro e w0 ⟨rfl, rfl⟩
          go_wp2_with fail
          refine hU.mono ?_
          rintro e w' ⟨ev, rfl, hev, hR, hK⟩
          obtain rfl := isErr_no hev
          clear hev
          have h0 : w'.cell? ⟨p, 0, none⟩ = some (.slice (some ⟨g, 0, none⟩) bs.length (k + n)) := blk_cell hR.blk 0 rfl
          have h1 : w'.cell? ⟨p, 1, none⟩ = some (.int .i64 ((k + n : Nat) : Int)) := blk_cell hR.blk 1 rfl
          have hf := blk_free hR.blk 1
          go_wp2_with fail
          have hR2 := (hR.put k rfl hle).put (k + n + 0) (z := (k : Int) + n) (by omega) (by omega)
          have hKW : Keeps (fun i => i = p) w0 ((w'.setCell ⟨p, 1, none⟩ (.int .i64 k)).setCell ⟨p, 1, none⟩ (.int .i64 ((k : Int) + n))) := (hK.put rfl 1 _).put rfl 1 _
          have hsl : ∀ w, (Instr.slice 25 (.slice (some ⟨g, 0, none⟩) bs.length (k + n)) (some (.int .i64 ((k : Int) + n))) (some (.int .i64 ((k : Int) + n))) none).run Tryd.prog w = .ok (.slice (some ⟨g, 0, none⟩) 0 0) w := fun w => by
            rw [run_slice_lh w 25 _ _ _ rfl _ _ _ _ (by omega) (by omega) (by omega)]
            rw [show ((k : Int) + n).toNat = k + n by omega]
            rw [show (sizeOf (Tryd.prog.elem 25)).run Tryd.prog w = .ok 1 w by kernel_rfl]
            simp [sliced]
          have hconv := fun m => run_str (((w'.setCell ⟨p, 1, none⟩ (.int .i64 k)).setCell ⟨p, 1, none⟩ (.int .i64 ((k : Int) + n))).drewN m) 0 [] (l := 0) rfl (bytesAt_nil (some ⟨g, 0, none⟩))
          generalize hW : (w'.setCell ⟨p, 1, none⟩ (.int .i64 k)).setCell ⟨p, 1, none⟩ (.int .i64 ((k : Int) + n)) = W at *
          clear hW h0 h1 hf
          have h0 : W.cell? ⟨p, 0, none⟩ = some (.slice (some ⟨g, 0, none⟩) bs.length (k + n)) := blk_cell hR2.blk 0 rfl
          have h1 : W.cell? ⟨p, 1, none⟩ = some (.int .i64 ((k + n + 0 : Nat) : Int)) := blk_cell hR2.blk 1 rfl
          go_quiet (fail)
          go_wp2_with fail
          go_ret2
          exact ⟨.nilIface, rfl, isErr_nil _ _, hR2.drewN _, hKW.drewN _⟩
        · rw [← Nat.add_assoc]
          go_enter Tryd.func53, Tryd.ntmps53
          go_wp2_with fail
          refine (rAt_any h).mono ?_
          rintro e w0 ⟨rfl, rfl⟩
          go_wp2_with fail
          refine hU.mono ?_
          rintro e w' ⟨ev, rfl, hev, hR, hK⟩
          obtain rfl := isErr_no hev
          clear hev
          have h0 : w'.cell? ⟨p, 0, none⟩ = some (.slice (some ⟨g, 0, none⟩) bs.length cap) := blk_cell hR.blk 0 rfl
          have h1 : w'.cell? ⟨p, 1, none⟩ = some (.int .i64 ((k + n : Nat) : Int)) := blk_cell hR.blk 1 rfl
          have hf := blk_free hR.blk 1
          go_wp2_with fail
          have hR2 := (hR.put k rfl hle).put (k + n + v) (z := (k : Int) + n + v) (by omega) (by omega)
          have hKW : Keeps (fun i => i = p) w0 ((w'.setCell ⟨p, 1, none⟩ (.int .i64 k)).setCell ⟨p, 1, none⟩ (.int .i64 ((k : Int) + n + v))) := (hK.put rfl 1 _).put rfl 1 _
          have hconv := fun m => run_str (((w'.setCell ⟨p, 1, none⟩ (.int .i64 k)).setCell ⟨p, 1, none⟩ (.int .i64 ((k : Int) + n + v))).drewN m) (cap - (k + n)) ((bs.drop (k + n)).take v) (l := v) (by rw [List.length_take, List.length_drop]; omega) (bytesAt_take (own8_at (hR2.drewN m).own) (k + n) v)
          simp only [Nat.zero_add] at hconv
          generalize hW : (w'.setCell ⟨p, 1, none⟩ (.int .i64 k)).setCell ⟨p, 1, none⟩ (.int .i64 ((k : Int) + n + v)) = W at *
          clear hW h0 h1 hf
          have h0 : W.cell? ⟨p, 0, none⟩ = some (.slice (some ⟨g, 0, none⟩) bs.length cap) := blk_cell hR2.blk 0 rfl
          have h1 : W.cell? ⟨p, 1, none⟩ = some (.int .i64 ((k + n + v : Nat) : Int)) := blk_cell hR2.blk 1 rfl
          go_quiet (fail)
          go_wp2_with fail
          go_ret2
          exact ⟨.nilIface, rfl, isErr_nil _ _, hR2.drewN _, hKW.drewN _⟩
  · obtain ⟨rfl, rfl, _⟩ := hok.2 hc
    clear hok
    simp only [ne_eq, hc, not_false_eq_true, if_true]
    go_enter Tryd.func53, Tryd.ntmps53
    go_wp2_with fail
    refine (rAt_any h).mono ?_
    rintro e w0 ⟨rfl, rfl⟩
    go_wp2_with fail
    refine hU.mono ?_
    rintro e w' ⟨ev, rfl, hev, hR, hK⟩
    obtain ⟨b, rfl⟩ := isErr_yes hev (by omega)
    go_wp2_with fail
    go_ret2
    exact ⟨_, rfl, hev, hR, hK⟩

end Go.Proofs.YteifmkfkekglpaaDoor
