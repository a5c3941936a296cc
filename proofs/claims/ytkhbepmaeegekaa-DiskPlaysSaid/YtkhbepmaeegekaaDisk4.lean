/- usufructref25.Disk: contracts. -/
import Derived.Test.YtkhbepmaeegekaaDisk3
import Derived.IntWalk
import Derived.StillTailTactics
namespace Go.Proofs.Ytkhbepmaeegekaa
open Go.RowKit

/-- The document's disk at block q. -/
def DkR (w : World) (q : Nat) (d : DkS) : Prop := Blk w q #[.string ⟨d.bs.toArray⟩, .int .i64 d.sy, .int .i64 d.room, .bool d.dn] 51

/-- A number, and what the document's disk holds then. -/
def DrPost (w : World) (q : Nat) (c : Nat) (d : DkS) (e : Ending) (w' : World) : Prop := e = .returned (.int .i64 c) ∧ DkR w' q d ∧ Keeps (fun i => i = q) w w'
def DkDoneAt (w : World) (q : Nat) (d : DkS) (w' : World) : Prop := DkR w' q d ∧ Keeps (fun i => i = q) w w'
def DrDone (w : World) (q : Nat) (d : DkS) (e : Ending) (w' : World) : Prop := e = .returned (.tuple #[]) ∧ DkR w' q d ∧ Keeps (fun i => i = q) w w'

section
variable {w : World} {q : Nat} {d : DkS}
theorem DkR.c0 (h : DkR w q d) : w.cell? ⟨q, 0, none⟩ = some (.string ⟨d.bs.toArray⟩) := blk_cell h 0 rfl
theorem DkR.c1 (h : DkR w q d) : w.cell? ⟨q, 1, none⟩ = some (.int .i64 d.sy) := blk_cell h 1 rfl
theorem DkR.c2 (h : DkR w q d) : w.cell? ⟨q, 2, none⟩ = some (.int .i64 d.room) := blk_cell h 2 rfl
theorem DkR.c3 (h : DkR w q d) : w.cell? ⟨q, 3, none⟩ = some (.bool d.dn) := blk_cell h 3 rfl
theorem DkR.set0 (h : DkR w q d) (bs : List UInt8) : DkR (w.setCell ⟨q, 0, none⟩ (.string ⟨bs.toArray⟩)) q { d with bs := bs } := blk_set h 0 _
theorem DkR.set1 (h : DkR w q d) (s : Nat) : DkR (w.setCell ⟨q, 1, none⟩ (.int .i64 s)) q { d with sy := s } := blk_set h 1 _
theorem DkR.set2 (h : DkR w q d) (r : Int) : DkR (w.setCell ⟨q, 2, none⟩ (.int .i64 r)) q { d with room := r } := blk_set h 2 _
theorem DkR.set3 (h : DkR w q d) (b : Bool) : DkR (w.setCell ⟨q, 3, none⟩ (.bool b)) q { d with dn := b } := blk_set h 3 _
theorem Keeps.putq {a b : World} {q : Nat} (h : Keeps (fun i => i = q) a b) (i : Nat) (u : Value) : Keeps (fun i => i = q) a (b.setCell ⟨q, i, none⟩ u) := Keeps.put (S := fun i => i = q) h rfl i u
theorem str_size (bs : List UInt8) : (⟨bs.toArray⟩ : ByteArray).size = bs.length := by show bs.toArray.size = _; simp

set_option maxHeartbeats 400000 in
theorem dr_start (h : DkR w q d) : Calls Try.prog 34 #[.pointer (some ⟨q, 0, none⟩)] w (DrPost w q d.start.1 d.start.2) := by
  have h3 := h.c3
  have hf := blk_free h 3
  unfold DkS.start
  by_cases hd : d.dn = true
  · rw [if_pos hd]
    rw [hd] at h3
    clear hd
    go_enter Try.func34, Try.ntmps34
    go_wp2_with fail
    go_ret
    exact ⟨rfl, h.set3 false, (Keeps.refl (fun i => i = q) _).putq 3 _⟩
  · rw [if_neg hd]
    rw [Bool.not_eq_true] at hd
    rw [hd] at h3
    clear hd
    go_enter Try.func34, Try.ntmps34
    go_wp2_with fail
    go_ret
    exact ⟨rfl, h, Keeps.refl _ _⟩

set_option maxHeartbeats 400000 in
theorem dr_room (h : DkR w q d) (n : Int) : Calls Try.prog 35 #[.pointer (some ⟨q, 0, none⟩), .int .i64 n] w (DrDone w q (d.setRoom n)) := by
  have h2 := h.c2
  have hf := blk_free h 2
  unfold DkS.setRoom
  have H := Lib.hid h
  clear h
  go_enter Try.func35, Try.ntmps35
  go_wp2_with fail
  all_goals
    refine bodyPost_end (results_none rfl _ _ _) rfl ?_
    refine ⟨rfl, ?_, (Keeps.refl (fun i => i = q) _).putq 2 _⟩
  all_goals first
    | (rw [show min (max n 0) 16777216 = 16777216 by omega]; exact H.out.set2 _)
    | (rw [show min (max n 0) 16777216 = n by omega]; exact H.out.set2 _)
    | (rw [show min (max n 0) 16777216 = 0 by omega]; exact H.out.set2 _)

set_option maxHeartbeats 400000 in
theorem dr_sync (h : DkR w q d) : Calls Try.prog 31 #[.pointer (some ⟨q, 0, none⟩)] w (DrPost w q d.sync.1 d.sync.2) := by
  have h3 := h.c3
  have h0 := h.c0
  have h1 := h.c1
  have hf := blk_free h 1
  have hs := str_size d.bs
  unfold DkS.sync
  by_cases hd : d.dn = true
  · rw [if_pos hd]
    rw [hd] at h3
    clear hd
    go_enter Try.func31, Try.ntmps31
    go_wp2_with fail
    go_ret
    exact ⟨rfl, h, Keeps.refl _ _⟩
  · rw [if_neg hd]
    rw [Bool.not_eq_true] at hd
    rw [hd] at h3
    clear hd
    go_enter Try.func31, Try.ntmps31
    go_wp2_with fail
    go_ret
    exact ⟨rfl, h.set1 _, (Keeps.refl (fun i => i = q) _).putq 1 _⟩

theorem slice_high (bs : List UInt8) (m : Nat) (hm : m ≤ bs.length) (w0 : World) : (Instr.slice 9 (.string ⟨bs.toArray⟩) none (some (.int .i64 m)) none).run Try.prog w0 = .ok (.string ⟨(bs.take m).toArray⟩) w0 := by
  rw [run_slice_string_h w0 9 ⟨bs.toArray⟩ Try.underlying9 .i64 m (by omega) (by show (m : Int) ≤ (bs.toArray.size : Int); simp; omega)]
  have := extract_eq bs 0 m
  rw [Nat.zero_add, List.drop_zero] at this
  rw [Int.toNat_natCast, this]

set_option maxHeartbeats 1000000 in
theorem dr_cut (h : DkR w q d) (n : Int) : Calls Try.prog 32 #[.pointer (some ⟨q, 0, none⟩), .int .i64 n] w (DrPost w q (d.cut n).1 (d.cut n).2) := by
  have h3 := h.c3
  have h0 := h.c0
  have h1 := h.c1
  have hf0 := blk_free h 0
  have hf1 := blk_free h 1
  have hs := str_size d.bs
  unfold DkS.cut
  by_cases hd : d.dn = true
  · rw [if_pos hd]
    rw [hd] at h3
    clear hd
    go_enter Try.func32, Try.ntmps32
    go_wp2_with fail
    go_ret
    exact ⟨rfl, h, Keeps.refl _ _⟩
  · rw [if_neg hd]
    rw [Bool.not_eq_true] at hd
    rw [hd] at h3
    clear hd
    by_cases hr : n < 0 ∨ (d.bs.length : Int) < n
    · rw [if_pos hr]
      have hr2 : n < 0 ∨ (¬ n < 0 ∧ (d.bs.length : Int) < n) := by omega
      clear hr
      rcases hr2 with h5 | ⟨h5, h6⟩
      all_goals
        go_enter Try.func32, Try.ntmps32
        go_wp2_with fail
        go_ret
        exact ⟨rfl, h, Keeps.refl _ _⟩
    · rw [if_neg hr]
      obtain ⟨k, rfl⟩ := Int.eq_ofNat_of_zero_le (show 0 ≤ n by omega)
      rw [Int.toNat_natCast]
      have h5 : ¬ (k : Int) < 0 := fun e => hr (.inl e)
      have h6 : ¬ (d.bs.length : Int) < k := fun e => hr (.inr e)
      have hsl := slice_high d.bs k (by omega)
      clear hr
      go_enter Try.func32, Try.ntmps32
      go_wp2_with fail
      go_ret
      exact ⟨rfl, (h.set0 (d.bs.take k)).set1 k, ((Keeps.refl (fun i => i = q) _).putq 0 _).putq 1 _⟩

set_option maxHeartbeats 1000000 in
theorem dr_append (h : DkR w q d) (hl : d.bs.length ≤ 16777216) (hr0 : 0 ≤ d.room) (hr1 : d.room ≤ 16777216) (cs : List UInt8) :
    Calls Try.prog 30 #[.pointer (some ⟨q, 0, none⟩), .string ⟨cs.toArray⟩] w (DrPost w q (d.append cs).1 (d.append cs).2) := by
  have h3 := h.c3
  have h0 := h.c0
  have h2 := h.c2
  have hf0 := blk_free h 0
  have hs := str_size d.bs
  have hsc := str_size cs
  unfold DkS.append
  by_cases hd : d.dn = true
  · rw [if_pos hd]
    rw [hd] at h3
    clear hd
    go_enter Try.func30, Try.ntmps30
    go_wp2_with fail
    go_ret
    exact ⟨rfl, h, Keeps.refl _ _⟩
  · rw [if_neg hd]
    rw [Bool.not_eq_true] at hd
    rw [hd] at h3
    clear hd
    by_cases hr : d.room - d.bs.length < (cs.length : Int)
    · rw [if_pos hr]
      go_enter Try.func30, Try.ntmps30
      go_wp2_with fail
      go_quiet (fail)
      go_wp2_with fail
      go_ret
      exact ⟨rfl, h, (Keeps.refl _ _).drewN _⟩
    · rw [if_neg hr]
      go_enter Try.func30, Try.ntmps30
      go_wp2_with fail
      go_quiet (fail)
      go_wp2_with fail
      go_ret
      refine ⟨rfl, ?_, ((Keeps.refl (fun i => i = q) _).drewN _).putq 0 _⟩
      rw [cat_eq]
      exact DkR.set0 (w := w.drewN _) h (d.bs ++ cs)

set_option maxRecDepth 100000 in
set_option maxHeartbeats 2000000 in
theorem dr_crash (H : DkR w q d) (b2 : d.bs.length ≤ 16777216) (b3 : d.sy ≤ d.bs.length) (n : Int) : Calls Try.prog 33 #[.pointer (some ⟨q, 0, none⟩), .int .i64 n] w (DrDone w q (d.crash n)) := by
  unfold DkS.crash
  have h3 := H.c3
  by_cases hd : d.dn = true
  · rw [if_pos hd]
    rw [hd] at h3
    clear hd
    go_enter Try.func33, Try.ntmps33
    go_wp2_with fail
    refine bodyPost_ret (v := .tuple #[]) (results_none rfl _ _ _) rfl ?_
    exact ⟨rfl, H, Keeps.refl _ _⟩
  · rw [if_neg hd]
    rw [Bool.not_eq_true] at hd
    rw [hd] at h3
    clear hd
    obtain ⟨m, hm⟩ : ∃ m : Nat, m = d.sy + (min (max n 0) (d.bs.length - d.sy : Int)).toNat := ⟨_, rfl⟩
    rw [← hm]
    have hs : IntKind.i64.wrap (↑d.bs.length - ↑d.sy) = (d.bs.length - d.sy : Int) := IntWalk.i64_in _ (by omega)
    have hc : (n ≤ 0 ∧ m = d.sy) ∨ (0 < n ∧ n < d.bs.length - d.sy ∧ (m : Int) = d.sy + n) ∨ (0 < n ∧ (d.bs.length - d.sy : Int) ≤ n ∧ m = d.bs.length) := by omega
    have hml : m ≤ d.bs.length := by omega
    clear hm
    have h0 := H.c0
    have h1 := H.c1
    have hf0 := blk_free H 0
    have hf1 := blk_free H 1
    have hf3 := blk_free H 3
    have hsz := str_size d.bs
    have hslc := slice_high d.bs m hml
    have hfin : ∀ W : World, DkR W q d → Keeps (fun i => i = q) w W → DkDoneAt w q { d with bs := d.bs.take m, sy := m, dn := true } (((W.setCell ⟨q, 0, none⟩ (.string ⟨(d.bs.take m).toArray⟩)).setCell ⟨q, 1, none⟩ (.int .i64 m)).setCell ⟨q, 3, none⟩ (.bool true)) := fun W H1 K1 =>
      ⟨((H1.set0 (d.bs.take m)).set1 m).set3 true, ((K1.putq 0 _).putq 1 _).putq 3 _⟩
    have hlen : (d.bs.take m).length = m := by rw [List.length_take]; omega
    have HFIN := Lib.hid hfin
    have HLEN := Lib.hid hlen
    clear hfin hlen
    have hsm := str_size (d.bs.take m)
    rw [HLEN.out] at hsm
    rcases hc with ⟨hn, hm⟩ | ⟨hn, hn2, hm⟩ | ⟨hn, hn2, hm⟩
    · have hw2 : IntKind.i64.wrap (d.sy : Int) = (m : Int) := by rw [IntWalk.i64_in _ (by omega)]; omega
      have HM := Lib.hid hm
      clear hm
      go_enter Try.func33, Try.ntmps33
      go_wp2_with fail
      go_quiet (fail)
      go_wp2_with fail
      all_goals
        have H1 : DkR (w.drewN nq) q d := H
        have K1 : Keeps (fun i => i = q) w (w.drewN nq) := (Keeps.refl _ _).drewN _
        clear h0 h1 h3 hf0 hf1 hf3
        generalize w.drewN nq = W at *
        have h0 := H1.c0
        have h1 := H1.c1
        have h3 := H1.c3
        have hf0 := blk_free H1 0
        have hf1 := blk_free H1 1
        have hf3 := blk_free H1 3
        try have hw4 : IntKind.i64.wrap ((d.sy : Int) + n) = (m : Int) := by rw [IntWalk.i64_in _ (by omega)]; have := HM.out; omega
        try have hw5 : IntKind.i64.wrap (d.sy : Int) = (m : Int) := by rw [IntWalk.i64_in _ (by omega)]; have := HM.out; omega
        go_still_tail 14, (by kernel_rfl)
        change wpList _ _ _ _ _ W.drew
        have H2 : DkR W.drew q d := H1
        have K2 : Keeps (fun i => i = q) w W.drew := K1.drew
        clear h0 h1 h3 hf0 hf1 hf3 H1 K1
        generalize W.drew = V at *
        have h0 := H2.c0
        have h1 := H2.c1
        have h3 := H2.c3
        have hf0 := blk_free H2 0
        have hf1 := blk_free H2 1
        have hf3 := blk_free H2 3
        go_wp2_with fail
        refine bodyPost_end (results_none rfl _ _ _) rfl ?_
        exact ⟨rfl, HFIN.out V H2 K2⟩
    · have hw2 : IntKind.i64.wrap ((d.sy : Int) + n) = (m : Int) := by rw [IntWalk.i64_in _ (by omega)]; omega
      have HM := Lib.hid hm
      clear hm
      go_enter Try.func33, Try.ntmps33
      go_wp2_with fail
      go_quiet (fail)
      go_wp2_with fail
      all_goals
        have H1 : DkR (w.drewN nq) q d := H
        have K1 : Keeps (fun i => i = q) w (w.drewN nq) := (Keeps.refl _ _).drewN _
        clear h0 h1 h3 hf0 hf1 hf3
        generalize w.drewN nq = W at *
        have h0 := H1.c0
        have h1 := H1.c1
        have h3 := H1.c3
        have hf0 := blk_free H1 0
        have hf1 := blk_free H1 1
        have hf3 := blk_free H1 3
        try have hw4 : IntKind.i64.wrap ((d.sy : Int) + n) = (m : Int) := by rw [IntWalk.i64_in _ (by omega)]; have := HM.out; omega
        try have hw5 : IntKind.i64.wrap (d.sy : Int) = (m : Int) := by rw [IntWalk.i64_in _ (by omega)]; have := HM.out; omega
        go_still_tail 14, (by kernel_rfl)
        change wpList _ _ _ _ _ W.drew
        have H2 : DkR W.drew q d := H1
        have K2 : Keeps (fun i => i = q) w W.drew := K1.drew
        clear h0 h1 h3 hf0 hf1 hf3 H1 K1
        generalize W.drew = V at *
        have h0 := H2.c0
        have h1 := H2.c1
        have h3 := H2.c3
        have hf0 := blk_free H2 0
        have hf1 := blk_free H2 1
        have hf3 := blk_free H2 3
        go_wp2_with fail
        refine bodyPost_end (results_none rfl _ _ _) rfl ?_
        exact ⟨rfl, HFIN.out V H2 K2⟩
    · have hw2 : IntKind.i64.wrap ((d.sy : Int) + ((d.bs.length : Int) - d.sy)) = (m : Int) := by rw [IntWalk.i64_in _ (by omega)]; omega
      have HM := Lib.hid hm
      clear hm
      go_enter Try.func33, Try.ntmps33
      go_wp2_with fail
      go_quiet (fail)
      go_wp2_with fail
      all_goals
        have H1 : DkR (w.drewN nq) q d := H
        have K1 : Keeps (fun i => i = q) w (w.drewN nq) := (Keeps.refl _ _).drewN _
        clear h0 h1 h3 hf0 hf1 hf3
        generalize w.drewN nq = W at *
        have h0 := H1.c0
        have h1 := H1.c1
        have h3 := H1.c3
        have hf0 := blk_free H1 0
        have hf1 := blk_free H1 1
        have hf3 := blk_free H1 3
        try have hw4 : IntKind.i64.wrap ((d.sy : Int) + n) = (m : Int) := by rw [IntWalk.i64_in _ (by omega)]; have := HM.out; omega
        try have hw5 : IntKind.i64.wrap (d.sy : Int) = (m : Int) := by rw [IntWalk.i64_in _ (by omega)]; have := HM.out; omega
        go_still_tail 14, (by kernel_rfl)
        change wpList _ _ _ _ _ W.drew
        have H2 : DkR W.drew q d := H1
        have K2 : Keeps (fun i => i = q) w W.drew := K1.drew
        clear h0 h1 h3 hf0 hf1 hf3 H1 K1
        generalize W.drew = V at *
        have h0 := H2.c0
        have h1 := H2.c1
        have h3 := H2.c3
        have hf0 := blk_free H2 0
        have hf1 := blk_free H2 1
        have hf3 := blk_free H2 3
        go_wp2_with fail
        refine bodyPost_end (results_none rfl _ _ _) rfl ?_
        exact ⟨rfl, HFIN.out V H2 K2⟩

end
end Go.Proofs.Ytkhbepmaeegekaa
