/- disk.Disk: contracts of New, ask, Append, Sync, Cut. -/
import Derived.Test.YteifmkfkekglpaaDoorBytes
namespace Go.Proofs.YteifmkfkekglpaaDoor
open Go.RowKit

/-- What a disk holds. -/
structure DkS where
  room : Int
  bs : List UInt8
  sy : Nat
  dn : Bool

structure DkS.Ok (d : DkS) : Prop where
  r0 : 0 ≤ d.room
  r1 : d.room ≤ 16777216
  bl : d.bs.length ≤ 16777216
  sl : d.sy ≤ d.bs.length

/-- A disk at block p. -/
structure Dk (w : World) (p : Nat) (ao : Option Addr) (cap : Nat) (d : DkS) : Prop where
  blk : Blk w p #[.int .i64 d.room, .slice ao d.bs.length cap, .int .i64 d.sy, .bool d.dn] 79
  own : Own8 w 5 ao cap d.bs
  ok : d.Ok

theorem Dk.drewN {w : World} {p : Nat} {ao : Option Addr} {cap : Nat} {d : DkS} (h : Dk w p ao cap d) (n : Nat) : Dk (w.drewN n) p ao cap d := ⟨h.blk, h.own, h.ok⟩
theorem Dk.keeps {S : Nat → Prop} {w w' : World} {p : Nat} {ao : Option Addr} {cap : Nat} {d : DkS} (h : Dk w p ao cap d) (k : Keeps S w w') (hp : ¬ S p) (ha : ∀ g, blockOf ao = some g → ¬ S g) : Dk w' p ao cap d :=
  ⟨k.blk h.blk hp, k.own h.own (fun g hg => ha g (by rwa [ownBlock_eq] at hg)), h.ok⟩
theorem Dk.keepsN {w w' : World} {p : Nat} {ao : Option Addr} {cap : Nat} {d : DkS} (h : Dk w p ao cap d) (k : Keeps Nothing w w') : Dk w' p ao cap d := h.keeps k (fun h => h) (fun _ _ h => h)
theorem Dk.ne {w : World} {p : Nat} {ao : Option Addr} {cap : Nat} {d : DkS} (h : Dk w p ao cap d) : blockOf ao ≠ some p := own8_ne h.own h.blk (by decide)
theorem Dk.lt {w : World} {p : Nat} {ao : Option Addr} {cap : Nat} {d : DkS} (h : Dk w p ao cap d) : p < w.heap.size ∧ ∀ g, blockOf ao = some g → g < w.heap.size :=
  ⟨lt_of_block h.blk, fun g hg => own_lt h.own (by rw [ownBlock_eq]; exact hg)⟩

/-- An error's number, and what the disk holds then. -/
def DkPost (w : World) (p : Nat) (ao : Option Addr) (c : Nat) (d : DkS) (e : Ending) (w' : World) : Prop :=
  ∃ ev, e = .returned ev ∧ IsErr w.heap.size w' ev c 0 ∧ ∃ ao' cap', Dk w' p ao' cap' d ∧ Keeps (WrF p ao) w w' ∧ Moved w.heap.size ao ao'

theorem dkPost_err {w w' : World} {p : Nat} {ao : Option Addr} {cap : Nat} {d : DkS} (h : Dk w p ao cap d) {c : Nat} {ev : Value} (hev : IsErr w.heap.size w' ev c 0) (k : Keeps Nothing w w') : DkPost w p ao c d (.returned ev) w' :=
  ⟨ev, rfl, hev, ao, cap, h.keepsN k, k.mono (fun _ h _ => h.elim), Moved.refl _ _⟩

def DkS.append (d : DkS) (cs : List UInt8) : Nat × DkS :=
  if d.dn then (15, d) else if d.room - d.bs.length < (cs.length : Int) then (12, d) else (0, { d with bs := d.bs ++ cs })
def DkS.sync (d : DkS) : Nat × DkS := if d.dn then (15, d) else (0, { d with sy := d.bs.length })
def DkS.cut (d : DkS) (n : Int) : Nat × DkS :=
  if d.dn then (15, d) else if n < 0 ∨ (d.bs.length : Int) < n then (2, d) else (0, { d with bs := d.bs.take n.toNat, sy := n.toNat })
def DkS.start (d : DkS) : Nat × DkS := if d.dn then (0, { d with dn := false }) else (13, d)
def DkS.crash (d : DkS) (n : Int) : DkS :=
  if d.dn then d else { d with bs := d.bs.take (d.sy + (min (max n 0) (d.bs.length - d.sy : Int)).toNat), sy := d.sy + (min (max n 0) (d.bs.length - d.sy : Int)).toNat, dn := true }
def DkS.setRoom (d : DkS) (n : Int) : DkS := { d with room := min (max n 0) 16777216 }

set_option maxHeartbeats 400000 in
theorem disk_new (room : Int) (h0 : 0 ≤ room) (h1 : room ≤ 16777216) (w : World) :
    Calls Tryd.prog 14 #[.int .i64 room] w fun e w' => e = .returned (.tuple #[.pointer (some ⟨w.heap.size, 0, none⟩), .nilIface]) ∧ w' = w.alloc (.cells #[.int .i64 room, .slice none 0 0, .int .i64 0, .bool false] 79) := by
  have h0' : ¬ room < 0 := by omega
  have h1' : ¬ 16777216 < room := by omega
  go_enter Tryd.func14, Tryd.ntmps14
  go_wp2_with fail
  go_ret2
  exact ⟨rfl, rfl⟩

theorem dk_new (w : World) (room : Int) (h0 : 0 ≤ room) (h1 : room ≤ 16777216) : Dk (w.alloc (.cells #[.int .i64 room, .slice none 0 0, .int .i64 0, .bool false] 79)) w.heap.size none 0 ⟨room, [], 0, false⟩ :=
  ⟨blk_new w _ _, World.ownsRow_nil _ _ _ _, ⟨h0, h1, by simp, by simp⟩⟩

set_option maxHeartbeats 400000 in
theorem disk_new_bad (room : Int) (h : room < 0) (w : World) :
    Calls Tryd.prog 14 #[.int .i64 room] w fun e w' => ∃ ev, e = .returned (.tuple #[.pointer none, ev]) ∧ IsErr w.heap.size w' ev 2 0 ∧ Keeps Nothing w w' := by
  go_enter Tryd.func14, Tryd.ntmps14
  go_wp2_with fail
  refine (new_err 2 0 _ rfl).mono ?_
  rintro e w' ⟨rfl, rfl⟩
  go_wp2_with fail
  go_ret2
  exact ⟨_, rfl, isErr_new w 2 0 rfl, (Keeps.refl _ _).alloc _⟩

section ask
variable {w : World} {p : Nat} {ao : Option Addr} {cap : Nat} {d : DkS}

theorem Dk.c0 (h : Dk w p ao cap d) : w.cell? ⟨p, 0, none⟩ = some (.int .i64 d.room) := blk_cell h.blk 0 rfl
theorem Dk.c1 (h : Dk w p ao cap d) : w.cell? ⟨p, 1, none⟩ = some (.slice ao d.bs.length cap) := blk_cell h.blk 1 rfl
theorem Dk.c2 (h : Dk w p ao cap d) : w.cell? ⟨p, 2, none⟩ = some (.int .i64 d.sy) := blk_cell h.blk 2 rfl
theorem Dk.c3 (h : Dk w p ao cap d) : w.cell? ⟨p, 3, none⟩ = some (.bool d.dn) := blk_cell h.blk 3 rfl

set_option maxHeartbeats 400000 in
theorem ask_down (h : Dk w p ao cap d) (hd : d.dn = true) (what n : Int) (x : Value) :
    Calls Tryd.prog 44 #[.pointer (some ⟨p, 0, none⟩), .int .i64 what, .int .i64 n, x] w (ErrPost w 15 0) := by
  have h3 := h.c3
  rw [hd] at h3
  clear hd
  go_enter Tryd.func44, Tryd.ntmps44
  go_wp2_with fail
  refine (new_err 15 0 _ rfl).mono ?_
  rintro e w' ⟨rfl, rfl⟩
  go_wp2_with fail
  go_ret
  exact ⟨_, rfl, isErr_new w 15 0 rfl, (Keeps.refl _ _).alloc _⟩

set_option maxHeartbeats 400000 in
theorem ask_read (h : Dk w p ao cap d) (hd : d.dn = false) (n : Int) (x : Value) :
    Calls Tryd.prog 44 #[.pointer (some ⟨p, 0, none⟩), .int .i64 0, .int .i64 n, x] w fun e w' => e = .returned .nilIface ∧ w' = w := by
  have h3 := h.c3
  rw [hd] at h3
  clear hd
  go_enter Tryd.func44, Tryd.ntmps44
  go_wp2_with fail
  go_ret
  exact ⟨rfl, rfl⟩

theorem Dk.setSy (h : Dk w p ao cap d) (s : Nat) (hs : s ≤ d.bs.length) : Dk (w.setCell ⟨p, 2, none⟩ (.int .i64 s)) p ao cap { d with sy := s } :=
  ⟨blk_set h.blk 2 _, ownsRow_setCell_other h.own (own_ne h.own h.blk (by decide)) _, ⟨h.ok.r0, h.ok.r1, h.ok.bl, hs⟩⟩

set_option maxHeartbeats 400000 in
theorem ask_sync (h : Dk w p ao cap d) (n : Int) (x : Value) :
    Calls Tryd.prog 44 #[.pointer (some ⟨p, 0, none⟩), .int .i64 2, .int .i64 n, x] w (DkPost w p ao d.sync.1 d.sync.2) := by
  by_cases hd : d.dn = true
  · unfold DkS.sync
    rw [if_pos hd]
    refine (ask_down h hd 2 n x).mono ?_
    rintro e w' ⟨ev, rfl, hev, k⟩
    exact dkPost_err h hev k
  · rw [Bool.not_eq_true] at hd
    unfold DkS.sync
    rw [if_neg (by simp [hd])]
    have h3 := h.c3
    rw [hd] at h3
    clear hd
    have h1 := h.c1
    have hf := blk_free h.blk 2
    have h2 := h.c2
    go_enter Tryd.func44, Tryd.ntmps44
    go_wp2_with fail
    go_ret
    exact ⟨_, rfl, isErr_nil _ _, ao, cap, h.setSy _ (Nat.le_refl _), Keeps.put (Keeps.refl _ _) (.inl rfl) 2 _, Moved.refl _ _⟩

set_option maxHeartbeats 1000000 in
theorem ask_append (h : Dk w p ao cap d) (n : Int) {aox : Option Addr} (c : Nat) {cs : List UInt8} (hx : BytesAt w aox cs) (hl : cs.length ≤ 1000000000) :
    Calls Tryd.prog 44 #[.pointer (some ⟨p, 0, none⟩), .int .i64 1, .int .i64 n, .slice aox cs.length c] w (DkPost w p ao (d.append cs).1 (d.append cs).2) := by
  by_cases hd : d.dn = true
  · unfold DkS.append
    rw [if_pos hd]
    refine (ask_down h hd 1 n _).mono ?_
    rintro e w' ⟨ev, rfl, hev, k⟩
    exact dkPost_err h hev k
  · rw [Bool.not_eq_true] at hd
    unfold DkS.append
    rw [if_neg (by simp [hd])]
    have h3 := h.c3
    rw [hd] at h3
    clear hd
    have h0 := h.c0
    have h1 := h.c1
    have hf := blk_free h.blk 1
    have b0 := h.ok.r0
    have b1 := h.ok.r1
    have b2 := h.ok.bl
    by_cases hr : d.room - d.bs.length < (cs.length : Int)
    · rw [if_pos hr]
      go_enter Tryd.func44, Tryd.ntmps44
      go_wp2_with fail
      go_quiet (fail)
      go_wp2_with fail
      refine (new_err 12 0 _ rfl).mono ?_
      rintro e w' ⟨rfl, rfl⟩
      go_wp2_with fail
      go_ret
      exact dkPost_err h (isErr_new (w.drewN _) 12 0 rfl) (((Keeps.refl _ _).drewN _).alloc _)
    · rw [if_neg hr]
      go_enter Tryd.func44, Tryd.ntmps44
      go_wp2_with fail
      go_quiet (fail)
      go_wp2_with (at_builtin; refine wpList_app8 _ rfl (.tmp 44) (.tmp 45) 25 rfl ao cap d.bs rfl (h.drewN nq).own _ rfl cs (src_at (w := w.drewN nq) c hx) (by omega) (by omega) ?_)
      intro ao1 cap1 w1 ho1 hk1 hm1
      have hb := hk1.blk (a := w.drewN nq) h.blk (fun e => h.ne e)
      have c1 : w1.cell? ⟨p, 1, none⟩ = some (.slice ao d.bs.length cap) := blk_cell hb 1 rfl
      have f1 := blk_free hb 1
      go_wp2_with fail
      go_ret
      have hK1 : Keeps (WrF p ao) w w1 := ((Keeps.refl (WrF p ao) w).drewN nq).trans hk1 (fun i h _ => .inr h)
      have hset := blk_set hb 1 (.slice ao1 (d.bs.length + cs.length) cap1)
      refine ⟨_, rfl, isErr_nil _ _, ao1, cap1, ⟨by rw [← List.length_append] at hset ⊢; exact hset, ownsRow_setCell_other ho1 (own_ne ho1 hb (by decide)) _, ⟨b0, b1, by rw [List.length_append]; omega, by rw [List.length_append]; exact Nat.le_trans h.ok.sl (Nat.le_add_right _ _)⟩⟩, hK1.put (.inl rfl) 1 _, hm1⟩

set_option maxHeartbeats 1000000 in
theorem ask_cut (h : Dk w p ao cap d) (n : Int) (x : Value) :
    Calls Tryd.prog 44 #[.pointer (some ⟨p, 0, none⟩), .int .i64 3, .int .i64 n, x] w (DkPost w p ao (d.cut n).1 (d.cut n).2) := by
  by_cases hd : d.dn = true
  · unfold DkS.cut
    rw [if_pos hd]
    refine (ask_down h hd 3 n _).mono ?_
    rintro e w' ⟨ev, rfl, hev, k⟩
    exact dkPost_err h hev k
  · rw [Bool.not_eq_true] at hd
    unfold DkS.cut
    rw [if_neg (by simp [hd])]
    have h3 := h.c3
    rw [hd] at h3
    clear hd
    have h0 := h.c0
    have h1 := h.c1
    have hf := blk_free h.blk 1
    have h2 := h.c2
    have hf2 := blk_free h.blk 2
    have b2 := h.ok.bl
    by_cases hr : n < 0 ∨ (d.bs.length : Int) < n
    · rw [if_pos hr]
      have hr2 : n < 0 ∨ (¬ n < 0 ∧ (d.bs.length : Int) < n) := by omega
      clear hr
      rcases hr2 with h5 | ⟨h5, h6⟩
      all_goals
        go_enter Tryd.func44, Tryd.ntmps44
        go_wp2_with fail
        refine (new_err 2 0 _ rfl).mono ?_
        rintro e w' ⟨rfl, rfl⟩
        go_wp2_with fail
        go_ret
        exact dkPost_err h (isErr_new w 2 0 rfl) ((Keeps.refl _ _).alloc _)
    · rw [if_neg hr]
      obtain ⟨k, rfl⟩ := Int.eq_ofNat_of_zero_le (show 0 ≤ n by omega)
      rw [Int.toNat_natCast]
      have h5 : ¬ (k : Int) < 0 := fun e => hr (.inl e)
      have h6 : ¬ (d.bs.length : Int) < k := fun e => hr (.inr e)
      have h7 : k ≤ d.bs.length := by omega
      have h8 : k ≤ cap := Nat.le_trans h7 (own8_cap h.own).1
      clear hr
      go_enter Tryd.func44, Tryd.ntmps44
      go_wp2_with fail
      go_ret
      have hlen : (d.bs.take k).length = k := by rw [List.length_take]; omega
      have hset := blk_set (blk_set h.blk 1 (.slice ao k cap)) 2 (.int .i64 k)
      refine ⟨_, rfl, isErr_nil _ _, ao, cap, ⟨?_, ?_, ⟨h.ok.r0, h.ok.r1, by rw [hlen]; omega, by rw [hlen]; exact Nat.le_refl _⟩⟩, ((Keeps.refl _ _).put (.inl rfl) 1 _).put (.inl rfl) 2 _, Moved.refl _ _⟩
      · show Blk _ p #[_, .slice ao (d.bs.take k).length cap, _, _] _
        rw [hlen]; exact hset
      · have o1 := ownsRow_setCell_other h.own (own_ne h.own h.blk (by decide)) (a := ⟨p, 1, none⟩) (.slice ao k cap)
        have o2 := ownsRow_setCell_other o1 (own_ne o1 (blk_set h.blk 1 _) (by decide)) (a := ⟨p, 2, none⟩) (.int .i64 k)
        exact own8_take o2 k

end ask

end Go.Proofs.YteifmkfkekglpaaDoor
