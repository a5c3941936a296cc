/- disk.Disk: contracts of Append, Sync, Cut, Read, Crash, Start, Room, Size, Synced. -/
import Derived.Test.YteifmkfkekglpaaDoorDisk
import Derived.StillTailTactics
import Derived.RegionTactic
import Derived.BigRegion
import Derived.IntWalk
namespace Go.Proofs.YteifmkfkekglpaaDoor
open Go.RowKit

section
variable {w : World} {p : Nat} {ao : Option Addr} {cap : Nat} {d : DkS}

set_option maxHeartbeats 400000 in
theorem disk_append (h : Dk w p ao cap d) {aox : Option Addr} (c : Nat) {cs : List UInt8} (hx : BytesAt w aox cs) (hl : cs.length ≤ 1000000000) {n : Nat} (hn : n = cs.length) :
    Calls Tryd.prog 20 #[.pointer (some ⟨p, 0, none⟩), .slice aox n c] w (DkPost w p ao (d.append cs).1 (d.append cs).2) := by
  subst hn
  go_enter Tryd.func20, Tryd.ntmps20
  go_wp2_with fail
  refine (ask_append h 0 c hx hl).mono ?_
  rintro e w' ⟨ev, rfl, R⟩
  go_wp2_with fail
  go_ret
  exact ⟨ev, rfl, R⟩

set_option maxHeartbeats 400000 in
theorem disk_sync (h : Dk w p ao cap d) :
    Calls Tryd.prog 21 #[.pointer (some ⟨p, 0, none⟩)] w (DkPost w p ao d.sync.1 d.sync.2) := by
  go_enter Tryd.func21, Tryd.ntmps21
  go_wp2_with fail
  refine (ask_sync h 0 _).mono ?_
  rintro e w' ⟨ev, rfl, R⟩
  go_wp2_with fail
  go_ret
  exact ⟨ev, rfl, R⟩

set_option maxHeartbeats 400000 in
theorem disk_cut (h : Dk w p ao cap d) (n : Int) :
    Calls Tryd.prog 26 #[.pointer (some ⟨p, 0, none⟩), .int .i64 n] w (DkPost w p ao (d.cut n).1 (d.cut n).2) := by
  go_enter Tryd.func26, Tryd.ntmps26
  go_wp2_with fail
  refine (ask_cut h n _).mono ?_
  rintro e w' ⟨ev, rfl, R⟩
  go_wp2_with fail
  go_ret
  exact ⟨ev, rfl, R⟩

theorem Dk.setDn (h : Dk w p ao cap d) (b : Bool) : Dk (w.setCell ⟨p, 3, none⟩ (.bool b)) p ao cap { d with dn := b } :=
  ⟨blk_set h.blk 3 _, ownsRow_setCell_other h.own (own_ne h.own h.blk (by decide)) _, ⟨h.ok.r0, h.ok.r1, h.ok.bl, h.ok.sl⟩⟩
theorem Dk.putRoom (h : Dk w p ao cap d) (n : Int) (h0 : 0 ≤ n) (h1 : n ≤ 16777216) : Dk (w.setCell ⟨p, 0, none⟩ (.int .i64 n)) p ao cap { d with room := n } :=
  ⟨blk_set h.blk 0 _, ownsRow_setCell_other h.own (own_ne h.own h.blk (by decide)) _, ⟨h0, h1, h.ok.bl, h.ok.sl⟩⟩

set_option maxHeartbeats 400000 in
theorem disk_start (h : Dk w p ao cap d) :
    Calls Tryd.prog 25 #[.pointer (some ⟨p, 0, none⟩)] w (DkPost w p ao d.start.1 d.start.2) := by
  have h3 := h.c3
  have hf := blk_free h.blk 3
  unfold DkS.start
  by_cases hd : d.dn = true
  · rw [if_pos hd]
    rw [hd] at h3
    clear hd
    go_enter Tryd.func25, Tryd.ntmps25
    go_wp2_with fail
    go_ret
    exact ⟨_, rfl, isErr_nil _ _, ao, cap, h.setDn false, (Keeps.refl _ _).put (.inl rfl) 3 _, Moved.refl _ _⟩
  · rw [if_neg hd]
    rw [Bool.not_eq_true] at hd
    rw [hd] at h3
    clear hd
    go_enter Tryd.func25, Tryd.ntmps25
    go_wp2_with fail
    refine (new_err 13 0 _ rfl).mono ?_
    rintro e w' ⟨rfl, rfl⟩
    go_wp2_with fail
    go_ret
    exact dkPost_err h (isErr_new w 13 0 rfl) ((Keeps.refl _ _).alloc _)

/-- Nothing is told; what the disk holds then. -/
def DkDone (w : World) (p : Nat) (ao : Option Addr) (d : DkS) (e : Ending) (w' : World) : Prop :=
  e = .returned (.tuple #[]) ∧ ∃ ao' cap', Dk w' p ao' cap' d ∧ Keeps (WrF p ao) w w' ∧ Moved w.heap.size ao ao'

set_option maxHeartbeats 400000 in
theorem disk_room (H : Dk w p ao cap d) (n : Int) :
    Calls Tryd.prog 19 #[.pointer (some ⟨p, 0, none⟩), .int .i64 n] w (DkDone w p ao (d.setRoom n)) := by
  have h0 := H.c0
  have hf := blk_free H.blk 0
  unfold DkS.setRoom
  go_enter Tryd.func19, Tryd.ntmps19
  go_wp2_with fail
  all_goals
    refine bodyPost_end (results_none rfl _ _ _) rfl ?_
    refine ⟨rfl, ao, cap, ?_, (Keeps.refl _ _).put (.inl rfl) 0 _, Moved.refl _ _⟩
  · rw [show min (max n 0) 16777216 = 0 by omega]; exact H.putRoom _ (by omega) (by omega)
  · rw [show min (max n 0) 16777216 = 16777216 by omega]; exact H.putRoom _ (by omega) (by omega)
  · rw [show min (max n 0) 16777216 = n by omega]; exact H.putRoom _ (by omega) (by omega)

theorem disk_size (h : Dk w p ao cap d) :
    Calls Tryd.prog 22 #[.pointer (some ⟨p, 0, none⟩)] w fun e w' => e = .returned (.int .i64 d.bs.length) ∧ w' = w := by
  have h1 := h.c1
  go_enter Tryd.func22, Tryd.ntmps22
  go_wp2_with fail
  go_ret
  exact ⟨rfl, rfl⟩

theorem disk_synced (h : Dk w p ao cap d) :
    Calls Tryd.prog 23 #[.pointer (some ⟨p, 0, none⟩)] w fun e w' => e = .returned (.int .i64 d.sy) ∧ w' = w := by
  have h2 := h.c2
  go_enter Tryd.func23, Tryd.ntmps23
  go_wp2_with fail
  go_ret
  exact ⟨rfl, rfl⟩

/-- What Read tells: an error; none: all bytes, in memory of their own. -/
def DkRead (w : World) (d : DkS) (e : Ending) (w' : World) : Prop :=
  (d.dn = true → ∃ ev, e = .returned (.tuple #[.slice none 0 0, ev]) ∧ IsErr w.heap.size w' ev 15 0 ∧ Keeps Nothing w w') ∧
  (d.dn = false → ∃ ao' cap', e = .returned (.tuple #[.slice ao' d.bs.length cap', .nilIface]) ∧ Own8 w' 5 ao' cap' d.bs ∧ Keeps Nothing w w' ∧ (∀ g, blockOf ao' = some g → w.heap.size ≤ g))

set_option maxHeartbeats 1000000 in
theorem disk_read (h : Dk w p ao cap d) :
    Calls Tryd.prog 42 #[.pointer (some ⟨p, 0, none⟩)] w (DkRead w d) := by
  by_cases hd : d.dn = true
  · have HD := Lib.hid hd
    clear hd
    go_enter Tryd.func42, Tryd.ntmps42
    go_wp2_with fail
    refine (ask_down h HD.out 0 0 _).mono ?_
    rintro e w' ⟨ev, rfl, hev, k⟩
    obtain ⟨b, rfl⟩ := isErr_yes hev (by decide)
    go_wp2_with fail
    go_ret2
    exact ⟨fun _ => ⟨_, rfl, hev, k⟩, fun h => by rw [HD.out] at h; cases h⟩
  · rw [Bool.not_eq_true] at hd
    have HD := Lib.hid hd
    clear hd
    have h1 := h.c1
    have hbl := h.ok.bl
    have hlt := h.lt
    go_enter Tryd.func42, Tryd.ntmps42
    go_wp2_with fail
    refine (ask_read h HD.out 0 _).mono ?_
    rintro e w' ⟨rfl, rfl⟩
    have hp : p < w'.heap.size := hlt.1
    go_wp2_with (at_builtin; refine wpList_app8 _ rfl (.tmp 10) (.tmp 14) 25 rfl (some ⟨w'.heap.size, 0, none⟩) 0 [] rfl (own8_empty w') _ rfl d.bs (src_own (World.ownsRow.alloc h.own _)) ?c2 ?c3 ?_)
    case c2 => simp
    case c3 => omega
    intro ao1 cap1 w1 ho1 hk1 hm1
    go_wp2_with fail
    go_ret2
    have hK1 : Keeps Nothing w' w1 := ((Keeps.refl Nothing w').alloc _).trans hk1 (fun i hi hlt => by simp [blockOf] at hi; omega)
    refine ⟨fun h => (by rw [HD.out] at h; cases h), fun _ => ⟨ao1, cap1, rfl, ho1, hK1, ?_⟩⟩
    intro g hg
    rcases hm1 with h | ⟨g', h, hg'⟩
    · rw [h] at hg; simp [blockOf] at hg; omega
    · rw [h] at hg; obtain rfl := Option.some.inj hg; omega

theorem Dk.drew (h : Dk w p ao cap d) : Dk w.drew p ao cap d := ⟨h.blk, h.own, h.ok⟩
theorem Dk.cutDown (h : Dk w p ao cap d) {m : Nat} (hm : m ≤ d.bs.length) (hs : d.sy = m) : Dk ((w.setCell ⟨p, 1, none⟩ (.slice ao m cap)).setCell ⟨p, 3, none⟩ (.bool true)) p ao cap { d with bs := d.bs.take m, dn := true } := by
  have hlen : (d.bs.take m).length = m := by rw [List.length_take]; omega
  have hset := blk_set (blk_set h.blk 1 (.slice ao m cap)) 3 (.bool true)
  refine ⟨?_, ?_, ⟨h.ok.r0, h.ok.r1, by rw [hlen]; have := h.ok.bl; omega, by rw [hlen, hs]; exact Nat.le_refl _⟩⟩
  · show Blk _ p #[_, .slice ao (d.bs.take m).length cap, _, _] _
    rw [hlen]; exact hset
  · have o1 := ownsRow_setCell_other h.own (own_ne h.own h.blk (by decide)) (a := ⟨p, 1, none⟩) (.slice ao m cap)
    have o2 := ownsRow_setCell_other o1 (own_ne o1 (blk_set h.blk 1 _) (by decide)) (a := ⟨p, 3, none⟩) (.bool true)
    exact own8_take o2 m

set_option maxHeartbeats 1000000 in
set_option maxRecDepth 100000 in
theorem disk_crash (H : Dk w p ao cap d) (n : Int) :
    Calls Tryd.prog 24 #[.pointer (some ⟨p, 0, none⟩), .int .i64 n] w (DkDone w p ao (d.crash n)) := by
  unfold DkS.crash
  have h3 := H.c3
  by_cases hd : d.dn = true
  · rw [if_pos hd]
    rw [hd] at h3
    clear hd
    go_enter Tryd.func24, Tryd.ntmps24
    go_wp2_with fail
    refine bodyPost_ret (v := .tuple #[]) (results_none rfl _ _ _) rfl ?_
    exact ⟨rfl, ao, cap, H, Keeps.refl _ _, Moved.refl _ _⟩
  · rw [if_neg hd]
    rw [Bool.not_eq_true] at hd
    rw [hd] at h3
    clear hd
    have b2 := H.ok.bl
    have b3 := H.ok.sl
    have b4 := (own8_cap H.own).1
    obtain ⟨m, hm⟩ : ∃ m : Nat, m = d.sy + (min (max n 0) (d.bs.length - d.sy : Int)).toNat := ⟨_, rfl⟩
    rw [← hm]
    have hs : IntKind.i64.wrap (↑d.bs.length - ↑d.sy) = (d.bs.length - d.sy : Int) := IntWalk.i64_in _ (by omega)
    have hc : (n ≤ 0 ∧ m = d.sy) ∨ (0 < n ∧ n < d.bs.length - d.sy ∧ (m : Int) = d.sy + n) ∨ (0 < n ∧ (d.bs.length - d.sy : Int) ≤ n ∧ m = d.bs.length) := by omega
    have hml : m ≤ d.bs.length := by omega
    clear hm
    have h1 := H.c1
    have h2 := H.c2
    have hf1 := blk_free H.blk 1
    have hf2 := blk_free H.blk 2
    have hf3 := blk_free H.blk 3
    rcases hc with ⟨hn, hm⟩ | ⟨hn, hn2, hm⟩ | ⟨hn, hn2, hm⟩
    all_goals
      have HM := Lib.hid hm
      clear hm
      go_enter Tryd.func24, Tryd.ntmps24
      go_wp2_with fail
      go_still_tail 21, (by kernel_rfl)
      change wpList _ _ _ _ _ w.drew
      have K1 : Keeps (WrF p ao) w w.drew := (Keeps.refl _ _).drew
      have H1 : Dk w.drew p ao cap d := H.drewN 1
      clear h1 h2 h3 hf1 hf2 hf3
      generalize w.drew = W at *
      have h1 := H1.c1
      have h2 := H1.c2
      have hf1 := blk_free H1.blk 1
      have hf2 := blk_free H1.blk 2
      have hf3 := blk_free H1.blk 3
      go_wp2_with fail
    all_goals first
      | rw [show W.setCell ⟨p, 2, none⟩ (.int .i64 (d.sy : Int)) = W.setCell ⟨p, 2, none⟩ (.int .i64 (m : Int)) from by rw [HM.out]]
      | rw [show (d.sy : Int) + n = (m : Int) from by have := HM.out; omega]
      | rw [show (d.sy : Int) + ((d.bs.length : Int) - d.sy) = (m : Int) from by have := HM.out; omega]
    all_goals
      have H2 := H1.setSy m hml
      have K2 : Keeps (WrF p ao) w (W.setCell ⟨p, 2, none⟩ (.int .i64 m)) := K1.put (.inl rfl) 2 _
      generalize W.setCell ⟨p, 2, none⟩ (.int .i64 m) = W2 at *
      clear h1 h2 hf1 hf2 hf3 H1 K1 hs
      have h1 := H2.c1
      have h2 := H2.c2
      have h3 := H2.c3
      have hf1 := blk_free H2.blk 1
      have hf3 := blk_free H2.blk 3
      have h7 : (m : Int) ≤ d.bs.length := by omega
      have h8 : (m : Int) ≤ cap := by omega
      have h9 : (0 : Int) ≤ m := by omega
      go_region
      refine bodyPost_end (results_none rfl _ _ _) rfl ?_
      exact ⟨rfl, ao, cap, (H2.cutDown hml rfl).drew, (((K2.put (.inl rfl) 1 _).put (.inl rfl) 3 _).drew), Moved.refl _ _⟩

end
end Go.Proofs.YteifmkfkekglpaaDoor
