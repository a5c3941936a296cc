/- Package manifest: one line read. -/
import Derived.Test.YtiliajnijjkcdaaDoorMan10
namespace Go.Proofs.YtiliajnijjkcdaaDoor
open Go.RowKit

attribute [local go_sem ↓] exec_mid_src exec_store_src
attribute [local go_sem] rowOk_new World.setRow_alloc_new aggOk_src

theorem line_shape (s : List UInt8) : (s.take (lineN s) = bareL s ∧ (10 : UInt8) ∉ s ∧ bareL s = s) ∨ s.take (lineN s) = bareL s ++ [10] := by
  rcases line_cases s with h | ⟨l, r, h, rfl⟩
  · exact .inl ⟨by rw [lineN_all h, bareL_all h, List.take_length], h, bareL_all h⟩
  · refine .inr ?_
    rw [lineN_app r h, bareL_app r h, show l ++ 10 :: r = (l ++ [10]) ++ r by simp]
    exact List.take_left' (by simp)
theorem trim_line (s : List UInt8) : Lib.trimSuffix (s.take (lineN s)) [10] = bareL s := by
  unfold Lib.trimSuffix Lib.hasSuffix
  rcases line_shape s with ⟨h1, h2, h3⟩ | h
  · rw [h1, if_neg]
    intro q
    rw [List.isSuffixOf_iff_suffix] at q
    obtain ⟨t, ht⟩ := q
    apply h2
    rw [← h3, ← ht]
    simp
  · rw [h, if_pos]
    · simp
    · rw [List.isSuffixOf_iff_suffix]; exact ⟨_, rfl⟩
theorem head_line (s : List UInt8) : Lib.hasPrefix (s.take (lineN s)) [61, 61] = isHead s := by
  rcases line_cases s with h | ⟨l, r, h, rfl⟩
  · rw [lineN_all h, List.take_length]; rfl
  · rw [lineN_app r h, show l ++ 10 :: r = (l ++ [10]) ++ r by simp, List.take_left' (by simp), show (l ++ [10]) ++ r = l ++ 10 :: r by simp, isHead_app]
    exact isHead_app l []
theorem bare_empty (s : List UInt8) : bareL s = [] ↔ bareN s = 0 := by
  unfold bareL
  have := bare_le s
  constructor
  · intro h
    have h2 := congrArg List.length h
    rw [List.length_take] at h2
    simp at h2
    rcases h2 with h2 | h2
    · exact h2
    · subst h2; rfl
  · intro h; rw [h]; rfl
theorem bareL_len (s : List UInt8) : (bareL s).length ≤ s.length := by unfold bareL; rw [List.length_take]; omega

/-- What one line leaves. -/
structure StepOk (N : Nat) (w' : World) (g1 g2 g3 : Nat) (out' : List SrcD) : Prop where
  ex : ∃ (ao : Option Addr) (cap : Nat) (L : List (List Value)) (at' : Option Addr) (ct : Nat) (T : List TxR), PS N w' g1 g3 ao cap L at' ct T out'
  nil : Blk w' g2 #[.nilIface] 26
def StepBad (N : Nat) (w' : World) (g2 : Nat) (c : Int) (p : Nat) : Prop := ∃ ev, Blk w' g2 #[ev] 26 ∧ IsErr N w' ev c p
def StepPost (N : Nat) (w : World) (g1 g2 g3 : Nat) (p : Nat) (r : Int × List SrcD) (e : Ending) (w' : World) : Prop :=
  Keeps (fun b => N ≤ b) w w' ∧ ∃ z, e = .returned (.bool z) ∧ (z = true → r.1 = 0 ∧ StepOk N w' g1 g2 g3 r.2) ∧ (z = false → r.1 ≠ 0 ∧ StepBad N w' g2 r.1 p)
theorem new_zero' (p : Int) (w : World) : Calls Tryd.prog 18 #[.int .i64 0, .int .i64 p] w fun e w' => e = .returned .nilIface ∧ w' = w := by
  go_enter Tryd.func18, Tryd.ntmps18
  go_wp2_with fail
  go_ret
  exact ⟨rfl, rfl⟩
/-- fault.New of whatever number. -/
theorem new_code (c p : Int) (w : World) : Calls Tryd.prog 18 #[.int .i64 c, .int .i64 p] w fun e w' => ∃ ev, e = .returned ev ∧ Keeps Nothing w w' ∧ ((c = 0 ∧ ev = .nilIface) ∨ (c ≠ 0 ∧ (∃ b, ev = .iface 78 (.pointer (some ⟨b, 0, none⟩))) ∧ IsErr w.heap.size w' ev c p)) := by
  by_cases h : c = 0
  · subst h
    exact (new_zero' p w).mono fun e w' ⟨he, hw⟩ => ⟨_, he, by rw [hw]; exact Keeps.refl _ _, .inl ⟨rfl, rfl⟩⟩
  · refine (new_err c p w (by rw [beq_eq_false_iff_ne]; exact h)).mono fun e w' ⟨he, hw⟩ => ⟨_, he, by rw [hw]; exact (Keeps.refl _ _).alloc _, .inr ⟨h, ⟨_, rfl⟩, ?_⟩⟩
    subst hw
    have b := blk_new w #[.int .i64 c, .int .i64 p, .iface 52 (.int .i64 c)] 80
    exact .inr ⟨w.heap.size, Nat.le_refl _, h, rfl, blk_cell b 0 rfl, blk_cell b 1 rfl, blk_cell b 2 rfl⟩
theorem IsErr.keepsS {B : Nat} {S : Nat → Prop} {w w' : World} {v : Value} {c p : Int} (h : IsErr B w v c p) (K : Keeps S w w') (hS : ∀ b, v = .iface 78 (.pointer (some ⟨b, 0, none⟩)) → ¬ S b) : IsErr B w' v c p := by
  rcases h with h | ⟨b, h1, h2, h3, h4, h5, h6⟩
  · exact .inl h
  · have hn := hS b h3
    exact .inr ⟨b, h1, h2, h3, K.cell h4 hn, K.cell h5 hn, K.cell h6 hn⟩
set_option maxRecDepth 100000 in
set_option linter.unusedSimpArgs false in
set_option maxHeartbeats 8000000 in
theorem parse1_empty {N : Nat} {w : World} {g1 g2 g3 : Nat} {ao : Option Addr} {cap : Nat} {L : List (List Value)} {at' : Option Addr} {ct : Nat} {T : List TxR} (P : PS N w g1 g3 ao cap L at' ct T []) (hN : N ≤ w.heap.size) (h2 : N ≤ g2) (b2 : Blk w g2 #[.nilIface] 26)
    (s : List UInt8) (hs : s.length ≤ 10000000) (p : Nat) (hh : isHead s = false) :
    Calls Tryd.prog 20 #[.int .i64 (p : Int), .string ⟨(s.take (lineN s)).toArray⟩, .pointer (some ⟨g1, 0, none⟩), .pointer (some ⟨g2, 0, none⟩), .pointer (some ⟨g3, 0, none⟩)] w (StepPost N w g1 g2 g3 p (stepM [] s)) := by
  have hst : stepM [] s = (if bareN s = 0 then 0 else 40, []) := by unfold stepM; rw [if_neg (by rw [hh]; simp)]; rfl
  have htr := fun W => trimSuffix_any (s.take (lineN s)) [10] W (by rw [List.length_take]; omega)
  have hpr := fun W => shPrefix_any (s.take (lineN s)) [61, 61] W
  rw [trim_line] at htr
  rw [head_line, hh] at hpr
  have hbe := bare_empty s
  rw [hst]
  generalize s.take (lineN s) = line at *
  generalize bareL s = bare at *
  generalize bareN s = nb at *
  clear hst hh
  have hL : L = [] := List.eq_nil_of_length_eq_zero (by rw [P.len]; rfl)
  subst hL
  have PP := shut P
  have c1 := blk_cell P.b1 0 (v := .slice ao 0 cap) rfl
  have c2 := blk_cell b2 0 (v := .nilIface) rfl
  have f2 := blk_free b2 0
  clear P
  by_cases hz : nb = 0
  · subst hz
    obtain rfl : bare = [] := hbe.2 rfl
    clear hbe
    go_enter Tryd.func20, Tryd.ntmps20
    go_wp2_with fail
    refine (htr _).mono ?_
    rintro e w1 ⟨rfl, rfl⟩
    go_wp2_with fail
    refine (hpr _).mono ?_
    rintro e w1 ⟨rfl, rfl⟩
    go_wp2_with fail
    go_ret
    exact ⟨Keeps.refl _ _, true, rfl, (fun _ => ⟨rfl, ⟨⟨_, _, _, _, _, _, PP.out⟩, b2⟩⟩), (fun q => by cases q)⟩
  · have hne : bare ≠ [] := fun q => hz (hbe.1 q)
    have hq : (bare == []) = false := by rw [beq_eq_false_iff_ne]; exact hne
    rw [if_neg hz]
    have hnw := fun W => new_code 40 (p : Int) W
    clear hbe hz
    go_enter Tryd.func20, Tryd.ntmps20
    go_wp2_with fail
    refine (htr _).mono ?_
    rintro e w1 ⟨rfl, rfl⟩
    go_wp2_with fail
    refine (hpr _).mono ?_
    rintro e w1 ⟨rfl, rfl⟩
    have hn1 := hnw w1
    clear hnw
    go_wp2_with fail
    refine hn1.mono ?_
    rintro e w2 ⟨ev, rfl, k2, hev⟩
    rcases hev with ⟨h, _⟩ | ⟨_, ⟨b, rfl⟩, hE⟩
    · exact absurd h (by decide)
    have hE := shut hE
    have b2' := k2.blk b2 (fun h => h)
    have c2' := blk_cell b2' 0 (v := .nilIface) rfl
    have f2' := blk_free b2' 0
    clear hn1 c1 c2
    go_wp2_with fail
    any_goals try (rename_i hfz; simp [f2'] at hfz; done)
    go_ret
    have kst : Keeps (fun b => b = g2) w2 (w2.setCell ⟨g2, 0, none⟩ (.iface 78 (.pointer (some ⟨b, 0, none⟩)))) := (Keeps.refl (fun b => b = g2) w2).setCell (p := ⟨g2, 0, none⟩) (fun _ => rfl) _
    refine ⟨(k2.mono (S' := fun b => N ≤ b) (fun _ h _ => h.elim)).trans kst (fun i hi _ => by subst hi; exact h2), false, rfl, (fun q => by cases q), fun _ => ⟨by decide, _, blk_set b2' 0 _, ?_⟩⟩
    refine (hE.out.keepsS kst (fun b' hb' q => ?_)).mono hN
    simp only [Value.iface.injEq, Value.pointer.injEq, Option.some.injEq, Addr.mk.injEq, true_and, and_true] at hb'
    subst hb' q
    rcases hE.out with ⟨q, _⟩ | ⟨b', _, _, q, q4, _, _⟩
    · cases q
    · simp only [Value.iface.injEq, Value.pointer.injEq, Option.some.injEq, Addr.mk.injEq, true_and, and_true] at q
      subst q
      rw [c2'] at q4
      cases q4

end Go.Proofs.YtiliajnijjkcdaaDoor
