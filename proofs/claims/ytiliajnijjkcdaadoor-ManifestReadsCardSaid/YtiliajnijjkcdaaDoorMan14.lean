/- Package manifest: Parse. -/
import Derived.Test.YtiliajnijjkcdaaDoorMan13
namespace Go.Proofs.YtiliajnijjkcdaaDoor
open Go.RowKit

attribute [local go_sem ↓] exec_mid_src exec_store_src
attribute [local go_sem] rowOk_new World.setRow_alloc_new aggOk_src

/-- What Parse leaves. -/
def ParsePost (w : World) (r : Int × Nat × List SrcD) (e : Ending) (w' : World) : Prop :=
  Keeps Nothing w w' ∧ ((r.1 = 0 ∧ ∃ ao cap, e = .returned (.tuple #[.slice ao r.2.2.length cap, .nilIface]) ∧ (r.2.2.length ≤ cap ∧ cap ≤ maxLen) ∧ SlIs (fun _ => True) w' 3 (SrcIs (fun _ => True) w') ao r.2.2) ∨
    (r.1 ≠ 0 ∧ ∃ ev, e = .returned (.tuple #[.slice none 0 0, ev]) ∧ (∃ b, ev = .iface 78 (.pointer (some ⟨b, 0, none⟩))) ∧ IsErr w.heap.size w' ev r.1 r.2.1))

theorem wrong_bound {out : List SrcD} {h : HeadD} (hc : wrongL out h = 0) : out.length < 64 ∧ ∃ nm deps, h = some (nm, deps) ∧ deps.length ≤ 64 ∧ ¬ Twice out nm deps := by
  unfold wrongL at hc
  cases h with
  | none => cases hc
  | some x =>
    obtain ⟨nm, deps⟩ := x
    simp only at hc
    by_cases h1 : 64 ≤ out.length ∨ 64 < deps.length
    · rw [if_pos h1] at hc; cases hc
    · rw [if_neg h1] at hc
      by_cases h2 : Twice out nm deps
      · rw [if_pos h2] at hc; cases hc
      · exact ⟨by omega, nm, deps, rfl, by omega, h2⟩
/-- The crates of a text: how many, how long. -/
def Bnd (out : List SrcD) (p : Nat) : Prop := out.length ≤ 64 ∧ ∀ d ∈ out, d.text.length ≤ p
theorem bnd_step {out : List SrcD} {p : Nat} {s : List UInt8} (h : Bnd out p) (hc : (stepM out s).1 = 0) : Bnd (stepM out s).2 (p + lineN s) := by
  unfold stepM at hc ⊢
  by_cases hh : isHead s = true
  · rw [if_pos hh] at hc ⊢
    obtain ⟨h1, nm, deps, h2, _, _⟩ := wrong_bound hc
    rw [h2]
    refine ⟨by unfold addHead; simp; omega, fun d hd => ?_⟩
    unfold addHead at hd
    rcases List.mem_append.1 hd with hd | hd
    · exact Nat.le_trans (h.2 d hd) (by omega)
    · simp at hd; subst hd; simp
  · rw [if_neg hh] at hc ⊢
    by_cases he : out.isEmpty = true
    · rw [if_pos he] at hc ⊢
      exact ⟨h.1, fun d hd => Nat.le_trans (h.2 d hd) (by omega)⟩
    · rw [if_neg he] at hc ⊢
      refine ⟨by rw [addText_len]; exact h.1, fun d hd => ?_⟩
      have hne : out ≠ [] := fun q => he (by rw [q]; rfl)
      obtain ⟨r, x, rfl⟩ : ∃ r x, out = r ++ [x] := ⟨out.dropLast, out.getLast hne, (List.dropLast_concat_getLast hne).symm⟩
      rw [addText_app] at hd
      rcases List.mem_append.1 hd with hd | hd
      · exact Nat.le_trans (h.2 d (by simp [hd])) (by omega)
      · simp at hd
        subst hd
        have := h.2 x (by simp)
        simp only [List.length_append, List.length_take]
        omega

/-- What Parse holds at a line's beginning. -/
def ParseI (s : List UInt8) (w : World) (g1 g2 g3 : Nat) (p : Nat) (W : World) : Prop :=
  Keeps (fun b => w.heap.size ≤ b) w W ∧ p ≤ s.length ∧ ∃ out, Bnd out p ∧ parseR 0 s [] = parseR p (s.drop p) out ∧ StepOk w.heap.size W g1 g2 g3 out
def ParseE (s : List UInt8) (w : World) (g2 : Nat) (W : World) : Prop :=
  Keeps (fun b => w.heap.size ≤ b) w W ∧ ∃ c q, c ≠ 0 ∧ parseR 0 s [] = (c, q, []) ∧ StepBad w.heap.size W g2 c q
theorem keepsHi {w W : World} (h : Keeps (fun b => w.heap.size ≤ b) w W) : Keeps Nothing w W :=
  ⟨h.os, h.tape, h.output, h.size, fun k hk _ => h.block k hk (by omega)⟩

theorem parse1_any {w W : World} {g1 g2 g3 : Nat} (s : List UInt8) (hs : s.length ≤ 10000000) (hg2 : w.heap.size ≤ g2) (hM : MaxV w) (p : Nat) (hp : p < s.length) (h : ParseI s w g1 g2 g3 p W) :
    Calls Tryd.prog 20 #[.int .i64 (p : Int), .string ⟨(lineAt s p).toArray⟩, .pointer (some ⟨g1, 0, none⟩), .pointer (some ⟨g2, 0, none⟩), .pointer (some ⟨g3, 0, none⟩)] W fun e W' =>
      ∃ z, e = .returned (.bool z) ∧ (z = true → ParseI s w g1 g2 g3 (p + lineN (s.drop p)) W') ∧ (z = false → ParseE s w g2 W') := by
  obtain ⟨K, _, out, hB, hpr, ⟨ao, cap, L, at', ct, T, P⟩, b2⟩ := h
  have hN := K.size
  have hne : s.drop p ≠ [] := by intro q; have := congrArg List.length q; rw [List.length_drop] at this; simp at this; omega
  have hdl : (s.drop p).length ≤ 10000000 := by rw [List.length_drop]; omega
  have hMW : MaxV W := hM.keeps (keepsHi K)
  have hpost : Calls Tryd.prog 20 #[.int .i64 (p : Int), .string ⟨(lineAt s p).toArray⟩, .pointer (some ⟨g1, 0, none⟩), .pointer (some ⟨g2, 0, none⟩), .pointer (some ⟨g3, 0, none⟩)] W (StepPost w.heap.size W g1 g2 g3 p (stepM out (s.drop p))) := by
    unfold lineAt
    by_cases hh : isHead (s.drop p) = true
    · exact parse1_head P hN hg2 b2 hMW (s.drop p) hdl p hh hB.1
    · rw [Bool.not_eq_true] at hh
      by_cases he : out = []
      · subst he
        exact parse1_empty P hN hg2 b2 (s.drop p) hdl p hh
      · obtain ⟨r, x, rfl⟩ : ∃ r x, out = r ++ [x] := ⟨out.dropLast, out.getLast he, (List.dropLast_concat_getLast he).symm⟩
        exact parse1_text P hN hg2 b2 (s.drop p) hdl p hh (by have := hB.1; simp at this; omega) (by have := hB.2 x (by simp); omega)
  refine hpost.mono fun e W' ⟨K2, z, he, h1, h2⟩ => ⟨z, he, fun hz => ?_, fun hz => ?_⟩
  · obtain ⟨hc, hok⟩ := h1 hz
    have hl := line_le (s.drop p)
    rw [List.length_drop] at hl
    refine ⟨K.trans K2 (fun _ h _ => h), by omega, _, bnd_step hB hc, ?_, hok⟩
    rw [hpr, parse_step hne, if_pos hc, List.drop_drop]
  · obtain ⟨hc, hbad⟩ := h2 hz
    refine ⟨K.trans K2 (fun _ h _ => h), _, p, hc, ?_, hbad⟩
    rw [hpr, parse_step hne, if_neg hc]

end Go.Proofs.YtiliajnijjkcdaaDoor
