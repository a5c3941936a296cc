/- fault.At, fault.Path, usufructlaw1.Places on chains. -/
import Derived.Test.YteifmkfkekglpaaDoorAs3
import Derived.Test.YteifmkfkekglpaaDoorInts
namespace Go.Proofs.YteifmkfkekglpaaDoor
open Go.RowKit Go.Extern.Stop Go.Stop Go.Extern

/-- A pointer to the head of a chain of faults, or nil at its end. -/
def PChain (w : World) (c : Int) : List Int → Value → Prop
  | [], v => v = .pointer none
  | p :: r, v => ∃ b : Nat, v = .pointer (some ⟨b, 0, none⟩) ∧ FChain w c (p :: r) (.iface 83 (.pointer (some ⟨b, 0, none⟩)))
theorem PChain.keeps {w w' : World} (k : Keeps Nothing w w') {c : Int} {ps : List Int} {v : Value} (h : PChain w c ps v) : PChain w' c ps v := by
  cases ps with
  | nil => exact h
  | cons p r => obtain ⟨b, hv, h⟩ := h; exact ⟨b, hv, h.keeps k⟩
theorem first_chain {w : World} {c : Int} {ps : List Int} {v : Value} (h : FChain w c ps v) (hg : ErrVar w) :
    Calls Tryd.prog 63 #[v] w fun e w' => ∃ p, e = .returned p ∧ PChain w c ps p ∧ Keeps Nothing w w' := by
  cases ps with
  | nil =>
    obtain rfl := h
    exact (first_num c w hg).mono fun _ _ ⟨he, k⟩ => ⟨_, he, rfl, k⟩
  | cons p r =>
    have h0 := h
    obtain ⟨b, rfl, -⟩ := h
    exact (first_fault b w hg).mono fun _ _ ⟨he, k⟩ => ⟨_, he, ⟨b, rfl, h0⟩, k⟩
theorem pchain_nil {w : World} {c : Int} {v : Value} (h : PChain w c [] v) : v = .pointer none := h
theorem pchain_cons {w : World} {c p : Int} {r : List Int} {v : Value} (h : PChain w c (p :: r) v) : ∃ b : Nat, v = .pointer (some ⟨b, 0, none⟩) ∧ FChain w c (p :: r) (.iface 83 (.pointer (some ⟨b, 0, none⟩))) ∧ w.cell? ⟨b, 0, none⟩ = some (.int .i64 c) ∧ w.cell? ⟨b, 1, none⟩ = some (.int .i64 p) ∧ ∃ u, w.cell? ⟨b, 2, none⟩ = some u ∧ FChain w c r u := by
  obtain ⟨b, hv, h⟩ := h
  have h' := h
  obtain ⟨b', hb, h0, h1, u, h2, hr⟩ := h
  simp only [Value.iface.injEq, Value.pointer.injEq, Option.some.injEq, Addr.mk.injEq, and_true, true_and] at hb
  subst hb
  exact ⟨b, hv, h', h0, h1, u, h2, hr⟩

set_option maxRecDepth 100000 in
theorem places_chain {w : World} {c : Int} {ps : List Int} {v : Value} (h : FChain w c ps v) (hl : ps.length ≤ 199) :
    Calls Tryd.prog 45 #[v] w fun e w' => ∃ ao cap, e = .returned (.slice ao ps.length cap) ∧ OwnI w' ao cap ps ∧ (∀ g, blockOf ao = some g → w.heap.size ≤ g) ∧ Keeps Nothing w w' := by
  have a1 := asFault
  have a2 := asFault_no
  go_enter Tryd.func45, Tryd.ntmps45
  go_wp2_with fail
  go_loopg [0, 3, 4] ps.length (fun g s0 s3 s4 wx => ∃ (xs r : List Int) (ao : Option Addr) (cap n : Nat), r.length = g ∧ xs.length = n ∧ s3 = .slice ao n cap ∧ s4 = .int .i64 (n : Int) ∧ OwnI wx ao cap xs ∧ FChain w c r s0 ∧ Shut (xs ++ r = ps) ∧ (∀ g, blockOf ao = some g → w.heap.size ≤ g) ∧ Keeps Nothing w wx)
  case atStart => exact ⟨[], ps, none, 0, 0, rfl, rfl, rfl, rfl, ownI_nil _, h, shut rfl, fun g e => (by cases e), Keeps.refl _ _⟩
  case round =>
    obtain ⟨xs, r, ao, cap, n, rfl, hn, rfl, rfl, ho, hq, hz, hfr, K⟩ := hrel
    clear h
    cases r with
    | nil =>
      obtain rfl := hq
      have e0 : xs = ps := by have := hz.out; rwa [List.append_nil] at this
      subst e0
      subst hn
      have m1 : (xs.length : Int) < 200 := by omega
      go_wp2_with fail
      go_ret
      exact ⟨_, _, rfl, ho, hfr, K⟩
    | cons p r =>
      obtain ⟨b, rfl, _, h1, u, h2, hq⟩ := hq
      have c1 := K.cell h1 (fun h => h)
      have hpl : n + (r.length + 1) = ps.length := by rw [← hz.out, List.length_append, hn]; simp
      have m1 : (n : Int) < 200 := by omega
      have ka := (Keeps.refl Nothing wr).alloc (.cells #[.int .i64 p] 3)
      have B := blk_new wr #[.int .i64 p] 3
      have hlim := hl
      go_wp2_with (at_builtin; refine wpList_appI _ rfl (.tmp 22) (.tmp 27) rfl ao cap xs n hn rfl (ho.keeps ka) wr.heap.size p rfl B (by omega) ?_)
      intro ao' cap' w2 o2 k2 m2
      have hS : ∀ i, blockOf ao = some i → i < w.heap.size → False := fun i hi hlt => by have := hfr i hi; omega
      have K2 : Keeps Nothing w w2 := (K.trans ka (fun _ h _ => h)).trans k2 hS
      have c2 := K2.cell h2 (fun h => h)
      have hfr' : ∀ g, blockOf ao' = some g → w.heap.size ≤ g := fun g hg' => by
        have hsz := K.size
        rcases m2 with m2 | ⟨g', m2, h2⟩
        · exact hfr g (m2 ▸ hg')
        · rw [m2] at hg'
          obtain rfl := Option.some.inj hg'
          omega
      clear c1 k2 B ka
      go_wp2_with fail
      go_roundg r.length
      case measure => simp
      case rel => exact ⟨xs ++ [p], r, ao', cap', n + 1, rfl, by simp [hn], rfl, by go_num, o2, hq, shut (by rw [← hz.out]; simp), hfr', K2⟩

end Go.Proofs.YteifmkfkekglpaaDoor
