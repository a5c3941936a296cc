/- Tokens in memory; usufructlaw6.told. -/
import Derived.Test.YtgnpklheohaghaaLex8
import Derived.Laws.StructEq
namespace Go.Proofs.Ytgnpklheohaghaa
open Go.RowKit

theorem eql_tok (k k' : Int) (a b : List UInt8) (p p' : Int) (w : World) :
    (Op.equalIn 10000 29 (.agg #[.int .i64 k, .string ⟨a.toArray⟩, .int .i64 p]) (.agg #[.int .i64 k', .string ⟨b.toArray⟩, .int .i64 p'])).run Try.prog w = .ok (decide (k = k' ∧ a = b ∧ p = p')) w := by
  have hu : Try.prog.underlying 29 = some (.struct (Try.prog.fieldsOf 29)) := by kernel_rfl
  have hp : Try.prog.stoodInHeld 29 = false := by kernel_rfl
  rw [show (10000 : Nat) = 9999 + 1 from rfl, run_equalIn_agg w 9999 _ _ _ hu hp]
  clear hu hp
  by_cases h1 : k = k'
  · by_cases h2 : a = b
    · by_cases h3 : p = p'
      · subst h1 h2 h3
        go_simp
      · subst h1 h2
        go_simp
    · subst h1
      go_simp
  · go_simp

theorem flat3 (ts : List Tok) : ∀ (i j : Nat) (t : Tok), ts[i]? = some t → j < 3 → (ts.flatMap tokC)[i * 3 + j]? = (tokC t)[j]? := by
  induction ts with
  | nil => intro i j t h; simp at h
  | cons x ts ih =>
    intro i j t h hj
    rw [List.flatMap_cons]
    cases i with
    | zero =>
      simp at h
      subst h
      rw [Nat.zero_mul, Nat.zero_add, List.getElem?_append_left (by show j < 3; exact hj)]
    | succ i =>
      rw [List.getElem?_append_right (by show 3 ≤ (i + 1) * 3 + j; omega), show (i + 1) * 3 + j - (tokC x).length = i * 3 + j by show (i + 1) * 3 + j - 3 = _; omega]
      exact ih i j t (by simpa using h) hj
theorem ownT_head {w : World} {ao : Option Addr} {cap : Nat} {ts : List Tok} (h : OwnT w ao cap ts) (hne : ts ≠ []) : ∃ g, ao = some ⟨g, 0, none⟩ := by
  rcases h.2 with ⟨_, hn⟩ | ⟨g, cap', cur, hv, _⟩
  · exact absurd (List.eq_nil_of_length_eq_zero hn) hne
  · simp only [Value.slice.injEq] at hv
    exact ⟨g, hv.1⟩
theorem ownT_cells {w : World} {g cap : Nat} {ts : List Tok} (h : OwnT w (some ⟨g, 0, none⟩) cap ts) {i : Nat} {t : Tok} (ht : ts[i]? = some t) :
    w.cell? ⟨g, i * 3, none⟩ = some (.int .i64 t.kind) ∧ w.cell? ⟨g, i * 3 + 1, none⟩ = some (.string ⟨t.text.toArray⟩) ∧ w.cell? ⟨g, i * 3 + 2, none⟩ = some (.int .i64 t.pos) := by
  have hc := fun j v (hv : (ts.flatMap tokC)[j]? = some v) => World.ownsRow.cells h (g := g) rfl j v hv
  have f := fun j (hj : j < 3) => flat3 ts i j t ht hj
  refine ⟨?_, ?_, ?_⟩
  · have := hc (i * 3 + 0) _ ((f 0 (by omega)).trans rfl)
    rwa [add_mid7, Nat.zero_add] at this
  · have := hc (i * 3 + 1) _ ((f 1 (by omega)).trans rfl)
    rwa [add_mid7, Nat.zero_add] at this
  · have := hc (i * 3 + 2) _ ((f 2 (by omega)).trans rfl)
    rwa [add_mid7, Nat.zero_add] at this
theorem ownT_cap {w : World} {ao : Option Addr} {cap : Nat} {ts : List Tok} (h : OwnT w ao cap ts) : ts.length ≤ cap ∧ cap ≤ 9223372036854775807 := by
  rcases h.2 with ⟨hv, hn⟩ | ⟨g, cap', cur, hv, _, _, h1, h2, _⟩
  · simp only [Value.slice.injEq] at hv
    omega
  · simp only [Value.slice.injEq] at hv
    obtain ⟨_, _, rfl⟩ := hv
    exact ⟨h1, h2⟩

def toldS : List UInt8 := [120, 58, 58, 121, 32, 39, 97, 32, 45, 62, 32, 49]
def toldT : List Tok := [⟨1, [120], 0⟩, ⟨5, [58, 58], 1⟩, ⟨1, [121], 3⟩, ⟨3, [97], 5⟩, ⟨5, [45, 62], 8⟩, ⟨4, [49], 11⟩, ⟨0, [], 12⟩]
theorem told_res : lexRes toldS = (toldT, 0, 0) := by decide +kernel
theorem told_res2 : lexRes [32, 48, 49] = ([], 20, 1) := by decide +kernel

set_option maxRecDepth 100000 in
set_option maxHeartbeats 2000000 in
theorem told6_any (w : World) : Calls Try.prog 11 #[] w (SaysTrue w) := by
  go_enter Try.func11, Try.ntmps11
  go_wp2_with fail
  refine (lex_any w toldS (by decide)).mono ?_
  rintro e w1 ⟨h1, _⟩
  rw [told_res] at h1
  obtain ⟨ao, cap, rfl, o1, k1, _⟩ := h1 rfl
  obtain ⟨g, rfl⟩ := ownT_head o1 (by decide)
  clear h1
  go_wp2_with fail
  refine (lex_any w1 [32, 48, 49] (by decide)).mono ?_
  rintro e w2 ⟨_, h2⟩
  rw [told_res2] at h2
  obtain ⟨ev, rfl, hev, k2⟩ := h2 (by decide)
  clear h2
  have o2 := k2.own o1 (fun _ _ h => h)
  obtain ⟨_, c1, _⟩ := ownT_cells o2 (i := 1) (t := ⟨5, [58, 58], 1⟩) rfl
  obtain ⟨c30, c31, c32⟩ := ownT_cells o2 (i := 3) (t := ⟨3, [97], 5⟩) rfl
  obtain ⟨c60, c61, c62⟩ := ownT_cells o2 (i := 6) (t := ⟨0, [], 12⟩) rfl
  have e3 := fun W => eql_tok 3 3 [97] [97] 5 5 W
  have e6 := fun W => eql_tok 0 0 [] [] 12 12 W
  rw [show toldT.length = 7 from rfl]
  clear o1 o2
  go_wp2_with fail
  refine (is_any hev 20 1).mono ?_
  rintro e w3 ⟨rfl, n3, rfl⟩
  go_wp2_with fail
  refine (word_any _ [102, 110]).mono ?_
  rintro e w4 ⟨rfl, hw⟩
  subst w4
  rw [show isWord [102, 110] = true by decide +kernel]
  go_wp2_with fail
  refine (lname_any _ [102, 110] (by decide)).mono ?_
  rintro e w4 ⟨rfl, hw⟩
  subst w4
  rw [show isName [102, 110] = false by decide +kernel]
  go_wp2_with fail
  refine (lname_any _ [102, 110, 120] (by decide)).mono ?_
  rintro e w4 ⟨rfl, hw⟩
  subst w4
  rw [show isName [102, 110, 120] = true by decide +kernel]
  go_wp2_with fail
  go_ret
  exact ⟨rfl, (k1.trans k2 (fun _ h _ => h)).drewN _⟩

end Go.Proofs.Ytgnpklheohaghaa
