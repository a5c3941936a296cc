/- usufructref6.Same. -/
import Derived.Test.YtgnpklheohaghaaLex16
import Derived.BigQuiet
import Derived.Deep.QuietTactic
namespace Go.Proofs.Ytgnpklheohaghaa
open Go.RowKit

set_option maxRecDepth 100000 in
set_option maxHeartbeats 2000000 in
theorem rsame_any (w : World) (ts : List Tok) (hl : ts.length ≤ 1000000000000) {ax ay : Option Addr} {cx cy : Nat} (ox : OwnT w ax cx ts) (oy : OwnT w ay cy ts) :
    Calls Try.prog 15 #[.slice ax ts.length cx, .slice ay ts.length cy] w fun e w' => e = .returned (.bool true) ∧ Keeps Nothing w w' := by
  obtain ⟨n, hn⟩ : ∃ n, ts.length = n := ⟨_, rfl⟩
  rw [hn] at hl ⊢
  have HN := shut hn
  clear hn
  go_enter Try.func15, Try.ntmps15
  go_wp2_with fail
  go_loopw [5] (fun s5 wx => ∃ t : Nat, s5 = .int .i64 t ∧ t ≤ n ∧ Keeps Nothing w wx) (fun s5 _ => n - (intOf s5).toNat)
  case atStart => exact ⟨0, rfl, Nat.zero_le _, Keeps.refl _ _⟩
  case round =>
    obtain ⟨t, rfl, ht, K⟩ := hrel
    by_cases hlt : t < n
    · obtain ⟨x, hx⟩ : ∃ x, ts[t]? = some x := ⟨_, List.getElem?_eq_getElem (by rw [HN.out]; exact hlt)⟩
      have hne : ts ≠ [] := by rintro rfl; cases hx
      have ox2 := K.own ox (fun _ _ h => h)
      have oy2 := K.own oy (fun _ _ h => h)
      obtain ⟨gx, rfl⟩ := ownT_head ox2 hne
      obtain ⟨gy, rfl⟩ := ownT_head oy2 hne
      obtain ⟨x0, x1, x2⟩ := ownT_cells ox2 hx
      obtain ⟨y0, y1, y2⟩ := ownT_cells oy2 hx
      have m0 : (0 : Int) ≤ t := by omega
      have m1 : (t : Int) < n := by omega
      have heq := fun W => eql_tok x.kind x.kind x.text x.text x.pos x.pos W
      rw [show decide ((x.kind : Int) = x.kind ∧ x.text = x.text ∧ (x.pos : Int) = x.pos) = true by simp] at heq
      clear hx hne ox2 oy2
      go_wp2_with fail
      go_quiet (fail)
      go_wp2_with fail
      go_roundw
      case rel => exact ⟨t + 1, by go_num, by omega, K.drewN _⟩
      case measure => simp [intOf]; omega
    · have m1 : ¬ (t : Int) < n := by omega
      go_wp2_with fail
      go_ret
      exact ⟨rfl, K⟩

/-- What the document's Lex returns of a text that is not too long. -/
theorem rlex_small {w : World} {s : List UInt8} (hl : s.length ≤ 1048576) {e : Ending} {w' : World} (h : RLexPost w s e w') :
    ((lexL s).2 = none → ∃ ao cap, e = .returned (.tuple #[.slice ao (lexL s).1.length cap, .int .i64 0, .int .i64 0]) ∧ OwnT w' ao cap (lexL s).1 ∧ Keeps Nothing w w') ∧
    (∀ p, (lexL s).2 = some p → e = .returned (.tuple #[.slice none 0 0, .int .i64 20, .int .i64 (p : Int)]) ∧ Keeps Nothing w w') := by
  have hr := lexRes_small hl
  unfold RLexPost at h
  rw [hr] at h
  refine ⟨fun hx => ?_, fun p hx => ?_⟩
  · rw [hx] at h; exact h.1 rfl
  · rw [hx] at h; exact h.2 (show ¬ (20 : Nat) = 0 by decide)

end Go.Proofs.Ytgnpklheohaghaa
