/- merkle.turned. -/
import Derived.Test.YtdmfomjgmmkaeaaMerk9
namespace Go.Proofs.Ytdmfomjgmmkaeaa
open Go.RowKit

set_option maxRecDepth 100000 in
set_option maxHeartbeats 2000000 in
theorem turned_any {w : World} {ao : Option Addr} {cap : Nat} {rows : List (List UInt8)} {vs : List Value} (h : OwnS w ao cap rows vs) {n : Nat} (hn : rows.length = n) (hn9 : n ≤ 1000000) :
    Calls Try.prog 60 #[.slice ao n cap] w fun e w' => ∃ ao' cap' vs', e = .returned (.slice ao' n cap') ∧ OwnS w' ao' cap' rows.reverse vs' ∧ Keeps Nothing w w' := by
  have HN := shut hn
  clear hn
  go_enter Try.func60, Try.ntmps60
  go_wp2_with fail
  go_loopw [3, 4] (fun s3 s4 wx => ∃ (t : Nat) (a2 : Option Addr) (c2 : Nat) (v2 : List Value), s3 = .slice a2 t c2 ∧ s4 = .int .i64 ((n : Int) - 1 - (t : Int)) ∧ t ≤ n ∧ OwnS wx a2 c2 (rows.reverse.take t) v2 ∧ Keeps Nothing w wx ∧ Shut (∀ g, blockOf a2 = some g → w.heap.size ≤ g)) (fun _ s4 _ => (intOf s4 + 1).toNat)
  case atStart => exact ⟨0, none, 0, [], rfl, by simp, Nat.zero_le _, by rw [List.take_zero]; exact ownS_nil w, Keeps.refl _ _, shut (fun g hg => by simp [blockOf] at hg)⟩
  case round =>
    obtain ⟨t, a2, c2, v2, rfl, rfl, ht, O2, K2, HF⟩ := hrel
    have hrl : (rows.reverse.take t).length = t := by rw [List.length_take, List.length_reverse, HN.out]; omega
    by_cases hlt : t < n
    · obtain ⟨j, hj⟩ : ∃ j : Nat, (n : Int) - 1 - (t : Int) = (j : Int) := ⟨n - 1 - t, by omega⟩
      have hjn : j < n := by omega
      obtain ⟨l, hl⟩ : ∃ l, rows[j]? = some l := ⟨_, List.getElem?_eq_getElem (by rw [HN.out]; exact hjn)⟩
      have h2 := h.keepsN K2
      obtain ⟨al, cl, hv, hol⟩ := h2.each j l hl
      rcases ownS_head h2 with e4 | ⟨g4, e4⟩
      · have h9 := h2.own.2
        rw [e4] at h9
        rcases h9 with ⟨_, hn0⟩ | ⟨g', cap', cur, hv', _⟩
        · rw [HN.out] at hn0; omega
        · simp at hv'
      · subst e4
        have hcell := World.ownsRow.cells h2.own (g := g4) rfl j _ hv
        rw [Addr.add_mid', Nat.zero_add] at hcell
        have hrev : rows.reverse.take (t + 1) = rows.reverse.take t ++ [l] := by
          have h5 : rows.reverse[t]? = some l := by
            rw [List.getElem?_reverse (by rw [HN.out]; exact hlt), HN.out, show n - 1 - t = j by omega]
            exact hl
          rw [List.take_add_one, h5]; rfl
        have HREV := shut hrev
        rw [hj]
        have j0 : (0 : Int) ≤ j := by omega
        have j1 : (j : Int) < n := by omega
        obtain ⟨L, hL⟩ : ∃ L, l.length = L := ⟨_, rfl⟩
        rw [hL] at hcell
        have O3 := O2.keepsN ((Keeps.refl _ _).alloc (.cells #[.slice al L cl] 22))
        have D3 := blk_new wr #[.slice al L cl] 22
        have o3 : Own8 (wr.alloc (.cells #[.slice al L cl] 22)) 5 al cl l := World.ownsRow.alloc hol _
        clear hl hv hol hrev h2
        go_wp2_with (at_builtin; refine wpList_appS _ rfl (.tmp 12) (.tmp 17) rfl a2 c2 (rows.reverse.take t) v2 t hrl rfl O3 wr.heap.size l al cl hL rfl D3 o3 (by omega) ?_)
        intro a5 c5 w5 o5 k5 m5
        have K5 : Keeps Nothing w w5 := (K2.alloc _).trans k5 (fun i hi hlt => by have := HF.out i hi; omega)
        have HF5 := shut (m5.new (B := w.heap.size) (by have := K2.size; first | omega | (simp only [World.size_alloc]; omega)) HF.out)
        rw [← HREV.out] at o5
        clear O2 K2 HF O3 D3 o3 k5 m5 hcell hrl
        have e9 : (j : Int) - 1 = (n : Int) - 1 - ((t + 1 : Nat) : Int) := by omega
        go_wp2_with fail
        go_roundw
        case rel => exact ⟨t + 1, a5, c5, _, by simp, by first | (simp; done) | (simp; omega), by omega, o5, K5, HF5⟩
        case measure => simp [intOf]; omega
    · have htn : t = n := by omega
      rw [htn] at O2 hrl ⊢
      rw [show (n : Int) - 1 - (n : Int) = -1 by omega]
      rw [List.take_of_length_le (by rw [List.length_reverse, HN.out]; exact Nat.le_refl _)] at O2
      clear hrl htn ht hlt
      go_wp2_with fail
      go_ret
      exact ⟨a2, c2, v2, rfl, O2, K2⟩

end Go.Proofs.Ytdmfomjgmmkaeaa
