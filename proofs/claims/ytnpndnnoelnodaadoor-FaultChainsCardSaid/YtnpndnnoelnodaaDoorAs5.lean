/- fault.New as a chain; usufructlaw1.told. -/
import Derived.Test.YtnpndnnoelnodaaDoorAs4
namespace Go.Proofs.YtnpndnnoelnodaaDoor
open Go.RowKit Go.Extern.Stop Go.Stop Go.Extern

theorem new_zero (p : Int) (w : World) : Calls Tryd.prog 7 #[.int .i64 0, .int .i64 p] w fun e w' => e = .returned .nilIface ∧ w' = w := by
  go_enter Tryd.func7, Tryd.ntmps7
  go_wp2_with fail
  go_ret
  exact ⟨rfl, rfl⟩
theorem new_chain (c p : Int) (hc : (c == 0) = false) (w : World) :
    Calls Tryd.prog 7 #[.int .i64 c, .int .i64 p] w fun e w' => ∃ b, e = .returned (.iface 34 (.pointer (some ⟨b, 0, none⟩))) ∧ w.heap.size ≤ b ∧ FChain w' c [p] (.iface 34 (.pointer (some ⟨b, 0, none⟩))) ∧ Keeps Nothing w w' := by
  refine (new_err c p w hc).mono fun e w' ⟨he, hw⟩ => ?_
  subst hw
  exact ⟨_, he, Nat.le_refl _, chain_new w c p, (Keeps.refl _ _).alloc _⟩
theorem ints_new (w : World) (a b : Int) : IntsAt (w.alloc (.cells #[.int .i64 a, .int .i64 b] 3)) (some ⟨w.heap.size, 0, none⟩) [a, b] :=
  ⟨fun e => (by cases e), fun x e j z hj => by
    obtain rfl := Option.some.inj e
    match j, hj with
    | 0, hj => simp at hj; subst hj; exact blk_cell (blk_new w _ _) 0 rfl
    | 1, hj => simp at hj; subst hj; exact blk_cell (blk_new w _ _) 1 rfl⟩
theorem ints_one (w : World) (a : Int) : IntsAt (w.alloc (.cells #[.int .i64 a] 3)) (some ⟨w.heap.size, 0, none⟩) [a] :=
  ⟨fun e => (by cases e), fun x e j z hj => by
    obtain rfl := Option.some.inj e
    match j, hj with
    | 0, hj => simp at hj; subst hj; exact blk_cell (blk_new w _ _) 0 rfl⟩
theorem ints_none (w : World) : IntsAt w none [] := ⟨fun _ => rfl, fun _ e => (by cases e)⟩

set_option maxRecDepth 100000 in
set_option maxHeartbeats 1000000 in
theorem told1_any {w : World} (hg : ErrVar w) : Calls Tryd.prog 6 #[] w fun e w' => e = .returned (.bool true) ∧ Keeps Nothing w w' := by
  go_enter Tryd.func6, Tryd.ntmps6
  go_wp2_with fail
  refine (new_chain 22 7 rfl _).mono ?_
  rintro e w1 ⟨b1, rfl, -, h1, k1⟩
  go_wp2_with fail
  refine (in_chain h1 (hg.keeps k1) 3).mono ?_
  rintro e w2 ⟨b2, rfl, -, h2, k2⟩
  have K2 := k1.trans k2 (fun _ h _ => h)
  have G2 := hg.keeps K2
  clear h1 k1 k2
  go_wp2_with fail
  refine (new_zero 5 _).mono ?_
  rintro e w3 ⟨rfl, rfl⟩
  go_wp2_with fail
  refine (in_nil 5 _).mono ?_
  rintro e w3 ⟨rfl, rfl⟩
  go_wp2_with fail
  refine (code_chain h2 G2).mono ?_
  rintro e w4 ⟨rfl, k4⟩
  have hat := at_chain (h2.keeps k4) (G2.keeps k4)
  rw [show ([3, 7] : List Int).getLastD 0 = 7 from rfl] at hat
  go_wp2_with fail
  refine hat.mono ?_
  rintro e w5 ⟨rfl, k5⟩
  have K5 := k4.trans k5 (fun _ h _ => h)
  clear hat
  go_wp2_with fail
  refine (path_chain (h2.keeps K5) (G2.keeps K5) (by simp)).mono ?_
  rintro e w6 ⟨ao, cap, rfl, o6, -, k6⟩
  have K6 := K5.trans k6 (fun _ h _ => h)
  have ka := (Keeps.refl Nothing w6).alloc (.cells #[.int .i64 3, .int .i64 7] 3)
  have hin := ints_any cap 2 (xs := [3, 7]) (ys := [3, 7]) rfl rfl (by simp) (ownI_at (o6.keeps ka)) (ints_new w6 3 7)
  rw [show (([3, 7] : List Int) == [3, 7]) = true from rfl] at hin
  rw [show ([3, 7] : List Int).length = 2 from rfl]
  go_wp2_with fail
  refine hin.mono ?_
  rintro e w7 ⟨rfl, k7⟩
  have K7 := (K6.trans ka (fun _ h _ => h)).trans k7 (fun _ h _ => h)
  clear hin ka o6 k6 k7 K5
  go_wp2_with fail
  refine (fis_chain 22 (h2.keeps K7)).mono ?_
  rintro e w8 ⟨rfl, rfl⟩
  go_wp2_with fail
  refine (fis_chain 1 (h2.keeps K7)).mono ?_
  rintro e w9 ⟨rfl, rfl⟩
  go_wp2_with fail
  refine (fis_nil 0 _).mono ?_
  rintro e w10 ⟨rfl, rfl⟩
  go_wp2_with fail
  refine (code_nil _).mono ?_
  rintro e w11 ⟨rfl, rfl⟩
  go_wp2_with fail
  go_ret
  exact ⟨rfl, K2.trans K7 (fun _ h _ => h)⟩

end Go.Proofs.YtnpndnnoelnodaaDoor
