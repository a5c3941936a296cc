/- usufructlaw6.LexReads: for any text the law returns true; no condition. -/
import Derived.Test.YtgnpklheohaghaaRows
import Derived.Test.YtgnpklheohaghaaLex17
import Derived.ProofKit
import Derived.OpenShut
import Derived.ShutString
import Derived.ChangeOld
import Derived.Below
namespace Go.Proofs.Ytgnpklheohaghaa.lexReads
open Go.ChangeShapes Go.WideShapes Go.ChangeAt Go.RowKit
open Go.ChangeMaps (open_string shut_string)

theorem own : ownKnob Try.prog.godebug = none := by kernel_rfl
theorem laidOut : laidOutB Try.prog = true := by kernel_rfl


set_option maxRecDepth 100000 in
set_option maxHeartbeats 2000000 in
theorem walk (w : World) (s : List UInt8) (hs : s.length < 9223372036854775808) : Calls Try.prog 4 #[.string ⟨s.toArray⟩] w (SaysTrue w) := by
  have hsz : (ByteArray.mk s.toArray).size = s.length := rfl
  by_cases hbig : 3000 < s.length
  · have m1 : (3000 : Int) < s.length := by omega
    go_enter Try.func4, Try.ntmps4
    go_wp2_with fail
    refine (told6_any _).mono ?_
    rintro e w1 ⟨rfl, k1⟩
    go_wp2_with fail
    go_ret
    exact ⟨rfl, k1⟩
  · have m1 : ¬ (3000 : Int) < s.length := by omega
    have hb1 := (lexL_bd s).1
    go_enter Try.func4, Try.ntmps4
    go_wp2_with fail
    refine (lex_any w s (by omega)).mono ?_
    intro e w1 h1
    have h1' := lex_small (by omega) h1
    clear h1
    rcases h1' with ⟨hA, h1⟩ | ⟨p, hp, h1⟩
    · obtain ⟨ax, cx, rfl, ox, k1, _⟩ := h1
      go_wp2_with fail
      refine (rlex_any w1 s (by omega)).mono ?_
      intro e w2 h2
      have h2' := (rlex_small (by omega) h2).1 hA
      clear h2
      obtain ⟨ay, cy, rfl, oy, k2⟩ := h2'
      have HA := shut hA
      clear hA
      generalize (lexL s).1 = T at *
      go_wp2_with fail
      refine (told6_any _).mono ?_
      rintro e w3 ⟨rfl, k3⟩
      go_wp2_with fail
      refine (rsame_any w3 T (by omega) ((k2.trans k3 (fun _ h _ => h)).own ox (fun _ _ h => h)) (k3.own oy (fun _ _ h => h))).mono ?_
      rintro e w4 ⟨rfl, k4⟩
      go_wp2_with fail
      refine (is_any (isErr_nil 0 w4) 0 0).mono ?_
      rintro e w5 ⟨rfl, n5, rfl⟩
      rw [show decide ((0 : Int) = 0 ∧ (0 : Int) = 0) = true from rfl]
      go_wp2_with fail
      go_ret
      exact ⟨rfl, (((k1.trans k2 (fun _ h _ => h)).trans k3 (fun _ h _ => h)).trans k4 (fun _ h _ => h)).drewN _⟩
    · obtain ⟨ev, rfl, hev, k1⟩ := h1
      go_wp2_with fail
      refine (rlex_any w1 s (by omega)).mono ?_
      intro e w2 h2
      obtain ⟨rfl, k2⟩ := (rlex_small (by omega) h2).2 p hp
      have HP := shut hp
      clear h2 hp
      go_wp2_with fail
      refine (told6_any _).mono ?_
      rintro e w3 ⟨rfl, k3⟩
      go_wp2_with fail
      refine (rsame_any w3 [] (by simp) (ownT_nil w3) (ownT_nil w3)).mono ?_
      rintro e w4 ⟨rfl, k4⟩
      have k24 := (k2.trans k3 (fun _ h _ => h)).trans k4 (fun _ h _ => h)
      have hev4 := IsErr.keeps hev k24 (fun _ h => h.elim)
      go_wp2_with fail
      refine (is_any hev4 20 p).mono ?_
      rintro e w5 ⟨rfl, n5, rfl⟩
      rw [show decide (((20 : Nat) : Int) = 20 ∧ (p : Int) = p) = true by simp]
      go_wp2_with fail
      go_ret
      exact ⟨rfl, (k1.trans k24 (fun _ h _ => h)).drewN _⟩
set_option maxRecDepth 100000 in
theorem lifted (os : Os) (started : os.Started) (H : Type) (enc : TypeId × Value → H) :
    ReturnsInHanded {} Try.checked os 4 .any (Rows.lexReadsSpec.pre6 enc Try.prog Try.f4 Rows.lexReadsRow.domain false) (Rows.lexReadsSpec.post enc Try.prog Try.f4 false true false false) := by
  refine returnsInHanded_of_change (C := Try.checked) own started (by kernel_rfl) Try.func4
    (ChangeSpec.witness6 (enc := enc) (C := Try.checked) false ⟨#[], #[.string ⟨#[]⟩], []⟩ 8 (by kernel_rfl) (by kernel_rfl) (by kernel_rfl) (by kernel_rfl)) ?_
  intro W base args ds gs before hval0 hW hcnd _
  have hval : ∀ (j : Nat) t v, Try.f4.params[j]? = some t → args[j]? = some v → Value.okWide Try.prog W .any base t v := hval0
  have hW' := hW
  obtain ⟨p, q, hA0, hV, rfl, hfz, hnd⟩ := hW
  have hA : DataW.TrodAll enc Try.prog W 0 (fun _ => true) true Try.f4.params.toList args.toList ds p := hA0
  rw [Try.params4] at hA hval
  obtain ⟨v0, vs0, d0, ds0, p0, q0, hargs, rfl, rfl, h0, r0⟩ := trodAll_cons hA
  obtain ⟨rfl, rfl, rfl⟩ := trodAll_nil r0
  obtain rfl : args = #[v0] := by cases args; simp_all
  obtain ⟨rfl, rfl⟩ := trodVars_none hV
  have k0 := h0
  have lt0 : ∀ x ∈ p0, x.block < W.heap.size := by obtain ⟨m, hm⟩ := k0; exact DataW.trod_lt m _ _ _ hm
  obtain ⟨s0, rfl, rfl, rfl, hs0⟩ := open_string Try.underlying9 (hval 0 9 v0 rfl rfl) h0
  clear hA0 hval0
  have hw := walk W (bytesOf s0) (by rw [bytesOf_length]; unfold maxLen at hs0; omega)
  rw [text_eta] at hw
  refine hw.mono fun e W' ⟨he, hk⟩ => ?_
  subst he
  have bel : Below W.heap.size W W' := hk.below (Nat.le_refl _) (fun _ h => h.elim)
  exact ⟨_, rfl, _, _, _, [], _, [], hW', trodAll_mk1 (shut_bool Try.underlying4 _), (trodAll_cons_mk (Below.trod laidOut (by kernel_rfl) (of_decide_eq_true (by kernel_rfl)) k0 bel lt0) trodAll_mk0), rfl, bel.frame _, fun h => by cases h⟩

/-- For every input the law returns true, and its arguments read as before. -/
theorem proved : Rows.LexReadsSaid :=
  OpenClaim.holds_of_wide 4 Try.f4 rfl rfl rfl rfl rfl rfl rfl ⟨rfl, rfl, rfl, rfl, rfl⟩ rfl rfl rfl rfl rfl (by kernel_rfl) Try.func4 (by kernel_rfl)
    (of_decide_eq_true (by kernel_rfl)) (by unfold Func.isWrapper; first | (rw [if_pos (by decide +kernel)]; kernel_rfl) | (rw [if_neg (by decide +kernel)]; exact ⟨rfl, rfl⟩))
    (fun os started H enc _ => lifted os started H enc)
#print axioms proved

end Go.Proofs.Ytgnpklheohaghaa.lexReads
