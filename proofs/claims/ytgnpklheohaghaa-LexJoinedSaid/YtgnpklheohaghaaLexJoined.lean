/- usufructlaw6.LexJoined: for any two texts the law returns true; no condition. -/
import Derived.Test.YtgnpklheohaghaaRows
import Derived.Test.YtgnpklheohaghaaLex10
import Derived.BigQuiet
import Derived.Deep.QuietTactic
import Derived.ProofKit
import Derived.OpenShut
import Derived.ShutString
import Derived.ChangeOld
import Derived.Below
namespace Go.Proofs.Ytgnpklheohaghaa.lexJoined
open Go.ChangeShapes Go.WideShapes Go.ChangeAt Go.RowKit
open Go.ChangeMaps (open_string shut_string)

theorem own : ownKnob Try.prog.godebug = none := by kernel_rfl
theorem laidOut : laidOutB Try.prog = true := by kernel_rfl


attribute [local go_sem ↓] exec_store_tok
attribute [local go_sem] rowOk_new World.setRow_alloc_new aggOk_tok

set_option maxRecDepth 100000 in
set_option maxHeartbeats 4000000 in
theorem walk (w : World) (a b : List UInt8) (ha : a.length < 9223372036854775808) (hb : b.length < 9223372036854775808) : Calls Try.prog 9 #[.string ⟨a.toArray⟩, .string ⟨b.toArray⟩] w (SaysTrue w) := by
  have hsa : (ByteArray.mk a.toArray).size = a.length := rfl
  have hsb : (ByteArray.mk b.toArray).size = b.length := rfl
  go_enter Try.func9, Try.ntmps9
  by_cases hbig : 1000 < a.length ∨ 1000 < b.length
  · have hc : (1000 : Int) < a.length ∨ (¬ (1000 : Int) < a.length ∧ (1000 : Int) < b.length) := by omega
    rcases hc with hc | ⟨hc, hc2⟩
    all_goals
      go_wp2_with fail
      refine (told6_any _).mono ?_
      rintro e wt ⟨rfl, kt⟩
      go_wp2_with fail
      go_ret
      exact ⟨rfl, kt⟩
  have hc1 : ¬ (1000 : Int) < a.length := by omega
  have hc2 : ¬ (1000 : Int) < b.length := by omega
  have hla : a.length ≤ 1000 := by omega
  have hlb : b.length ≤ 1000 := by omega
  go_wp2_with fail
  refine (lex_any w a (by omega)).mono ?_
  intro e w1 h1
  have h1' := lex_small (by omega) h1
  clear h1
  rcases h1' with ⟨hA, h1⟩ | ⟨p, _, h1⟩
  · obtain ⟨ax, cx, rfl, ox, k1, _⟩ := h1
    have HA := shut hA
    clear hA
    go_wp2_with fail
    refine (lex_any w1 b (by omega)).mono ?_
    intro e w2 h2
    have h2' := lex_small (by omega) h2
    clear h2
    rcases h2' with ⟨hB, h2⟩ | ⟨p, _, h2⟩
    · obtain ⟨ay, cy, rfl, oy, k2, _⟩ := h2
      have HB := shut hB
      clear hB
      have hnl1 : ¬ 9223372036854775807 < a.length + 1 := by omega
      have hsz1 : (⟨(a ++ [10]).toArray⟩ : ByteArray).size = a.length + 1 := by show (a ++ [10]).toArray.size = _; simp
      have hnl2 : ¬ 9223372036854775807 < a.length + 1 + b.length := by omega
      have hs1 : (⟨#[10]⟩ : ByteArray).size = 1 := rfl
      go_wp2_with fail
      rw [cat3]
      refine (lex_any w2 (a ++ 10 :: b) (by simp; omega)).mono ?_
      intro e w3 h3
      have h3' := lex_small (by simp; omega) h3
      have hj := lexL_join a b HA.out HB.out
      clear h3
      rcases h3' with ⟨_, h3⟩ | ⟨p, hp, _⟩
      · obtain ⟨az, cz, rfl, oz, k3, _⟩ := h3
        rw [hj] at oz ⊢
        obtain ⟨hbx, _⟩ := lexL_bd a
        obtain ⟨hby, hpy⟩ := lexL_bd b
        have hxne := lexL_ne HA.out
        obtain ⟨X, hX⟩ : ∃ X, (lexL a).1 = X := ⟨_, rfl⟩
        obtain ⟨Y, hY⟩ : ∃ Y, (lexL b).1 = Y := ⟨_, rfl⟩
        rw [hX] at hbx hxne ox oz ⊢
        rw [hY] at hby hpy oy oz ⊢
        dsimp only at oz ⊢
        clear hX hY hj HA HB
        obtain ⟨nx, hnx⟩ : ∃ nx, X.length = nx + 1 := ⟨X.length - 1, by have : X.length ≠ 0 := fun e => hxne (List.eq_nil_of_length_eq_zero e); omega⟩
        obtain ⟨ny, hny⟩ : ∃ ny, Y.length = ny := ⟨_, rfl⟩
        have hnz : (X.dropLast ++ Y.map (Tok.shift (a.length + 1))).length = nx + ny := by rw [List.length_append, List.length_dropLast, List.length_map, hnx, hny]; omega
        have hz1 : ∀ t, t < nx → (X.dropLast ++ Y.map (Tok.shift (a.length + 1)))[t]? = X[t]? := fun t ht => by
          rw [List.getElem?_append_left (by rw [List.length_dropLast, hnx]; omega), List.getElem?_dropLast, if_pos (by rw [hnx]; omega)]
        have hz2 : ∀ t, nx ≤ t → (X.dropLast ++ Y.map (Tok.shift (a.length + 1)))[t]? = (Y[t - nx]?).map (Tok.shift (a.length + 1)) := fun t ht => by
          rw [List.getElem?_append_right (by rw [List.length_dropLast, hnx]; omega), List.length_dropLast, hnx, Nat.add_sub_cancel, List.getElem?_map]
        obtain ⟨Z, hZ⟩ : ∃ Z, X.dropLast ++ Y.map (Tok.shift (a.length + 1)) = Z := ⟨_, rfl⟩
        rw [hZ] at hnz hz1 hz2 oz ⊢
        have HZ1 := shut hz1
        have HZ2 := shut hz2
        have HNX := shut hnx
        have HNY := shut hny
        have HNZ := shut hnz
        have ox3 := k3.own (k2.own ox (fun _ _ h => h)) (fun _ _ h => h)
        have oy3 := k3.own oy (fun _ _ h => h)
        have K3 := (k1.trans k2 (fun _ h _ => h)).trans k3 (fun _ h _ => h)
        obtain ⟨n1, hn1⟩ : ∃ n1, nx + 1 = n1 := ⟨_, rfl⟩
        obtain ⟨nn, hnn⟩ : ∃ nn, nx + ny = nn := ⟨_, rfl⟩
        rw [hnx, hny, hnz, hn1, hnn]
        have HNN := shut hnn
        have HN1 := shut hn1
        have hbx2 : nx ≤ 1001 := by omega
        have hby2 : ny ≤ 1001 := by omega
        have e1c : (n1 : Int) - 1 = (nx : Int) := by omega
        have e1b := w64 e1c (by omega) (by omega)
        have e0 : wrap64 ((nx : Int) + (ny : Int)) = (nn : Int) := w64 (by omega) (by omega) (by omega)
        have e0c : (nx : Int) + (ny : Int) = (nn : Int) := by omega
        clear hn1 hnn hz1 hz2 hnx hny hnz ox oy k1 k2 k3 hZ hnl1 hnl2 hsz1
        go_wp2_with fail
        have E1 := shut e1b
        have E1c := shut e1c
        clear e1b e1c e0 e0c
        go_loopw [11] (fun s11 wx => ∃ t : Nat, s11 = .int .i64 t ∧ t ≤ nn ∧ Keeps Nothing w3 wx) (fun s11 _ => nn - (intOf s11).toNat)
        case atStart => exact ⟨0, rfl, Nat.zero_le _, Keeps.refl _ _⟩
        case round =>
          obtain ⟨t, rfl, ht, KR⟩ := hrel
          by_cases hlt : t < nn
          · have oz4 := KR.own oz (fun _ _ h => h)
            obtain ⟨gz, rfl⟩ := ownT_head oz4 (by rintro rfl; have := HNZ.out; have h2 := HNN.out; simp at this; omega)
            have m0 : (0 : Int) ≤ t := by omega
            have m1 : (t : Int) < (nn : Int) := by omega
            by_cases h1 : t < nx
            · obtain ⟨x, hx⟩ : ∃ x, X[t]? = some x := ⟨_, List.getElem?_eq_getElem (by have := HNX.out; omega)⟩
              have hzt : Z[t]? = some x := by rw [HZ1.out t h1, hx]
              have ox4 := KR.own ox3 (fun _ _ h => h)
              obtain ⟨gx, rfl⟩ := ownT_head ox4 hxne
              obtain ⟨x0, x1, x2⟩ := ownT_cells ox4 hx
              have m2 : (t : Int) < (nx : Int) := by omega
              have m3 : (t : Int) < (n1 : Int) := by have := HN1.out; omega
              have KA := (Keeps.refl Nothing wr).alloc (.cells #[.int .i64 0, .string ⟨#[]⟩, .int .i64 0] 29)
              replace x0 := KA.cell x0 (fun h => h)
              replace x1 := KA.cell x1 (fun h => h)
              replace x2 := KA.cell x2 (fun h => h)
              have HZT := shut hzt
              have e1b := E1.out
              have e1c := E1c.out
              clear hx hzt ox4 KA
              go_wp2_with fail
              have KW := (Keeps.refl Nothing wr).alloc (.cells #[.int .i64 x.kind, .string ⟨x.text.toArray⟩, .int .i64 x.pos] 29)
              have B12 := blk_new wr #[.int .i64 x.kind, .string ⟨x.text.toArray⟩, .int .i64 x.pos] 29
              have oz5 := KW.own oz4 (fun _ _ h => h)
              obtain ⟨z0, z1, z2⟩ := ownT_cells oz5 HZT.out
              have b0 := blk_cell B12 0 (show (#[.int .i64 x.kind, .string ⟨x.text.toArray⟩, .int .i64 x.pos] : Array Value)[0]? = some (.int .i64 x.kind) from rfl)
              have b1 := blk_cell B12 1 (show (#[.int .i64 x.kind, .string ⟨x.text.toArray⟩, .int .i64 x.pos] : Array Value)[1]? = some (.string ⟨x.text.toArray⟩) from rfl)
              have b2 := blk_cell B12 2 (show (#[.int .i64 x.kind, .string ⟨x.text.toArray⟩, .int .i64 x.pos] : Array Value)[2]? = some (.int .i64 x.pos) from rfl)
              have KR2 := KR.trans KW (fun _ h _ => h)
              have heq := fun W => eql_tok x.kind x.kind x.text x.text x.pos x.pos W
              rw [show decide ((x.kind : Int) = x.kind ∧ x.text = x.text ∧ (x.pos : Int) = x.pos) = true by simp] at heq
              clear x0 x1 x2 oz5 oz4 B12 KW
              generalize wr.alloc (.cells #[.int .i64 x.kind, .string ⟨x.text.toArray⟩, .int .i64 x.pos] 29) = W5 at *
              generalize wr.heap.size = g12 at *
              go_quiet (fail)
              go_wp2_with fail
              go_roundw
              case rel => exact ⟨t + 1, by go_num, by omega, KR2.drewN _⟩
              case measure => simp [intOf]; omega
            · obtain ⟨y, hy⟩ : ∃ y, Y[t - nx]? = some y := ⟨_, List.getElem?_eq_getElem (by have := HNY.out; have := HNN.out; omega)⟩
              have hpos := (hpy y (List.mem_of_getElem? hy)).1
              obtain ⟨x, hxy⟩ : ∃ x, y.shift (a.length + 1) = x := ⟨_, rfl⟩
              have hzt : Z[t]? = some x := by rw [HZ2.out t (by omega), hy, ← hxy]; rfl
              have oy4 := KR.own oy3 (fun _ _ h => h)
              obtain ⟨gy, rfl⟩ := ownT_head oy4 (by rintro rfl; simp at hy)
              obtain ⟨u, hu⟩ : ∃ u, t - nx = u := ⟨_, rfl⟩
              rw [hu] at hy
              obtain ⟨x0, x1, x2⟩ := ownT_cells oy4 hy
              have m2 : ¬ (t : Int) < (nx : Int) := by omega
              have m5 : (0 : Int) ≤ u := by omega
              have m6 : (u : Int) < (ny : Int) := by have := HNN.out; omega
              have hxp : x.pos = y.pos + (a.length + 1) := by rw [← hxy]; rfl
              have hn1 := HN1.out
              obtain ⟨d, hd⟩ : ∃ d : Int, (t : Int) - (n1 : Int) = d := ⟨_, rfl⟩
              have hd2 : d + 1 = (u : Int) := by omega
              obtain ⟨sp, hsp⟩ : ∃ sp : Int, (y.pos : Int) + (a.length : Int) = sp := ⟨_, rfl⟩
              have hsp2 : sp + 1 = (x.pos : Int) := by omega
              have q1 : -9223372036854775808 ≤ d := by omega
              have q2 : d ≤ 9223372036854775807 := by omega
              have q3 : (u : Int) ≤ 9223372036854775807 := by omega
              have q4 : (-9223372036854775808 : Int) ≤ u := by omega
              have q5 : (-9223372036854775808 : Int) ≤ sp := by omega
              have q6 : sp ≤ 9223372036854775807 := by omega
              have q7 : (-9223372036854775808 : Int) ≤ x.pos := by omega
              have q8 : (x.pos : Int) ≤ 9223372036854775807 := by omega
              clear hn1
              have hk : y.kind = x.kind := by rw [← hxy]; rfl
              have htx : y.text = x.text := by rw [← hxy]; rfl
              rw [hk] at x0
              rw [htx] at x1
              have KA := (Keeps.refl Nothing wr).alloc (.cells #[.int .i64 0, .string ⟨#[]⟩, .int .i64 0] 29)
              replace x0 := KA.cell x0 (fun h => h)
              replace x1 := KA.cell x1 (fun h => h)
              replace x2 := KA.cell x2 (fun h => h)
              have HZT := shut hzt
              have HXP := shut hxp
              clear hy hzt oy4 hxy hk htx hu hxp KA
              have e1b := E1.out
              have e1c := E1c.out
              go_wp2_with fail
              have KW := (Keeps.refl Nothing wr).alloc (.cells #[.int .i64 x.kind, .string ⟨x.text.toArray⟩, .int .i64 x.pos] 29)
              have B12 := blk_new wr #[.int .i64 x.kind, .string ⟨x.text.toArray⟩, .int .i64 x.pos] 29
              have oz5 := KW.own oz4 (fun _ _ h => h)
              obtain ⟨z0, z1, z2⟩ := ownT_cells oz5 HZT.out
              have b0 := blk_cell B12 0 (show (#[.int .i64 x.kind, .string ⟨x.text.toArray⟩, .int .i64 x.pos] : Array Value)[0]? = some (.int .i64 x.kind) from rfl)
              have b1 := blk_cell B12 1 (show (#[.int .i64 x.kind, .string ⟨x.text.toArray⟩, .int .i64 x.pos] : Array Value)[1]? = some (.string ⟨x.text.toArray⟩) from rfl)
              have b2 := blk_cell B12 2 (show (#[.int .i64 x.kind, .string ⟨x.text.toArray⟩, .int .i64 x.pos] : Array Value)[2]? = some (.int .i64 x.pos) from rfl)
              have KR2 := KR.trans KW (fun _ h _ => h)
              have heq := fun W => eql_tok x.kind x.kind x.text x.text x.pos x.pos W
              rw [show decide ((x.kind : Int) = x.kind ∧ x.text = x.text ∧ (x.pos : Int) = x.pos) = true by simp] at heq
              clear x0 x1 x2 oz5 oz4 B12 KW
              generalize wr.alloc (.cells #[.int .i64 x.kind, .string ⟨x.text.toArray⟩, .int .i64 x.pos] 29) = W5 at *
              generalize wr.heap.size = g12 at *
              go_quiet (fail)
              go_wp2_with fail
              go_roundw
              case rel => exact ⟨t + 1, by go_num, by omega, KR2.drewN _⟩
              case measure => simp [intOf]; omega
          · go_wp2_with fail
            refine (told6_any _).mono ?_
            rintro e wt ⟨rfl, kt⟩
            go_wp2_with fail
            go_ret
            exact ⟨rfl, (K3.trans KR (fun _ h _ => h)).trans kt (fun _ h _ => h)⟩
      · rw [hj] at hp; cases hp
    · obtain ⟨ev, rfl, hev, k2⟩ := h2
      obtain ⟨bb, rfl⟩ := isErr_yes hev (by decide)
      go_wp2_with fail
      refine (told6_any _).mono ?_
      rintro e wt ⟨rfl, kt⟩
      go_wp2_with fail
      go_ret
      exact ⟨rfl, (k1.trans k2 (fun _ h _ => h)).trans kt (fun _ h _ => h)⟩
  · obtain ⟨ev, rfl, hev, k1⟩ := h1
    obtain ⟨bb, rfl⟩ := isErr_yes hev (by decide)
    go_wp2_with fail
    refine (lex_any w1 b (by omega)).mono ?_
    intro e w2 h2
    have h2' := lex_small (by omega) h2
    clear h2
    rcases h2' with ⟨_, h2⟩ | ⟨p, _, h2⟩
    · obtain ⟨ay, cy, rfl, oy, k2, _⟩ := h2
      go_wp2_with fail
      refine (told6_any _).mono ?_
      rintro e wt ⟨rfl, kt⟩
      go_wp2_with fail
      go_ret
      exact ⟨rfl, (k1.trans k2 (fun _ h _ => h)).trans kt (fun _ h _ => h)⟩
    · obtain ⟨ev2, rfl, hev2, k2⟩ := h2
      go_wp2_with fail
      refine (told6_any _).mono ?_
      rintro e wt ⟨rfl, kt⟩
      go_wp2_with fail
      go_ret
      exact ⟨rfl, (k1.trans k2 (fun _ h _ => h)).trans kt (fun _ h _ => h)⟩
set_option maxRecDepth 100000 in
theorem lifted (os : Os) (started : os.Started) (H : Type) (enc : TypeId × Value → H) :
    ReturnsInHanded {} Try.checked os 9 .any (Rows.lexJoinedSpec.pre6 enc Try.prog Try.f9 Rows.lexJoinedRow.domain false) (Rows.lexJoinedSpec.post enc Try.prog Try.f9 false true false false) := by
  refine returnsInHanded_of_change (C := Try.checked) own started (by kernel_rfl) Try.func9
    (ChangeSpec.witness6 (enc := enc) (C := Try.checked) false ⟨#[], #[.string ⟨#[]⟩, .string ⟨#[]⟩], []⟩ 8 (by kernel_rfl) (by kernel_rfl) (by kernel_rfl) (by kernel_rfl)) ?_
  intro W base args ds gs before hval0 hW hcnd _
  have hval : ∀ (j : Nat) t v, Try.f9.params[j]? = some t → args[j]? = some v → Value.okWide Try.prog W .any base t v := hval0
  have hW' := hW
  obtain ⟨p, q, hA0, hV, rfl, hfz, hnd⟩ := hW
  have hA : DataW.TrodAll enc Try.prog W 0 (fun _ => true) true Try.f9.params.toList args.toList ds p := hA0
  rw [Try.params9] at hA hval
  obtain ⟨v0, vs0, d0, ds0, p0, q0, hargs, rfl, rfl, h0, r0⟩ := trodAll_cons hA
  obtain ⟨v1, vs1, d1, ds1, p1, q1, rfl, rfl, rfl, h1, r1⟩ := trodAll_cons r0
  obtain ⟨rfl, rfl, rfl⟩ := trodAll_nil r1
  obtain rfl : args = #[v0, v1] := by cases args; simp_all
  obtain ⟨rfl, rfl⟩ := trodVars_none hV
  have k0 := h0
  have lt0 : ∀ x ∈ p0, x.block < W.heap.size := by obtain ⟨m, hm⟩ := k0; exact DataW.trod_lt m _ _ _ hm
  have k1 := h1
  have lt1 : ∀ x ∈ p1, x.block < W.heap.size := by obtain ⟨m, hm⟩ := k1; exact DataW.trod_lt m _ _ _ hm
  obtain ⟨s0, rfl, rfl, rfl, hs0⟩ := open_string Try.underlying9 (hval 0 9 v0 rfl rfl) h0
  obtain ⟨s1, rfl, rfl, rfl, hs1⟩ := open_string Try.underlying9 (hval 1 9 v1 rfl rfl) h1
  clear hA0 hval0
  have hw := walk W (bytesOf s0) (bytesOf s1) (by rw [bytesOf_length]; unfold maxLen at hs0; omega) (by rw [bytesOf_length]; unfold maxLen at hs1; omega)
  rw [text_eta, text_eta] at hw
  refine hw.mono fun e W' ⟨he, hk⟩ => ?_
  subst he
  have bel : Below W.heap.size W W' := hk.below (Nat.le_refl _) (fun _ h => h.elim)
  exact ⟨_, rfl, _, _, _, [], _, [], hW', trodAll_mk1 (shut_bool Try.underlying4 _), (trodAll_cons_mk (Below.trod laidOut (by kernel_rfl) (of_decide_eq_true (by kernel_rfl)) k0 bel lt0) (trodAll_cons_mk (Below.trod laidOut (by kernel_rfl) (of_decide_eq_true (by kernel_rfl)) k1 bel lt1) trodAll_mk0)), rfl, bel.frame _, fun h => by cases h⟩

/-- For every input the law returns true, and its arguments read as before. -/
theorem proved : Rows.LexJoinedSaid :=
  OpenClaim.holds_of_wide 9 Try.f9 rfl rfl rfl rfl rfl rfl rfl ⟨rfl, rfl, rfl, rfl, rfl⟩ rfl rfl rfl rfl rfl (by kernel_rfl) Try.func9 (by kernel_rfl)
    (of_decide_eq_true (by kernel_rfl)) (by unfold Func.isWrapper; first | (rw [if_pos (by decide +kernel)]; kernel_rfl) | (rw [if_neg (by decide +kernel)]; exact ⟨rfl, rfl⟩))
    (fun os started H enc _ => lifted os started H enc)
#print axioms proved

end Go.Proofs.Ytgnpklheohaghaa.lexJoined
