/- usufructlaw6.LexCovers: for any text the law returns true; no condition. -/
import Derived.Test.YtgnpklheohaghaaRows
import Derived.Test.YtgnpklheohaghaaLex12
import Derived.Test.YtgnpklheohaghaaMix
import Derived.BigQuiet
import Derived.Deep.QuietTactic
import Derived.ProofKit
import Derived.OpenShut
import Derived.ShutString
import Derived.ChangeOld
import Derived.Below
namespace Go.Proofs.Ytgnpklheohaghaa.lexCovers
open Go.ChangeShapes Go.WideShapes Go.ChangeAt Go.RowKit
open Go.ChangeMaps (open_string shut_string)

theorem own : ownKnob Try.prog.godebug = none := by kernel_rfl
theorem laidOut : laidOutB Try.prog = true := by kernel_rfl


/-- One token: where it stands, and what comes behind it. -/
theorem cover_step {s : List UInt8} {T : List Tok} {e i : Nat} (hi : i < T.length) (h : (∃ k, Chain s e k (T.drop i)) ∨ (i = T.length ∧ e = s.length)) :
    ∃ (t : Tok) (n : Nat), T[i]? = some t ∧ e ≤ t.pos ∧ t.pos + n ≤ s.length ∧ s.drop t.pos = skipL (s.drop e) ∧ t.text.length ≤ n ∧ (t.kind = 0 ↔ i + 1 = T.length) ∧ t.text = (s.drop (t.pos + n - t.text.length)).take t.text.length ∧
      ((t.kind = 3 ∧ n = t.text.length + 1) ∨ (t.kind ≠ 3 ∧ n = t.text.length)) ∧ ((∃ k, Chain s (t.pos + n) k (T.drop (i + 1))) ∨ (i + 1 = T.length ∧ t.pos + n = s.length)) := by
  rcases h with ⟨k, hk⟩ | ⟨h1, _⟩
  · have hdl : (T.drop i).length = T.length - i := List.length_drop
    rcases chain_step hk with ⟨hkn, hts⟩ | ⟨kk, m, t, ts', k', hts, hne, hch, hkm, htm, hk0, htx, hsh⟩
    · rw [hts] at hdl
      simp at hdl
      have hti : T[i]? = some ⟨0, [], s.length⟩ := by
        have : (T.drop i)[0]? = some ⟨0, [], s.length⟩ := by rw [hts]; rfl
        rwa [List.getElem?_drop, Nat.add_zero] at this
      refine ⟨⟨0, [], s.length⟩, 0, hti, by have := hk.ek; show e ≤ s.length; omega, by show s.length + 0 ≤ s.length; omega, by rw [← hkn]; exact hk.sk, Nat.zero_le _, ⟨fun _ => by omega, fun _ => rfl⟩, ?_, .inr ⟨by show (0 : Nat) ≠ 3; decide, rfl⟩, .inr ⟨by omega, rfl⟩⟩
      simp
    · rw [hts] at hdl
      simp only [List.length_cons] at hdl
      have hne' : ts'.length ≠ 0 := fun q => hne (List.eq_nil_of_length_eq_zero q)
      have hti : T[i]? = some ⟨kk, t, k⟩ := by
        have : (T.drop i)[0]? = some ⟨kk, t, k⟩ := by rw [hts]; rfl
        rwa [List.getElem?_drop, Nat.add_zero] at this
      have hd1 : T.drop (i + 1) = ts' := by rw [← List.drop_drop, hts]; rfl
      exact ⟨⟨kk, t, k⟩, m, hti, hk.ek, hkm, hk.sk, htm, ⟨fun q => absurd q hk0, fun q => by omega⟩, htx, hsh, .inl ⟨k', by rw [hd1]; exact hch⟩⟩
  · omega
theorem cover_end {s : List UInt8} {T : List Tok} {e : Nat} (h : (∃ k, Chain s e k (T.drop T.length)) ∨ (T.length = T.length ∧ e = s.length)) : e = s.length := by
  rcases h with ⟨k, hk⟩ | ⟨_, h⟩
  · have ht := hk.toks
    rw [List.drop_of_length_le (Nat.le_refl _)] at ht
    have := lexF_ne s.length (s.length - k + 1) (s.drop k) (by rw [List.length_drop]; omega) (by rw [ht])
    rw [ht] at this
    exact absurd rfl this
  · exact h

attribute [local go_sem ↓] exec_store_tok
attribute [local go_sem] rowOk_new World.setRow_alloc_new aggOk_tok

set_option maxRecDepth 100000 in
set_option maxHeartbeats 4000000 in
theorem walk (w : World) (s : List UInt8) (hs : s.length < 9223372036854775808) : Calls Try.prog 6 #[.string ⟨s.toArray⟩] w (SaysTrue w) := by
  have hsz : (ByteArray.mk s.toArray).size = s.length := rfl
  go_enter Try.func6, Try.ntmps6
  by_cases hbig : 3000 < s.length
  · have hc : (3000 : Int) < s.length := by omega
    go_wp2_with fail
    refine (told6_any _).mono ?_
    rintro e wt ⟨rfl, kt⟩
    go_wp2_with fail
    go_ret
    exact ⟨rfl, kt⟩
  have hc1 : ¬ (3000 : Int) < s.length := by omega
  have hla : s.length ≤ 3000 := by omega
  go_wp2_with fail
  refine (lex_any w s (by omega)).mono ?_
  intro e w1 h1
  have h1' := lex_small (by omega) h1
  clear h1
  rcases h1' with ⟨hA, h1⟩ | ⟨p, _, h1⟩
  · obtain ⟨ao, cap, rfl, o1, k1, _⟩ := h1
    have hne := lexL_ne hA
    obtain ⟨hbd, _⟩ := lexL_bd s
    obtain ⟨g, rfl⟩ := ownT_head o1 hne
    obtain ⟨k0, hch⟩ := chain_start hA
    obtain ⟨T, hT⟩ : ∃ T, (lexL s).1 = T := ⟨_, rfl⟩
    rw [hT] at o1 hbd hch ⊢
    obtain ⟨nT, hnT⟩ : ∃ nT, T.length = nT := ⟨_, rfl⟩
    rw [hnT] at hbd ⊢
    have HNT := shut hnT
    have START : Shut ((∃ k, Chain s 0 k (T.drop 0)) ∨ (0 = nT ∧ 0 = s.length)) := shut (.inl ⟨k0, hch⟩)
    clear hA hne hT hnT hch
    go_wp2_with fail
    go_loopw [5, 6] (fun s5 s6 wx => ∃ e i : Nat, s5 = .int .i64 e ∧ s6 = .int .i64 i ∧ i ≤ nT ∧ e ≤ s.length ∧ Keeps Nothing w1 wx ∧ Shut ((∃ k, Chain s e k (T.drop i)) ∨ (i = nT ∧ e = s.length))) (fun _ s6 _ => nT - (intOf s6).toNat)
    case atStart => exact ⟨0, 0, rfl, rfl, Nat.zero_le _, Nat.zero_le _, Keeps.refl _ _, START⟩
    case round =>
      clear START
      obtain ⟨e, i, rfl, rfl, hi, he, KR, HC⟩ := hrel
      by_cases hlt : i < nT
      · have hcs := cover_step (s := s) (T := T) (e := e) (i := i) (by rw [HNT.out]; exact hlt) (by rw [HNT.out]; exact HC.out)
        rw [HNT.out] at hcs
        obtain ⟨t, n, hti, hek, hkn0, hsk, htl, hk0, htx, hsh, hnx⟩ := hcs
        have NXT := shut hnx
        have GAP : Shut (Gap s t.pos e false) := shut (by unfold Gap; simpa using hsk.symm)
        obtain ⟨a0, a1, a2⟩ := ownT_cells (KR.own o1 (fun _ _ h => h)) hti
        have hkn : t.pos ≤ s.length := by omega
        have m0 : (0 : Int) ≤ i := by omega
        have m1 : (i : Int) < nT := by omega
        obtain ⟨tl, htl2⟩ : ∃ tl, t.text.length = tl := ⟨_, rfl⟩
        rw [htl2] at htl htx hsh
        have ztx : (⟨t.text.toArray⟩ : ByteArray).size = tl := htl2
        have hcut0 := str_cut s (i := t.pos + n - tl) (n := tl) (j := t.pos + n) (by omega) (by omega)
        rw [← htx] at hcut0
        obtain ⟨p4, hp4⟩ : ∃ p4, t.pos + n - tl = p4 := ⟨_, rfl⟩
        obtain ⟨p3, hp3⟩ : ∃ p3, t.pos + n = p3 := ⟨_, rfl⟩
        rw [hp4, hp3] at hcut0
        obtain ⟨d1, hd1⟩ : ∃ d1 : Int, (s.length : Int) - (t.pos : Int) = d1 := ⟨_, rfl⟩
        obtain ⟨d2, hd2⟩ : ∃ d2 : Int, (nT : Int) - 1 = d2 := ⟨_, rfl⟩
        have x1 : ¬ (t.pos : Int) < e := by omega
        have x2 : ¬ (s.length : Int) < t.pos := by omega
        have x3 : ¬ d1 < (n : Int) := by omega
        have x4 : ((i : Int) == d2) = ((t.kind : Int) == 0) := by
          rw [Bool.eq_iff_iff, beq_iff_eq, beq_iff_eq]
          omega
        have x5 : (t.pos : Int) + (n : Int) = (p3 : Int) := by omega
        have x6 : (p3 : Int) - (tl : Int) = (p4 : Int) := by omega
        have b1' : -9223372036854775808 ≤ d1 ∧ d1 ≤ 9223372036854775807 := by omega
        have b2' : -9223372036854775808 ≤ d2 ∧ d2 ≤ 9223372036854775807 := by omega
        have b3' : -9223372036854775808 ≤ (p3 : Int) ∧ (p3 : Int) ≤ 9223372036854775807 := by omega
        have b4' : -9223372036854775808 ≤ (p4 : Int) ∧ (p4 : Int) ≤ 9223372036854775807 := by omega
        have hn3 : n ≤ 3000 := by omega
        have E1 := shut (show IntKind.i64.wrap ((s.length : Int) - (t.pos : Int)) = d1 by rw [hd1]; exact IntWalk.i64_in _ b1')
        have E2 := shut (show IntKind.i64.wrap ((nT : Int) - 1) = d2 by rw [hd2]; exact IntWalk.i64_in _ b2')
        have E3 := shut (show IntKind.i64.wrap ((t.pos : Int) + (n : Int)) = (p3 : Int) by rw [x5]; exact IntWalk.i64_in _ b3')
        have E4 := shut (show IntKind.i64.wrap ((p3 : Int) - (tl : Int)) = (p4 : Int) by rw [x6]; exact IntWalk.i64_in _ b4')
        have X := shut (And.intro x1 (And.intro x2 (And.intro x3 x4)))
        have HP3 := shut hp3
        have HTX := shut htx
        have HCUT := shut hcut0
        clear b1' b2' b3' b4' x1 x2 x3 x4 x5 x6 hd1 hd2 hp3 hp4 htx hnx hsk hk0 hti htl2 hcut0
        rcases hsh with ⟨k3, hn1⟩ | ⟨k3, hn1⟩
        · have y1 : ((t.kind : Int) == 3) = true := by rw [beq_iff_eq]; omega
          have y2 : (tl : Int) + 1 = (n : Int) := by omega
          have y3 : (tl : Int) ≤ 3000 := by omega
          clear k3 hn1
          go_wp2_with fail
          have KW := (Keeps.refl Nothing wr).alloc (.cells #[.int .i64 t.kind, .string ⟨t.text.toArray⟩, .int .i64 t.pos] 29)
          have BB := blk_new wr #[.int .i64 t.kind, .string ⟨t.text.toArray⟩, .int .i64 t.pos] 29
          have b0 := blk_cell BB 0 (show (#[.int .i64 t.kind, .string ⟨t.text.toArray⟩, .int .i64 t.pos] : Array Value)[0]? = some (.int .i64 t.kind) from rfl)
          have b1 := blk_cell BB 1 (show (#[.int .i64 t.kind, .string ⟨t.text.toArray⟩, .int .i64 t.pos] : Array Value)[1]? = some (.string ⟨t.text.toArray⟩) from rfl)
          have b2 := blk_cell BB 2 (show (#[.int .i64 t.kind, .string ⟨t.text.toArray⟩, .int .i64 t.pos] : Array Value)[2]? = some (.int .i64 t.pos) from rfl)
          have KR2 := KR.trans KW (fun _ h _ => h)
          clear a0 a1 a2 BB KW
          generalize wr.alloc (.cells #[.int .i64 t.kind, .string ⟨t.text.toArray⟩, .int .i64 t.pos] 29) = W5 at *
          generalize wr.heap.size = g7 at *
          obtain ⟨x1, x2, x3, x4⟩ := X.out
          have e1 := E1.out
          have e2 := E2.out
          have e3 := E3.out
          have e4 := E4.out
          have hcut := HCUT.out
          refine wp_region_mix (fun W => W.cell? ⟨g7, 0, none⟩ = some (.int .i64 t.kind) ∧ W.cell? ⟨g7, 1, none⟩ = some (.string ⟨t.text.toArray⟩) ∧ W.cell? ⟨g7, 2, none⟩ = some (.int .i64 t.pos)) [(true, 0), (true, 1), (true, 2), (true, 3), (true, 4), (true, 5), (true, 6), (true, 7), (true, 8), (true, 9), (true, 10), (true, 11), (true, 12), (true, 13), (true, 14), (true, 15), (true, 16), (true, 17), (true, 18), (true, 19), (true, 20), (true, 21), (true, 22), (true, 23), (true, 24), (true, 25), (true, 26), (true, 27), (true, 28), (true, 29), (true, 30), (true, 31), (true, 32), (true, 33), (true, 34), (true, 35), (true, 36), (true, 37), (true, 38), (true, 39), (true, 40), (true, 41), (true, 42), (true, 43), (true, 44), (true, 45), (true, 46), (true, 47), (true, 48), (true, 49)] (by kernel_rfl) (by kernel_rfl) ⟨b0, b1, b2⟩ ?_
          simp only [mixItems, List.map_cons, List.map_nil, List.getD_cons_zero, List.getD_cons_succ]
          change wpMix _ _ _ _ _ _ W5.drew
          have b0' : W5.drew.cell? ⟨g7, 0, none⟩ = some (.int .i64 t.kind) := b0
          have b2' : W5.drew.cell? ⟨g7, 2, none⟩ = some (.int .i64 t.pos) := b2
          have KR3 := KR2.drew
          clear b0 b1 b2 KR2
          generalize W5.drew = W6 at *
          repeat (refine wpMix_free (fun K hK => ?_); go_simp; refine hK _ ?_; clear hK K)
          refine wpMix_yield (v := .int .i64 t.pos) (fun W hW => ?_) (fun K hK => ?_)
          · have c2 := hW.2.2
            go_simp
          go_simp
          refine hK _ ?_
          clear hK K
          repeat (refine wpMix_free (fun K hK => ?_); go_simp; refine hK _ ?_; clear hK K)
          refine wpMix_yield (v := .int .i64 t.pos) (fun W hW => ?_) (fun K hK => ?_)
          · have c2 := hW.2.2
            go_simp
          go_simp
          refine hK _ ?_
          clear hK K
          repeat (refine wpMix_free (fun K hK => ?_); go_simp; refine hK _ ?_; clear hK K)
          refine wpMix_yield (v := .int .i64 t.pos) (fun W hW => ?_) (fun K hK => ?_)
          · have c2 := hW.2.2
            go_simp
          go_simp
          refine hK _ ?_
          clear hK K
          repeat (refine wpMix_free (fun K hK => ?_); go_simp; refine hK _ ?_; clear hK K)
          refine wpMix_yield (v := .int .i64 t.kind) (fun W hW => ?_) (fun K hK => ?_)
          · have c2 := hW.1
            go_simp
          go_simp
          refine hK _ ?_
          clear hK K
          repeat (refine wpMix_free (fun K hK => ?_); go_simp; refine hK _ ?_; clear hK K)
          refine wpMix_yield (v := .int .i64 t.pos) (fun W hW => ?_) (fun K hK => ?_)
          · have c2 := hW.2.2
            go_simp
          go_simp
          refine hK _ ?_
          clear hK K
          repeat (refine wpMix_free (fun K hK => ?_); go_simp; refine hK _ ?_; clear hK K)
          refine wpMix_yield (v := .string ⟨t.text.toArray⟩) (fun W hW => ?_) (fun K hK => ?_)
          · have c2 := hW.2.1
            go_simp
          go_simp
          refine hK _ ?_
          clear hK K
          repeat (refine wpMix_free (fun K hK => ?_); go_simp; refine hK _ ?_; clear hK K)
          refine wpMix_yield (v := .int .i64 t.pos) (fun W hW => ?_) (fun K hK => ?_)
          · have c2 := hW.2.2
            go_simp
          go_simp
          refine hK _ ?_
          clear hK K
          repeat (refine wpMix_free (fun K hK => ?_); go_simp; refine hK _ ?_; clear hK K)
          refine wpMix_yield (v := .string ⟨t.text.toArray⟩) (fun W hW => ?_) (fun K hK => ?_)
          · have c2 := hW.2.1
            go_simp
          go_simp
          refine hK _ ?_
          clear hK K
          repeat (refine wpMix_free (fun K hK => ?_); go_simp; refine hK _ ?_; clear hK K)
          refine wpMix_nil ?_
          clear e1 e2 e3 e4 hcut
          go_wp2_with fail
          clear x1 x2 x3 x4
          have KR4 := shut KR3
          have z1 : (t.pos < e) = False := eq_false (by omega)
          have z2 : (s.length < t.pos) = False := eq_false (by omega)
          have z3 : (d1 < (n : Int)) = False := eq_false (by have := X.out; omega)
          simp only [z1, z2, z3, decide_false, Bool.or_self]
          clear z1 z2 z3 X E1 E2 E3 E4 HTX HCUT
          go_loopw [9, 10] (fun s9 s10 wx => ∃ (j : Nat) (mk : Bool), s9 = .bool mk ∧ s10 = .int .i64 j ∧ j ≤ t.pos ∧ Shut (Gap s t.pos j mk) ∧ wx = W6) (fun _ s10 _ => t.pos - (intOf s10).toNat)
          case atStart => exact ⟨e, false, rfl, rfl, hek, GAP, rfl⟩
          case round =>
            obtain ⟨j, mk, rfl, rfl, hj, HGAP, rfl⟩ := hrel
            by_cases hlt2 : j < t.pos
            · obtain ⟨c, hc⟩ : ∃ c, s[j]? = some c := ⟨_, List.getElem?_eq_getElem (by omega)⟩
              have hix := fun kk W => str_at s hc kk W
              have hcl := c.toNat_lt
              have m1 : (j : Int) < t.pos := by omega
              have hj9 : j ≤ 3000 := by omega
              rcases gap_step HGAP.out hlt2 hkn hc with ⟨rfl, h10, hg⟩ | ⟨rfl, h10, hg⟩ | ⟨rfl, h3, hg⟩ | ⟨rfl, h47, hj1, hc1, hg⟩
              · have HG := shut hg
                have p1 : (c.toNat : Int) = 10 := by omega
                have p2 : ((c.toNat : Int) == 10) = true := by rw [beq_iff_eq]; exact p1
                clear hg hc h10
                go_wp2_with fail
                go_roundw
                case rel => exact ⟨j + 1, false, rfl, by go_num, by omega, HG, by first | rfl | trivial⟩
                case measure => simp [intOf]; omega
              · have HG := shut hg
                have p1 : ¬ (c.toNat : Int) = 10 := by omega
                have p2 : ((c.toNat : Int) == 10) = false := by rw [beq_eq_false_iff_ne]; exact p1
                clear hg hc h10
                go_wp2_with fail
                go_roundw
                case rel => exact ⟨j + 1, true, by first | rfl | (simp [bne, p2]; done) | (simp [bne, p1]; done), by go_num, by omega, HG, by first | rfl | trivial⟩
                case measure => simp [intOf]; omega
              · have HG := shut hg
                have p47 : ((c.toNat : Int) == 47) = false := by rw [beq_eq_false_iff_ne]; omega
                have q47 : ¬ (c.toNat : Int) = 47 := by omega
                clear hg hc
                rcases h3 with h3 | h3 | h3
                · have p1 : ((c.toNat : Int) == 10) = false := by rw [beq_eq_false_iff_ne]; omega
                  have p2 : ((c.toNat : Int) == 32) = true := by rw [beq_iff_eq]; omega
                  have r1 : ¬ (c.toNat : Int) = 10 := by omega
                  have r2 : (c.toNat : Int) = 32 := by omega
                  clear h3
                  go_wp2_with fail
                  go_roundw
                  case rel => exact ⟨j + 1, false, rfl, by go_num, by omega, HG, by first | rfl | trivial⟩
                  case measure => simp [intOf]; omega
                · have p1 : ((c.toNat : Int) == 10) = false := by rw [beq_eq_false_iff_ne]; omega
                  have p2 : ((c.toNat : Int) == 32) = false := by rw [beq_eq_false_iff_ne]; omega
                  have p3 : ((c.toNat : Int) == 9) = true := by rw [beq_iff_eq]; omega
                  have r1 : ¬ (c.toNat : Int) = 10 := by omega
                  have r2 : ¬ (c.toNat : Int) = 32 := by omega
                  have r3 : (c.toNat : Int) = 9 := by omega
                  clear h3
                  go_wp2_with fail
                  go_roundw
                  case rel => exact ⟨j + 1, false, rfl, by go_num, by omega, HG, by first | rfl | trivial⟩
                  case measure => simp [intOf]; omega
                · have p1 : ((c.toNat : Int) == 10) = true := by rw [beq_iff_eq]; omega
                  have r1 : (c.toNat : Int) = 10 := by omega
                  clear h3
                  go_wp2_with fail
                  go_roundw
                  case rel => exact ⟨j + 1, false, rfl, by go_num, by omega, HG, by first | rfl | trivial⟩
                  case measure => simp [intOf]; omega
              · have HG := shut hg
                obtain ⟨j1, hj1'⟩ : ∃ j1, j + 1 = j1 := ⟨_, rfl⟩
                rw [hj1'] at hc1 hj1
                have hix1 := fun kk W => str_at s hc1 kk W
                rw [show ((47 : UInt8).toNat : Int) = 47 from rfl] at hix1
                have p1 : ((c.toNat : Int) == 10) = false := by rw [beq_eq_false_iff_ne]; omega
                have p2 : ((c.toNat : Int) == 47) = true := by rw [beq_iff_eq]; omega
                have p3 : (j : Int) + 1 = (j1 : Int) := by omega
                have p4 : (j1 : Int) < t.pos := by omega
                have p5 : (j1 : Int) ≤ 3000 := by omega
                have r1 : ¬ (c.toNat : Int) = 10 := by omega
                have r2 : (c.toNat : Int) = 47 := by omega
                clear hg hc hc1 h47
                go_wp2_with fail
                go_roundw
                case rel => exact ⟨j + 1, true, by first | rfl | (simp [bne, p2]; done) | (simp [bne, p1]; done), by first | go_num | (simp; omega), by omega, HG, by first | rfl | trivial⟩
                case measure => simp [intOf]; omega
            · have hjk : ¬ (j : Int) < t.pos := by omega
              go_wp2_with fail
              go_roundw
              case rel => exact ⟨t.pos + n, i + 1, by first | go_num | (simp; omega), by go_num, by omega, by omega, KR4.out, NXT⟩
              case measure => simp [intOf]; omega
        · have y1 : ((t.kind : Int) == 3) = false := by rw [beq_eq_false_iff_ne]; omega
          have y2 : (tl : Int) = (n : Int) := by omega
          clear k3
          subst hn1
          go_wp2_with fail
          have KW := (Keeps.refl Nothing wr).alloc (.cells #[.int .i64 t.kind, .string ⟨t.text.toArray⟩, .int .i64 t.pos] 29)
          have BB := blk_new wr #[.int .i64 t.kind, .string ⟨t.text.toArray⟩, .int .i64 t.pos] 29
          have b0 := blk_cell BB 0 (show (#[.int .i64 t.kind, .string ⟨t.text.toArray⟩, .int .i64 t.pos] : Array Value)[0]? = some (.int .i64 t.kind) from rfl)
          have b1 := blk_cell BB 1 (show (#[.int .i64 t.kind, .string ⟨t.text.toArray⟩, .int .i64 t.pos] : Array Value)[1]? = some (.string ⟨t.text.toArray⟩) from rfl)
          have b2 := blk_cell BB 2 (show (#[.int .i64 t.kind, .string ⟨t.text.toArray⟩, .int .i64 t.pos] : Array Value)[2]? = some (.int .i64 t.pos) from rfl)
          have KR2 := KR.trans KW (fun _ h _ => h)
          clear a0 a1 a2 BB KW
          generalize wr.alloc (.cells #[.int .i64 t.kind, .string ⟨t.text.toArray⟩, .int .i64 t.pos] 29) = W5 at *
          generalize wr.heap.size = g7 at *
          obtain ⟨x1, x2, x3, x4⟩ := X.out
          have e1 := E1.out
          have e2 := E2.out
          have e3 := E3.out
          have e4 := E4.out
          have hcut := HCUT.out
          refine wp_region_mix (fun W => W.cell? ⟨g7, 0, none⟩ = some (.int .i64 t.kind) ∧ W.cell? ⟨g7, 1, none⟩ = some (.string ⟨t.text.toArray⟩) ∧ W.cell? ⟨g7, 2, none⟩ = some (.int .i64 t.pos)) [(true, 0), (true, 1), (true, 2), (true, 3), (true, 4), (true, 5), (true, 6), (true, 7), (true, 8), (true, 9), (true, 10), (true, 11), (true, 12), (true, 13), (true, 14), (true, 15), (true, 16), (true, 17), (true, 18), (true, 19), (true, 20), (true, 21), (true, 22), (true, 23), (true, 24), (true, 25), (true, 26), (true, 27), (true, 28), (true, 29), (true, 30), (true, 31), (true, 32), (true, 33), (true, 34), (true, 35), (true, 36), (true, 37), (true, 38), (true, 39), (true, 40), (true, 41), (true, 42), (true, 43), (true, 44), (true, 45), (true, 46), (true, 47), (true, 48), (true, 49)] (by kernel_rfl) (by kernel_rfl) ⟨b0, b1, b2⟩ ?_
          simp only [mixItems, List.map_cons, List.map_nil, List.getD_cons_zero, List.getD_cons_succ]
          change wpMix _ _ _ _ _ _ W5.drew
          have b0' : W5.drew.cell? ⟨g7, 0, none⟩ = some (.int .i64 t.kind) := b0
          have b2' : W5.drew.cell? ⟨g7, 2, none⟩ = some (.int .i64 t.pos) := b2
          have KR3 := KR2.drew
          clear b0 b1 b2 KR2
          generalize W5.drew = W6 at *
          repeat (refine wpMix_free (fun K hK => ?_); go_simp; refine hK _ ?_; clear hK K)
          refine wpMix_yield (v := .int .i64 t.pos) (fun W hW => ?_) (fun K hK => ?_)
          · have c2 := hW.2.2
            go_simp
          go_simp
          refine hK _ ?_
          clear hK K
          repeat (refine wpMix_free (fun K hK => ?_); go_simp; refine hK _ ?_; clear hK K)
          refine wpMix_yield (v := .int .i64 t.pos) (fun W hW => ?_) (fun K hK => ?_)
          · have c2 := hW.2.2
            go_simp
          go_simp
          refine hK _ ?_
          clear hK K
          repeat (refine wpMix_free (fun K hK => ?_); go_simp; refine hK _ ?_; clear hK K)
          refine wpMix_yield (v := .int .i64 t.pos) (fun W hW => ?_) (fun K hK => ?_)
          · have c2 := hW.2.2
            go_simp
          go_simp
          refine hK _ ?_
          clear hK K
          repeat (refine wpMix_free (fun K hK => ?_); go_simp; refine hK _ ?_; clear hK K)
          refine wpMix_yield (v := .int .i64 t.kind) (fun W hW => ?_) (fun K hK => ?_)
          · have c2 := hW.1
            go_simp
          go_simp
          refine hK _ ?_
          clear hK K
          repeat (refine wpMix_free (fun K hK => ?_); go_simp; refine hK _ ?_; clear hK K)
          refine wpMix_yield (v := .int .i64 t.pos) (fun W hW => ?_) (fun K hK => ?_)
          · have c2 := hW.2.2
            go_simp
          go_simp
          refine hK _ ?_
          clear hK K
          repeat (refine wpMix_free (fun K hK => ?_); go_simp; refine hK _ ?_; clear hK K)
          refine wpMix_yield (v := .string ⟨t.text.toArray⟩) (fun W hW => ?_) (fun K hK => ?_)
          · have c2 := hW.2.1
            go_simp
          go_simp
          refine hK _ ?_
          clear hK K
          repeat (refine wpMix_free (fun K hK => ?_); go_simp; refine hK _ ?_; clear hK K)
          refine wpMix_yield (v := .int .i64 t.pos) (fun W hW => ?_) (fun K hK => ?_)
          · have c2 := hW.2.2
            go_simp
          go_simp
          refine hK _ ?_
          clear hK K
          repeat (refine wpMix_free (fun K hK => ?_); go_simp; refine hK _ ?_; clear hK K)
          refine wpMix_yield (v := .string ⟨t.text.toArray⟩) (fun W hW => ?_) (fun K hK => ?_)
          · have c2 := hW.2.1
            go_simp
          go_simp
          refine hK _ ?_
          clear hK K
          repeat (refine wpMix_free (fun K hK => ?_); go_simp; refine hK _ ?_; clear hK K)
          refine wpMix_nil ?_
          clear e1 e2 e3 e4 hcut
          go_wp2_with fail
          clear x1 x2 x3 x4
          have KR4 := shut KR3
          have z1 : (t.pos < e) = False := eq_false (by omega)
          have z2 : (s.length < t.pos) = False := eq_false (by omega)
          have z3 : (d1 < (n : Int)) = False := eq_false (by have := X.out; omega)
          simp only [z1, z2, z3, decide_false, Bool.or_self]
          clear z1 z2 z3 X E1 E2 E3 E4 HTX HCUT
          go_loopw [9, 10] (fun s9 s10 wx => ∃ (j : Nat) (mk : Bool), s9 = .bool mk ∧ s10 = .int .i64 j ∧ j ≤ t.pos ∧ Shut (Gap s t.pos j mk) ∧ wx = W6) (fun _ s10 _ => t.pos - (intOf s10).toNat)
          case atStart => exact ⟨e, false, rfl, rfl, hek, GAP, rfl⟩
          case round =>
            obtain ⟨j, mk, rfl, rfl, hj, HGAP, rfl⟩ := hrel
            by_cases hlt2 : j < t.pos
            · obtain ⟨c, hc⟩ : ∃ c, s[j]? = some c := ⟨_, List.getElem?_eq_getElem (by omega)⟩
              have hix := fun kk W => str_at s hc kk W
              have hcl := c.toNat_lt
              have m1 : (j : Int) < t.pos := by omega
              have hj9 : j ≤ 3000 := by omega
              rcases gap_step HGAP.out hlt2 hkn hc with ⟨rfl, h10, hg⟩ | ⟨rfl, h10, hg⟩ | ⟨rfl, h3, hg⟩ | ⟨rfl, h47, hj1, hc1, hg⟩
              · have HG := shut hg
                have p1 : (c.toNat : Int) = 10 := by omega
                have p2 : ((c.toNat : Int) == 10) = true := by rw [beq_iff_eq]; exact p1
                clear hg hc h10
                go_wp2_with fail
                go_roundw
                case rel => exact ⟨j + 1, false, rfl, by go_num, by omega, HG, by first | rfl | trivial⟩
                case measure => simp [intOf]; omega
              · have HG := shut hg
                have p1 : ¬ (c.toNat : Int) = 10 := by omega
                have p2 : ((c.toNat : Int) == 10) = false := by rw [beq_eq_false_iff_ne]; exact p1
                clear hg hc h10
                go_wp2_with fail
                go_roundw
                case rel => exact ⟨j + 1, true, by first | rfl | (simp [bne, p2]; done) | (simp [bne, p1]; done), by go_num, by omega, HG, by first | rfl | trivial⟩
                case measure => simp [intOf]; omega
              · have HG := shut hg
                have p47 : ((c.toNat : Int) == 47) = false := by rw [beq_eq_false_iff_ne]; omega
                have q47 : ¬ (c.toNat : Int) = 47 := by omega
                clear hg hc
                rcases h3 with h3 | h3 | h3
                · have p1 : ((c.toNat : Int) == 10) = false := by rw [beq_eq_false_iff_ne]; omega
                  have p2 : ((c.toNat : Int) == 32) = true := by rw [beq_iff_eq]; omega
                  have r1 : ¬ (c.toNat : Int) = 10 := by omega
                  have r2 : (c.toNat : Int) = 32 := by omega
                  clear h3
                  go_wp2_with fail
                  go_roundw
                  case rel => exact ⟨j + 1, false, rfl, by go_num, by omega, HG, by first | rfl | trivial⟩
                  case measure => simp [intOf]; omega
                · have p1 : ((c.toNat : Int) == 10) = false := by rw [beq_eq_false_iff_ne]; omega
                  have p2 : ((c.toNat : Int) == 32) = false := by rw [beq_eq_false_iff_ne]; omega
                  have p3 : ((c.toNat : Int) == 9) = true := by rw [beq_iff_eq]; omega
                  have r1 : ¬ (c.toNat : Int) = 10 := by omega
                  have r2 : ¬ (c.toNat : Int) = 32 := by omega
                  have r3 : (c.toNat : Int) = 9 := by omega
                  clear h3
                  go_wp2_with fail
                  go_roundw
                  case rel => exact ⟨j + 1, false, rfl, by go_num, by omega, HG, by first | rfl | trivial⟩
                  case measure => simp [intOf]; omega
                · have p1 : ((c.toNat : Int) == 10) = true := by rw [beq_iff_eq]; omega
                  have r1 : (c.toNat : Int) = 10 := by omega
                  clear h3
                  go_wp2_with fail
                  go_roundw
                  case rel => exact ⟨j + 1, false, rfl, by go_num, by omega, HG, by first | rfl | trivial⟩
                  case measure => simp [intOf]; omega
              · have HG := shut hg
                obtain ⟨j1, hj1'⟩ : ∃ j1, j + 1 = j1 := ⟨_, rfl⟩
                rw [hj1'] at hc1 hj1
                have hix1 := fun kk W => str_at s hc1 kk W
                rw [show ((47 : UInt8).toNat : Int) = 47 from rfl] at hix1
                have p1 : ((c.toNat : Int) == 10) = false := by rw [beq_eq_false_iff_ne]; omega
                have p2 : ((c.toNat : Int) == 47) = true := by rw [beq_iff_eq]; omega
                have p3 : (j : Int) + 1 = (j1 : Int) := by omega
                have p4 : (j1 : Int) < t.pos := by omega
                have p5 : (j1 : Int) ≤ 3000 := by omega
                have r1 : ¬ (c.toNat : Int) = 10 := by omega
                have r2 : (c.toNat : Int) = 47 := by omega
                clear hg hc hc1 h47
                go_wp2_with fail
                go_roundw
                case rel => exact ⟨j + 1, true, by first | rfl | (simp [bne, p2]; done) | (simp [bne, p1]; done), by first | go_num | (simp; omega), by omega, HG, by first | rfl | trivial⟩
                case measure => simp [intOf]; omega
            · have hjk : ¬ (j : Int) < t.pos := by omega
              go_wp2_with fail
              go_roundw
              case rel => exact ⟨t.pos + n, i + 1, by first | go_num | (simp; omega), by go_num, by omega, by omega, KR4.out, NXT⟩
              case measure => simp [intOf]; omega
      · have hin : i = nT := by omega
        have hfin : e = s.length := cover_end (T := T) (by rw [HNT.out]; have := HC.out; rw [hin] at this; exact this)
        have HF := shut hfin
        have mm : ¬ (i : Int) < nT := by omega
        clear hin
        go_wp2_with fail
        refine (told6_any _).mono ?_
        rintro e2 wt ⟨rfl, kt⟩
        have hb : ((e : Int) == (s.length : Int)) = true := by rw [beq_iff_eq, HF.out]
        clear hfin
        go_wp2_with fail
        go_ret
        exact ⟨rfl, (k1.trans KR (fun _ h _ => h)).trans kt (fun _ h _ => h)⟩
  · obtain ⟨ev, rfl, hev, k1⟩ := h1
    obtain ⟨bb, rfl⟩ := isErr_yes hev (by decide)
    go_wp2_with fail
    refine (told6_any _).mono ?_
    rintro e wt ⟨rfl, kt⟩
    go_wp2_with fail
    go_ret
    exact ⟨rfl, k1.trans kt (fun _ h _ => h)⟩
set_option maxRecDepth 100000 in
theorem lifted (os : Os) (started : os.Started) (H : Type) (enc : TypeId × Value → H) :
    ReturnsInHanded {} Try.checked os 6 .any (Rows.lexCoversSpec.pre6 enc Try.prog Try.f6 Rows.lexCoversRow.domain false) (Rows.lexCoversSpec.post enc Try.prog Try.f6 false true false false) := by
  refine returnsInHanded_of_change (C := Try.checked) own started (by kernel_rfl) Try.func6
    (ChangeSpec.witness6 (enc := enc) (C := Try.checked) false ⟨#[], #[.string ⟨#[]⟩], []⟩ 8 (by kernel_rfl) (by kernel_rfl) (by kernel_rfl) (by kernel_rfl)) ?_
  intro W base args ds gs before hval0 hW hcnd _
  have hval : ∀ (j : Nat) t v, Try.f6.params[j]? = some t → args[j]? = some v → Value.okWide Try.prog W .any base t v := hval0
  have hW' := hW
  obtain ⟨p, q, hA0, hV, rfl, hfz, hnd⟩ := hW
  have hA : DataW.TrodAll enc Try.prog W 0 (fun _ => true) true Try.f6.params.toList args.toList ds p := hA0
  rw [Try.params6] at hA hval
  obtain ⟨v0, vs0, d0, ds0, p0, q0, hargs, rfl, rfl, h0, r0⟩ := trodAll_cons hA
  obtain ⟨rfl, rfl, rfl⟩ := trodAll_nil r0
  obtain rfl : args = #[v0] := by cases args; simp_all
  obtain ⟨rfl, rfl⟩ := trodVars_none hV
  have k0 := h0
  have lt0 : ∀ x ∈ p0, x.block < W.heap.size := by obtain ⟨m, hm⟩ := k0; exact DataW.trod_lt m _ _ _ hm
  obtain ⟨s0, rfl, rfl, rfl, hs0⟩ := open_string Try.underlying9 (hval 0 9 v0 rfl rfl) h0
  clear hA0 hval0
  have hw := walk W (bytesOf s0) (by rw [bytesOf_length]; unfold maxLen at hs0; omega)
  rw [text_eta] at hw
  refine hw.mono fun e W' ⟨he, hk⟩ => ?_
  subst he
  have bel : Below W.heap.size W W' := hk.below (Nat.le_refl _) (fun _ h => h.elim)
  exact ⟨_, rfl, _, _, _, [], _, [], hW', trodAll_mk1 (shut_bool Try.underlying4 _), (trodAll_cons_mk (Below.trod laidOut (by kernel_rfl) (of_decide_eq_true (by kernel_rfl)) k0 bel lt0) trodAll_mk0), rfl, bel.frame _, fun h => by cases h⟩

/-- For every input the law returns true, and its arguments read as before. -/
theorem proved : Rows.LexCoversSaid :=
  OpenClaim.holds_of_wide 6 Try.f6 rfl rfl rfl rfl rfl rfl rfl ⟨rfl, rfl, rfl, rfl, rfl⟩ rfl rfl rfl rfl rfl (by kernel_rfl) Try.func6 (by kernel_rfl)
    (of_decide_eq_true (by kernel_rfl)) (by unfold Func.isWrapper; first | (rw [if_pos (by decide +kernel)]; kernel_rfl) | (rw [if_neg (by decide +kernel)]; exact ⟨rfl, rfl⟩))
    (fun os started H enc _ => lifted os started H enc)
#print axioms proved

end Go.Proofs.Ytgnpklheohaghaa.lexCovers
