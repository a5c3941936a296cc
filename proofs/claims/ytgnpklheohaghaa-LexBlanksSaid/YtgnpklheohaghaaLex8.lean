/- lex.Lex. -/
import Derived.Test.YtgnpklheohaghaaLex7
namespace Go.Proofs.Ytgnpklheohaghaa
open Go.RowKit

/-- A row of tokens of its own, made since. -/
def TokRow (w : World) (ts : List Tok) (e : Ending) (w' : World) : Prop := ∃ ao cap, e = .returned (.tuple #[.slice ao ts.length cap, .nilIface]) ∧ OwnT w' ao cap ts ∧ Keeps Nothing w w' ∧ (∀ g, blockOf ao = some g → w.heap.size ≤ g)
def TokErr (w : World) (c p : Nat) (e : Ending) (w' : World) : Prop := ∃ ev, e = .returned (.tuple #[.slice none 0 0, ev]) ∧ IsErr w.heap.size w' ev c p ∧ Keeps Nothing w w'
def lexRes (s : List UInt8) : List Tok × Nat × Nat := if 1048576 < s.length then ([], 5, 0) else match (lexL s).2 with | none => ((lexL s).1, 0, 0) | some p => ([], 20, p)
/-- What Lex returns. -/
def LexPost (w : World) (s : List UInt8) (e : Ending) (w' : World) : Prop := ((lexRes s).2.1 = 0 → TokRow w (lexRes s).1 e w') ∧ ((lexRes s).2.1 ≠ 0 → TokErr w (lexRes s).2.1 (lexRes s).2.2 e w')

theorem new_post (w : World) (c p : Int) (hc : (c == 0) = false) : Calls Try.prog 19 #[.int .i64 c, .int .i64 p] w (ErrPost w c p) := by
  refine (new_err c p w hc).mono ?_
  rintro e w' ⟨rfl, rfl⟩
  exact ⟨_, rfl, isErr_new w c p hc, (Keeps.refl _ _).alloc _⟩
theorem lexF_step (N n : Nat) (c : UInt8) (r : List UInt8) : lexF N (n + 1) (c :: r) = match nextL (c :: r) with | none => ([], some (N - (c :: r).length)) | some (k, t, m) => (⟨k, t, N - (c :: r).length⟩ :: (lexF N n (skipL ((c :: r).drop m))).1, (lexF N n (skipL ((c :: r).drop m))).2) := rfl
theorem skip_suffix (s : List UInt8) : ∀ (n : Nat) (l : List UInt8) (k : Nat), s.drop k = l → k ≤ s.length → s.drop (s.length - (skipF n l).length) = skipF n l := by
  intro n
  induction n with
  | zero =>
    intro l k h hk
    subst h
    show s.drop (s.length - (s.drop k).length) = s.drop k
    rw [List.length_drop, show s.length - (s.length - k) = k by omega]
  | succ n ih =>
    intro l k h hk
    cases l with
    | nil =>
      show s.drop (s.length - 0) = []
      rw [Nat.sub_zero, List.drop_of_length_le (Nat.le_refl _)]
    | cons c r =>
      have hlen := congrArg List.length h
      rw [List.length_drop, List.length_cons] at hlen
      have hr : s.drop (k + 1) = r := by rw [← List.drop_drop, h]; rfl
      rw [skipF]
      split
      · exact ih r (k + 1) hr (by omega)
      · split
        · have hd := dw_len (fun b => decide (b.toNat ≠ 10)) (c :: r)
          have hsuf : (c :: r).dropWhile (fun b => decide (b.toNat ≠ 10)) = s.drop (s.length - ((c :: r).dropWhile (fun b => decide (b.toNat ≠ 10))).length) := by
            exact List.suffix_iff_eq_drop.1 ((List.dropWhile_suffix _).trans (h ▸ List.drop_suffix k s))
          exact ih _ _ hsuf.symm (by omega)
        · rw [← h, List.length_drop, show s.length - (s.length - k) = k by omega]

set_option maxRecDepth 100000 in
set_option maxHeartbeats 4000000 in
theorem lex_any (w : World) (s : List UInt8) (hs : s.length < 9223372036854775806) : Calls Try.prog 10 #[.string ⟨s.toArray⟩] w (LexPost w s) := by
  have hsz0 : (ByteArray.mk s.toArray).size = s.length := rfl
  by_cases hbig : 1048576 < s.length
  · have hlr : lexRes s = ([], 5, 0) := by unfold lexRes; rw [if_pos hbig]
    have m1 : (1048576 : Int) < s.length := by omega
    have HLR := shut hlr
    clear hlr
    go_enter Try.func10, Try.ntmps10
    go_wp2_with fail
    refine (new_post w 5 0 rfl).mono ?_
    rintro e w' ⟨ev, rfl, hev, k⟩
    go_wp2_with fail
    go_ret2
    refine ⟨fun h => ?_, fun _ => ?_⟩
    · rw [HLR.out] at h; cases h
    · rw [HLR.out]; exact ⟨ev, rfl, hev, k⟩
  · have m1 : ¬ (1048576 : Int) < s.length := by omega
    have hlr : lexRes s = match (lexL s).2 with | none => ((lexL s).1, 0, 0) | some p => ([], 20, p) := by unfold lexRes; rw [if_neg hbig]
    have HLR := shut hlr
    have hbl0 := fun W => blanks_any W s hs 0 (Nat.zero_le _)
    rw [List.drop_zero] at hbl0
    clear hlr
    go_enter Try.func10, Try.ntmps10
    go_wp2_with fail
    refine (hbl0 w).mono ?_
    rintro e w' ⟨rfl, hw⟩
    subst w'
    have hsk := skipL_len s
    have hsuf := skip_suffix s (s.length + 1) s 0 List.drop_zero (Nat.zero_le _)
    have HS0 : Shut (s.drop (s.length - (skipL s).length) = skipL s) := shut hsuf
    clear hbl0 hsuf
    have K0 := Keeps.refl Nothing w
    generalize hk0 : s.length - (skipL s).length = k0 at *
    have HK0 := shut hk0
    have hk09 : k0 ≤ s.length := by omega
    clear hk0
    have hend : ∀ (ts : List Tok) (ao : Option Addr) (cap : Nat) (W : World), OwnT W ao cap (ts ++ [⟨0, [], s.length⟩]) → (ts ++ [⟨0, [], s.length⟩], none) = lexL s → Keeps Nothing w W → (∀ g, blockOf ao = some g → w.heap.size ≤ g) → LexPost w s (.returned (.tuple #[.slice ao (ts.length + 1) cap, .nilIface])) W := fun ts ao cap W ho he hk hf => by
      have hr : lexRes s = (ts ++ [⟨0, [], s.length⟩], 0, 0) := by rw [HLR.out, ← he]
      unfold LexPost
      rw [hr]
      exact ⟨fun _ => ⟨ao, cap, by rw [List.length_append]; rfl, ho, hk, hf⟩, fun h => absurd rfl h⟩
    have hbad : ∀ (p : Nat) (ev : Value) (W W1 : World), (lexL s).2 = some p → IsErr W1.heap.size W ev 20 p → w.heap.size ≤ W1.heap.size → Keeps Nothing w W → LexPost w s (.returned (.tuple #[.slice none 0 0, ev])) W := fun p ev W W1 he hev hle hk => by
      have hr : lexRes s = ([], 20, p) := by rw [HLR.out, he]
      unfold LexPost
      rw [hr]
      refine ⟨fun h => ?_, fun _ => ?_⟩
      · exact absurd h (show ¬ (20 : Nat) = 0 by decide)
      · exact ⟨ev, rfl, hev.mono hle, hk⟩
    have HEND := shut hend
    have HBAD := shut hbad
    clear hend hbad
    go_wp2_with fail
    go_loopw [4, 5] (fun s4 s5 wx => ∃ (ts : List Tok) (ao : Option Addr) (cap k : Nat), s5 = .int .i64 k ∧ k ≤ s.length ∧ s4 = .slice ao ts.length cap ∧ OwnT wx ao cap ts ∧ Keeps Nothing w wx ∧ Shut (∀ g, blockOf ao = some g → w.heap.size ≤ g) ∧ ts.length ≤ k ∧
      Shut (lexL s = (ts ++ (lexF s.length (s.length - k + 1) (s.drop k)).1, (lexF s.length (s.length - k + 1) (s.drop k)).2))) (fun _ s5 _ => s.length - (intOf s5).toNat)
    case atStart =>
      refine ⟨[], none, 0, k0, rfl, hk09, rfl, ownT_nil _, K0, shut (fun g hg => by simp [blockOf] at hg), Nat.zero_le _, shut ?_⟩
      rw [HS0.out, List.nil_append]
      unfold lexL
      have h1 := HK0.out
      rw [lexF_more s.length (s.length + 1) (s.length - k0 + 1) (skipL s) (by omega) (by omega)]
    case round =>
      clear K0 HS0
      obtain ⟨ts, ao, cap, k, rfl, hk, rfl, O1, K1, HF, htk, HL⟩ := hrel
      by_cases hlt : k < s.length
      · have hnx := fun W => next_any W s hs k hlt
        obtain ⟨c, hc⟩ : ∃ c, s[k]? = some c := ⟨_, List.getElem?_eq_getElem hlt⟩
        have hdc := drop_cons hc
        have m2 : (k : Int) < s.length := by omega
        have HDC := shut hdc
        have hll : (s.drop k).length = s.length - k := List.length_drop
        have hstep : lexF s.length (s.length - k + 1) (s.drop k) = match nextL (s.drop k) with | none => ([], some (s.length - (s.drop k).length)) | some (kk, t, m) => (⟨kk, t, s.length - (s.drop k).length⟩ :: (lexF s.length (s.length - k) (skipL ((s.drop k).drop m))).1, (lexF s.length (s.length - k) (skipL ((s.drop k).drop m))).2) := by
          rw [hdc]; exact lexF_step _ _ _ _
        rw [hll, show s.length - (s.length - k) = k by omega] at hstep
        have HST := shut hstep
        clear hc hdc hstep
        obtain ⟨R, hR⟩ : ∃ R, nextL (s.drop k) = R := ⟨_, rfl⟩
        rw [hR] at hnx
        have HR := shut hR
        clear hR
        go_wp2_with fail
        refine (hnx _).mono ?_
        rintro e w1 ⟨rfl, k1⟩
        clear hnx
        cases R with
        | none =>
          have hbd : (lexL s).2 = some k := by rw [HL.out, HST.out, HR.out]
          have HBD := shut hbd
          clear hbd
          unfold outT tokA
          go_wp2_with fail
          have kx : Keeps Nothing w (w1.alloc (.cells #[.int .i64 0, .string ⟨#[]⟩, .int .i64 0] 29)) := (K1.trans k1 (fun _ h _ => h)).alloc _
          generalize w1.alloc (.cells #[.int .i64 0, .string ⟨#[]⟩, .int .i64 0] 29) = w2 at *
          refine (new_post w2 20 k rfl).mono ?_
          rintro e w3 ⟨ev, rfl, hev, k3⟩
          go_wp2_with fail
          go_ret2
          exact HBAD.out k ev w3 w2 HBD.out hev kx.size (kx.trans k3 (fun _ h _ => h))
        | some x =>
          obtain ⟨kk, t, m⟩ := x
          obtain ⟨q1, q2⟩ := next_bd HR.out
          rw [hll] at q2
          have hbl := fun W => blanks_any W s hs (k + m) (by omega)
          have hsl := skipL_len (s.drop (k + m))
          rw [List.length_drop] at hsl
          have hdd : (s.drop k).drop m = s.drop (k + m) := by rw [List.drop_drop]
          have hsuf := skip_suffix s ((s.drop (k + m)).length + 1) (s.drop (k + m)) (k + m) rfl (by omega)
          have hsuf2 : s.drop (s.length - (skipL (s.drop (k + m))).length) = skipL (s.drop (k + m)) := hsuf
          obtain ⟨k2, hk2⟩ : ∃ k2, s.length - (skipL (s.drop (k + m))).length = k2 := ⟨_, rfl⟩
          rw [hk2] at hbl hsuf2
          have hk2a : k + m ≤ k2 := by omega
          have hk2b : k2 ≤ s.length := by omega
          have hL2 : lexL s = ((ts ++ [⟨kk, t, k⟩]) ++ (lexF s.length (s.length - k2 + 1) (s.drop k2)).1, (lexF s.length (s.length - k2 + 1) (s.drop k2)).2) := by
            rw [HL.out, HST.out, HR.out]
            dsimp only
            rw [hdd, ← hsuf2]
            rw [lexF_more s.length (s.length - k) (s.length - k2 + 1) (s.drop k2) (by rw [List.length_drop]; omega) (by rw [List.length_drop]; omega)]
            simp
          have HL2 := shut hL2
          obtain ⟨j, hj⟩ : ∃ j, k + m = j := ⟨_, rfl⟩
          have hout : outT k (some (kk, t, m)) = .tuple #[.agg #[.int .i64 kk, .string ⟨t.toArray⟩, .int .i64 k], .int .i64 (j : Int)] := by rw [← hj]; rfl
          rw [hj] at hbl
          have hj0 : ¬ (j : Int) = 0 := by omega
          have hj1 : ((j : Int) == 0) = false := by rw [beq_eq_false_iff_ne]; exact hj0
          rw [hout]
          have O2 : OwnT w1 ao cap ts := k1.own O1 (fun _ _ h => h)
          have KA := K1.trans k1 (fun _ h _ => h)
          have hBt : Blk (w1.alloc (.cells #[.int .i64 kk, .string ⟨t.toArray⟩, .int .i64 k] 29)) w1.heap.size #[.int .i64 kk, .string ⟨t.toArray⟩, .int .i64 k] 29 := blk_new _ _ _
          have hBt2 := blk_new (w1.alloc (.cells #[.int .i64 kk, .string ⟨t.toArray⟩, .int .i64 k] 29)) #[.int .i64 kk, .string ⟨t.toArray⟩, .int .i64 k] 29
          rw [World.size_alloc] at hBt2
          clear hL2 hsuf hsuf2 hk2 hdd hj hout HL HST HR
          go_wp2_with (at_builtin; refine wpList_appT _ rfl (.tmp 28) (.tmp 30) rfl ao cap ts rfl (World.ownsRow.alloc (World.ownsRow.alloc O2 _) _) (w1.heap.size + 1) ⟨kk, t, k⟩ rfl hBt2 (by omega) ?_)
          intro ao2 cap2 w2 o2 k2' m2'
          have K2 : Keeps Nothing w w2 := ((KA.alloc _).alloc _).trans k2' (fun i hi hlt => by have := HF.out i hi; omega)
          have HF2 := shut (m2'.new (by have := KA.size; first | omega | (simp only [World.size_alloc]; omega)) HF.out)
          clear k2' m2' hBt hBt2 O1 O2 K1 k1 KA
          go_wp2_with fail
          refine (hbl w2).mono ?_
          rintro e w3 ⟨rfl, hw⟩
          subst w3
          go_wp2_with fail
          go_roundw
          case rel => exact ⟨ts ++ [⟨kk, t, k⟩], ao2, cap2, k2, rfl, hk2b, by simp, o2, K2, HF2, by simp; omega, HL2⟩
          case measure => simp [intOf]; omega
      · have hkN : k = s.length := by omega
        have hd : s.drop k = [] := List.drop_of_length_le (by omega)
        have hfin : (ts ++ [⟨0, [], s.length⟩], none) = lexL s := by rw [HL.out, hd]; rfl
        have HFN := shut hfin
        have hBt := blk_new wr #[.int .i64 0, .string ⟨([] : List UInt8).toArray⟩, .int .i64 (s.length : Int)] 29
        clear hfin HL hd
        go_wp2_with (at_builtin; refine wpList_appT _ rfl (.tmp 35) (.tmp 39) rfl ao cap ts rfl (World.ownsRow.alloc O1 _) wr.heap.size ⟨0, [], s.length⟩ rfl hBt (by omega) ?_)
        intro ao2 cap2 w2 o2 k2' m2'
        have K2 : Keeps Nothing w w2 := (K1.alloc _).trans k2' (fun i hi hlt => by have := HF.out i hi; omega)
        have hf2 := m2'.new (by have := K1.size; first | omega | (simp only [World.size_alloc]; omega)) HF.out
        go_wp2_with fail
        go_ret2
        exact HEND.out ts ao2 cap2 w2 o2 HFN.out K2 hf2

end Go.Proofs.Ytgnpklheohaghaa
