/- lex.blanks, Lex. -/
import Derived.Test.YtgnpklheohaghaaLex6
import Derived.Deep.LoopGhost
namespace Go.Proofs.Ytgnpklheohaghaa
open Go.RowKit

theorem idx10 (l : List UInt8) : (Lib.indexByte l 10 = -1 ∧ l.dropWhile (fun b => decide (b.toNat ≠ 10)) = []) ∨ ∃ o : Nat, Lib.indexByte l 10 = o ∧ o ≤ l.length ∧ l.dropWhile (fun b => decide (b.toNat ≠ 10)) = l.drop o := by
  induction l with
  | nil => exact .inl ⟨rfl, rfl⟩
  | cons b l ih =>
    rw [Lib.indexByte, List.dropWhile_cons]
    by_cases hb : b = 10
    · subst hb
      exact .inr ⟨0, rfl, Nat.zero_le _, rfl⟩
    · have h1 : (b == 10) = false := by simpa using hb
      have h2 : decide (b.toNat ≠ 10) = true := decide_eq_true (fun e => hb (UInt8.toNat_inj.mp (by rw [e]; rfl)))
      rw [h1, if_pos h2, if_neg (by decide)]
      rcases ih with ⟨i1, i2⟩ | ⟨o, i1, i2, i3⟩
      · rw [i1]; exact .inl ⟨rfl, i2⟩
      · rw [i1]
        refine .inr ⟨o + 1, ?_, by simp only [List.length_cons]; omega, i3⟩
        rw [if_neg (by simp <;> omega)]
        omega

set_option maxHeartbeats 2000000 in
theorem blanks_any (w : World) (s : List UInt8) (hs : s.length < 9223372036854775806) (i : Nat) (hi : i ≤ s.length) :
    Calls Try.prog 20 #[.string ⟨s.toArray⟩, .int .i64 (i : Int)] w fun e w' => e = .returned (.int .i64 ((s.length - (skipL (s.drop i)).length : Nat) : Int)) ∧ w' = w := by
  have hsz0 : (ByteArray.mk s.toArray).size = s.length := rfl
  go_enter Try.func20, Try.ntmps20
  go_wp2_with fail
  go_loopw [1] (fun s1 wx => ∃ k : Nat, s1 = .int .i64 k ∧ k ≤ s.length ∧ Shut (skipL (s.drop k) = skipL (s.drop i)) ∧ wx = w) (fun s1 _ => s.length - (intOf s1).toNat)
  case atStart => exact ⟨i, rfl, hi, shut rfl, rfl⟩
  case round =>
    obtain ⟨k, rfl, hk, HR, rfl⟩ := hrel
    by_cases hlt : k < s.length
    · obtain ⟨c, hc⟩ : ∃ c, s[k]? = some c := ⟨_, List.getElem?_eq_getElem hlt⟩
      have hdc := drop_cons hc
      have hcl := c.toNat_lt
      have hix := fun kk W => str_at s hc kk W
      have hfr := fun W => str_from s (i := k) (by omega) W
      have m1 : (k : Int) < s.length := by omega
      have HDC := shut hdc
      have hbl : blankC c = true ↔ (c.toNat = 32 ∨ c.toNat = 9 ∨ c.toNat = 10) := by simp [blankC]
      clear hc hdc
      by_cases hb : blankC c = true
      · have HR2 := shut (show skipL (s.drop (k + 1)) = skipL (s.drop i) by rw [← HR.out, HDC.out, skipL_blank hb])
        rcases hbl.1 hb with h | h | h
        · have p1 : ((c.toNat : Int) == 32) = true := by rw [beq_iff_eq]; omega
          have p2 : (c.toNat : Int) = 32 := by omega
          clear hb hbl h
          go_wp2_with fail
          go_roundw
          case rel => exact ⟨k + 1, by go_num, by omega, HR2, by first | rfl | trivial⟩
          case measure => simp [intOf]; omega
        · have p1 : ((c.toNat : Int) == 32) = false := by rw [beq_eq_false_iff_ne]; omega
          have p2 : ((c.toNat : Int) == 9) = true := by rw [beq_iff_eq]; omega
          have p3 : ¬ (c.toNat : Int) = 32 := by omega
          have p4 : (c.toNat : Int) = 9 := by omega
          clear hb hbl h
          go_wp2_with fail
          go_roundw
          case rel => exact ⟨k + 1, by go_num, by omega, HR2, by first | rfl | trivial⟩
          case measure => simp [intOf]; omega
        · have p1 : ((c.toNat : Int) == 32) = false := by rw [beq_eq_false_iff_ne]; omega
          have p2 : ((c.toNat : Int) == 9) = false := by rw [beq_eq_false_iff_ne]; omega
          have p3 : ¬ (c.toNat : Int) = 32 := by omega
          have p4 : ¬ (c.toNat : Int) = 9 := by omega
          have p5 : (c.toNat : Int) = 10 := by omega
          have p6 : ((c.toNat : Int) == 10) = true := by rw [beq_iff_eq]; omega
          clear hb hbl h
          go_wp2_with fail
          go_roundw
          case rel => exact ⟨k + 1, by go_num, by omega, HR2, by first | rfl | trivial⟩
          case measure => simp [intOf]; omega
      · have hn : ¬ (c.toNat = 32 ∨ c.toNat = 9 ∨ c.toNat = 10) := fun e => hb (hbl.2 e)
        have p1 : ((c.toNat : Int) == 32) = false := by rw [beq_eq_false_iff_ne]; omega
        have p2 : ((c.toNat : Int) == 9) = false := by rw [beq_eq_false_iff_ne]; omega
        have p3 : ¬ (c.toNat : Int) = 32 := by omega
        have p4 : ¬ (c.toNat : Int) = 9 := by omega
        have p5 : ¬ (c.toNat : Int) = 10 := by omega
        have p6 : ((c.toNat : Int) == 10) = false := by rw [beq_eq_false_iff_ne]; omega
        have HB := shut hb
        obtain ⟨l, hl⟩ : ∃ l, s.drop k = l := ⟨_, rfl⟩
        rw [hl] at hfr
        have hll : l.length = s.length - k := by rw [← hl, List.length_drop]
        have HL := shut hl
        clear hb hbl hn hl
        go_wp2_with fail
        refine (hasPrefix_any l [47, 47] _).mono ?_
        rintro e w' ⟨rfl, hw⟩
        subst w'
        rw [pre_two]
        by_cases hpre : l.take 2 = [47, 47]
        · have hsk : skipL l = skipL (l.dropWhile (fun b => decide (b.toNat ≠ 10))) := by
            have h1 : l = c :: s.drop (k + 1) := by rw [← HL.out]; exact HDC.out
            rw [h1] at hpre ⊢
            exact skipL_rem HB.out hpre
          have hlen2 : 2 ≤ l.length := by
            have := congrArg List.length hpre
            rw [List.length_take] at this
            simp at this
            omega
          have hne0 : l.drop 0 ≠ [] := by intro e; rw [List.drop_zero] at e; rw [e] at hlen2; simp at hlen2
          have HSK := shut hsk
          rw [show decide (l.take 2 = [47, 47]) = true from decide_eq_true hpre]
          clear hsk
          go_wp2_with fail
          refine (indexByte_any l 10 _).mono ?_
          rintro e w' ⟨rfl, hw⟩
          subst w'
          rcases idx10 l with ⟨i1, i2⟩ | ⟨o, i1, i2, i3⟩
          · have hfin : s.length - (skipL (s.drop i)).length = s.length := by
              rw [← HR.out, HL.out, HSK.out, i2, skipL_nil]; rfl
            have HF := shut hfin
            rw [i1]
            clear i1 i2 hfin
            go_wp2_with fail
            go_ret
            exact ⟨by rw [HF.out]; rfl, rfl⟩
          · have ho : o ≠ 0 := by
              rintro rfl
              have h1 : l = c :: s.drop (k + 1) := by rw [← HL.out]; exact HDC.out
              rw [List.drop_zero] at i3
              have h47 : c.toNat ≠ 10 := by omega
              rw [h1, List.dropWhile_cons, if_pos (decide_eq_true h47)] at i3
              have := congrArg List.length i3
              have h3 := dw_len (fun b => decide (b.toNat ≠ 10)) (s.drop (k + 1))
              rw [List.length_cons] at this
              omega
            have HR2 := shut (show skipL (s.drop (k + o)) = skipL (s.drop i) by rw [← HR.out, HL.out, HSK.out, i3, ← HL.out, List.drop_drop])
            have hko : k + o ≤ s.length := by omega
            have ho0 : ¬ (o : Int) < 0 := by omega
            have ho1 : (0 : Int) ≤ o := by omega
            rw [i1]
            clear i1 i3
            go_wp2_with fail
            go_roundw
            case rel => exact ⟨k + o, by go_num, by omega, HR2, by first | rfl | trivial⟩
            case measure => simp [intOf]; omega
        · have hfin : s.length - (skipL (s.drop i)).length = k := by
            have h1 : l = c :: s.drop (k + 1) := by rw [← HL.out]; exact HDC.out
            rw [← HR.out, HL.out]
            have h2 : skipL l = l := by rw [h1] at hpre ⊢; exact skipL_stop HB.out hpre
            rw [h2, hll]
            omega
          have HF := shut hfin
          rw [show decide (l.take 2 = [47, 47]) = false from decide_eq_false hpre]
          clear hfin
          go_wp2_with fail
          go_ret
          exact ⟨by rw [HF.out]; rfl, rfl⟩
    · have hfin : s.length - (skipL (s.drop i)).length = k := by
        rw [← HR.out, List.drop_of_length_le (by omega : s.length ≤ k), skipL_nil]
        show s.length - 0 = k
        omega
      have HF := shut hfin
      clear hfin
      go_wp2_with fail
      go_ret
      exact ⟨by rw [HF.out]; rfl, rfl⟩

/-! ### a row of tokens -/
theorem add_mid7 (b o i : Nat) : (⟨b, o, none⟩ : Addr).add i = ⟨b, o + i, none⟩ := by
  unfold Addr.add
  split
  · rename_i h; subst h; rfl
  · rfl
def tokC (t : Tok) : List Value := [.int .i64 t.kind, .string ⟨t.text.toArray⟩, .int .i64 t.pos]
abbrev OwnT (w : World) (ao : Option Addr) (cap : Nat) (ts : List Tok) : Prop := w.ownsRow 0 29 3 (.slice ao ts.length cap) ts.length (ts.flatMap tokC)
theorem tokC_one (ts : List Tok) : ∀ u ∈ ts.flatMap tokC, u.oneCell' = true := by
  intro u hu
  obtain ⟨t, _, h⟩ := List.mem_flatMap.1 hu
  simp [tokC] at h
  rcases h with rfl | rfl | rfl <;> rfl
theorem infoTok2 : (Try.prog.info? 29).map (fun i => (i.zero, i.size, i.bytes)) = some (some (.agg #[.int .i64 0, .string ⟨#[]⟩, .int .i64 0]), 3, 32) := by kernel_rfl
theorem ownT_nil (w : World) : OwnT w none 0 [] := World.ownsRow_nil w _ _ _
/-- append of one token. -/
theorem wpList_appT (w : World) {ops : Array Oper} {rest : List Oper} {o : Oper} {a : Act} {Q : Exit → Act → World → Prop} (hgd : o.guard = none) (s x : Operand)
    (ho : o.op = .call { callee := .builtin .append, args := #[s, x], argTypes := #[23, 23] })
    (ao : Option Addr) (cap : Nat) (ts : List Tok) (hsv : a.eval s = .slice ao ts.length cap) (hown : OwnT w ao cap ts) (g : Nat) (t : Tok)
    (hx : a.eval x = .slice (some ⟨g, 0, none⟩) 1 1) (hg : Blk w g #[.int .i64 t.kind, .string ⟨t.text.toArray⟩, .int .i64 t.pos] 29) (hb : ts.length ≤ 1000000000000)
    (h : ∀ ao' cap' w', OwnT w' ao' cap' (ts ++ [t]) → Keeps (fun k => blockOf ao = some k) w w' → Moved w.heap.size ao ao' → wpList Try.prog ops Q rest (a.put o.dst (.slice ao' (ts ++ [t]).length cap')) w') : wpList Try.prog ops Q (o :: rest) a w := by
  obtain ⟨i0, hi, hz0, hz1, hz2⟩ := info_parts infoTok2
  have hs : Src Try.prog 3 23 (.slice (some ⟨g, 0, none⟩) 1 1) 1 (tokC t) w := Src.ofSlice _ Try.underlying23 ⟨g, 0, none⟩ 1 1 _ rfl (fun j u hj => by
    match j, hj with
    | 0, hj => simp [tokC] at hj; subst hj; exact blk_cell hg 0 rfl
    | 1, hj => simp [tokC] at hj; subst hj; rw [add_mid7, Nat.zero_add]; exact blk_cell hg 1 rfl
    | 2, hj => simp [tokC] at hj; subst hj; rw [add_mid7, Nat.zero_add]; exact blk_cell hg 2 rfl) (by intro u hu; exact tokC_one [t] u (by simpa using hu))
  refine wpList_append_src w hgd s x 23 23 ho 29 i0 (.agg #[.int .i64 0, .string ⟨#[]⟩, .int .i64 0]) 3 32 Try.underlying23 hi hz0 hz1 hz2 rfl ao ts.length cap (ts.flatMap tokC) hsv hown _ 1 (tokC t) hx hs
    (by unfold maxLen; omega) (by omega) fun ao' cap' w' h1 h2 h3 => ?_
  have e1 : ts.flatMap tokC ++ tokC t = (ts ++ [t]).flatMap tokC := by rw [List.flatMap_append]; simp
  have e2 : ts.length + 1 = (ts ++ [t]).length := by rw [List.length_append]; rfl
  rw [e1, e2] at h1
  rw [e2]
  exact h ao' cap' w' h1 ((Keeps.refl _ _).grown h2 (fun k hk _ => hk)) h3

end Go.Proofs.Ytgnpklheohaghaa
