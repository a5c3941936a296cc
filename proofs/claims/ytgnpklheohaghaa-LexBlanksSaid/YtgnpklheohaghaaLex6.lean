/- lex.sign, next, blanks. -/
import Derived.Test.YtgnpklheohaghaaLex5
namespace Go.Proofs.Ytgnpklheohaghaa
open Go.RowKit

attribute [local go_sem ↓] exec_store_tok
attribute [local go_sem] rowOk_new World.setRow_alloc_new aggOk_tok

def signR : List UInt8 → Option (Nat × List UInt8 × Nat)
  | [] => none
  | c :: r => if twosL.contains ((c :: r).take 2) then some (5, (c :: r).take 2, 2) else if signsL.contains c then some (5, [c], 1) else none
theorem pre_two {a b : UInt8} {l : List UInt8} : ([a, b] : List UInt8).isPrefixOf l = decide (l.take 2 = [a, b]) := by
  cases l with
  | nil => simp [List.isPrefixOf]
  | cons x l =>
    cases l with
    | nil => simp [List.isPrefixOf]
    | cons y l =>
      rw [Bool.eq_iff_iff]
      simp [List.isPrefixOf]
      constructor
      · rintro ⟨rfl, rfl⟩; exact ⟨rfl, rfl⟩
      · rintro ⟨rfl, rfl⟩; exact ⟨rfl, rfl⟩
theorem index_sign (c : UInt8) : decide (Lib.indexByte signsL c < 0) = !signsL.contains c := by
  have h : ∀ n : Nat, n < 256 → decide (Lib.indexByte signsL (UInt8.ofNat n) < 0) = !signsL.contains (UInt8.ofNat n) := by decide +kernel
  have := h c.toNat c.toNat_lt
  rwa [UInt8.ofNat_toNat] at this

set_option maxHeartbeats 2000000 in
theorem sign_any (w : World) (s : List UInt8) (hs : s.length < 9223372036854775806) (i : Nat) (hil : i < s.length) :
    Calls Try.prog 37 #[.string ⟨s.toArray⟩, .int .i64 (i : Int)] w (TokPost w i (signR (s.drop i))) := by
  obtain ⟨c, hc⟩ : ∃ c, s[i]? = some c := ⟨_, List.getElem?_eq_getElem hil⟩
  have hdc := drop_cons hc
  have hfr := fun W => str_from s (i := i) (by omega) W
  have hix := fun kk W => str_at s hc kk W
  obtain ⟨l, hl⟩ : ∃ l, s.drop i = l := ⟨_, rfl⟩
  rw [hl] at hfr hdc ⊢
  obtain ⟨r, hr⟩ : ∃ r, s.drop (i + 1) = r := ⟨_, rfl⟩
  rw [hr] at hdc
  obtain ⟨i1, hi1⟩ : ∃ i1, i + 1 = i1 := ⟨_, rfl⟩
  obtain ⟨i2, hi2⟩ : ∃ i2, i + 2 = i2 := ⟨_, rfl⟩
  have e1 : IntKind.i64.wrap ((i : Int) + 1) = (i1 : Int) := by rw [IntKind.wrap_i64]; omega
  have e1b : wrap64 ((i : Int) + 1) = (i1 : Int) := by unfold wrap64; omega
  have e1c : (i : Int) + 1 = (i1 : Int) := by omega
  have e2 : IntKind.i64.wrap ((i : Int) + 2) = (i2 : Int) := by rw [IntKind.wrap_i64]; omega
  have e2b : wrap64 ((i : Int) + 2) = (i2 : Int) := by unfold wrap64; omega
  have e2c : (i : Int) + 2 = (i2 : Int) := by omega
  have hcut := fun W => str_cut s (i := i) (n := 1) (j := i1) hi1 (by omega) W
  rw [hl, hdc, List.take_succ_cons, List.take_zero] at hcut
  have HI1 := shut hi1
  have HI2 := shut hi2
  have HDC := shut hdc
  clear hi1 hi2 hdc hl hr hc
  obtain ⟨R, hR⟩ : ∃ R, signR l = R := ⟨_, rfl⟩
  rw [hR]
  have HR := shut hR
  clear hR
  have B1 := blk_new w (tokA 0 [] 0) 29
  have KW := (Keeps.refl Nothing w).alloc (.cells (tokA 0 [] 0) 29)
  go_enter Try.func37, Try.ntmps37
  go_wp2_with fail
  rw [show (#[.int .i64 0, .string ⟨#[]⟩, .int .i64 0] : Array Value) = tokA 0 [] 0 from rfl]
  have B2 := blk_alloc B1 (.cells #[.string ⟨#[58, 58]⟩, .string ⟨#[45, 62]⟩, .string ⟨#[61, 61]⟩] 9)
  have BL := blk_new (w.alloc (.cells (tokA 0 [] 0) 29)) #[.string ⟨#[58, 58]⟩, .string ⟨#[45, 62]⟩, .string ⟨#[61, 61]⟩] 9
  rw [World.size_alloc] at BL
  have KW2 := KW.alloc (.cells #[.string ⟨#[58, 58]⟩, .string ⟨#[45, 62]⟩, .string ⟨#[61, 61]⟩] 9)
  generalize (w.alloc (.cells (tokA 0 [] 0) 29)).alloc (.cells #[.string ⟨#[58, 58]⟩, .string ⟨#[45, 62]⟩, .string ⟨#[61, 61]⟩] 9) = W1 at *
  generalize hg : w.heap.size = g at *
  have HG := shut hg
  clear hg B1 KW
  have r1 := rowOk_blk B2 (show (tokA 0 [] 0).size = 3 from rfl)
  have hfin : ∀ (W : World) (A : Array Value), W = W1 → A.size = 3 → Keeps Nothing w (W.setRow g A) ∧ (loadVar 29 ⟨g, 0, none⟩).run Try.prog (W.setRow g A) = .ok (.agg A) (W.setRow g A) := fun W A hW hA => by
    subst hW
    exact ⟨KW2.setRow (fun h => by have := HG.out; omega) _, loadVar_tok _ _ _ _ (blk_setRow (cs := A) B2) hA⟩
  have HFIN := shut hfin
  clear hfin
  go_loopw [10] (fun s10 wx => ∃ t : Nat, s10 = .int .i64 t ∧ t ≤ 3 ∧ Shut (∀ k, k < t → ∀ p, twosL[k]? = some p → l.take 2 ≠ p) ∧ wx = W1) (fun s10 _ => 3 - (intOf s10).toNat)
  case atStart => exact ⟨0, rfl, Nat.zero_le _, shut (fun k hk => by omega), rfl⟩
  case round =>
    obtain ⟨t, rfl, ht, HN, rfl⟩ := hrel
    by_cases hlt : t < 3
    · have ht3 : t = 0 ∨ t = 1 ∨ t = 2 := by omega
      obtain ⟨p, q, hp, hcell⟩ : ∃ p q : UInt8, twosL[t]? = some [p, q] ∧ wr.cell? ⟨g + 1, t, none⟩ = some (.string ⟨([p, q] : List UInt8).toArray⟩) := by
        rcases ht3 with rfl | rfl | rfl
        · exact ⟨58, 58, rfl, blk_cell BL 0 rfl⟩
        · exact ⟨45, 62, rfl, blk_cell BL 1 rfl⟩
        · exact ⟨61, 61, rfl, blk_cell BL 2 rfl⟩
      have HP := shut hp
      have m1 : (t : Int) < 3 := by omega
      have m0 : (0 : Int) ≤ t := by omega
      clear hp ht3
      go_wp2_with fail
      refine (hasPrefix_any l [p, q] _).mono ?_
      rintro e w' ⟨rfl, hw⟩
      subst w'
      rw [pre_two]
      by_cases hpre : l.take 2 = [p, q]
      · have hRv : Shut (R = some (5, [p, q], 2)) := shut (by
          rw [← HR.out, HDC.out]
          have h2 : ((c :: r).take 2) = [p, q] := by rw [← HDC.out]; exact hpre
          have h1 : twosL.contains ((c :: r).take 2) = true := by rw [h2, List.contains_iff_mem]; exact List.mem_of_getElem? HP.out
          show (if twosL.contains ((c :: r).take 2) = true then some (5, (c :: r).take 2, 2) else _) = _
          rw [if_pos h1, h2])
        rw [show decide (l.take 2 = [p, q]) = true from decide_eq_true hpre]
        go_wp2_with fail
        obtain ⟨h1, h2⟩ := HFIN.out wr (tokA 5 [p, q] i) rfl rfl
        refine bodyPost_ret (v := .tuple #[.agg (tokA 5 [p, q] i), .int .i64 i2]) (results_row_tmp rfl _ _ g (tokA 5 [p, q] i) _ rfl rfl h2) rfl ?_
        exact ⟨by rw [hRv.out, ← HI2.out]; rfl, h1⟩
      · rw [show decide (l.take 2 = [p, q]) = false from decide_eq_false hpre]
        have HN2 : Shut (∀ k, k < t + 1 → ∀ p, twosL[k]? = some p → l.take 2 ≠ p) := shut (fun k hk x hx => by
          rcases Nat.lt_or_ge k t with h | h
          · exact HN.out k h x hx
          · obtain rfl : k = t := by omega
            rw [HP.out] at hx
            obtain rfl := Option.some.inj hx
            exact hpre)
        go_wp2_with fail
        go_roundw
        case rel => exact ⟨t + 1, by go_num, by omega, HN2, by first | rfl | trivial⟩
        case measure => simp [intOf]; omega
    · have ht3 : t = 3 := by omega
      have hno : twosL.contains ((c :: r).take 2) = false := by
        rw [Bool.eq_false_iff, Ne, List.contains_iff_mem]
        intro hm
        obtain ⟨k, hk⟩ := List.getElem?_of_mem hm
        have hk3 : k < 3 := by
          rcases Nat.lt_or_ge k 3 with h | h
          · exact h
          · rw [List.getElem?_eq_none (by exact h)] at hk; cases hk
        exact HN.out k (by omega) _ hk (by rw [HDC.out])
      have HNO := shut hno
      have hidx := index_sign c
      clear hno HN BL
      go_wp2_with fail
      refine (indexByte_any signsL c _).mono ?_
      rintro e w' ⟨rfl, hw⟩
      subst w'
      by_cases hsg : signsL.contains c = true
      · rw [hsg] at hidx
        have m1 : ¬ Lib.indexByte signsL c < 0 := by simpa using hidx
        have hRv : Shut (R = some (5, [c], 1)) := shut (by
          rw [← HR.out, HDC.out]
          show (if twosL.contains ((c :: r).take 2) = true then _ else if signsL.contains c = true then some (5, [c], 1) else none) = _
          rw [if_neg (by rw [HNO.out]; decide), if_pos hsg])
        clear hidx
        generalize Lib.indexByte signsL c = z at *
        go_wp2_with fail
        obtain ⟨h1, h2⟩ := HFIN.out wr (tokA 5 [c] i) rfl rfl
        refine bodyPost_ret (v := .tuple #[.agg (tokA 5 [c] i), .int .i64 i1]) (results_row_tmp rfl _ _ g (tokA 5 [c] i) _ rfl rfl h2) rfl ?_
        exact ⟨by rw [hRv.out, ← HI1.out]; rfl, h1⟩
      · rw [Bool.not_eq_true] at hsg
        rw [hsg] at hidx
        have m1 : Lib.indexByte signsL c < 0 := by simpa using hidx
        have hRv : Shut (R = none) := shut (by
          rw [← HR.out, HDC.out]
          show (if twosL.contains ((c :: r).take 2) = true then _ else if signsL.contains c = true then some (5, [c], 1) else none) = _
          rw [if_neg (by rw [HNO.out]; decide), if_neg (by rw [hsg]; decide)])
        clear hidx
        generalize Lib.indexByte signsL c = z at *
        go_wp2_with fail
        obtain ⟨h1, h2⟩ := HFIN.out wr (tokA 0 [] 0) rfl rfl
        refine bodyPost_ret (v := .tuple #[.agg (tokA 0 [] 0), .int .i64 0]) (results_row_tmp rfl _ _ g (tokA 0 [] 0) _ rfl rfl h2) rfl ?_
        exact ⟨by rw [hRv.out]; rfl, h1⟩

/-! ### next -/
theorem next_eq (c : UInt8) (r : List UInt8) : nextL (c :: r) = if begC c then nameR (c :: r) else if digC c then numR (c :: r) else if c = 39 then lifeR r else signR (c :: r) := by
  rw [nextL_cons]
  rfl
theorem outT_agg (i : Nat) (R : Option (Nat × List UInt8 × Nat)) : ∃ (k : Nat) (t : List UInt8) (p e : Nat), outT i R = .tuple #[.agg (tokA k t p), .int .i64 (e : Int)] ∧ ((R = none ∧ k = 0 ∧ t = [] ∧ p = 0 ∧ e = 0) ∨ ∃ m, R = some (k, t, m) ∧ p = i ∧ e = i + m) := by
  cases R with
  | none => exact ⟨0, [], 0, 0, rfl, .inl ⟨rfl, rfl, rfl, rfl, rfl⟩⟩
  | some x => obtain ⟨k, t, m⟩ := x; exact ⟨k, t, i, i + m, rfl, .inr ⟨m, rfl, rfl, rfl⟩⟩

set_option maxHeartbeats 2000000 in
theorem next_any (w : World) (s : List UInt8) (hs : s.length < 9223372036854775806) (i : Nat) (hil : i < s.length) :
    Calls Try.prog 21 #[.string ⟨s.toArray⟩, .int .i64 (i : Int)] w (TokPost w i (nextL (s.drop i))) := by
  obtain ⟨c, hc⟩ : ∃ c, s[i]? = some c := ⟨_, List.getElem?_eq_getElem hil⟩
  have hdc := drop_cons hc
  have hcl := c.toNat_lt
  have hix := fun kk W => str_at s hc kk W
  have hnm := fun W => name_any W s (by omega) i (by omega)
  have hlf := fun W => life_any W s (by omega) i hil
  have hsg := fun W => sign_any W s hs i hil
  have hnb := fun W (hg : goC c = true) => number_any W s (by omega) i hc hg
  have hnx := next_eq c (s.drop (i + 1))
  rw [← hdc] at hnx
  obtain ⟨R, hR⟩ : ∃ R, nextL (s.drop i) = R := ⟨_, rfl⟩
  rw [hR] at hnx ⊢
  have hc39 : c = 39 ↔ c.toNat = 39 := by rw [← UInt8.toNat_inj]; rfl
  have B1 := blk_new w (tokA 0 [] 0) 29
  have KW := (Keeps.refl Nothing w).alloc (.cells (tokA 0 [] 0) 29)
  have hfin : ∀ (W : World) (A : Array Value), Keeps Nothing (w.alloc (.cells (tokA 0 [] 0) 29)) W → A.size = 3 → rowOk W w.heap.size 3 = true ∧ Keeps Nothing w (W.setRow w.heap.size A) ∧ (loadVar 29 ⟨w.heap.size, 0, none⟩).run Try.prog (W.setRow w.heap.size A) = .ok (.agg A) (W.setRow w.heap.size A) := fun W A hW hA =>
    ⟨rowOk_blk (hW.blk B1 (fun h => h)) rfl, (KW.trans hW (fun _ h _ => h)).setRow (fun h => absurd h (Nat.lt_irrefl _)) _, loadVar_tok _ _ _ _ (blk_setRow (cs := A) (hW.blk B1 (fun h => h))) hA⟩
  have HFIN := shut hfin
  have HNX := shut hnx
  clear hfin hnx hdc hc hR
  have hcase : (begC c = true ∧ (97 ≤ c.toNat ∧ c.toNat ≤ 122)) ∨ (begC c = true ∧ ¬ (97 ≤ c.toNat ∧ c.toNat ≤ 122) ∧ (65 ≤ c.toNat ∧ c.toNat ≤ 90)) ∨ (begC c = true ∧ c.toNat = 95) ∨ (begC c = false ∧ digC c = true ∧ c.toNat = 48) ∨ (begC c = false ∧ digC c = true ∧ 49 ≤ c.toNat ∧ c.toNat ≤ 57) ∨ (begC c = false ∧ digC c = false ∧ c.toNat = 39) ∨
      (begC c = false ∧ digC c = false ∧ c.toNat ≠ 39 ∧ ¬ (97 ≤ c.toNat ∧ c.toNat ≤ 122) ∧ ¬ (65 ≤ c.toNat ∧ c.toNat ≤ 90) ∧ c.toNat ≠ 95 ∧ ¬ (48 ≤ c.toNat ∧ c.toNat ≤ 57)) := by
    have hb : begC c = true ↔ ((97 ≤ c.toNat ∧ c.toNat ≤ 122) ∨ (65 ≤ c.toNat ∧ c.toNat ≤ 90) ∨ c.toNat = 95) := by simp [begC]
    have hd : digC c = true ↔ (48 ≤ c.toNat ∧ c.toNat ≤ 57) := by simp [digC]
    rw [← Bool.not_eq_true (begC c), ← Bool.not_eq_true (digC c), hb, hd]
    omega
  rcases hcase with ⟨h1, h2⟩ | ⟨h1, h2, h3⟩ | ⟨h1, h2⟩ | ⟨h1, h2, h3⟩ | ⟨h1, h2, h3⟩ | ⟨h1, h2, h3⟩ | ⟨h1, h2, h3, h4, h5, h6, h7⟩
  · have m1 : (97 : Int) ≤ c.toNat := by omega
    have m2 : (c.toNat : Int) ≤ 122 := by omega
    have hRv : Shut (R = nameR (s.drop i)) := shut (by rw [HNX.out]; rw [if_pos h1])
    have hR2 := hRv.out
    subst hR2
    clear HNX hRv h1
    go_enter Try.func21, Try.ntmps21
    go_wp2_with fail
    rw [show (#[.int .i64 0, .string ⟨#[]⟩, .int .i64 0] : Array Value) = tokA 0 [] 0 from rfl]
    refine (hnm _).mono ?_
    rintro e w' ⟨rfl, kw⟩
    obtain ⟨k, t, p, e, ho, _⟩ := outT_agg i (nameR (s.drop i))
    rw [ho]
    have HO := shut ho
    clear ho
    obtain ⟨z1, z2, z3⟩ := HFIN.out w' (tokA k t p) kw rfl
    have hag : aggOk 3 (.agg (tokA k t p)) = true := aggOk_tok _ _ _
    have Z2 := shut z2
    have Z3 := shut z3
    clear z2 z3
    generalize tokA k t p = TA at *
    go_wp2_with fail
    refine bodyPost_ret (v := .tuple #[.agg TA, .int .i64 e]) (results_row_tmp rfl _ _ w.heap.size TA _ rfl rfl Z3.out) rfl ?_
    exact ⟨by rw [HO.out], Z2.out⟩
  · have m3 : (65 : Int) ≤ c.toNat := by omega
    have m4 : (c.toNat : Int) ≤ 90 := by omega
    have m1 : ¬ (97 : Int) ≤ c.toNat := by omega
    have hRv : Shut (R = nameR (s.drop i)) := shut (by rw [HNX.out]; rw [if_pos h1])
    have hR2 := hRv.out
    subst hR2
    clear HNX hRv h1
    go_enter Try.func21, Try.ntmps21
    go_wp2_with fail
    rw [show (#[.int .i64 0, .string ⟨#[]⟩, .int .i64 0] : Array Value) = tokA 0 [] 0 from rfl]
    refine (hnm _).mono ?_
    rintro e w' ⟨rfl, kw⟩
    obtain ⟨k, t, p, e, ho, _⟩ := outT_agg i (nameR (s.drop i))
    rw [ho]
    have HO := shut ho
    clear ho
    obtain ⟨z1, z2, z3⟩ := HFIN.out w' (tokA k t p) kw rfl
    have hag : aggOk 3 (.agg (tokA k t p)) = true := aggOk_tok _ _ _
    have Z2 := shut z2
    have Z3 := shut z3
    clear z2 z3
    generalize tokA k t p = TA at *
    go_wp2_with fail
    refine bodyPost_ret (v := .tuple #[.agg TA, .int .i64 e]) (results_row_tmp rfl _ _ w.heap.size TA _ rfl rfl Z3.out) rfl ?_
    exact ⟨by rw [HO.out], Z2.out⟩
  · have m5 : (c.toNat : Int) = 95 := by omega
    have m1 : ¬ (97 : Int) ≤ c.toNat := by omega
    have m3 : (65 : Int) ≤ c.toNat := by omega
    have m4 : ¬ (c.toNat : Int) ≤ 90 := by omega
    have m6 : ((c.toNat : Int) == 95) = true := by rw [beq_iff_eq]; exact m5
    have hRv : Shut (R = nameR (s.drop i)) := shut (by rw [HNX.out]; rw [if_pos h1])
    have hR2 := hRv.out
    subst hR2
    clear HNX hRv h1
    go_enter Try.func21, Try.ntmps21
    go_wp2_with fail
    rw [show (#[.int .i64 0, .string ⟨#[]⟩, .int .i64 0] : Array Value) = tokA 0 [] 0 from rfl]
    refine (hnm _).mono ?_
    rintro e w' ⟨rfl, kw⟩
    obtain ⟨k, t, p, e, ho, _⟩ := outT_agg i (nameR (s.drop i))
    rw [ho]
    have HO := shut ho
    clear ho
    obtain ⟨z1, z2, z3⟩ := HFIN.out w' (tokA k t p) kw rfl
    have hag : aggOk 3 (.agg (tokA k t p)) = true := aggOk_tok _ _ _
    have Z2 := shut z2
    have Z3 := shut z3
    clear z2 z3
    generalize tokA k t p = TA at *
    go_wp2_with fail
    refine bodyPost_ret (v := .tuple #[.agg TA, .int .i64 e]) (results_row_tmp rfl _ _ w.heap.size TA _ rfl rfl Z3.out) rfl ?_
    exact ⟨by rw [HO.out], Z2.out⟩
  · have m5 : (c.toNat : Int) = 48 := by omega
    have m1 : ¬ (97 : Int) ≤ c.toNat := by omega
    have m3 : ¬ (65 : Int) ≤ c.toNat := by omega
    have m6 : ((c.toNat : Int) == 48) = true := by rw [beq_iff_eq]; exact m5
    have m7 : ((c.toNat : Int) == 95) = false := by rw [beq_eq_false_iff_ne]; omega
    have hRv : Shut (R = numR (s.drop i)) := shut (by rw [HNX.out]; rw [if_neg (by rw [h1]; decide), if_pos h2])
    have hR2 := hRv.out
    subst hR2
    clear HNX hRv h1
    go_enter Try.func21, Try.ntmps21
    go_wp2_with fail
    rw [show (#[.int .i64 0, .string ⟨#[]⟩, .int .i64 0] : Array Value) = tokA 0 [] 0 from rfl]
    refine (hnb _ (by unfold goC; rw [h2]; simp)).mono ?_
    rintro e w' ⟨rfl, kw⟩
    obtain ⟨k, t, p, e, ho, _⟩ := outT_agg i (numR (s.drop i))
    rw [ho]
    have HO := shut ho
    clear ho
    obtain ⟨z1, z2, z3⟩ := HFIN.out w' (tokA k t p) kw rfl
    have hag : aggOk 3 (.agg (tokA k t p)) = true := aggOk_tok _ _ _
    have Z2 := shut z2
    have Z3 := shut z3
    clear z2 z3
    generalize tokA k t p = TA at *
    go_wp2_with fail
    refine bodyPost_ret (v := .tuple #[.agg TA, .int .i64 e]) (results_row_tmp rfl _ _ w.heap.size TA _ rfl rfl Z3.out) rfl ?_
    exact ⟨by rw [HO.out], Z2.out⟩
  · have m5 : ¬ (c.toNat : Int) = 48 := by omega
    have m1 : ¬ (97 : Int) ≤ c.toNat := by omega
    have m3 : ¬ (65 : Int) ≤ c.toNat := by omega
    have m6 : ((c.toNat : Int) == 48) = false := by rw [beq_eq_false_iff_ne]; exact m5
    have m7 : ((c.toNat : Int) == 95) = false := by rw [beq_eq_false_iff_ne]; omega
    have m8 : ¬ (c.toNat : Int) = 95 := by omega
    have m9 : (49 : Int) ≤ c.toNat := by omega
    have m10 : (c.toNat : Int) ≤ 57 := by omega
    have hRv : Shut (R = numR (s.drop i)) := shut (by rw [HNX.out]; rw [if_neg (by rw [h1]; decide), if_pos h2])
    have hR2 := hRv.out
    subst hR2
    clear HNX hRv h1
    go_enter Try.func21, Try.ntmps21
    go_wp2_with fail
    rw [show (#[.int .i64 0, .string ⟨#[]⟩, .int .i64 0] : Array Value) = tokA 0 [] 0 from rfl]
    refine (hnb _ (by unfold goC; rw [h2]; simp)).mono ?_
    rintro e w' ⟨rfl, kw⟩
    obtain ⟨k, t, p, e, ho, _⟩ := outT_agg i (numR (s.drop i))
    rw [ho]
    have HO := shut ho
    clear ho
    obtain ⟨z1, z2, z3⟩ := HFIN.out w' (tokA k t p) kw rfl
    have hag : aggOk 3 (.agg (tokA k t p)) = true := aggOk_tok _ _ _
    have Z2 := shut z2
    have Z3 := shut z3
    clear z2 z3
    generalize tokA k t p = TA at *
    go_wp2_with fail
    refine bodyPost_ret (v := .tuple #[.agg TA, .int .i64 e]) (results_row_tmp rfl _ _ w.heap.size TA _ rfl rfl Z3.out) rfl ?_
    exact ⟨by rw [HO.out], Z2.out⟩
  · have m5 : (c.toNat : Int) = 39 := by omega
    have m6 : ((c.toNat : Int) == 39) = true := by rw [beq_iff_eq]; exact m5
    have hRv : Shut (R = lifeR (s.drop (i + 1))) := shut (by rw [HNX.out]; rw [if_neg (by rw [h1]; decide), if_neg (by rw [h2]; decide), if_pos (hc39.2 h3)])
    have hR2 := hRv.out
    subst hR2
    clear HNX hRv h1
    go_enter Try.func21, Try.ntmps21
    go_wp2_with fail
    rw [show (#[.int .i64 0, .string ⟨#[]⟩, .int .i64 0] : Array Value) = tokA 0 [] 0 from rfl]
    refine (hlf _).mono ?_
    rintro e w' ⟨rfl, kw⟩
    obtain ⟨k, t, p, e, ho, _⟩ := outT_agg i (lifeR (s.drop (i + 1)))
    rw [ho]
    have HO := shut ho
    clear ho
    obtain ⟨z1, z2, z3⟩ := HFIN.out w' (tokA k t p) kw rfl
    have hag : aggOk 3 (.agg (tokA k t p)) = true := aggOk_tok _ _ _
    have Z2 := shut z2
    have Z3 := shut z3
    clear z2 z3
    generalize tokA k t p = TA at *
    go_wp2_with fail
    refine bodyPost_ret (v := .tuple #[.agg TA, .int .i64 e]) (results_row_tmp rfl _ _ w.heap.size TA _ rfl rfl Z3.out) rfl ?_
    exact ⟨by rw [HO.out], Z2.out⟩
  · have m5 : ¬ (c.toNat : Int) = 48 := by omega
    have m6 : ((c.toNat : Int) == 48) = false := by rw [beq_eq_false_iff_ne]; exact m5
    have m7 : ((c.toNat : Int) == 95) = false := by rw [beq_eq_false_iff_ne]; omega
    have m8 : ¬ (c.toNat : Int) = 95 := by omega
    have m9 : ¬ (c.toNat : Int) = 39 := by omega
    have m10 : ((c.toNat : Int) == 39) = false := by rw [beq_eq_false_iff_ne]; exact m9
    by_cases n1 : (97 : Int) ≤ c.toNat
    · have n2 : ¬ (c.toNat : Int) ≤ 122 := by omega
      have n3 : (65 : Int) ≤ c.toNat := by omega
      have n4 : ¬ (c.toNat : Int) ≤ 90 := by omega
      have n5 : (49 : Int) ≤ c.toNat := by omega
      have n6 : ¬ (c.toNat : Int) ≤ 57 := by omega
      have hRv : Shut (R = signR (s.drop i)) := shut (by rw [HNX.out]; rw [if_neg (by rw [h1]; decide), if_neg (by rw [h2]; decide), if_neg (fun e => h3 (hc39.1 e))])
      have hR2 := hRv.out
      subst hR2
      clear HNX hRv h1
      go_enter Try.func21, Try.ntmps21
      go_wp2_with fail
      rw [show (#[.int .i64 0, .string ⟨#[]⟩, .int .i64 0] : Array Value) = tokA 0 [] 0 from rfl]
      refine (hsg _).mono ?_
      rintro e w' ⟨rfl, kw⟩
      obtain ⟨k, t, p, e, ho, _⟩ := outT_agg i (signR (s.drop i))
      rw [ho]
      have HO := shut ho
      clear ho
      obtain ⟨z1, z2, z3⟩ := HFIN.out w' (tokA k t p) kw rfl
      have hag : aggOk 3 (.agg (tokA k t p)) = true := aggOk_tok _ _ _
      have Z2 := shut z2
      have Z3 := shut z3
      clear z2 z3
      generalize tokA k t p = TA at *
      go_wp2_with fail
      refine bodyPost_ret (v := .tuple #[.agg TA, .int .i64 e]) (results_row_tmp rfl _ _ w.heap.size TA _ rfl rfl Z3.out) rfl ?_
      exact ⟨by rw [HO.out], Z2.out⟩
    · by_cases n3 : (65 : Int) ≤ c.toNat
      · have n4 : ¬ (c.toNat : Int) ≤ 90 := by omega
        have n5 : (49 : Int) ≤ c.toNat := by omega
        have n6 : ¬ (c.toNat : Int) ≤ 57 := by omega
        have hRv : Shut (R = signR (s.drop i)) := shut (by rw [HNX.out]; rw [if_neg (by rw [h1]; decide), if_neg (by rw [h2]; decide), if_neg (fun e => h3 (hc39.1 e))])
        have hR2 := hRv.out
        subst hR2
        clear HNX hRv h1
        go_enter Try.func21, Try.ntmps21
        go_wp2_with fail
        rw [show (#[.int .i64 0, .string ⟨#[]⟩, .int .i64 0] : Array Value) = tokA 0 [] 0 from rfl]
        refine (hsg _).mono ?_
        rintro e w' ⟨rfl, kw⟩
        obtain ⟨k, t, p, e, ho, _⟩ := outT_agg i (signR (s.drop i))
        rw [ho]
        have HO := shut ho
        clear ho
        obtain ⟨z1, z2, z3⟩ := HFIN.out w' (tokA k t p) kw rfl
        have hag : aggOk 3 (.agg (tokA k t p)) = true := aggOk_tok _ _ _
        have Z2 := shut z2
        have Z3 := shut z3
        clear z2 z3
        generalize tokA k t p = TA at *
        go_wp2_with fail
        refine bodyPost_ret (v := .tuple #[.agg TA, .int .i64 e]) (results_row_tmp rfl _ _ w.heap.size TA _ rfl rfl Z3.out) rfl ?_
        exact ⟨by rw [HO.out], Z2.out⟩
      · by_cases n5 : (49 : Int) ≤ c.toNat
        · have n6 : ¬ (c.toNat : Int) ≤ 57 := by omega
          have hRv : Shut (R = signR (s.drop i)) := shut (by rw [HNX.out]; rw [if_neg (by rw [h1]; decide), if_neg (by rw [h2]; decide), if_neg (fun e => h3 (hc39.1 e))])
          have hR2 := hRv.out
          subst hR2
          clear HNX hRv h1
          go_enter Try.func21, Try.ntmps21
          go_wp2_with fail
          rw [show (#[.int .i64 0, .string ⟨#[]⟩, .int .i64 0] : Array Value) = tokA 0 [] 0 from rfl]
          refine (hsg _).mono ?_
          rintro e w' ⟨rfl, kw⟩
          obtain ⟨k, t, p, e, ho, _⟩ := outT_agg i (signR (s.drop i))
          rw [ho]
          have HO := shut ho
          clear ho
          obtain ⟨z1, z2, z3⟩ := HFIN.out w' (tokA k t p) kw rfl
          have hag : aggOk 3 (.agg (tokA k t p)) = true := aggOk_tok _ _ _
          have Z2 := shut z2
          have Z3 := shut z3
          clear z2 z3
          generalize tokA k t p = TA at *
          go_wp2_with fail
          refine bodyPost_ret (v := .tuple #[.agg TA, .int .i64 e]) (results_row_tmp rfl _ _ w.heap.size TA _ rfl rfl Z3.out) rfl ?_
          exact ⟨by rw [HO.out], Z2.out⟩
        · have hRv : Shut (R = signR (s.drop i)) := shut (by rw [HNX.out]; rw [if_neg (by rw [h1]; decide), if_neg (by rw [h2]; decide), if_neg (fun e => h3 (hc39.1 e))])
          have hR2 := hRv.out
          subst hR2
          clear HNX hRv h1
          go_enter Try.func21, Try.ntmps21
          go_wp2_with fail
          rw [show (#[.int .i64 0, .string ⟨#[]⟩, .int .i64 0] : Array Value) = tokA 0 [] 0 from rfl]
          refine (hsg _).mono ?_
          rintro e w' ⟨rfl, kw⟩
          obtain ⟨k, t, p, e, ho, _⟩ := outT_agg i (signR (s.drop i))
          rw [ho]
          have HO := shut ho
          clear ho
          obtain ⟨z1, z2, z3⟩ := HFIN.out w' (tokA k t p) kw rfl
          have hag : aggOk 3 (.agg (tokA k t p)) = true := aggOk_tok _ _ _
          have Z2 := shut z2
          have Z3 := shut z3
          clear z2 z3
          generalize tokA k t p = TA at *
          go_wp2_with fail
          refine bodyPost_ret (v := .tuple #[.agg TA, .int .i64 e]) (results_row_tmp rfl _ _ w.heap.size TA _ rfl rfl Z3.out) rfl ?_
          exact ⟨by rw [HO.out], Z2.out⟩

end Go.Proofs.Ytgnpklheohaghaa
