/- Package manifest: lines; rows of crates searched; twice; wrong. -/
import Derived.Test.YtiliajnijjkcdaaDoorMan5
import Derived.Test.YtiliajnijjkcdaaDoorFault
namespace Go.Proofs.YtiliajnijjkcdaaDoor
open Go.RowKit

attribute [local go_sem ↓] exec_mid_src exec_store_src
attribute [local go_sem] rowOk_new World.setRow_alloc_new aggOk_src

theorem indexByte_bare : ∀ s : List UInt8, (Lib.indexByte s 10 = -1 ∧ bareN s = s.length ∧ lineN s = s.length) ∨ (Lib.indexByte s 10 = (bareN s : Int) ∧ lineN s = bareN s + 1)
  | [] => .inl ⟨rfl, rfl, rfl⟩
  | b :: r => by
    unfold Lib.indexByte bareN lineN
    by_cases h : b = 10
    · subst h; exact .inr ⟨rfl, rfl⟩
    · have hb : ¬ (b == 10) = true := by simpa using h
      rw [if_neg hb, if_neg h, if_neg h]
      rcases indexByte_bare r with ⟨h1, h2, h3⟩ | ⟨h1, h2⟩
      · exact .inl ⟨by rw [h1]; rfl, by rw [h2]; rfl, by rw [h3]; rfl⟩
      · refine .inr ⟨?_, by rw [h2]⟩
        have hne : ¬ ((bareN r : Int) == -1) = true := fun q => by have := beq_iff_eq.1 q; omega
        rw [h1, if_neg hne]
        rfl
theorem indexNl_any (s : List UInt8) (w : World) : Calls Tryd.prog 37 #[.string ⟨s.toArray⟩, .int .u8 10] w fun e w' => e = .returned (.int .i64 (Lib.indexByte s 10)) ∧ w' = w := by
  have h := Tryd.strings_IndexByte ⟨s.toArray⟩ 10 w
  rwa [txt] at h

def LinesPost (I : Nat → World → Prop) (E : World → Prop) (n : Nat) (e : Ending) (w' : World) : Prop := e = .returned (.tuple #[]) ∧ (I n w' ∨ E w')
/-- The rest's first line. -/
def lineAt (s : List UInt8) (p : Nat) : List UInt8 := (s.drop p).take (lineN (s.drop p))
theorem ent_parse1 (args : Array Value) (W : World) : (callFunc 20 args).run Tryd.prog W = .ok (.enter 20 args) W :=
  entered_of Tryd.func20 (by kernel_rfl) (by kernel_rfl) args W

set_option maxRecDepth 100000 in
set_option linter.unusedSimpArgs false in
set_option maxHeartbeats 4000000 in
theorem lines_any (s : List UInt8) (hs : s.length ≤ 10000000) (p1 p2 p3 : Value) (w : World) (I : Nat → World → Prop) (E : World → Prop) (h0 : I 0 w)
    (step : ∀ p W, p < s.length → I p W → Calls Tryd.prog 20 #[.int .i64 (p : Int), .string ⟨(lineAt s p).toArray⟩, p1, p2, p3] W fun e W' => ∃ z, e = .returned (.bool z) ∧ (z = true → I (p + lineN (s.drop p)) W') ∧ (z = false → E W')) :
    Calls Tryd.prog 19 #[.string ⟨s.toArray⟩, .func (.func 20) #[] #[p1, p2, p3]] w (LinesPost I E s.length) := by
  have hsz : (ByteArray.mk s.toArray).size = s.length := rfl
  have HS := shut step
  have H0 := shut h0
  clear step h0
  obtain ⟨n, hn⟩ : ∃ n, s.length = n := ⟨_, rfl⟩
  rw [hn] at hs hsz HS ⊢
  have HN := shut hn
  clear hn
  go_enter Tryd.func19, Tryd.ntmps19
  go_wp2_with fail
  go_loopw [4, 5] (fun s4 _ wx => ∃ p : Nat, s4 = .int .i64 p ∧ p ≤ n ∧ Shut (I p wx)) (fun s4 _ _ => n - (intOf s4).toNat)
  case atStart => exact ⟨0, rfl, Nat.zero_le _, H0⟩
  case round =>
    obtain ⟨p, rfl, hp, HI⟩ := hrel
    by_cases hlt : p < n
    rotate_left
    · obtain rfl : p = n := by omega
      have m1 : ¬ (p : Int) < p := by omega
      have hfin : LinesPost I E p (.returned (.tuple #[])) wr := ⟨rfl, .inl HI.out⟩
      clear HS HI
      go_wp2_with fail
      first | refine bodyPost_ret (v := .tuple #[]) (results_none rfl _ _ _) rfl ?_ | refine bodyPost_end (results_none rfl _ _ _) rfl ?_
      exact hfin
    have m1 : (p : Int) < n := by omega
    have hd : (s.drop p).length = n - p := by rw [List.length_drop, HN.out]
    have hl1 := line_pos (s := s.drop p) (by intro h; rw [h] at hd; simp at hd; omega)
    have hl2 := line_le (s.drop p)
    have hfrom := fun W => str_from s (i := p) (by rw [HN.out]; exact hp) W
    have hix := fun W => indexNl_any (s.drop p) W
    have hst := HS.out p wr hlt HI.out
    have hbl := indexByte_bare (s.drop p)
    have hcut := fun W => str_cut s (i := p) (n := lineN (s.drop p)) (j := p + lineN (s.drop p)) rfl (by rw [HN.out]; omega) W
    rw [show (List.take (lineN (s.drop p)) (List.drop p s)) = lineAt s p from rfl, Int.natCast_add] at hcut
    rw [hd] at hl2 hbl
    generalize lineAt s p = L at *
    generalize lineN (s.drop p) = k at *
    generalize bareN (s.drop p) = kb at *
    generalize hIX : Lib.indexByte (s.drop p) 10 = ix at *
    generalize s.drop p = sp at *
    have w1 : IntKind.i64.wrap (ix + 1) = ix + 1 := by rw [IntKind.wrap_i64]; omega
    have w2 : IntKind.i64.wrap ((p : Int) + k) = (p : Int) + k := by rw [IntKind.wrap_i64]; omega
    clear HS HI
    go_wp2_with fail
    refine (hix _).mono ?_
    rintro e w4 ⟨rfl, rfl⟩
    clear hix
    rcases hbl with ⟨rfl, hkb, hk⟩ | ⟨rfl, hk⟩
    · have hb0 : (-1 : Int) + 1 = 0 := rfl
      have w3 : IntKind.i64.wrap ((n : Int) - p) = (k : Int) := by rw [IntKind.wrap_i64]; omega
      clear hk hkb
      have hcf2 := ent_parse1 #[.int .i64 (p : Int), .string ⟨L.toArray⟩, p1, p2, p3] w4
      go_wp2_with fail
      clear hcf2
      refine hst.mono ?_
      rintro e w5 ⟨z, rfl, hz1, hz2⟩
      have HZ1 := shut hz1
      have HZ2 := shut hz2
      clear hst hz1 hz2
      cases z with
      | false =>
        have hfin : LinesPost I E n (.returned (.tuple #[])) w5 := ⟨rfl, .inr (HZ2.out rfl)⟩
        clear HZ1 HZ2
        go_wp2_with fail
        first | refine bodyPost_ret (v := .tuple #[]) (results_none rfl _ _ _) rfl ?_ | refine bodyPost_end (results_none rfl _ _ _) rfl ?_
        exact hfin
      | true =>
        have HJ := shut (HZ1.out rfl)
        clear HZ1 HZ2
        go_wp2_with fail
        go_roundw
        case rel => exact ⟨p + k, by go_num, by omega, HJ⟩
        case measure => simp [intOf]; omega
    · have hb0 : ¬ (kb : Int) + 1 = 0 := by omega
      have hb1 : (kb : Int) + 1 = (k : Int) := by omega
      clear hk
      have hcf2 := ent_parse1 #[.int .i64 (p : Int), .string ⟨L.toArray⟩, p1, p2, p3] w4
      go_wp2_with fail
      clear hcf2
      refine hst.mono ?_
      rintro e w5 ⟨z, rfl, hz1, hz2⟩
      have HZ1 := shut hz1
      have HZ2 := shut hz2
      clear hst hz1 hz2
      cases z with
      | false =>
        have hfin : LinesPost I E n (.returned (.tuple #[])) w5 := ⟨rfl, .inr (HZ2.out rfl)⟩
        clear HZ1 HZ2
        go_wp2_with fail
        first | refine bodyPost_ret (v := .tuple #[]) (results_none rfl _ _ _) rfl ?_ | refine bodyPost_end (results_none rfl _ _ _) rfl ?_
        exact hfin
      | true =>
        have HJ := shut (HZ1.out rfl)
        clear HZ1 HZ2
        go_wp2_with fail
        go_roundw
        case rel => exact ⟨p + k, by go_num, by omega, HJ⟩
        case measure => simp [intOf]; omega

end Go.Proofs.YtiliajnijjkcdaaDoor
