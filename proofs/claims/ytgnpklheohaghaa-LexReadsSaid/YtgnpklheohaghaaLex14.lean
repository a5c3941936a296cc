/- usufructref6.sign. -/
import Derived.Test.YtgnpklheohaghaaLex11
import Derived.BigQuiet
import Derived.Deep.QuietTactic
namespace Go.Proofs.Ytgnpklheohaghaa
open Go.RowKit

theorem twos_lit : (twosL.map wordV).toArray = #[.string ⟨#[58, 58]⟩, .string ⟨#[45, 62]⟩, .string ⟨#[61, 61]⟩] := rfl
def signN (l : List UInt8) : Nat := if twosL.contains (l.take 2) then 2 else match l with | [] => 0 | c :: _ => if signsL.contains c then 1 else 0
theorem twos_len {x : List UInt8} (h : x ∈ twosL) : x.length = 2 := by
  simp only [twosL, List.mem_cons, List.not_mem_nil, or_false] at h
  rcases h with rfl | rfl | rfl <;> rfl

set_option maxRecDepth 100000 in
set_option maxHeartbeats 2000000 in
theorem rsign_any (w : World) (s : List UInt8) (hs : s.length < 9223372036854775806) (i : Nat) (hi : i < s.length) :
    Calls Try.prog 30 #[.string ⟨s.toArray⟩, .int .i64 (i : Int)] w fun e w' => e = .returned (.int .i64 (signN (s.drop i) : Int)) ∧ Keeps Nothing w w' := by
  have hsz0 : (ByteArray.mk s.toArray).size = s.length := rfl
  obtain ⟨c, hc⟩ : ∃ c, s[i]? = some c := ⟨_, List.getElem?_eq_getElem hi⟩
  have hix := fun kk W => str_at s hc kk W
  have hcl := c.toNat_lt
  have HDC := shut (drop_cons hc)
  obtain ⟨R, hR⟩ : ∃ R, signN (s.drop i) = R := ⟨_, rfl⟩
  rw [hR]
  have HR := shut hR
  clear hR hc
  go_enter Try.func30, Try.ntmps30
  go_wp2_with fail
  rw [← twos_lit]
  have BL := blk_new w (twosL.map wordV).toArray 9
  have KW := (Keeps.refl Nothing w).alloc (.cells (twosL.map wordV).toArray 9)
  generalize w.alloc (.cells (twosL.map wordV).toArray 9) = W1 at *
  generalize w.heap.size = g at *
  have hcell : ∀ t p, twosL[t]? = some p → W1.cell? ⟨g, t, none⟩ = some (.string ⟨p.toArray⟩) := fun t p h => blk_cell BL t (by rw [List.getElem?_toArray, List.getElem?_map, h]; rfl)
  have HCELL := shut hcell
  clear hcell BL
  go_loopw [6] (fun s6 wx => ∃ t : Nat, s6 = .int .i64 t ∧ t ≤ 3 ∧ Shut (∀ k, k < t → ∀ p, twosL[k]? = some p → (s.drop i).take 2 ≠ p) ∧ ∃ q, wx = W1.drewN q) (fun s6 _ => 3 - (intOf s6).toNat)
  case atStart => exact ⟨0, rfl, Nat.zero_le _, shut (fun k hk => by omega), 0, rfl⟩
  case round =>
    obtain ⟨t, rfl, ht, HN, q1, hww⟩ := hrel
    subst wr
    by_cases hlt : t < 3
    · obtain ⟨p, hp⟩ : ∃ p, twosL[t]? = some p := ⟨_, List.getElem?_eq_getElem (show t < twosL.length from hlt)⟩
      have hce := HCELL.out t p hp
      have HP := shut hp
      have m0 : (0 : Int) ≤ t := by omega
      have m1 : (t : Int) < 3 := by omega
      have hnext : (s.drop i).take 2 ≠ p → Shut (∀ k, k < t + 1 → ∀ p, twosL[k]? = some p → (s.drop i).take 2 ≠ p) := fun he => shut (fun k hk x hx => by
          rcases Nat.lt_or_ge k t with h | h
          · exact HN.out k h x hx
          · obtain rfl : k = t := by omega
            rw [HP.out] at hx
            obtain rfl := Option.some.inj hx
            exact he)
      have HNX := shut hnext
      clear hp hnext
      by_cases h2 : i + 2 ≤ s.length
      · have hcut := fun W => str_cut s (i := i) (n := 2) (j := i + 2) rfl h2 W
        obtain ⟨i2, hi2⟩ : ∃ i2, i + 2 = i2 := ⟨_, rfl⟩
        rw [hi2] at hcut
        have m2 : (2 : Int) ≤ (s.length : Int) - (i : Int) := by omega
        have m3 : (i : Int) + 2 = (i2 : Int) := by omega
        obtain ⟨X, hX⟩ : ∃ X, (s.drop i).take 2 = X := ⟨_, rfl⟩
        rw [hX] at hcut
        have HX := shut hX
        clear hX hi2
        by_cases he : X = p
        · have hR2 : Shut (R = 2) := shut (by
            rw [← HR.out]
            unfold signN
            rw [HX.out, he, if_pos]
            rw [List.contains_iff_mem]
            exact List.mem_of_getElem? HP.out)
          have hb : (X == p) = true := by simpa using he
          clear he
          go_wp2_with fail
          go_quiet (fail)
          go_wp2_with fail
          go_ret
          exact ⟨by rw [hR2.out]; rfl, (KW.drewN _).drewN _⟩
        · have hb : (X == p) = false := by simpa using he
          have HN2 := HNX.out (by rw [HX.out]; exact he)
          clear he
          go_wp2_with fail
          go_quiet (fail)
          go_wp2_with fail
          go_roundw
          case rel => exact ⟨t + 1, by go_num, by omega, HN2, _, rfl⟩
          case measure => simp [intOf]; omega
      · have m2 : ¬ (2 : Int) ≤ (s.length : Int) - (i : Int) := by omega
        have cb : decide ((2 : Int) ≤ (s.length : Int) - (i : Int)) = false := decide_eq_false m2
        have HN2 := HNX.out (fun e => by
          have h1 := twos_len (List.mem_of_getElem? HP.out)
          rw [← e, List.length_take, List.length_drop] at h1
          omega)
        go_wp2_with fail
        go_quiet (fail)
        go_wp2_with fail
        go_roundw
        case rel => exact ⟨t + 1, by go_num, by omega, HN2, _, rfl⟩
        case measure => simp [intOf]; omega
    · have hnot : twosL.contains ((s.drop i).take 2) = false := by
        rw [Bool.eq_false_iff, Ne, List.contains_iff_mem]
        intro hm
        obtain ⟨k, hk⟩ := List.getElem?_of_mem hm
        have hk3 : k < 3 := by
          rcases Nat.lt_or_ge k 3 with h | h
          · exact h
          · rw [List.getElem?_eq_none (show twosL.length ≤ k from h)] at hk; cases hk
        exact HN.out k (by omega) _ hk rfl
      have hRv : R = if signsL.contains c then 1 else 0 := by
        rw [← HR.out]
        unfold signN
        rw [hnot, HDC.out]
        rfl
      have HRV := shut hRv
      have m1 : ¬ (t : Int) < 3 := by omega
      clear hnot hRv HN HR HCELL hlt
      go_wp2_with fail
      have hsl : (signsL.length : Int) = 16 := rfl
      have hlit : (Value.string ⟨#[40, 41, 123, 125, 60, 62, 44, 59, 58, 46, 42, 38, 43, 45, 61, 33]⟩) = .string ⟨signsL.toArray⟩ := rfl
      rw [hlit]
      clear hlit
      have hsz1 : (ByteArray.mk signsL.toArray).size = 16 := rfl
      go_loopw [8] (fun s8 wx => ∃ u : Nat, s8 = .int .i64 u ∧ u ≤ 16 ∧ Shut (∀ k, k < u → ∀ p, signsL[k]? = some p → p ≠ c) ∧ ∃ q, wx = W1.drewN q) (fun s8 _ => 16 - (intOf s8).toNat)
      case atStart => exact ⟨0, rfl, Nat.zero_le _, shut (fun k hk => by omega), q1, rfl⟩
      case round =>
        obtain ⟨u, rfl, hu, HU, q2, hww⟩ := hrel
        subst wr
        by_cases hlu : u < 16
        · obtain ⟨d, hd⟩ : ∃ d, signsL[u]? = some d := ⟨_, List.getElem?_eq_getElem (show u < signsL.length from hlu)⟩
          have hix2 := fun kk W => str_at signsL hd kk W
          have hdl := d.toNat_lt
          have HD := shut hd
          have n1 : (u : Int) < 16 := by omega
          clear hd m1
          by_cases he : d = c
          · have hR1 : Shut (R = 1) := shut (by
              rw [HRV.out, if_pos]
              rw [List.contains_iff_mem, ← he]
              exact List.mem_of_getElem? HD.out)
            have hb : ((d.toNat : Int) == (c.toNat : Int)) = true := by rw [he]; simp
            have hb2 : (d.toNat : Int) = (c.toNat : Int) := by rw [he]
            clear he
            go_wp2_with fail
            go_quiet (fail)
            go_wp2_with fail
            go_ret
            exact ⟨by rw [hR1.out]; rfl, (KW.drewN _).drewN _⟩
          · have hne : d.toNat ≠ c.toNat := fun e => he (UInt8.toNat_inj.mp e)
            have hb : ((d.toNat : Int) == (c.toNat : Int)) = false := by rw [beq_eq_false_iff_ne]; omega
            have hb2 : ¬ (d.toNat : Int) = (c.toNat : Int) := by omega
            have HU2 : Shut (∀ k, k < u + 1 → ∀ p, signsL[k]? = some p → p ≠ c) := shut (fun k hk x hx => by
              rcases Nat.lt_or_ge k u with h | h
              · exact HU.out k h x hx
              · obtain rfl : k = u := by omega
                rw [HD.out] at hx
                obtain rfl := Option.some.inj hx
                exact he)
            clear he hne
            go_wp2_with fail
            go_quiet (fail)
            go_wp2_with fail
            go_roundw
            case rel => exact ⟨u + 1, by go_num, by omega, HU2, _, rfl⟩
            case measure => simp [intOf]; omega
        · have hR0 : Shut (R = 0) := shut (by
            rw [HRV.out, if_neg]
            rw [List.contains_iff_mem]
            intro hm
            obtain ⟨k, hk⟩ := List.getElem?_of_mem hm
            have hk3 : k < 16 := by
              rcases Nat.lt_or_ge k 16 with h | h
              · exact h
              · rw [List.getElem?_eq_none (show signsL.length ≤ k from h)] at hk; cases hk
            exact HU.out k (by omega) _ hk rfl)
          have n1 : ¬ (u : Int) < 16 := by omega
          go_wp2_with fail
          go_ret
          exact ⟨by rw [hR0.out]; rfl, KW.drewN _⟩

end Go.Proofs.Ytgnpklheohaghaa
