/- usufructlaw1.FaultChains: for any number, any places the law returns true; no condition. -/
import Derived.Test.YtnpndnnoelnodaaDoorRows
import Derived.Test.YtnpndnnoelnodaaDoorCards
import Derived.Test.YtnpndnnoelnodaaDoorTie
import Derived.Test.YtnpndnnoelnodaaDoorLaid
import Derived.SevenTiedAt
import Derived.Test.YtnpndnnoelnodaaDoorAs5
import Derived.Test.YtnpndnnoelnodaaDoorMix
import Derived.IntWalk
import Derived.Laws.Bits64
import Derived.ProofKit
import Derived.OpenShut
import Derived.ShutString
import Derived.ChangeOld
import Derived.Below
namespace Go.Proofs.YtnpndnnoelnodaaDoor.faultChains
open Go.ChangeShapes Go.WideShapes Go.ChangeAt Go.RowKit
open Go.ChangeMaps (open_string shut_string)

theorem laidOut : laidOutB Tryd.prog = true := by kernel_rfl


theorem xor1_ne (c : Int) : (c == bits .xor .i64 c 1) = false := by
  rw [beq_eq_false_iff_ne]
  intro h
  have h1 : c = IntKind.i64.wrap ((BitVec.ofInt 64 c ^^^ BitVec.ofInt 64 1).toNat : Int) := h
  have h2 : BitVec.ofInt 64 c = BitVec.ofInt 64 c ^^^ BitVec.ofInt 64 1 := by
    apply BitVec.eq_of_toNat_eq
    have hlt := (BitVec.ofInt 64 c ^^^ BitVec.ofInt 64 1).isLt
    generalize hm : (BitVec.ofInt 64 c ^^^ BitVec.ofInt 64 1).toNat = m at *
    rw [BitVec.toNat_ofInt, h1, IntKind.wrap_i64]
    omega
  have h3 : BitVec.ofInt 64 c ^^^ BitVec.ofInt 64 c = BitVec.ofInt 64 c ^^^ (BitVec.ofInt 64 c ^^^ BitVec.ofInt 64 1) := congrArg (fun x => BitVec.ofInt 64 c ^^^ x) h2
  rw [← BitVec.xor_assoc, BitVec.xor_self, BitVec.zero_xor] at h3
  revert h3
  decide
theorem asNum (v : Value) (xT : TypeId) (w : World) : (Instr.typeAssert (.iface 27 v) xT 27 true).run Tryd.prog w = .ok (.tuple #[v, .bool true]) w := by kernel_rfl
/-- What the first loop has made. -/
def Made (w : World) (code : Int) (xs : List Int) (i : Nat) (v : Value) : Prop := (i = 0 ∧ v = .nilIface) ∨ (0 < i ∧ ∃ b : Nat, v = .iface 34 (.pointer (some ⟨b, 0, none⟩)) ∧ FChain w code ((xs.take i).reverse) v)

set_option maxRecDepth 100000 in
set_option maxHeartbeats 4000000 in
theorem walk {w : World} (hg : ErrVar w) (code : Int) {ao : Option Addr} {n c : Nat} {xs : List Int} (hn : xs.length = n) (hX : IntsAt w ao xs) :
    Calls Tryd.prog 3 #[.int .i64 code, .slice ao n c] w fun e w' => e = .returned (.bool true) ∧ Keeps Nothing w w' := by
  have htold := fun W (K : Keeps Nothing w W) => told1_any (hg.keeps K)
  by_cases hn0 : n = 0
  · subst hn0
    go_enter Tryd.func3, Tryd.ntmps3
    go_wp2_with fail
    refine (htold _ (Keeps.refl _ _)).mono ?_
    rintro e w9 ⟨rfl, k9⟩
    go_wp2_with fail
    go_ret
    exact ⟨rfl, k9⟩
  have c1 : ((n : Int) == 0) = false := by rw [beq_eq_false_iff_ne]; omega
  by_cases hn50 : 50 < n
  · have c2 : (50 : Int) < n := by omega
    go_enter Tryd.func3, Tryd.ntmps3
    go_wp2_with fail
    refine (htold _ (Keeps.refl _ _)).mono ?_
    rintro e w9 ⟨rfl, k9⟩
    go_wp2_with fail
    go_ret
    exact ⟨rfl, k9⟩
  have c2 : ¬ (50 : Int) < n := by omega
  obtain ⟨a, rfl⟩ := hX.head (by omega)
  obtain ⟨x0, hx0⟩ : ∃ x0, xs[0]? = some x0 := ⟨xs[0]'(by omega), by rw [List.getElem?_eq_getElem (by omega)]⟩
  have e0 : w.cell? a = some (.int .i64 x0) := by simpa [Addr.add] using hX.cel a rfl 0 x0 hx0
  have HX0 := shut hx0
  clear hx0
  have c3 : 0 < n := by omega
  have c4 : (0 : Int) < n := by omega
  go_enter Tryd.func3, Tryd.ntmps3
  go_wp2_with fail
  refine (told1_any hg).mono ?_
  rintro e w1 ⟨rfl, k1⟩
  by_cases hcode : code = 0
  · subst hcode
    go_wp2_with fail
    go_loopw [5, 6] (fun s5 s6 wx => ∃ i : Nat, s6 = .int .i64 i ∧ i ≤ n ∧ s5 = .nilIface ∧ Keeps Nothing w wx) (fun _ s6 _ => n - (intOf s6).toNat)
    case atStart => exact ⟨0, rfl, by omega, rfl, k1⟩
    case round =>
      obtain ⟨i, rfl, hi, rfl, K⟩ := hrel
      by_cases hlt : i < n
      · have m1 : (i : Int) < n := by omega
        obtain ⟨x, hx⟩ : ∃ x, xs[i]? = some x := ⟨xs[i]'(by omega), by rw [List.getElem?_eq_getElem (by omega)]⟩
        have e1 := (hX.keeps K).cel a rfl i x hx
        have e0' := K.cell e0 (fun h => h)
        clear hx
        by_cases hi0 : i = 0
        · subst hi0
          go_wp2_with fail
          refine (new_zero x0 _).mono ?_
          rintro e w2 ⟨rfl, rfl⟩
          go_wp2_with fail
          go_roundw
          case rel => exact ⟨1, by go_num, by omega, rfl, K⟩
          case measure => simp [intOf]; omega
        · have m2 : ((i : Int) == 0) = false := by rw [beq_eq_false_iff_ne]; omega
          go_wp2_with fail
          refine (in_nil x _).mono ?_
          rintro e w2 ⟨rfl, rfl⟩
          go_wp2_with fail
          go_roundw
          case rel => exact ⟨i + 1, by go_num, by omega, rfl, K⟩
          case measure => simp [intOf]; omega
      · obtain rfl : i = n := by omega
        have m1 : ¬ (i : Int) < i := by omega
        go_wp2_with fail
        go_ret
        exact ⟨rfl, K⟩
  have c0 : (code == 0) = false := by rw [beq_eq_false_iff_ne]; exact hcode
  go_wp2_with fail
  go_loopw [5, 6] (fun s5 s6 wx => ∃ i : Nat, s6 = .int .i64 i ∧ i ≤ n ∧ Made wx code xs i s5 ∧ Keeps Nothing w wx) (fun _ s6 _ => n - (intOf s6).toNat)
  case atStart => exact ⟨0, rfl, by omega, .inl ⟨rfl, rfl⟩, k1⟩
  case round =>
    obtain ⟨i, rfl, hi, hM, K⟩ := hrel
    by_cases hlt : i < n
    · have m1 : (i : Int) < n := by omega
      rcases hM with ⟨rfl, rfl⟩ | ⟨hi0, b, rfl, hM⟩
      · have e0' := K.cell e0 (fun h => h)
        go_wp2_with fail
        refine (new_chain code x0 c0 _).mono ?_
        rintro e w2 ⟨b2, rfl, -, h2, k2⟩
        have h3 : FChain w2 code ((xs.take 1).reverse) (.iface 34 (.pointer (some ⟨b2, 0, none⟩))) := by rw [List.take_one, List.head?_eq_getElem?, HX0.out]; exact h2
        clear h2
        go_wp2_with fail
        go_roundw
        case rel => exact ⟨1, by go_num, by omega, .inr ⟨by omega, b2, rfl, h3⟩, K.trans k2 (fun _ h _ => h)⟩
        case measure => simp [intOf]; omega
      · have m2 : ((i : Int) == 0) = false := by rw [beq_eq_false_iff_ne]; omega
        obtain ⟨x, hx⟩ : ∃ x, xs[i]? = some x := ⟨xs[i]'(by omega), by rw [List.getElem?_eq_getElem (by omega)]⟩
        have e1 := (hX.keeps K).cel a rfl i x hx
        have hin := in_chain hM (hg.keeps K) x
        have hs : Shut (x :: (xs.take i).reverse = (xs.take (i + 1)).reverse) := shut (by rw [List.take_add_one, hx]; simp)
        clear hx
        go_wp2_with fail
        refine hin.mono ?_
        rintro e w2 ⟨b2, rfl, -, h2, k2⟩
        clear hin
        rw [hs.out] at h2
        go_wp2_with fail
        go_roundw
        case rel => exact ⟨i + 1, by go_num, by omega, .inr ⟨by omega, b2, rfl, h2⟩, K.trans k2 (fun _ h _ => h)⟩
        case measure => simp [intOf]; omega
    · obtain rfl : i = n := by omega
      have m1 : ¬ (i : Int) < i := by omega
      rcases hM with ⟨h0, -⟩ | ⟨-, b, rfl, hM⟩
      · omega
      rw [List.take_of_length_le (by omega)] at hM
      have KM := K
      generalize hwm : wr = wm at *
      clear hwm
      go_wp2_with fail
      go_loopg [7, 8] i (fun g s7 s8 wx => ∃ (k : Nat) (aw : Option Addr) (cw m : Nat) (ws : List Int), k = g ∧ k ≤ i ∧ s8 = .int .i64 ((k : Int) - 1) ∧ s7 = .slice aw m cw ∧ ws.length = m ∧ Shut (m + k = i) ∧ Shut (ws = (xs.drop k).reverse) ∧ OwnI wx aw cw ws ∧ (∀ g, blockOf aw = some g → wm.heap.size ≤ g) ∧ Keeps Nothing wm wx)
      case atStart => exact ⟨i, none, 0, 0, [], rfl, by omega, by go_num, rfl, rfl, shut (by omega), shut (by rw [List.drop_of_length_le (by omega)]; rfl), ownI_nil _, fun g e => (by cases e), Keeps.refl _ _⟩
      case round =>
        obtain ⟨k, aw, cw, m, ws, rfl, hk, rfl, rfl, hwl, hm, hws, ho, hfr, K⟩ := hrel
        by_cases hk0 : k = 0
        rotate_left
        · obtain ⟨k, rfl⟩ : ∃ k', k = k' + 1 := ⟨k - 1, by omega⟩
          have hmo := hm.out
          have hmb : m ≤ 50 := by omega
          clear hmo
          have m3 : (0 : Int) ≤ ((k + 1 : Nat) : Int) - 1 := by omega
          have m4 : ((k + 1 : Nat) : Int) - 1 = (k : Int) := by omega
          have m5 : (k : Int) < i := by omega
          obtain ⟨x, hx⟩ : ∃ x, xs[k]? = some x := ⟨xs[k]'(by omega), by rw [List.getElem?_eq_getElem (by omega)]⟩
          have e1 := ((hX.keeps KM).keeps K).cel a rfl k x hx
          have hs : Shut (ws ++ [x] = (xs.drop k).reverse) := shut (by
            obtain ⟨q1, q2⟩ := List.getElem?_eq_some_iff.1 hx
            rw [hws.out, List.drop_eq_getElem_cons q1, q2]; simp)
          have ka := (Keeps.refl Nothing wr).alloc (.cells #[.int .i64 x] 3)
          have B := blk_new wr #[.int .i64 x] 3
          clear hx
          rw [m4]
          go_wp2_with (at_builtin; refine wpList_appI _ rfl (.tmp 57) (.tmp 62) rfl aw cw ws m hwl rfl (ho.keeps ka) wr.heap.size x rfl B (by omega) ?_)
          intro aw2 cw2 w2 o2 k2 mv2
          have K2 : Keeps Nothing wm w2 := (K.trans ka (fun _ h _ => h)).trans k2 (fun i hi hlt => by have := hfr i hi; omega)
          have hfr2 : ∀ g, blockOf aw2 = some g → wm.heap.size ≤ g := fun g hg' => by
            have hsz := K.size
            rcases mv2 with mv2 | ⟨g', mv2, h2⟩
            · exact hfr g (mv2 ▸ hg')
            · rw [mv2] at hg'
              obtain rfl := Option.some.inj hg'
              omega
          clear e1 B ka k2
          go_wp2_with fail
          go_roundg k
          case measure => omega
          case rel => exact ⟨k, aw2, cw2, m + 1, ws ++ [x], rfl, by omega, by go_num, rfl, by simp [hwl], shut (by have := hm.out; omega), hs, o2, hfr2, K2⟩
        · subst hk0
          have hmi : m = i := by have := hm.out; omega
          subst hmi
          have hws' : ws = xs.reverse := by rw [hws.out, List.drop_zero]
          subst hws'
          have hrl : xs.reverse.length = m := by rw [List.length_reverse]; exact hn
          have hM2 := hM.keeps K
          have hg2 := (hg.keeps KM).keeps K
          have I2 := ownI_at ho
          have e02 := K.cell (KM.cell e0 (fun h => h)) (fun h => h)
          have hX2 := (hX.keeps KM).keeps K
          have K02 := KM.trans K (fun _ h _ => h)
          have hlast : xs.reverse.getLastD 0 = x0 := by
            rw [List.getLastD_eq_getLast?, List.getLast?_reverse, List.head?_eq_getElem?, HX0.out]; rfl
          have hat := fun W (J : Keeps Nothing wr W) => at_chain (hM2.keeps J) (hg2.keeps J)
          rw [hlast] at hat
          have HRV : Shut (∀ j z, xs[j]? = some z → xs.reverse[m - 1 - j]? = some z) := shut (fun j z hj => by
            have := (List.getElem?_eq_some_iff.1 hj).1
            rw [List.getElem?_reverse (by omega)]
            rw [hn, show m - 1 - (m - 1 - j) = j by omega]; exact hj)
          clear hlast hM ho hws hfr hwl
          generalize xs.reverse = rs at *
          go_wp2_with fail
          have J0 : Keeps Nothing wr wr.drew := (Keeps.refl _ _).drew
          have hx1 := xor1_ne code
          have hcc : (code == code) = true := by simp
          have hii : ∀ W (J : Keeps Nothing wr W) ax cx, IntsAt W ax rs → Calls Tryd.prog 11 #[.slice ax m cx, .slice aw m cw] W fun e w' => e = .returned (.bool true) ∧ Keeps Nothing W w' := fun W J ax cx hA => by
            have := ints_any cx cw hrl hrl (by omega) hA (I2.keeps J)
            rwa [show (rs == rs) = true from by simp] at this
          refine wp_region_mix (fun V => Keeps Nothing wr V) [(true, 0), (true, 1), (true, 2), (true, 3), (true, 5), (false, 4), (true, 6), (true, 7), (true, 8), (true, 9), (true, 11), (true, 12), (true, 13), (false, 10), (true, 14), (true, 15), (true, 16), (true, 17), (true, 19), (false, 18), (false, 20), (true, 21), (true, 22), (true, 23), (true, 24), (true, 26), (false, 25), (false, 27), (true, 28), (true, 29), (true, 30), (true, 31), (true, 32), (false, 33), (true, 34), (true, 35), (true, 36), (true, 37), (true, 38), (true, 39), (false, 40), (true, 41), (true, 42), (true, 43), (false, 44), (true, 45)] (by kernel_rfl) (by kernel_rfl) J0 ?_
          simp only [mixItems, List.map_cons, List.map_nil, List.getD_cons_zero, List.getD_cons_succ]
          repeat (refine wpMix_free (fun K hK => ?_); go_simp; refine hK _ ?_; clear hK K)
          refine wpMix_one (fun K hK => ?_)
          go_wp2_with fail
          refine (code_chain (hM2.keeps J0) (hg2.keeps J0)).mono ?_
          rintro e v1 ⟨rfl, j1⟩
          have Jv1 : Keeps Nothing wr v1 := J0.trans j1 (fun _ h _ => h)
          go_wp2_with fail
          refine hK _ _ Jv1 ?_
          clear hK K
          repeat (refine wpMix_free (fun K hK => ?_); go_simp; refine hK _ ?_; clear hK K)
          refine wpMix_yield (v := .int .i64 x0) (fun V hV => ?_) (fun K hK => ?_)
          · have y1 := hV.cell e02 (fun h => h)
            go_simp
          go_simp
          refine hK _ ?_
          clear hK K
          refine wpMix_one (fun K hK => ?_)
          go_wp2_with fail
          refine (hat _ Jv1).mono ?_
          rintro e v2 ⟨rfl, j2⟩
          have Jv2 : Keeps Nothing wr v2 := Jv1.trans j2 (fun _ h _ => h)
          go_wp2_with fail
          refine hK _ _ Jv2 ?_
          clear hK K
          repeat (refine wpMix_free (fun K hK => ?_); go_simp; refine hK _ ?_; clear hK K)
          have hp := path_chain (hM2.keeps Jv2) (hg2.keeps Jv2) (by omega)
          rw [hrl] at hp
          refine wpMix_one (fun K hK => ?_)
          go_wp2_with fail
          refine (hp).mono ?_
          rintro e v3 ⟨ax3, cx3, rfl, o3, -, j3⟩
          have Jv3 : Keeps Nothing wr v3 := Jv2.trans j3 (fun _ h _ => h)
          go_wp2_with fail
          refine hK _ _ Jv3 ?_
          clear hK K
          repeat (refine wpMix_free (fun K hK => ?_); go_simp; refine hK _ ?_; clear hK K)
          refine wpMix_one (fun K hK => ?_)
          go_wp2_with fail
          refine (hii _ Jv3 ax3 cx3 (ownI_at o3)).mono ?_
          rintro e v4 ⟨rfl, j4⟩
          have Jv4 : Keeps Nothing wr v4 := Jv3.trans j4 (fun _ h _ => h)
          go_wp2_with fail
          refine hK _ _ Jv4 ?_
          clear hK K
          repeat (refine wpMix_free (fun K hK => ?_); go_simp; refine hK _ ?_; clear hK K)
          have hq := places_chain (hM2.keeps Jv4) (by omega)
          rw [hrl] at hq
          refine wpMix_one (fun K hK => ?_)
          go_wp2_with fail
          refine (hq).mono ?_
          rintro e v5 ⟨ax5, cx5, rfl, o5, -, j5⟩
          have Jv5 : Keeps Nothing wr v5 := Jv4.trans j5 (fun _ h _ => h)
          go_wp2_with fail
          refine hK _ _ Jv5 ?_
          clear hK K
          repeat (refine wpMix_free (fun K hK => ?_); go_simp; refine hK _ ?_; clear hK K)
          refine wpMix_one (fun K hK => ?_)
          go_wp2_with fail
          refine (hii _ Jv5 ax5 cx5 (ownI_at o5)).mono ?_
          rintro e v6 ⟨rfl, j6⟩
          have Jv6 : Keeps Nothing wr v6 := Jv5.trans j6 (fun _ h _ => h)
          go_wp2_with fail
          refine hK _ _ Jv6 ?_
          clear hK K
          repeat (refine wpMix_free (fun K hK => ?_); go_simp; refine hK _ ?_; clear hK K)
          have hs1 := fis_chain code (hM2.keeps Jv6)
          rw [hcc] at hs1
          have hs2 := fis_chain (bits .xor .i64 code 1) (hM2.keeps Jv6)
          rw [hx1] at hs2
          have hs3 := fis_chain 0 (hM2.keeps Jv6)
          rw [c0] at hs3
          clear hx1 hp hq j1 j2 j3 j4 j5 j6 o3 o5 Jv1 Jv2 Jv3 Jv4 Jv5
          refine wpMix_one (fun K hK => ?_)
          go_wp2_with fail
          refine hs1.mono ?_
          rintro e v7 ⟨rfl, rfl⟩
          go_wp2_with fail
          refine hK _ _ Jv6 ?_
          clear hK K
          repeat (refine wpMix_free (fun K hK => ?_); go_simp; refine hK _ ?_; clear hK K)
          refine wpMix_one (fun K hK => ?_)
          go_wp2_with fail
          refine hs2.mono ?_
          rintro e v7 ⟨rfl, rfl⟩
          go_wp2_with fail
          refine hK _ _ Jv6 ?_
          clear hK K
          repeat (refine wpMix_free (fun K hK => ?_); go_simp; refine hK _ ?_; clear hK K)
          refine wpMix_one (fun K hK => ?_)
          go_wp2_with fail
          refine hs3.mono ?_
          rintro e v7 ⟨rfl, rfl⟩
          go_wp2_with fail
          refine hK _ _ Jv6 ?_
          clear hK K
          repeat (refine wpMix_free (fun K hK => ?_); go_simp; refine hK _ ?_; clear hK K)
          refine wpMix_nil ?_
          have hM6 := hM2.keeps Jv6
          have hX6 := hX2.keeps Jv6
          have K6 := K02.trans Jv6 (fun _ h _ => h)
          clear hs1 hs2 hs3 hii hat I2 e02 hX2 hM2 K02 J0 htold
          go_wp2_with fail
          have hN6 : Shut (rs.length = m) := shut hrl
          go_loopg [5, 9] m (fun g s5 s9 wx => ∃ k : Nat, k = g ∧ k ≤ m ∧ s9 = .int .i64 ((k : Int) - 1) ∧ FChain v7 code (rs.drop (m - k)) s5 ∧ Keeps Nothing v7 wx)
          case atStart => exact ⟨m, rfl, by omega, by go_num, by rw [Nat.sub_self]; exact hM6, Keeps.refl _ _⟩
          case round =>
            obtain ⟨k, rfl, hk, rfl, hc, K7⟩ := hrel
            by_cases hk0 : k = 0
            · subst hk0
              rw [List.drop_of_length_le (by rw [hN6.out]; omega)] at hc
              obtain rfl := hc
              have a1 := asNum
              go_wp2_with fail
              go_ret
              exact ⟨by simp, K6.trans K7 (fun _ h _ => h)⟩
            · obtain ⟨k, rfl⟩ : ∃ k', k = k' + 1 := ⟨k - 1, by omega⟩
              have m3 : (0 : Int) ≤ ((k + 1 : Nat) : Int) - 1 := by omega
              have m4 : ((k + 1 : Nat) : Int) - 1 = (k : Int) := by omega
              have m5 : (k : Int) < m := by omega
              obtain ⟨x, hx⟩ : ∃ x, xs[k]? = some x := ⟨xs[k]'(by omega), by rw [List.getElem?_eq_getElem (by omega)]⟩
              have hrx := HRV.out k x hx
              have hd : rs.drop (m - (k + 1)) = x :: rs.drop (m - k) := by
                obtain ⟨q1, q2⟩ := List.getElem?_eq_some_iff.1 hrx
                rw [show m - (k + 1) = m - 1 - k by omega, List.drop_eq_getElem_cons q1, q2, show m - 1 - k + 1 = m - k by omega]
              rw [hd] at hc
              obtain ⟨b7, rfl, h0, h1, u7, h2, hc'⟩ := hc
              have e1 := (hX6.keeps K7).cel a rfl k x hx
              have f0 := K7.cell h0 (fun h => h)
              have f1 := K7.cell h1 (fun h => h)
              have f2 := K7.cell h2 (fun h => h)
              have a1 := asFault
              clear hx hrx hd h0 h1 h2
              rw [m4]
              go_wp2_with fail
              go_quiet (fail)
              go_wp2_with fail
              go_roundg k
              case measure => omega
              case rel => exact ⟨k, rfl, by omega, by go_num, hc', K7.drewN _⟩
set_option maxRecDepth 100000 in
theorem lifted (os : Os) (started : os.Started) (H : Type) (enc : TypeId × Value → H) :
    ReturnsInHanded {} Tryd.checked os 3 .any (fun w args => (Rows.faultChainsSpec.pre enc Tryd.prog Tryd.f3 [] false w args ∧ laidMetH Tryd.prog laidL w) ∧ sizedMet enc Tryd.prog Tryd.f3 (OpenSpec.ofChange Rows.faultChainsSpec) false w args) (Rows.faultChainsSpec.post enc Tryd.prog Tryd.f3 false true false false) := by
  refine returnsInHanded_of_change_and (C := Tryd.checked) (X := fun w _ => laidMetH Tryd.prog laidL w) (fun _ _ _ hh h => h.of_heap hh) ownK started (by kernel_rfl) Tryd.func3
    (ChangeSpec.witness_at (enc := enc) (C := Tryd.checked) (os := os) (X := fun w _ => laidMetH Tryd.prog laidL w) false (laidWorld os) #[.int .i64 0, .slice none 0 0] 8 rfl (by kernel_rfl) (by kernel_rfl) (by kernel_rfl) (by kernel_rfl) (by kernel_rfl) (laidWorld_met os _)) ?_
  intro W base args ds gs before hval0 hW hcnd _ hL _
  have hg := errVar_of_laid hL
  have hval : ∀ (j : Nat) t v, Tryd.f3.params[j]? = some t → args[j]? = some v → Value.okWide Tryd.prog W .any base t v := hval0
  have hW' := hW
  obtain ⟨p, q, hA0, hV, rfl, hfz, hnd⟩ := hW
  have hA : DataW.TrodAll enc Tryd.prog W 0 (fun _ => true) true Tryd.f3.params.toList args.toList ds p := hA0
  rw [Tryd.params3] at hA hval
  obtain ⟨v0, vs0, d0, ds0, p0, q0, hargs, rfl, rfl, h0, r0⟩ := trodAll_cons hA
  obtain ⟨v1, vs1, d1, ds1, p1, q1, rfl, rfl, rfl, h1, r1⟩ := trodAll_cons r0
  obtain ⟨rfl, rfl, rfl⟩ := trodAll_nil r1
  obtain rfl : args = #[v0, v1] := by cases args; simp_all
  obtain ⟨rfl, rfl⟩ := trodVars_none hV
  have k0 := h0
  have lt0 : ∀ x ∈ p0, x.block < W.heap.size := by obtain ⟨m, hm⟩ := k0; exact DataW.trod_lt m _ _ _ hm
  have k1 := h1
  have lt1 : ∀ x ∈ p1, x.block < W.heap.size := by obtain ⟨m, hm⟩ := k1; exact DataW.trod_lt m _ _ _ hm
  obtain ⟨a0, rfl, rfl, rfl, w0⟩ := open_int Tryd.underlying3 (hval 0 3 v0 rfl rfl) h0
  obtain ⟨ao1, len1, cap1, rfl⟩ := okWide_slice Tryd.underlying22 (hval 1 22 v1 rfl rfl)
  obtain ⟨fuel1, hf1⟩ := h1
  obtain ⟨xs1, hn1, hX1, hlc1, hcm1, hxb1⟩ := open_intsA rfl hf1
  clear hA0 hval0
  refine (walk hg a0 hn1 hX1).mono fun e W' ⟨he, hk⟩ => ?_
  subst he
  have bel : Below W.heap.size W W' := hk.below (Nat.le_refl _) (fun _ h => h.elim)
  exact ⟨_, rfl, _, _, _, [], _, [], hW', trodAll_mk1 (shut_bool Tryd.underlying4 _), (trodAll_cons_mk (Below.trod laidOut (by kernel_rfl) (of_decide_eq_true (by kernel_rfl)) k0 bel lt0) (trodAll_cons_mk (Below.trod laidOut (by kernel_rfl) (of_decide_eq_true (by kernel_rfl)) k1 bel lt1) trodAll_mk0)), rfl, bel.frame _, fun h => by cases h⟩

theorem bare : Rows.FaultChainsSaid :=
  OpenClaim.holds_of_wide 3 Tryd.f3 rfl rfl rfl rfl rfl rfl rfl ⟨rfl, rfl, rfl, rfl, rfl⟩ rfl rfl rfl rfl rfl (by kernel_rfl) Tryd.func3 (by kernel_rfl)
    (of_decide_eq_true (by kernel_rfl)) (by unfold Func.isWrapper; first | (rw [if_pos (by decide +kernel)]; kernel_rfl) | (rw [if_neg (by decide +kernel)]; exact ⟨rfl, rfl⟩))
    (fun os started H enc _ => lifted os started H enc)

/-- For every input the law returns true, and its arguments read as before; the one package-level variable that it reads is tied to the program's text. -/
theorem proved : Rows.FaultChainsCardSaid :=
  Claim7.holds_tied_plain_at .later [] [.handle] true _ true
    bare (fun _ h => by cases h) (by kernel_rfl) (fun _ h => by cases h) faultChains_row_tie rfl ⟨rfl, rfl⟩ (by kernel_rfl) rfl
    (fun f fn hf hfn => by
      obtain rfl : f = 3 := Option.some.inj ((show Tryd.prog.funcNamed "usufruct/usufructlaw1.FaultChains" = some 3 by kernel_rfl).symm.trans hf) |>.symm
      obtain rfl : fn = Tryd.f3 := (Option.some.inj (Tryd.func3.symm.trans hfn)).symm
      exact ⟨by kernel_rfl, fun j t ht => by
        rw [Tryd.params3] at ht
        have hm := Array.mem_of_getElem? ht
        simp only [List.mem_toArray, List.mem_cons, List.not_mem_nil, or_false] at hm
        rcases hm with rfl | rfl
        all_goals exact (show Tryd.prog.wantsStandIn _ = false by kernel_rfl)⟩)
    (by kernel_rfl)
#print axioms proved

end Go.Proofs.YtnpndnnoelnodaaDoor.faultChains
