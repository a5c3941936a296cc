/- usufructlaw6.LexBlanks: for any text and any row of ints the law returns true; no condition. -/
import Derived.Test.YtgnpklheohaghaaRows
import Derived.Test.YtgnpklheohaghaaLex18
import Derived.Test.YtgnpklheohaghaaArgs
import Derived.BigQuiet
import Derived.Deep.QuietTactic
import Derived.ProofKit
import Derived.OpenShut
import Derived.ShutString
import Derived.ChangeOld
import Derived.Below
namespace Go.Proofs.Ytgnpklheohaghaa.lexBlanks
open Go.ChangeShapes Go.WideShapes Go.ChangeAt Go.RowKit
open Go.ChangeMaps (open_string shut_string)

theorem own : ownKnob Try.prog.godebug = none := by kernel_rfl
theorem laidOut : laidOutB Try.prog = true := by kernel_rfl


/-! ### a row of ints that was handed in -/
def IntsAt (w : World) (ao : Option Addr) (zs : List Int) : Prop :=
  (ao = none → zs = []) ∧ ∀ a, ao = some a → ∀ i z, zs[i]? = some z → a.spot = none ∧ w.cell? (a.add i) = some (.int .i64 z) ∧ -9223372036854775808 ≤ z ∧ z ≤ 9223372036854775807
theorem IntsAt.keepsN {w w' : World} {ao : Option Addr} {zs : List Int} (h : IntsAt w ao zs) (hK : Keeps Nothing w w') : IntsAt w' ao zs :=
  ⟨h.1, fun a e i z hi => ⟨(h.2 a e i z hi).1, hK.cell (h.2 a e i z hi).2.1 (fun h => h), (h.2 a e i z hi).2.2⟩⟩
section
variable {H : Type} {enc : TypeId × Value → H} {w : World} {base : Nat} {spare : Nat → Bool} {held : Bool}
theorem open_introw {fuel : Nat} {v : Value} {ao : Option Addr} {len cap : Nat} {x : DataW H × List MemPlace} (hv : v = .slice ao len cap) (h : DataW.trod enc Try.prog w base spare held fuel 37 v.cells.toList = some x) :
    ∃ zs : List Int, zs.length = len ∧ IntsAt w ao zs ∧ len ≤ cap ∧ cap ≤ maxLen := by
  subst hv
  rcases open_ints Try.underlying37 Try.underlying3 (by kernel_rfl) h with ⟨hcs, _⟩ | ⟨a, l, c, zs, hcs, _, hl, hm, hz, _, hcell, hwz⟩
  · simp [Value.cells] at hcs
    obtain ⟨rfl, rfl, rfl⟩ := hcs
    exact ⟨[], rfl, ⟨fun _ => rfl, fun a e => by simp at e⟩, Nat.le_refl _, Nat.zero_le _⟩
  · simp [Value.cells] at hcs
    obtain ⟨rfl, rfl, rfl⟩ := hcs
    have hlz : len ≤ zs.length := by rw [hz]; split <;> omega
    refine ⟨zs.take len, by simp; omega, ⟨fun e => by simp at e, fun a' e j z hj => ?_⟩, hl, hm⟩
    obtain rfl := Option.some.inj e
    rw [List.getElem?_take] at hj
    split at hj
    · rename_i hjl
      have hg : zs.getD j 0 = z := by rw [List.getD_eq_getElem?_getD, hj]; rfl
      have hc := hcell j (by omega)
      have hs0 := World.cell?_spot (hcell 0 (by omega))
      unfold Addr.add at hs0
      rw [hg] at hc
      have hw := bounds_i64 (hwz z (List.mem_of_getElem? hj))
      exact ⟨by simpa using hs0, hc, hw.1, hw.2⟩
    · cases hj
end

theorem ad_add (a : Addr) (h : a.spot = none) (i : Nat) : a.add i = ⟨a.block, a.off + i, none⟩ := by
  obtain ⟨b, o, s⟩ := a
  simp only at h
  subst h
  unfold Addr.add
  split
  · rename_i h; subst h; rfl
  · rfl
theorem tmod5 (z : Int) : ∃ q : Int, z.tmod 5 = q ∧ -4 ≤ q ∧ q ≤ 4 ∧ ∃ v : Nat, v < 5 ∧ (q + 5).tmod 5 = (v : Int) := by
  have h1 : -4 ≤ z.tmod 5 ∧ z.tmod 5 ≤ 4 := by
    have h2 := Int.lt_tmod_of_pos z (show (0 : Int) < 5 by decide)
    have h3 := Int.tmod_lt_of_pos z (show (0 : Int) < 5 by decide)
    omega
  refine ⟨_, rfl, h1.1, h1.2, ?_⟩
  obtain ⟨q, hq⟩ : ∃ q, z.tmod 5 = q := ⟨_, rfl⟩
  rw [hq] at h1 ⊢
  have h4 : (q + 5).tmod 5 = (q + 5).emod 5 := Int.tmod_eq_emod_of_nonneg (by omega)
  have h5 := Int.emod_nonneg (q + 5) (show (5 : Int) ≠ 0 by decide)
  have h6 := Int.emod_lt_of_pos (q + 5) (show (0 : Int) < 5 by decide)
  rw [h4]
  exact ⟨((q + 5).emod 5).toNat, by have : (q + 5).emod 5 = (q + 5) % 5 := rfl; omega, by have : (q + 5).emod 5 = (q + 5) % 5 := rfl; omega⟩
def sepOf (z : Int) : List UInt8 := sepsL.getD ((z.tmod 5 + 5).tmod 5).toNat [32]
theorem sepOf_ok (z : Int) : SepOk (sepOf z) := by
  obtain ⟨q, h1, _, _, v, h2, h3⟩ := tmod5 z
  unfold sepOf
  rw [h1, h3, Int.toNat_natCast]
  refine seps_ok _ ?_
  rw [List.getD_eq_getElem?_getD, List.getElem?_eq_getElem (show v < sepsL.length from h2)]
  exact List.getElem_mem _
theorem lit_get {v : Nat} (hv : v < 5) : (#[.string ⟨#[32]⟩, .string ⟨#[10]⟩, .string ⟨#[9, 32]⟩, .string ⟨#[32, 47, 47, 32, 97, 32, 39, 98, 10]⟩, .string ⟨#[47, 47, 10, 47, 47, 10]⟩] : Array Value)[v]? = some (.string ⟨(sepsL.getD v [32]).toArray⟩) := by
  match v, hv with
  | 0, _ => rfl
  | 1, _ => rfl
  | 2, _ => rfl
  | 3, _ => rfl
  | 4, _ => rfl

set_option maxRecDepth 100000 in
set_option maxHeartbeats 4000000 in
theorem walk (w : World) (s : List UInt8) (hs : s.length < 9223372036854775808) (ao : Option Addr) (len cap : Nat) (zs : List Int) (hlen : zs.length = len) (hI : IntsAt w ao zs) (hmax : len ≤ maxLen) :
    Calls Try.prog 7 #[.string ⟨s.toArray⟩, .slice ao len cap] w (SaysTrue w) := by
  have hsz : (ByteArray.mk s.toArray).size = s.length := rfl
  have hmax' : len ≤ 9223372036854775807 := by unfold maxLen at hmax; omega
  have HLEN := shut hlen
  clear hmax hlen
  go_enter Try.func7, Try.ntmps7
  by_cases hbig : 1000 < s.length
  · have hc : (1000 : Int) < s.length := by omega
    go_wp2_with fail
    refine (told6_any _).mono ?_
    rintro e wt ⟨rfl, kt⟩
    go_wp2_with fail
    go_ret
    exact ⟨rfl, kt⟩
  have hc1 : ¬ (1000 : Int) < s.length := by omega
  have hla : s.length ≤ 1000 := by omega
  go_wp2_with fail
  refine (lex_any w s (by omega)).mono ?_
  intro e w1 h1
  have h1' := lex_small (by omega) h1
  clear h1
  rcases h1' with ⟨hA, h1⟩ | ⟨p, _, h1⟩
  · obtain ⟨ax, cx, rfl, o1, k1, _⟩ := h1
    have hne := lexL_ne hA
    obtain ⟨hbd, hbt⟩ := lexL_bd s
    obtain ⟨g, rfl⟩ := ownT_head o1 hne
    obtain ⟨ts, hts, hB2, hBm⟩ := lexL_build hA (fun i => sepOf (zs.getD i 0)) (fun i => sepOf_ok _)
    obtain ⟨sep, hsep⟩ : ∃ sep : Nat → List UInt8, (fun i => sepOf (zs.getD i 0)) = sep := ⟨_, rfl⟩
    rw [hsep] at hB2 hBm
    have hso : ∀ i, SepOk (sep i) := fun i => by rw [← hsep]; exact sepOf_ok _
    have hse : ∀ i, sep i = sepOf (zs.getD i 0) := fun i => by rw [← hsep]
    have hbl : ∀ i, (build sep 0 (ts.take i)).length ≤ 1010000 := fun i => by
      have h2 := build_len sep hso 1000 (ts.take i) 0 (fun t ht => by
        have h3 := (hbt t (by rw [hts]; exact List.mem_append_left _ (List.mem_of_mem_take ht))).2
        omega)
      rw [hts, List.length_append] at hbd
      have h4 : (ts.take i).length ≤ 1000 := by rw [List.length_take]; simp at hbd; omega
      have h5 : (ts.take i).length * (1000 + 10) ≤ 1000 * 1010 := Nat.mul_le_mul_right _ h4
      omega
    obtain ⟨T, hT⟩ : ∃ T, (lexL s).1 = T := ⟨_, rfl⟩
    rw [hT] at o1 hbd hbt hts hBm ⊢
    obtain ⟨n, hn⟩ : ∃ n, ts.length = n := ⟨_, rfl⟩
    have hTl : T.length = n + 1 := by rw [hts, List.length_append, hn]; rfl
    have hget : ∀ i, i < n → ∃ t, ts[i]? = some t ∧ T[i]? = some t ∧ t.text.length ≤ 1000 := fun i hi => by
      obtain ⟨t, ht⟩ : ∃ t, ts[i]? = some t := ⟨_, List.getElem?_eq_getElem (by omega)⟩
      have h2 : T[i]? = some t := by rw [hts, List.getElem?_append_left (by omega)]; exact ht
      have h3 := (hbt t (List.mem_of_getElem? h2)).2
      exact ⟨t, ht, h2, by omega⟩
    rw [hTl] at hbd ⊢
    have HSE := shut hse
    have HSO := shut hso
    have HBL := shut hbl
    have HGET := shut hget
    have HTL := shut hTl
    have HN := shut hn
    have HTS := shut hts
    have HB2 := shut hB2
    have HBM := shut hBm
    have I1 := hI.keepsN k1
    have II := shut I1
    have hn1000 : n ≤ 1000 := by omega
    clear hse hso hbl hget hTl hn hts hB2 hBm hbt hA hne hT hsep hI I1
    go_wp2_with fail
    go_loopw [7, 8] (fun s7 s8 wx => ∃ i : Nat, s8 = .int .i64 i ∧ s7 = .string ⟨(build sep 0 (ts.take i)).toArray⟩ ∧ i ≤ n ∧ Keeps Nothing w1 wx) (fun _ s8 _ => n - (intOf s8).toNat)
    case atStart => exact ⟨0, rfl, rfl, Nat.zero_le _, Keeps.refl _ _⟩
    case round =>
      obtain ⟨i, rfl, rfl, hi, KR⟩ := hrel
      by_cases hlt : i < n
      · obtain ⟨t, ht, hTt, htx⟩ := HGET.out i hlt
        obtain ⟨a0, a1, a2⟩ := ownT_cells (KR.own o1 (fun _ _ h => h)) hTt
        have m1 : (i : Int) + 1 < (n : Int) + 1 := by omega
        have m1' : (i : Int) < (n : Int) := by omega
        have m0 : (0 : Int) ≤ i := by omega
        obtain ⟨z, hz⟩ : ∃ z, zs.getD i 0 = z := ⟨_, rfl⟩
        obtain ⟨q, hq, q1, q2, v, hv, hv2⟩ := tmod5 z
        have hlit := lit_get hv
        obtain ⟨sp, hsp⟩ : ∃ sp, sepsL.getD v [32] = sp := ⟨_, rfl⟩
        have hsepi : sep i = sp := by rw [HSE.out, hz, ← hsp]; unfold sepOf; rw [hq, hv2, Int.toNat_natCast]
        have hspl : sp.length ≤ 9 := by rw [← hsepi]; exact (HSO.out i).2.2
        rw [hsp] at hlit
        obtain ⟨B, hB⟩ : ∃ B, build sep 0 (ts.take i) = B := ⟨_, rfl⟩
        have hBl : B.length ≤ 1010000 := by rw [← hB]; exact HBL.out i
        have hB1 : build sep 0 (ts.take (i + 1)) = B ++ (sp ++ rawT t) := by
          have h9 := build_snoc sep (ts.take i) 0 t
          have h8 : ts.take (i + 1) = ts.take i ++ [t] := by rw [List.take_add_one, ht]; rfl
          rw [h8, h9, hB, List.length_take, HN.out, Nat.min_eq_left hi, Nat.zero_add, hsepi]
        rw [hB]
        have HB1 := shut hB1
        have z1 : (ByteArray.mk B.toArray).size = B.length := rfl
        have z2 : (ByteArray.mk sp.toArray).size = sp.length := rfl
        have z3 : (ByteArray.mk t.text.toArray).size = t.text.length := rfl
        have l1 : ¬ 9223372036854775807 < B.length + sp.length := by omega
        have l2 : ¬ 9223372036854775807 < B.length + sp.length + 1 := by omega
        have l3 : ¬ 9223372036854775807 < B.length + sp.length + t.text.length := by omega
        have l4 : ¬ 9223372036854775807 < B.length + sp.length + 1 + t.text.length := by omega
        have v0 : (0 : Int) ≤ v := by omega
        have v5 : (v : Int) < 5 := by omega
        have q0 : IntKind.i64.wrap (q + 5) = q + 5 := IntWalk.i64_in _ (by omega)
        have HZ := shut hz
        clear hsp hsepi hB hB1 ht hTt hz
        by_cases hil : i < len
        · have m2 : (i : Int) < (len : Int) := by omega
          have hzi : zs[i]? = some z := by
            have h1 := HZ.out
            rw [List.getD_eq_getElem?_getD, List.getElem?_eq_getElem (by rw [HLEN.out]; exact hil)] at h1
            rw [List.getElem?_eq_getElem (by rw [HLEN.out]; exact hil)]
            exact congrArg some h1
          have I2 := II.out.keepsN KR
          cases ao with
          | none => have := I2.1 rfl; subst this; simp at hzi
          | some ad =>
            obtain ⟨hs0, hc0, hb0, hb1⟩ := I2.2 ad rfl i z hzi
            obtain ⟨ab, aof, asp⟩ := ad
            obtain rfl : asp = none := hs0
            rw [ad_add _ rfl] at hc0
            clear hzi I2
            have KA := (Keeps.refl Nothing wr).alloc (.cells #[.string ⟨#[32]⟩, .string ⟨#[10]⟩, .string ⟨#[9, 32]⟩, .string ⟨#[32, 47, 47, 32, 97, 32, 39, 98, 10]⟩, .string ⟨#[47, 47, 10, 47, 47, 10]⟩] 9)
            replace a0 := KA.cell a0 (fun h => h)
            replace a1 := KA.cell a1 (fun h => h)
            have BL := blk_new wr #[.string ⟨#[32]⟩, .string ⟨#[10]⟩, .string ⟨#[9, 32]⟩, .string ⟨#[32, 47, 47, 32, 97, 32, 39, 98, 10]⟩, .string ⟨#[47, 47, 10, 47, 47, 10]⟩] 9
            have hce := blk_cell BL v hlit
            have KR2 := KR.alloc (.cells #[.string ⟨#[32]⟩, .string ⟨#[10]⟩, .string ⟨#[9, 32]⟩, .string ⟨#[32, 47, 47, 32, 97, 32, 39, 98, 10]⟩, .string ⟨#[47, 47, 10, 47, 47, 10]⟩] 9)
            clear a2 KA BL
            by_cases hk : t.kind = 3
            · have y1 : ((t.kind : Int) == 3) = true := by rw [beq_iff_eq]; omega
              have y2 : (t.kind : Int) = 3 := by omega
              have HR := shut (show build sep 0 (ts.take (i + 1)) = B ++ sp ++ [39] ++ t.text by rw [HB1.out]; unfold rawT; rw [if_pos hk]; simp)
              clear hk
              go_wp2_with fail
              go_roundw
              case rel => exact ⟨i + 1, by go_num, by rw [HR.out]; first | rfl | simp [ByteArray.mk_append_mk], by omega, KR2⟩
              case measure => simp [intOf]; omega
            · have y1 : ((t.kind : Int) == 3) = false := by rw [beq_eq_false_iff_ne]; omega
              have y2 : ¬ (t.kind : Int) = 3 := by omega
              have HR := shut (show build sep 0 (ts.take (i + 1)) = B ++ sp ++ t.text by rw [HB1.out]; unfold rawT; rw [if_neg hk]; simp)
              clear hk
              go_wp2_with fail
              go_roundw
              case rel => exact ⟨i + 1, by go_num, by rw [HR.out]; first | rfl | simp [ByteArray.mk_append_mk], by omega, KR2⟩
              case measure => simp [intOf]; omega
        · have m2 : ¬ (i : Int) < (len : Int) := by omega
          have hz0 : z = 0 := by
            rw [← HZ.out, List.getD_eq_getElem?_getD, List.getElem?_eq_none (by rw [HLEN.out]; omega)]; rfl
          subst hz0
          have KA := (Keeps.refl Nothing wr).alloc (.cells #[.string ⟨#[32]⟩, .string ⟨#[10]⟩, .string ⟨#[9, 32]⟩, .string ⟨#[32, 47, 47, 32, 97, 32, 39, 98, 10]⟩, .string ⟨#[47, 47, 10, 47, 47, 10]⟩] 9)
          replace a0 := KA.cell a0 (fun h => h)
          replace a1 := KA.cell a1 (fun h => h)
          have BL := blk_new wr #[.string ⟨#[32]⟩, .string ⟨#[10]⟩, .string ⟨#[9, 32]⟩, .string ⟨#[32, 47, 47, 32, 97, 32, 39, 98, 10]⟩, .string ⟨#[47, 47, 10, 47, 47, 10]⟩] 9
          have hce := blk_cell BL v hlit
          have KR2 := KR.alloc (.cells #[.string ⟨#[32]⟩, .string ⟨#[10]⟩, .string ⟨#[9, 32]⟩, .string ⟨#[32, 47, 47, 32, 97, 32, 39, 98, 10]⟩, .string ⟨#[47, 47, 10, 47, 47, 10]⟩] 9)
          clear a2 KA BL
          by_cases hk : t.kind = 3
          · have y1 : ((t.kind : Int) == 3) = true := by rw [beq_iff_eq]; omega
            have y2 : (t.kind : Int) = 3 := by omega
            have HR := shut (show build sep 0 (ts.take (i + 1)) = B ++ sp ++ [39] ++ t.text by rw [HB1.out]; unfold rawT; rw [if_pos hk]; simp)
            clear hk
            go_wp2_with fail
            go_roundw
            case rel => exact ⟨i + 1, by go_num, by rw [HR.out]; first | rfl | simp [ByteArray.mk_append_mk], by omega, KR2⟩
            case measure => simp [intOf]; omega
          · have y1 : ((t.kind : Int) == 3) = false := by rw [beq_eq_false_iff_ne]; omega
            have y2 : ¬ (t.kind : Int) = 3 := by omega
            have HR := shut (show build sep 0 (ts.take (i + 1)) = B ++ sp ++ t.text by rw [HB1.out]; unfold rawT; rw [if_neg hk]; simp)
            clear hk
            go_wp2_with fail
            go_roundw
            case rel => exact ⟨i + 1, by go_num, by rw [HR.out]; first | rfl | simp [ByteArray.mk_append_mk], by omega, KR2⟩
            case measure => simp [intOf]; omega
      · obtain rfl : i = n := by omega
        have m1 : ¬ (i : Int) + 1 < (i : Int) + 1 := by omega
        have hall : ts.take i = ts := List.take_of_length_le (by rw [HN.out]; exact Nat.le_refl _)
        obtain ⟨B, hB⟩ : ∃ B, build sep 0 (ts.take i) = B := ⟨_, rfl⟩
        have hBl : B.length ≤ 1010000 := by rw [← hB]; exact HBL.out i
        rw [hB]
        rw [hall] at hB
        have z1 : (ByteArray.mk B.toArray).size = B.length := rfl
        have l1 : ¬ 9223372036854775807 < B.length + 1 := by omega
        have HBE := shut hB
        clear hall hB
        go_wp2_with fail
        rw [show (Value.string (⟨B.toArray⟩ ++ ⟨#[10]⟩)) = .string ⟨(B ++ [10]).toArray⟩ from cat_eq B [10]]
        refine (lex_any wr (B ++ [10]) (by simp; omega)).mono ?_
        intro e w2 h2
        have h2' := lex_small (by simp; omega) h2
        clear h2
        rcases h2' with ⟨_, h2⟩ | ⟨p, hp, _⟩
        · obtain ⟨ay, cy, rfl, o2, k2, _⟩ := h2
          have hM : (lexL (B ++ [10])).1.map ktT = T.map ktT := by rw [← HBE.out]; exact HBM.out
          obtain ⟨M, hMe⟩ : ∃ M, (lexL (B ++ [10])).1 = M := ⟨_, rfl⟩
          rw [hMe] at hM o2 ⊢
          have hMl : M.length = i + 1 := by rw [← HTL.out]; simpa using congrArg List.length hM
          have hM2 : ∀ (j : Nat) (t : Tok), T[j]? = some t → ∃ m : Tok, M[j]? = some m ∧ m.kind = t.kind ∧ m.text = t.text := fun j t hj => by
            have h5 := congrArg (fun l => l[j]?) hM
            simp only [List.getElem?_map, hj, Option.map_some] at h5
            cases hm : M[j]? with
            | none => rw [hm] at h5; cases h5
            | some m =>
              rw [hm] at h5
              have h6 := Option.some.inj h5
              exact ⟨m, rfl, congrArg Prod.fst h6, congrArg Prod.snd h6⟩
          obtain ⟨gy, rfl⟩ := ownT_head o2 (by rintro rfl; simp at hMl)
          rw [hMl]
          have HM2 := shut hM2
          have K12 := KR.trans k2 (fun _ h _ => h)
          have ox := K12.own o1 (fun _ _ h => h)
          clear hM hMe hMl hM2 HBM HB2 HBE HGET HBL HSE HSO
          go_wp2_with fail
          go_loopw [12] (fun s12 wx => ∃ j : Nat, s12 = .int .i64 j ∧ j ≤ i + 1 ∧ Keeps Nothing w2 wx) (fun s12 _ => i + 1 - (intOf s12).toNat)
          case atStart => exact ⟨0, rfl, Nat.zero_le _, Keeps.refl _ _⟩
          case round =>
            obtain ⟨j, rfl, hj, KJ⟩ := hrel
            by_cases hjl : j < i + 1
            · obtain ⟨x, hx⟩ : ∃ x, T[j]? = some x := ⟨_, List.getElem?_eq_getElem (by rw [HTL.out]; exact hjl)⟩
              obtain ⟨m, hm, hmk, hmt⟩ := HM2.out j x hx
              obtain ⟨x0, x1, x2⟩ := ownT_cells (KJ.own ox (fun _ _ h => h)) hx
              obtain ⟨y0, y1, y2⟩ := ownT_cells (KJ.own o2 (fun _ _ h => h)) hm
              rw [hmk] at y0
              rw [hmt] at y1
              have n0 : (0 : Int) ≤ j := by omega
              have n1 : (j : Int) < (i : Int) + 1 := by omega
              have cb : ((x.kind : Int) != x.kind) = false := by simp
              clear hx hm hmk hmt m1
              go_wp2_with fail
              go_quiet (fail)
              go_wp2_with fail
              go_roundw
              case rel => exact ⟨j + 1, by go_num, by omega, KJ.drewN _⟩
              case measure => simp [intOf]; omega
            · have n1 : ¬ (j : Int) < (i : Int) + 1 := by omega
              clear m1
              go_wp2_with fail
              refine (told6_any _).mono ?_
              rintro e wt ⟨rfl, kt⟩
              go_wp2_with fail
              go_ret
              exact ⟨rfl, ((k1.trans K12 (fun _ h _ => h)).trans KJ (fun _ h _ => h)).trans kt (fun _ h _ => h)⟩
        · have := HB2.out
          rw [HBE.out, hp] at this
          cases this
  · obtain ⟨ev, rfl, hev, k1⟩ := h1
    obtain ⟨bb, rfl⟩ := isErr_yes hev (by decide)
    go_wp2_with fail
    refine (told6_any _).mono ?_
    rintro e wt ⟨rfl, kt⟩
    go_wp2_with fail
    go_ret
    exact ⟨rfl, k1.trans kt (fun _ h _ => h)⟩
set_option maxRecDepth 100000 in
theorem lifted (os : Os) (started : os.Started) (H : Type) (enc : TypeId × Value → H) :
    ReturnsInHanded {} Try.checked os 7 .any (Rows.lexBlanksSpec.pre6 enc Try.prog Try.f7 Rows.lexBlanksRow.domain false) (Rows.lexBlanksSpec.post enc Try.prog Try.f7 false true false false) := by
  refine returnsInHanded_of_change (C := Try.checked) own started (by kernel_rfl) Try.func7
    (ChangeSpec.witness6 (enc := enc) (C := Try.checked) false ⟨#[], #[.string ⟨#[]⟩, .slice none 0 0], []⟩ 8 (by kernel_rfl) (by kernel_rfl) (by kernel_rfl) (by kernel_rfl)) ?_
  intro W base args ds gs before hval0 hW hcnd _
  have hval : ∀ (j : Nat) t v, Try.f7.params[j]? = some t → args[j]? = some v → Value.okWide Try.prog W .any base t v := hval0
  have hW' := hW
  obtain ⟨p, q, hA0, hV, rfl, hfz, hnd⟩ := hW
  have hA : DataW.TrodAll enc Try.prog W 0 (fun _ => true) true Try.f7.params.toList args.toList ds p := hA0
  rw [Try.params7] at hA hval
  obtain ⟨v0, vs0, d0, ds0, p0, q0, hargs, rfl, rfl, h0, r0⟩ := trodAll_cons hA
  obtain ⟨v1, vs1, d1, ds1, p1, q1, rfl, rfl, rfl, h1, r1⟩ := trodAll_cons r0
  obtain ⟨rfl, rfl, rfl⟩ := trodAll_nil r1
  obtain rfl : args = #[v0, v1] := by cases args; simp_all
  obtain ⟨rfl, rfl⟩ := trodVars_none hV
  have k0 := h0
  have lt0 : ∀ x ∈ p0, x.block < W.heap.size := by obtain ⟨m, hm⟩ := k0; exact DataW.trod_lt m _ _ _ hm
  have k1 := h1
  have lt1 : ∀ x ∈ p1, x.block < W.heap.size := by obtain ⟨m, hm⟩ := k1; exact DataW.trod_lt m _ _ _ hm
  obtain ⟨s0, rfl, rfl, rfl, hs0⟩ := open_string Try.underlying9 (hval 0 9 v0 rfl rfl) h0
  obtain ⟨ao1, len1, cap1, rfl⟩ := okWide_slice Try.underlying37 (hval 1 37 v1 rfl rfl)
  obtain ⟨fuel1, hf1⟩ := h1
  obtain ⟨zs1, hn1, hB1, hlc1, hcm1⟩ := open_introw rfl hf1
  clear hA0 hval0
  have hw := walk W (bytesOf s0) (by rw [bytesOf_length]; unfold maxLen at hs0; omega) ao1 len1 cap1 zs1 hn1 hB1 (by omega)
  rw [text_eta] at hw
  refine hw.mono fun e W' ⟨he, hk⟩ => ?_
  subst he
  have bel : Below W.heap.size W W' := hk.below (Nat.le_refl _) (fun _ h => h.elim)
  exact ⟨_, rfl, _, _, _, [], _, [], hW', trodAll_mk1 (shut_bool Try.underlying4 _), (trodAll_cons_mk (Below.trod laidOut (by kernel_rfl) (of_decide_eq_true (by kernel_rfl)) k0 bel lt0) (trodAll_cons_mk (Below.trod laidOut (by kernel_rfl) (of_decide_eq_true (by kernel_rfl)) k1 bel lt1) trodAll_mk0)), rfl, bel.frame _, fun h => by cases h⟩

/-- For every input the law returns true, and its arguments read as before. -/
theorem proved : Rows.LexBlanksSaid :=
  OpenClaim.holds_of_wide 7 Try.f7 rfl rfl rfl rfl rfl rfl rfl ⟨rfl, rfl, rfl, rfl, rfl⟩ rfl rfl rfl rfl rfl (by kernel_rfl) Try.func7 (by kernel_rfl)
    (of_decide_eq_true (by kernel_rfl)) (by unfold Func.isWrapper; first | (rw [if_pos (by decide +kernel)]; kernel_rfl) | (rw [if_neg (by decide +kernel)]; exact ⟨rfl, rfl⟩))
    (fun os started H enc _ => lifted os started H enc)
#print axioms proved

end Go.Proofs.Ytgnpklheohaghaa.lexBlanks
