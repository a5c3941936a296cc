/- usufructlaw29.NetBack: Get of Put is the message, and Put of what was read are the bytes; no condition. -/
import Derived.Test.YteifmkfkekglpaaRows
import Derived.Test.YteifmkfkekglpaaNet12
import Derived.Test.YteifmkfkekglpaaNet13
import Derived.ProofKit
import Derived.OpenShut
import Derived.ShutString
import Derived.ChangeOld
import Derived.Below
namespace Go.Proofs.Yteifmkfkekglpaa.netBack
open Go.ChangeShapes Go.WideShapes Go.ChangeAt Go.RowKit
open Go.ChangeMaps (open_string shut_string)

theorem own : ownKnob Try.prog.godebug = none := by kernel_rfl
theorem laidOut : laidOutB Try.prog = true := by kernel_rfl


attribute [local go_sem ↓] exec_mid_msg exec_store_msg
attribute [local go_sem] rowOk_new World.setRow_alloc_new

theorem encS_ge (s : List UInt8) : s.length ≤ (encS s).length := by unfold encS; simp
theorem encMsg_ge (m : MsgT) : m.name.length ≤ (encMsg m).length ∧ m.blob.length ≤ (encMsg m).length ∧ m.sig.length ≤ (encMsg m).length := by
  have h1 := encS_ge m.name
  have h2 := encS_ge m.blob
  have h3 := encS_ge m.sig
  unfold encMsg
  simp only [List.length_append]
  omega

set_option maxRecDepth 100000 in
set_option maxHeartbeats 8000000 in
theorem walk (w : World) {C : Array Value} {m : MsgT} {ao : Option Addr} {cap : Nat} (hC : MsgC C m ao cap) (hM : MsgAt w m ao cap)
    {ab : Option Addr} {nb cb : Nat} {b : List UInt8} (hnb : b.length = nb) (hB : BytesAt w ab b) :
    Calls Try.prog 6 #[.agg C, .slice ab nb cb] w (SaysTrue w) := by
  have B0 := blk_new w C 26
  have K0 := (Keeps.refl Nothing w).alloc (.cells C 26)
  have hgr := fun W => great_any (w := W) hC
  obtain ⟨x1, x2⟩ := blk_mid B0 hC.size
  have hag := hC.row
  obtain ⟨Z, hZ⟩ : ∃ Z, decide (greatP m) = Z := ⟨_, rfl⟩
  rw [hZ] at hgr
  have HZ := shut hZ
  clear hZ
  go_enter Try.func6, Try.ntmps6
  go_wp2_with fail
  refine (hgr _).mono ?_
  rintro e w1 ⟨rfl, k1⟩
  have K1 := K0.trans k1 (fun _ h _ => h)
  have B1 := k1.blk B0 (fun h => h)
  clear hgr x1 x2 k1 B0 K0
  cases Z with
  | true =>
    go_wp2_with fail
    refine (told29 _).mono ?_
    rintro e w9 ⟨rfl, k9⟩
    go_wp2_with fail
    go_ret
    exact ⟨rfl, K1.trans k9 (fun _ h _ => h)⟩
  | false =>
    have hng : ¬ greatP m := by have := HZ.out; simpa using this
    clear HZ
    unfold greatP at hng
    by_cases hnb1 : nb ≤ 2000
    rotate_left
    · have n1 : (2000 : Int) < nb := by omega
      go_wp2_with fail
      refine (told29 _).mono ?_
      rintro e w9 ⟨rfl, k9⟩
      go_wp2_with fail
      go_ret
      exact ⟨rfl, K1.trans k9 (fun _ h _ => h)⟩
    · have n1 : ¬ (2000 : Int) < nb := by omega
      have hS : MsgSmall m := ⟨by omega, by omega, by omega⟩
      obtain ⟨x1, x2⟩ := blk_mid B1 hC.size
      go_wp2_with fail
      refine (put_any hC (hM.keepsN K1) hS).mono ?_
      rintro e w2 hP
      clear x1 x2
      have hmay := fun W => may_any (w := W) hC
      by_cases hy : mayP m
      · obtain ⟨a, c, rfl, ho, k2, hf⟩ := hP.1 hy
        clear hP hf
        rw [decide_eq_true hy] at hmay
        have K2 := K1.trans k2 (fun _ h _ => h)
        have B2 := k2.blk B1 (fun h => h)
        clear k2 K1 B1
        have hlen := encMsg_len hy hC.h32 hM.h32
        have hgp := get_put hy hC.h32 hM.h32
        have HGP := shut hgp
        clear hgp
        have hl5 : (encMsg m).length ≤ 5000 := by omega
        generalize encMsg m = M at *
        go_wp2_with fail
        refine wp_region_mix (fun V => Keeps Nothing w2 V) [(true, 0), (true, 1), (true, 2), (false, 3), (true, 4)] (by kernel_rfl) (by kernel_rfl) (Keeps.refl _ _).drew ?_
        simp only [mixItems, List.map_cons, List.map_nil, List.getD_cons_zero, List.getD_cons_succ]
        repeat (refine wpMix_free (fun K hK => ?_); go_simp; refine hK _ ?_; clear hK K)
        refine wpMix_yield (v := .agg C) (fun V hV => ?_) (fun K hK => ?_)
        · obtain ⟨y1, y2⟩ := blk_mid (hV.blk B2 (fun h => h)) hC.size
          go_simp
        go_simp
        refine hK _ ?_
        clear hK K
        refine wpMix_one (fun K hK => ?_)
        go_wp2_with fail
        refine (hmay _).mono ?_
        rintro e w3 ⟨rfl, k3⟩
        have K3 : Keeps Nothing w2 w3 := (Keeps.refl Nothing w2).drew.trans k3 (fun _ h _ => h)
        go_wp2_with fail
        refine hK _ _ K3 ?_
        clear hK K k3
        repeat (refine wpMix_free (fun K hK => ?_); go_simp; refine hK _ ?_; clear hK K)
        refine wpMix_nil ?_
        have hget := get_any (c := c) ((own8_at ho).keeps K3 (fun _ _ h => h)) hl5
        go_wp2_with fail
        refine hget.mono ?_
        rintro e w4 hG
        obtain ⟨C2, a2, c2, rfl, hC2, hM2, k4⟩ := hG.1 _ HGP.out
        clear hG hget
        have hag2 := hC2.row
        have K4 := (K2.trans K3 (fun _ h _ => h)).trans k4 (fun _ h _ => h)
        have B4 := k4.blk (K3.blk B2 (fun h => h)) (fun h => h)
        have K5 := K4.trans ((Keeps.refl Nothing w4).alloc (.cells C2 26)) (fun _ h _ => h)
        have B5 := blk_alloc B4 (.cells C2 26)
        have D5 := blk_new w4 C2 26
        obtain ⟨x1, x2⟩ := blk_mid B5 hC.size
        obtain ⟨y1, y2⟩ := blk_mid D5 hC2.size
        have hsame := same_true hC hC2 (hM.keepsN K5) (hM2.keepsN ((Keeps.refl Nothing w4).alloc (.cells C2 26)))
        clear K4 B4 k4 K3 B2 K2
        go_wp2_with fail
        refine hsame.mono ?_
        rintro e wz ⟨rfl, kz⟩
        have KZ := K5.trans kz (fun _ h _ => h)
        clear hsame x1 x2 y1 y2 kz K5 B5 D5
        have hgb := get_any (c := cb) (hB.keeps KZ (fun _ _ h => h)) (by omega)
        rw [hnb] at hgb
        go_wp2_with fail
        refine hgb.mono ?_
        rintro e wg hG
        clear hgb
        cases hgm : getM b with
        | none =>
          obtain ⟨ev, rfl, hE, kg⟩ := hG.2 hgm
          clear hG hgm
          obtain ⟨be, rfl⟩ := isErr_yes hE (by decide)
          have hZc := zeroC_is
          obtain ⟨Z0, hZ0⟩ : ∃ Z, Z = zeroC := ⟨_, rfl⟩
          rw [← hZ0] at hZc ⊢
          have HZ0 := shut hZ0
          clear hZ0 hE
          have zr := hZc.row
          have KG := (KZ.trans kg (fun _ h _ => h)).trans ((Keeps.refl Nothing wg).alloc (.cells Z0 26)) (fun _ h _ => h)
          have BZ := blk_new wg Z0 26
          clear kg KZ
          go_wp2_with fail
          refine (told29 _).mono ?_
          rintro e wt ⟨rfl, kt⟩
          have KT := KG.trans kt (fun _ h _ => h)
          obtain ⟨x1, x2⟩ := blk_mid (kt.blk BZ (fun h => h)) hZc.size
          have hsame := same_true (w := wt) hZc hZc (m := zeroM) (msg3_at wt (k := 0) (f := 0) (t := 0) (by decide) (by decide) (by decide)) (msg3_at wt (k := 0) (f := 0) (t := 0) (by decide) (by decide) (by decide))
          clear kt KG BZ
          go_wp2_with fail
          rw [← zeroC_lit, ← HZ0.out]
          refine hsame.mono ?_
          rintro e wu ⟨rfl, ku⟩
          go_wp2_with fail
          go_ret
          exact ⟨rfl, KT.trans ku (fun _ h _ => h)⟩
        | some mz =>
          obtain ⟨Cz, az, cz, rfl, hCz, hMz, kg⟩ := hG.1 mz hgm
          obtain ⟨hyz, hez⟩ := getM_some hgm
          have hge := encMsg_ge mz
          rw [hez] at hge
          have hSz : MsgSmall mz := ⟨by omega, by omega, by omega⟩
          have ka := (Keeps.refl Nothing wg).alloc (.cells Cz 26)
          have KG := (KZ.trans kg (fun _ h _ => h)).trans ka (fun _ h _ => h)
          have BZ := blk_new wg Cz 26
          obtain ⟨x1, x2⟩ := blk_mid BZ hCz.size
          have hagz := hCz.row
          have hput := put_any hCz (hMz.keepsN ka) hSz
          clear hG hgm kg KZ ka BZ
          go_wp2_with fail
          refine hput.mono ?_
          rintro e wp hP
          obtain ⟨a6, c6, rfl, o6, k6, -⟩ := hP.1 hyz
          rw [hez] at o6 ⊢
          have KP := KG.trans k6 (fun _ h _ => h)
          clear hP hput x1 x2 k6 KG hez
          go_wp2_with fail
          refine (told29 _).mono ?_
          rintro e wt ⟨rfl, kt⟩
          have KT := KP.trans kt (fun _ h _ => h)
          have s1 := run_str wt c6 b hnb ((own8_at o6).keeps kt (fun _ _ h => h))
          have s2 := run_str wt cb b hnb (hB.keeps KT (fun _ _ h => h))
          clear kt KP
          go_wp2_with fail
          go_ret
          exact ⟨rfl, KT⟩
      · obtain ⟨ev, rfl, hE, k2⟩ := hP.2 hy
        clear hP
        obtain ⟨be, rfl⟩ := isErr_yes hE (by decide)
        clear hE
        rw [decide_eq_false hy] at hmay
        have K2 := K1.trans k2 (fun _ h _ => h)
        have B2 := k2.blk B1 (fun h => h)
        clear k2 K1 B1
        go_wp2_with fail
        refine wp_region_mix (fun V => Keeps Nothing w2 V) [(true, 0), (true, 1), (true, 2), (false, 3), (true, 4)] (by kernel_rfl) (by kernel_rfl) (Keeps.refl _ _).drew ?_
        simp only [mixItems, List.map_cons, List.map_nil, List.getD_cons_zero, List.getD_cons_succ]
        repeat (refine wpMix_free (fun K hK => ?_); go_simp; refine hK _ ?_; clear hK K)
        refine wpMix_yield (v := .agg C) (fun V hV => ?_) (fun K hK => ?_)
        · obtain ⟨y1, y2⟩ := blk_mid (hV.blk B2 (fun h => h)) hC.size
          go_simp
        go_simp
        refine hK _ ?_
        clear hK K
        refine wpMix_one (fun K hK => ?_)
        go_wp2_with fail
        refine (hmay _).mono ?_
        rintro e w3 ⟨rfl, k3⟩
        have K3 : Keeps Nothing w2 w3 := (Keeps.refl Nothing w2).drew.trans k3 (fun _ h _ => h)
        go_wp2_with fail
        refine hK _ _ K3 ?_
        clear hK K k3
        repeat (refine wpMix_free (fun K hK => ?_); go_simp; refine hK _ ?_; clear hK K)
        refine wpMix_nil ?_
        have KZ := K2.trans K3 (fun _ h _ => h)
        clear K3 B2 K2 hmay
        have hgb := get_any (c := cb) (hB.keeps KZ (fun _ _ h => h)) (by omega)
        rw [hnb] at hgb
        go_wp2_with fail
        refine hgb.mono ?_
        rintro e wg hG
        clear hgb
        cases hgm : getM b with
        | none =>
          obtain ⟨ev, rfl, hE, kg⟩ := hG.2 hgm
          clear hG hgm
          obtain ⟨be, rfl⟩ := isErr_yes hE (by decide)
          have hZc := zeroC_is
          obtain ⟨Z0, hZ0⟩ : ∃ Z, Z = zeroC := ⟨_, rfl⟩
          rw [← hZ0] at hZc ⊢
          have HZ0 := shut hZ0
          clear hZ0 hE
          have zr := hZc.row
          have KG := (KZ.trans kg (fun _ h _ => h)).trans ((Keeps.refl Nothing wg).alloc (.cells Z0 26)) (fun _ h _ => h)
          have BZ := blk_new wg Z0 26
          clear kg KZ
          go_wp2_with fail
          refine (told29 _).mono ?_
          rintro e wt ⟨rfl, kt⟩
          have KT := KG.trans kt (fun _ h _ => h)
          obtain ⟨x1, x2⟩ := blk_mid (kt.blk BZ (fun h => h)) hZc.size
          have hsame := same_true (w := wt) hZc hZc (m := zeroM) (msg3_at wt (k := 0) (f := 0) (t := 0) (by decide) (by decide) (by decide)) (msg3_at wt (k := 0) (f := 0) (t := 0) (by decide) (by decide) (by decide))
          clear kt KG BZ
          go_wp2_with fail
          rw [← zeroC_lit, ← HZ0.out]
          refine hsame.mono ?_
          rintro e wu ⟨rfl, ku⟩
          go_wp2_with fail
          go_ret
          exact ⟨rfl, KT.trans ku (fun _ h _ => h)⟩
        | some mz =>
          obtain ⟨Cz, az, cz, rfl, hCz, hMz, kg⟩ := hG.1 mz hgm
          obtain ⟨hyz, hez⟩ := getM_some hgm
          have hge := encMsg_ge mz
          rw [hez] at hge
          have hSz : MsgSmall mz := ⟨by omega, by omega, by omega⟩
          have ka := (Keeps.refl Nothing wg).alloc (.cells Cz 26)
          have KG := (KZ.trans kg (fun _ h _ => h)).trans ka (fun _ h _ => h)
          have BZ := blk_new wg Cz 26
          obtain ⟨x1, x2⟩ := blk_mid BZ hCz.size
          have hagz := hCz.row
          have hput := put_any hCz (hMz.keepsN ka) hSz
          clear hG hgm kg KZ ka BZ
          go_wp2_with fail
          refine hput.mono ?_
          rintro e wp hP
          obtain ⟨a6, c6, rfl, o6, k6, -⟩ := hP.1 hyz
          rw [hez] at o6 ⊢
          have KP := KG.trans k6 (fun _ h _ => h)
          clear hP hput x1 x2 k6 KG hez
          go_wp2_with fail
          refine (told29 _).mono ?_
          rintro e wt ⟨rfl, kt⟩
          have KT := KP.trans kt (fun _ h _ => h)
          have s1 := run_str wt c6 b hnb ((own8_at o6).keeps kt (fun _ _ h => h))
          have s2 := run_str wt cb b hnb (hB.keeps KT (fun _ _ h => h))
          clear kt KP
          go_wp2_with fail
          go_ret
          exact ⟨rfl, KT⟩
set_option maxRecDepth 100000 in
theorem lifted (os : Os) (started : os.Started) (H : Type) (enc : TypeId × Value → H) :
    ReturnsInHanded {} Try.checked os 6 .any (Rows.netBackSpec.pre6 enc Try.prog Try.f6 Rows.netBackRow.domain false) (Rows.netBackSpec.post enc Try.prog Try.f6 false true false false) := by
  refine returnsInHanded_of_change (C := Try.checked) own started (by kernel_rfl) Try.func6
    (ChangeSpec.witness6 (enc := enc) (C := Try.checked) false ⟨#[], #[.agg #[.int .i64 0, .int .i64 0, .int .i64 0, .int .i64 0, .int .i64 0, .string ⟨#[]⟩, .int .u8 0, .int .u8 0, .int .u8 0, .int .u8 0, .int .u8 0, .int .u8 0, .int .u8 0, .int .u8 0, .int .u8 0, .int .u8 0, .int .u8 0, .int .u8 0, .int .u8 0, .int .u8 0, .int .u8 0, .int .u8 0, .int .u8 0, .int .u8 0, .int .u8 0, .int .u8 0, .int .u8 0, .int .u8 0, .int .u8 0, .int .u8 0, .int .u8 0, .int .u8 0, .int .u8 0, .int .u8 0, .int .u8 0, .int .u8 0, .int .u8 0, .int .u8 0, .slice none 0 0, .string ⟨#[]⟩, .string ⟨#[]⟩], .slice none 0 0], []⟩ 8 (by kernel_rfl) (by kernel_rfl) (by kernel_rfl) (by kernel_rfl)) ?_
  intro W base args ds gs before hval0 hW hcnd _
  have hval : ∀ (j : Nat) t v, Try.f6.params[j]? = some t → args[j]? = some v → Value.okWide Try.prog W .any base t v := hval0
  have hW' := hW
  obtain ⟨p, q, hA0, hV, rfl, hfz, hnd⟩ := hW
  have hA : DataW.TrodAll enc Try.prog W 0 (fun _ => true) true Try.f6.params.toList args.toList ds p := hA0
  rw [Try.params6] at hA hval
  obtain ⟨v0, vs0, d0, ds0, p0, q0, hargs, rfl, rfl, h0, r0⟩ := trodAll_cons hA
  obtain ⟨v1, vs1, d1, ds1, p1, q1, rfl, rfl, rfl, h1, r1⟩ := trodAll_cons r0
  obtain ⟨rfl, rfl, rfl⟩ := trodAll_nil r1
  obtain rfl : args = #[v0, v1] := by cases args; simp_all
  obtain ⟨rfl, rfl⟩ := trodVars_none hV
  have k0 := h0
  have lt0 : ∀ x ∈ p0, x.block < W.heap.size := by obtain ⟨m, hm⟩ := k0; exact DataW.trod_lt m _ _ _ hm
  have k1 := h1
  have lt1 : ∀ x ∈ p1, x.block < W.heap.size := by obtain ⟨m, hm⟩ := k1; exact DataW.trod_lt m _ _ _ hm
  have hv0 := hval 0 26 v0 rfl rfl
  obtain ⟨m, C, ao, cap, rfl, hC, hM, hs1, hs2, hs3⟩ := open_msg hv0 h0
  obtain ⟨ao1, len1, cap1, rfl⟩ := okWide_slice Try.underlying27 (hval 1 27 v1 rfl rfl)
  obtain ⟨fuel1, hf1⟩ := h1
  obtain ⟨bs1, hn1, hB1, hlc1, hcm1⟩ := open_bytes rfl hf1
  clear hA0 hval0
  refine (walk W hC hM hn1 hB1).mono fun e W' ⟨he, hk⟩ => ?_
  subst he
  have bel : Below W.heap.size W W' := hk.below (Nat.le_refl _) (fun _ h => h.elim)
  exact ⟨_, rfl, _, _, _, [], _, [], hW', trodAll_mk1 (shut_bool Try.underlying4 _), (trodAll_cons_mk (Below.trod laidOut (by kernel_rfl) (of_decide_eq_true (by kernel_rfl)) k0 bel lt0) (trodAll_cons_mk (Below.trod laidOut (by kernel_rfl) (of_decide_eq_true (by kernel_rfl)) k1 bel lt1) trodAll_mk0)), rfl, bel.frame _, fun h => by cases h⟩

/-- For every input the law returns true, and its arguments read as before. -/
theorem proved : Rows.NetBackSaid :=
  OpenClaim.holds_of_wide 6 Try.f6 rfl rfl rfl rfl rfl rfl rfl ⟨rfl, rfl, rfl, rfl, rfl⟩ rfl rfl rfl rfl rfl (by kernel_rfl) Try.func6 (by kernel_rfl)
    (of_decide_eq_true (by kernel_rfl)) (by unfold Func.isWrapper; first | (rw [if_pos (by decide +kernel)]; kernel_rfl) | (rw [if_neg (by decide +kernel)]; exact ⟨rfl, rfl⟩))
    (fun os started H enc _ => lifted os started H enc)
#print axioms proved

end Go.Proofs.Yteifmkfkekglpaa.netBack
