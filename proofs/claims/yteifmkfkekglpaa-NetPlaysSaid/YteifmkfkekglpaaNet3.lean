/- usufructref25.PutMsg. -/
import Derived.Test.YteifmkfkekglpaaNet2
import Derived.Test.YteifmkfkekglpaaMix
namespace Go.Proofs.Yteifmkfkekglpaa
open Go.RowKit

theorem rtext (s : List UInt8) (hs : s.length ≤ 1000000) (w : World) : Calls Try.prog 34 #[.string ⟨s.toArray⟩] w (SaysText w (encS s)) :=
  refText ⟨s.toArray⟩ (by show s.toArray.size ≤ _; simpa using hs) w
theorem str_app (a b : List UInt8) : ((⟨a.toArray⟩ : ByteArray) ++ ⟨b.toArray⟩) = ⟨(a ++ b).toArray⟩ := by rw [ByteArray.mk_append_mk]
def RMay (m : MsgT) (C : Array Value) : Prop := ∀ W, Calls Try.prog 13 #[.agg C] W fun e w' => e = .returned (.bool (decide (mayP m))) ∧ Keeps Nothing W w'
/-- What the document writes. -/
def rPut (m : MsgT) : List UInt8 × Int := if mayP m then (encMsg m, 0) else ([], 1)

attribute [local go_sem ↓] exec_mid_msg exec_store_msg exec_mid_hash exec_load_hash exec_store_hash
attribute [local go_sem] rowOk_new World.setRow_alloc_new

set_option maxRecDepth 100000 in
set_option maxHeartbeats 8000000 in
theorem rput_of {w : World} {C : Array Value} {m : MsgT} {ao : Option Addr} {cap : Nat} (hrm : RMay m C) (hC : MsgC C m ao cap) (hM : MsgAt w m ao cap) (hS : MsgSmall m) :
    Calls Try.prog 10 #[.agg C] w fun e w' => e = .returned (.tuple #[.string ⟨(rPut m).1.toArray⟩, .int .i64 (rPut m).2]) ∧ Keeps Nothing w w' := by
  have B0 := blk_new w C 26
  have K0 := (Keeps.refl Nothing w).alloc (.cells C 26)
  obtain ⟨x1, x2⟩ := blk_mid B0 hC.size
  have hCr := hC.row
  unfold RMay at hrm
  obtain ⟨Z, hZ⟩ : ∃ Z, decide (mayP m) = Z := ⟨_, rfl⟩
  rw [hZ] at hrm
  have HZ := shut hZ
  clear hZ
  go_enter Try.func10, Try.ntmps10
  go_wp2_with fail
  refine (hrm _).mono ?_
  rintro e wb ⟨rfl, k1⟩
  have K1 := K0.trans k1 (fun _ h _ => h)
  have B1 := k1.blk B0 (fun h => h)
  clear x1 x2 hrm B0 k1 K0
  cases Z with
  | false =>
    have hno : ¬ mayP m := by have := HZ.out; simpa using this
    go_wp2_with fail
    go_ret2
    exact ⟨by unfold rPut; rw [if_neg hno]; rfl, K1⟩
  | true =>
    have hyes : mayP m := by have := HZ.out; simpa using this
    have hbd := hyes
    unfold mayP at hbd
    obtain ⟨s1, s2, s3⟩ := hS
    have hF : Shut (rPut m = (encMsg m, 0)) := shut (by unfold rPut; rw [if_pos hyes])
    have hhl : m.hashes.length ≤ 64 := hbd.2.2.2.2.2.2.2.2.2.2.2.1
    clear hyes hbd HZ
    obtain ⟨enc, henc⟩ : ∃ enc, enc = encMsg m := ⟨_, rfl⟩
    rw [← henc] at hF
    unfold encMsg at henc
    have HENC := shut henc
    clear henc
    have q1 := fun W => refInt m.kind hM.k0 hM.k1 W
    have q2 := fun W => refInt m.frm hM.f0 hM.f1 W
    have q3 := fun W => refInt m.to hM.t0 hM.t1 W
    have q4 := fun W => refInt m.crate hM.c0 hM.c1 W
    have q5 := fun W => refInt m.epoch hM.e0 hM.e1 W
    have q6 := fun W => rtext m.name (by omega) W
    have q7 := fun W => refHash m.hash hC.h32 W
    have q8 := fun W => refUint m.hashes.length (by omega) W
    have l1 := encI_len m.kind hM.k0 hM.k1
    have l2 := encI_len m.frm hM.f0 hM.f1
    have l3 := encI_len m.to hM.t0 hM.t1
    have l4 := encI_len m.crate hM.c0 hM.c1
    have l5 := encI_len m.epoch hM.e0 hM.e1
    have l6 := encS_len m.name (by omega)
    have l7 := hC.h32
    have l8 := encU_len10 (show m.hashes.length < 18446744073709551616 by omega)
    have hat := hM.at'
    have h3232 := hM.h32
    have h32 : (m.hash.map byteV).length = 32 := by rw [List.length_map]; exact hC.h32
    have r1 := msg_hash B1 hC
    have c0 := blk_cell B1 0 hC.c0
    have c1 := blk_cell B1 1 hC.c1
    have c2 := blk_cell B1 2 hC.c2
    have c3 := blk_cell B1 3 hC.c3
    have c4 := blk_cell B1 4 hC.c4
    have c5 := blk_cell B1 5 hC.c5
    have c38 := blk_cell B1 38 hC.c38
    have c39 := blk_cell B1 39 hC.c39
    have c40 := blk_cell B1 40 hC.c40
    clear hC hM B1
    obtain ⟨kd, fr, tt, cr, ep, nm, hs, hh, bl, sg⟩ := m
    simp only at *
    obtain ⟨HT, hHT⟩ : ∃ HT, (hs.map byteV).toArray = HT := ⟨_, rfl⟩
    have HHT := shut hHT
    unfold hashV at q7
    rw [hHT] at q7
    clear hHT
    generalize encI kd = E1 at *
    generalize encI fr = E2 at *
    generalize encI tt = E3 at *
    generalize encI cr = E4 at *
    generalize encI ep = E5 at *
    generalize encS nm = E6 at *
    obtain ⟨n, hn⟩ : ∃ n, hh.length = n := ⟨_, rfl⟩
    rw [hn] at hhl q8 l8 c38 HENC
    generalize encU n = E8 at *
    have hw64 : IntKind.u64.wrap (n : Int) = n := by rw [IntKind.wrap_u64]; omega
    have z2 : ¬ 9223372036854775807 < E1.length + E2.length := by omega
    have z3 : ¬ 9223372036854775807 < E1.length + E2.length + E3.length := by omega
    have z4 : ¬ 9223372036854775807 < E1.length + E2.length + E3.length + E4.length := by omega
    have z5 : ¬ 9223372036854775807 < E1.length + E2.length + E3.length + E4.length + E5.length := by omega
    have z6 : ¬ 9223372036854775807 < E1.length + E2.length + E3.length + E4.length + E5.length + E6.length := by omega
    have z7 : ¬ 9223372036854775807 < E1.length + E2.length + E3.length + E4.length + E5.length + E6.length + hs.length := by omega
    have z8 : ¬ 9223372036854775807 < E1.length + E2.length + E3.length + E4.length + E5.length + E6.length + hs.length + E8.length := by omega
    have L7 := shut l7
    clear l7
    go_wp2_with fail
    have J0 : Keeps Nothing wb wb.drew := (Keeps.refl _ _).drew
    refine wp_region_mix (fun V => Keeps Nothing wb V) [(true, 0), (true, 1), (true, 3), (true, 4), (true, 7), (true, 8), (true, 11), (true, 12), (true, 15), (true, 16), (true, 19), (true, 20), (true, 23), (true, 24), (true, 27), (true, 28), (true, 29), (true, 30), (false, 2), (false, 5), (true, 6), (false, 9), (true, 10), (false, 13), (true, 14), (false, 17), (true, 18), (false, 21), (true, 22), (false, 25), (true, 26), (false, 31), (true, 32), (true, 33)] (by kernel_rfl) (by kernel_rfl) J0 ?_
    simp only [mixItems, List.map_cons, List.map_nil, List.getD_cons_zero, List.getD_cons_succ]
    repeat (refine wpMix_free (fun K hK => ?_); go_simp; refine hK _ ?_; clear hK K)
    refine wpMix_yield (v := .int .i64 kd) (fun V hV => ?_) (fun K hK => ?_)
    · have y1 := hV.cell c0 (fun h => h)
      go_simp
    go_simp
    refine hK _ ?_
    clear hK K
    repeat (refine wpMix_free (fun K hK => ?_); go_simp; refine hK _ ?_; clear hK K)
    refine wpMix_yield (v := .int .i64 fr) (fun V hV => ?_) (fun K hK => ?_)
    · have y1 := hV.cell c1 (fun h => h)
      go_simp
    go_simp
    refine hK _ ?_
    clear hK K
    repeat (refine wpMix_free (fun K hK => ?_); go_simp; refine hK _ ?_; clear hK K)
    refine wpMix_yield (v := .int .i64 tt) (fun V hV => ?_) (fun K hK => ?_)
    · have y1 := hV.cell c2 (fun h => h)
      go_simp
    go_simp
    refine hK _ ?_
    clear hK K
    repeat (refine wpMix_free (fun K hK => ?_); go_simp; refine hK _ ?_; clear hK K)
    refine wpMix_yield (v := .int .i64 cr) (fun V hV => ?_) (fun K hK => ?_)
    · have y1 := hV.cell c3 (fun h => h)
      go_simp
    go_simp
    refine hK _ ?_
    clear hK K
    repeat (refine wpMix_free (fun K hK => ?_); go_simp; refine hK _ ?_; clear hK K)
    refine wpMix_yield (v := .int .i64 ep) (fun V hV => ?_) (fun K hK => ?_)
    · have y1 := hV.cell c4 (fun h => h)
      go_simp
    go_simp
    refine hK _ ?_
    clear hK K
    repeat (refine wpMix_free (fun K hK => ?_); go_simp; refine hK _ ?_; clear hK K)
    refine wpMix_yield (v := .string ⟨nm.toArray⟩) (fun V hV => ?_) (fun K hK => ?_)
    · have y1 := hV.cell c5 (fun h => h)
      go_simp
    go_simp
    refine hK _ ?_
    clear hK K
    repeat (refine wpMix_free (fun K hK => ?_); go_simp; refine hK _ ?_; clear hK K)
    refine wpMix_yield (v := .agg HT) (fun V hV => ?_) (fun K hK => ?_)
    · have z1 := rangeAt_keeps r1 hV (fun h => h)
      have k1 := midOk_range z1
      have k2 := midOf_range z1
      rw [h32] at k1 k2
      rw [HHT.out] at k2
      go_simp
    go_simp
    refine hK _ ?_
    clear hK K
    repeat (refine wpMix_free (fun K hK => ?_); go_simp; refine hK _ ?_; clear hK K)
    refine wpMix_yield (v := .slice ao n cap) (fun V hV => ?_) (fun K hK => ?_)
    · have y1 := hV.cell c38 (fun h => h)
      go_simp
    go_simp
    refine hK _ ?_
    clear hK K
    repeat (refine wpMix_free (fun K hK => ?_); go_simp; refine hK _ ?_; clear hK K)
    refine wpMix_one (fun K hK => ?_)
    go_wp2_with fail
    refine (q1 _).mono ?_
    rintro e u1 ⟨rfl, ju1⟩
    have Ju1 : Keeps Nothing wb u1 := J0.trans ju1 (fun _ h _ => h)
    go_wp2_with fail
    refine hK _ _ Ju1 ?_
    clear hK K
    repeat (refine wpMix_free (fun K hK => ?_); go_simp; refine hK _ ?_; clear hK K)
    refine wpMix_one (fun K hK => ?_)
    go_wp2_with fail
    refine (q2 _).mono ?_
    rintro e u2 ⟨rfl, ju2⟩
    have Ju2 : Keeps Nothing wb u2 := Ju1.trans ju2 (fun _ h _ => h)
    go_wp2_with fail
    refine hK _ _ Ju2 ?_
    clear hK K
    repeat (refine wpMix_free (fun K hK => ?_); go_simp; refine hK _ ?_; clear hK K)
    refine wpMix_one (fun K hK => ?_)
    go_wp2_with fail
    refine (q3 _).mono ?_
    rintro e u3 ⟨rfl, ju3⟩
    have Ju3 : Keeps Nothing wb u3 := Ju2.trans ju3 (fun _ h _ => h)
    go_wp2_with fail
    refine hK _ _ Ju3 ?_
    clear hK K
    repeat (refine wpMix_free (fun K hK => ?_); go_simp; refine hK _ ?_; clear hK K)
    refine wpMix_one (fun K hK => ?_)
    go_wp2_with fail
    refine (q4 _).mono ?_
    rintro e u4 ⟨rfl, ju4⟩
    have Ju4 : Keeps Nothing wb u4 := Ju3.trans ju4 (fun _ h _ => h)
    go_wp2_with fail
    refine hK _ _ Ju4 ?_
    clear hK K
    repeat (refine wpMix_free (fun K hK => ?_); go_simp; refine hK _ ?_; clear hK K)
    refine wpMix_one (fun K hK => ?_)
    go_wp2_with fail
    refine (q5 _).mono ?_
    rintro e u5 ⟨rfl, ju5⟩
    have Ju5 : Keeps Nothing wb u5 := Ju4.trans ju5 (fun _ h _ => h)
    go_wp2_with fail
    refine hK _ _ Ju5 ?_
    clear hK K
    repeat (refine wpMix_free (fun K hK => ?_); go_simp; refine hK _ ?_; clear hK K)
    refine wpMix_one (fun K hK => ?_)
    go_wp2_with fail
    refine (q6 _).mono ?_
    rintro e u6 ⟨rfl, ju6⟩
    have Ju6 : Keeps Nothing wb u6 := Ju5.trans ju6 (fun _ h _ => h)
    go_wp2_with fail
    refine hK _ _ Ju6 ?_
    clear hK K
    repeat (refine wpMix_free (fun K hK => ?_); go_simp; refine hK _ ?_; clear hK K)
    refine wpMix_one (fun K hK => ?_)
    go_wp2_with fail
    refine (q7 _).mono ?_
    rintro e u7 ⟨rfl, ju7⟩
    have Ju7 : Keeps Nothing wb u7 := Ju6.trans ju7 (fun _ h _ => h)
    go_wp2_with fail
    refine hK _ _ Ju7 ?_
    clear hK K
    repeat (refine wpMix_free (fun K hK => ?_); go_simp; refine hK _ ?_; clear hK K)
    refine wpMix_one (fun K hK => ?_)
    go_wp2_with fail
    refine (q8 _).mono ?_
    rintro e u8 ⟨rfl, ju8⟩
    have Ju8 : Keeps Nothing wb u8 := Ju7.trans ju8 (fun _ h _ => h)
    go_wp2_with fail
    refine hK _ _ Ju8 ?_
    clear hK K
    repeat (refine wpMix_free (fun K hK => ?_); go_simp; refine hK _ ?_; clear hK K)
    refine wpMix_nil ?_
    go_wp2_with fail
    have K8 := K1.trans Ju8 (fun _ h _ => h)
    have d38 := Ju8.cell c38 (fun h => h)
    have d39 := Ju8.cell c39 (fun h => h)
    have d40 := Ju8.cell c40 (fun h => h)
    obtain ⟨b8, hb8⟩ : ∃ b8, b8 = E1 ++ E2 ++ E3 ++ E4 ++ E5 ++ E6 ++ hs ++ E8 := ⟨_, rfl⟩
    have hl8 : b8.length ≤ 6200 := by rw [hb8]; simp only [List.length_append]; have := L7.out; omega
    have HB8 := shut hb8
    clear c0 c1 c2 c3 c4 c5 c38 c39 c40 q1 q2 q3 q4 q5 q6 q7 q8 r1 z2 z3 z4 z5 z6 z7 z8 J0 ju1 ju2 ju3 ju4 ju5 ju6 ju7 ju8 Ju1 Ju2 Ju3 Ju4 Ju5 Ju6 Ju7 Ju8 K1 hb8
    go_loopw [4, 5] (fun s4 s5 wx => ∃ (i : Nat) (b : List UInt8), s5 = .int .i64 i ∧ i ≤ n ∧ s4 = .string ⟨b.toArray⟩ ∧ b.length ≤ 6200 + 32 * i ∧ Shut (b = b8 ++ (hh.take i).flatten) ∧ Keeps Nothing u8 wx) (fun _ s5 _ => n - (intOf s5).toNat)
    case atStart => exact ⟨0, b8, rfl, by omega, by rw [HB8.out]; simp only [str_app], by omega, shut (by simp), Keeps.refl _ _⟩
    case round =>
      obtain ⟨i, b, rfl, hi, rfl, hbl, hbe, K⟩ := hrel
      have KK := K
      have e38 := K.cell d38 (fun h => h)
      by_cases hlt : i < n
      · have m1 : (i : Int) < n := by omega
        obtain ⟨x, hx⟩ : ∃ x, hh[i]? = some x := ⟨hh[i]'(by omega), by rw [List.getElem?_eq_getElem (by omega)]⟩
        obtain ⟨bb, oo, rfl⟩ := hat.head (by omega)
        obtain ⟨_, hx32, r1⟩ := (hat.keepsN (K8.trans K (fun _ h _ => h))).2 _ rfl i x hx
        have hxl : (x.map byteV).length = 32 := by rw [List.length_map]; exact hx32
        have k1 := midOk_range r1
        have k2 := midOf_range r1
        rw [hxl] at k1 k2
        have hs' : Shut (b ++ x = b8 ++ (hh.take (i + 1)).flatten) := shut (by rw [hbe.out, List.take_add_one, hx]; simp)
        have zz : ¬ 9223372036854775807 < b.length + x.length := by omega
        have hpx := fun V => refHash x hx32 V
        obtain ⟨X, hX⟩ : ∃ X, (x.map byteV).toArray = X := ⟨_, rfl⟩
        unfold hashV at hpx
        rw [hX] at k2 hpx
        have HX32 := shut hx32
        clear hX hx r1 hx32 hxl
        go_wp2_with fail
        refine (hpx _).mono ?_
        rintro e w12 ⟨rfl, k12⟩
        go_wp2_with fail
        go_roundw
        case rel => exact ⟨i + 1, b ++ x, by go_num, by omega, by rw [str_app], by rw [List.length_append, HX32.out]; omega, hs', K.trans k12 (fun _ h _ => h)⟩
        case measure => simp [intOf]; omega
      · obtain rfl : i = n := by omega
        have m1 : ¬ (i : Int) < i := by omega
        have hbe' : Shut (b = b8 ++ hh.flatten) := shut (by rw [hbe.out, List.take_of_length_le (by omega)])
        have e39 := K.cell d39 (fun h => h)
        have e40 := K.cell d40 (fun h => h)
        have p1 := fun V => rtext bl (by omega) V
        have p2 := fun V => rtext sg (by omega) V
        have t1 := encS_len bl (by omega)
        have t2 := encS_len sg (by omega)
        generalize encS bl = E9 at *
        generalize encS sg = E10 at *
        have y1 : ¬ 9223372036854775807 < b.length + E9.length := by omega
        have y2 : ¬ 9223372036854775807 < b.length + E9.length + E10.length := by omega
        have hfin : Shut (b ++ E9 ++ E10 = enc) := shut (by
          rw [HENC.out, hbe'.out, HB8.out])
        clear hbe
        go_wp2_with fail
        have J9 : Keeps Nothing wr wr.drew := (Keeps.refl _ _).drew
        refine wp_region_mix (fun V => Keeps Nothing wr V) [(true, 0), (true, 1), (true, 2), (true, 5), (true, 6), (false, 3), (true, 4), (false, 7), (true, 8), (true, 9), (true, 10)] (by kernel_rfl) (by kernel_rfl) J9 ?_
        simp only [mixItems, List.map_cons, List.map_nil, List.getD_cons_zero, List.getD_cons_succ]
        repeat (refine wpMix_free (fun K hK => ?_); go_simp; refine hK _ ?_; clear hK K)
        refine wpMix_yield (v := .string ⟨bl.toArray⟩) (fun V hV => ?_) (fun K hK => ?_)
        · have y1 := hV.cell e39 (fun h => h)
          go_simp
        go_simp
        refine hK _ ?_
        clear hK K
        repeat (refine wpMix_free (fun K hK => ?_); go_simp; refine hK _ ?_; clear hK K)
        refine wpMix_yield (v := .string ⟨sg.toArray⟩) (fun V hV => ?_) (fun K hK => ?_)
        · have y1 := hV.cell e40 (fun h => h)
          go_simp
        go_simp
        refine hK _ ?_
        clear hK K
        repeat (refine wpMix_free (fun K hK => ?_); go_simp; refine hK _ ?_; clear hK K)
        refine wpMix_one (fun K hK => ?_)
        go_wp2_with fail
        refine (p1 _).mono ?_
        rintro e v1 ⟨rfl, jv1⟩
        have Jv1 : Keeps Nothing wr v1 := J9.trans jv1 (fun _ h _ => h)
        go_wp2_with fail
        refine hK _ _ Jv1 ?_
        clear hK K
        repeat (refine wpMix_free (fun K hK => ?_); go_simp; refine hK _ ?_; clear hK K)
        refine wpMix_one (fun K hK => ?_)
        go_wp2_with fail
        refine (p2 _).mono ?_
        rintro e v2 ⟨rfl, jv2⟩
        have Jv2 : Keeps Nothing wr v2 := Jv1.trans jv2 (fun _ h _ => h)
        go_wp2_with fail
        refine hK _ _ Jv2 ?_
        clear hK K
        repeat (refine wpMix_free (fun K hK => ?_); go_simp; refine hK _ ?_; clear hK K)
        refine wpMix_nil ?_
        go_wp2_with fail
        go_ret2
        exact ⟨by rw [hF.out, ← hfin.out]; simp only [str_app]; rfl, (K8.trans KK (fun _ h _ => h)).trans Jv2 (fun _ h _ => h)⟩

end Go.Proofs.Yteifmkfkekglpaa
