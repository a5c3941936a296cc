/- usufructlaw2.WireReads: for any bytes and any list of readings the law returns true; no condition. -/
import Derived.Test.YtkhbepmaeegekaaRows
import Derived.Test.YtkhbepmaeegekaaRead4
import Derived.Test.YtkhbepmaeegekaaRead5
import Derived.Test.YtkhbepmaeegekaaRead6
import Derived.Test.YtkhbepmaeegekaaShortP2
import Derived.ProofKit
import Derived.OpenShut
import Derived.ShutString
import Derived.ChangeOld
import Derived.Below
namespace Go.Proofs.Ytkhbepmaeegekaa.wireReads
open Go.ChangeShapes Go.WideShapes Go.ChangeAt Go.RowKit
open Go.ChangeMaps (open_string shut_string)

theorem own : ownKnob Try.prog.godebug = none := by kernel_rfl
theorem laidOut : laidOutB Try.prog = true := by kernel_rfl


theorem read_any {w : World} {p : Nat} {ao : Option Addr} {cap : Nat} {bs : List UInt8} {k x : Nat} {c0 a0 : Int} (h : Rd w p ao cap bs k) (hx : RefR w x bs k c0 a0) (o : OpD) (ho : o.Fit) (hl : bs.length ≤ 2000) :
    Calls Try.prog 42 #[.pointer (some ⟨p, 0, none⟩), .pointer (some ⟨x, 0, none⟩), .agg (opCells o).toArray] w (ReadPost w p x ao cap bs) := by
  have hk := kindN_bd o
  have hcase : kindN o = 0 ∨ kindN o = 1 ∨ kindN o = 2 ∨ kindN o = 3 ∨ kindN o = 4 ∨ kindN o = 5 := by omega
  rcases hcase with hc | hc | hc | hc | hc | hc
  · exact read_0 h hx o ho hl hc
  · exact read_1 h hx o ho hl hc
  · exact read_2 h hx o ho hl hc
  · exact read_3 h hx o ho hl hc
  · exact read_4 h hx o ho hl hc
  · exact read_5 h hx o ho hl hc

attribute [local go_sem ↓] exec_mid_op

set_option maxRecDepth 100000 in
set_option maxHeartbeats 4000000 in
theorem walk (w : World) (ab : Option Addr) (nb cb : Nat) (bs : List UInt8) (hnb : bs.length = nb) (hB : BytesAt w ab bs) (ao : Option Addr) (n c : Nat) (ops : List OpD) (hn : ops.length = n) (hO : OpsAt w ao ops) (hmax : n ≤ maxLen) :
    Calls Try.prog 9 #[.slice ab nb cb, .slice ao n c] w (SaysTrue w) := by
  have HN := Lib.hid hn
  have hn9 : n < 9223372036854775808 := by unfold maxLen at hmax; omega
  clear hn hmax
  by_cases hbig : 2000 < nb
  · have m1 : (2000 : Int) < nb := by omega
    go_enter Try.func9, Try.ntmps9
    go_wp2_with fail
    refine (told_true w).mono ?_
    rintro e w1 ⟨rfl, k⟩
    go_wp2_with fail
    go_ret
    exact ⟨rfl, k⟩
  · have m1 : ¬ (2000 : Int) < nb := by omega
    have hbl : bs.length ≤ 2000 := by omega
    have h' : BytesAt (w.alloc (.cells #[] 5)) ab bs := hB.keeps ((Keeps.refl Nothing w).alloc _) (fun _ _ h => h)
    have hsrc := src_at cb h'
    rw [hnb] at hsrc
    have HNB := Lib.hid hnb
    go_enter Try.func9, Try.ntmps9
    go_wp2_with (at_builtin; refine wpList_app8 _ rfl (.tmp 14) (.tmp 15) 29 rfl (some ⟨w.heap.size, 0, none⟩) 0 [] rfl (own8_empty w) _ rfl bs (by rw [HNB.out]; exact hsrc) (by simp) (by omega) ?_)
    intro ai ci w1 oi hk1 hm1
    have K1 : Keeps Nothing w w1 := ((Keeps.refl Nothing w).alloc _).trans hk1 (fun i hi hlt => by simp [blockOf] at hi; omega)
    have hai : ∀ g, blockOf ai = some g → w.heap.size ≤ g := by
      intro g hg
      rcases hm1 with h | ⟨g', h, hg'⟩
      · rw [h] at hg; simp [blockOf] at hg; omega
      · rw [h] at hg; obtain rfl := Option.some.inj hg; have h2 := hg'; first | omega | (simp only [World.size_alloc] at h2; omega)
    have HAI := shut hai
    clear hk1 hm1 hai h' hsrc
    go_wp2_with fail
    refine (newReader_len ci hnb (own8_at oi) (by omega)).mono ?_
    rintro e w2 ⟨q, ar, cr, rfl, R2, K2, hq, hqr⟩
    have oi2 := K2.own oi (fun _ _ h => h)
    have hail : ∀ g, blockOf ai = some g → g < w1.heap.size := fun g hg => own_lt oi (by rw [ownBlock_eq]; exact hg)
    have KA := K1.trans K2 (fun _ h _ => h)
    have hcv1 := run_str w2 ci bs (l := nb) hnb (own8_at oi2)
    have hcv2 := run_str w2 cb bs (l := nb) hnb (hB.keeps KA (fun _ _ h => h))
    have HQR := shut hqr
    have HAIL := shut hail
    clear oi hqr hail K2
    go_wp2_with fail
    go_loopw [7] (fun s7 wx => ∃ (i : Nat) (l : List UInt8), s7 = .int .i64 i ∧ i ≤ nb ∧ Shut (l.length = nb) ∧ Own8 wx 5 ai ci l ∧ Rd wx q ar cr bs 0 ∧ Keeps Nothing w wx) (fun s7 _ => nb - (intOf s7).toNat)
    case atStart => exact ⟨0, bs, rfl, Nat.zero_le _, shut hnb, oi2, R2, KA⟩
    case round =>
      clear oi2 R2 KA hcv1 hcv2
      obtain ⟨i, l, rfl, hi, HL, o3, R3, K3⟩ := hrel
      by_cases hlt : i < nb
      · obtain ⟨g, rfl⟩ := own8_head o3 (by rintro rfl; have := HL.out; simp at this; omega)
        have hgw := HAI.out g rfl
        have hgl := HAIL.out g rfl
        obtain ⟨⟨v, hv⟩, hfr, o4, K4⟩ := own8_store o3 (j := i) (by rw [HL.out]; exact hlt) 1
        have R4 : Rd (wr.setCell ⟨g, i, none⟩ (byteV 1)) q ar cr bs 0 := ⟨K4.blk R3.blk (fun e => by omega), K4.own R3.own (fun x hx e => by rw [ownBlock_eq] at hx; have := HQR.out x hx; omega), R3.le⟩
        have K5 : Keeps Nothing w (wr.setCell ⟨g, i, none⟩ (byteV 1)) := K3.trans K4 (fun j hj hlt => by omega)
        have HL2 := shut (show (l.set i 1).length = nb by rw [List.length_set]; exact HL.out)
        have i0 : (0 : Int) ≤ i := by omega
        have i1 : (i : Int) < nb := by omega
        rw [show byteV 1 = .int .u8 1 from rfl] at o4 R4 K5
        clear o3 R3 K3 K4
        go_wp2_with fail
        go_roundw
        case rel => exact ⟨i + 1, l.set i 1, by go_num, by omega, HL2, o4, R4, K5⟩
        case measure => simp [intOf]; omega
      · have i1 : ¬ (i : Int) < nb := by omega
        have hcv := run_str wr cb bs (l := nb) HNB.out (hB.keeps K3 (fun _ _ h => h))
        clear o3
        go_wp2_with fail
        have X4 : RefR (wr.alloc (.cells #[.string ⟨bs.toArray⟩, .int .i64 0, .int .i64 0, .int .i64 0] 71)) wr.heap.size bs (0 : Nat) 0 0 := blk_new wr #[.string ⟨bs.toArray⟩, .int .i64 0, .int .i64 0, .int .i64 0] 71
        have R4 := R3.keepsN ((Keeps.refl _ _).alloc (.cells #[.string ⟨bs.toArray⟩, .int .i64 0, .int .i64 0, .int .i64 0] 71))
        have K4 := K3.alloc (.cells #[.string ⟨bs.toArray⟩, .int .i64 0, .int .i64 0, .int .i64 0] 71)
        have hxw : w.heap.size ≤ wr.heap.size := K3.size
        have hqw : w.heap.size ≤ q := by have := K1.size; omega
        clear R3 K3 hcv
        generalize wr.alloc (.cells #[.string ⟨bs.toArray⟩, .int .i64 0, .int .i64 0, .int .i64 0] 71) = W5 at *
        generalize wr.heap.size = x at *
        go_loopw [9] (fun s9 wx => ∃ (i k : Nat) (c1 a1 : Int), s9 = .int .i64 i ∧ i ≤ n ∧ i ≤ 30 ∧ Rd wx q ar cr bs k ∧ RefR wx x bs k c1 a1 ∧ Keeps Nothing w wx) (fun s9 _ => 30 - (intOf s9).toNat)
        case atStart => exact ⟨0, 0, 0, 0, rfl, Nat.zero_le _, Nat.zero_le _, R4, X4, K4⟩
        case round =>
          clear R4 X4 K4
          obtain ⟨i, k, c1, a1, rfl, hi, h30, R5, X5, K5⟩ := hrel
          by_cases hb : i < n ∧ i < 30
          · obtain ⟨hlt, hlt30⟩ := hb
            obtain ⟨o, ho⟩ : ∃ o, ops[i]? = some o := ⟨_, List.getElem?_eq_getElem (by have := HN.out; omega)⟩
            obtain ⟨b, off, rfl, hf, hr⟩ := ops_head hO ho
            clear ho
            have hbx := opBox hf (rangeAt_keeps hr K5 (fun h => h))
            have hrd := read_any R5 X5 o hf hbl
            generalize hC : (opCells o).toArray = C at *
            have HC := Lib.hid hC
            clear hC
            obtain ⟨hz, b1, b2, b3, b4, b0, e1, e2, e3, e4, e5⟩ := hbx
            clear hz
            have j0 : (0 : Int) ≤ i := by omega
            have j1 : (i : Int) < n := by omega
            have j2 : (i : Int) < 30 := by omega
            go_wp2_with fail
            refine hrd.mono ?_
            clear hrd
            rintro e w6 ⟨rfl, k6, c6, a6, R6, X6, K6⟩
            have K7 := K5.trans K6 (fun j hj hlt => by rcases hj with h | h <;> omega)
            clear b0 b1 b2 b3 b4 e1 e2 e3 e4 e5
            go_wp2_with fail
            go_roundw
            case rel => exact ⟨i + 1, k6, c6, a6, by go_num, by omega, by omega, R6, X6, K7⟩
            case measure => simp [intOf]; omega
          · have hcase : ¬ (i : Int) < n ∨ ((i : Int) < n ∧ ¬ (i : Int) < 30) := by omega
            have m2 := X5.c2
            have m3 := X5.c3
            have f2 := blk_free X5 2
            have f3 := blk_free X5 3
            have hpx : q ≠ x := fun e => by subst e; have h1 := R5.blk.symm.trans X5; simp at h1
            have hbx : blockOf ar ≠ some x := own8_ne R5.own X5 (by decide)
            have KX : Keeps (fun i => i = x) wr ((wr.setCell ⟨x, 2, none⟩ (.int .i64 0)).setCell ⟨x, 3, none⟩ (.int .i64 0)) := Keeps.put (S := fun i => i = x) (Keeps.put (S := fun i => i = x) (Keeps.refl _ _) rfl 2 _) rfl 3 _
            have X6 : RefR ((wr.setCell ⟨x, 2, none⟩ (.int .i64 0)).setCell ⟨x, 3, none⟩ (.int .i64 0)) x bs k 0 0 := (X5.setC 0).setA 0
            have R6 : Rd ((wr.setCell ⟨x, 2, none⟩ (.int .i64 0)).setCell ⟨x, 3, none⟩ (.int .i64 0)) q ar cr bs k := ⟨KX.blk R5.blk hpx, KX.own R5.own (fun g hg e => by subst e; rw [ownBlock_eq] at hg; exact hbx hg), R5.le⟩
            have K6 := K5.trans KX (fun j hj hlt => by omega)
            clear hb R5 X5 K5 KX
            rcases hcase with hx | ⟨hx, hy⟩
            · go_wp2_with fail
              refine (ref_end X6).mono ?_
              rintro e w7 ⟨rfl, X7, K7⟩
              have R7 : Rd w7 q ar cr bs k := ⟨K7.blk R6.blk hpx, K7.own R6.own (fun g hg e => by subst e; rw [ownBlock_eq] at hg; exact hbx hg), R6.le⟩
              have K8 := K6.trans K7 (fun j hj hlt => by omega)
              clear R6 X6 K6 K7 m2 m3 f2 f3
              go_wp2_with fail
              obtain ⟨dc, hdc⟩ : ∃ dc, endOf bs k = dc := ⟨_, rfl⟩
              rw [hdc] at X7
              have HDC := shut hdc
              clear hdc
              refine wp_region_mix (fun W => RefR W x bs k dc (posOf dc k)) [(false, 0), (true, 1), (true, 2), (true, 4), (true, 5), (true, 6), (true, 7), (true, 8), (true, 9), (true, 10), (true, 11), (false, 3), (false, 12), (true, 13), (true, 14)] (by kernel_rfl) (by kernel_rfl) X7 ?_
              simp only [mixItems, List.map_cons, List.map_nil, List.getD_cons_zero, List.getD_cons_succ]
              refine wpMix_one (fun K hK => ?_)
              go_wp2_with fail
              refine (told_true _).mono ?_
              rintro e w8 ⟨rfl, k8⟩
              have X8 : RefR w8 x bs k dc (posOf dc k) := k8.blk (a := w7.drew) X7 (fun h => h)
              have R8 : Rd w8 q ar cr bs k := (Rd.drewN R7 1).keepsN k8
              have K9 := K8.drew.trans k8 (fun _ h _ => h)
              go_wp2_with fail
              refine hK _ _ X8 ?_
              clear hK K
              repeat (refine wpMix_free (fun K hK => ?_); go_simp; refine hK _ ?_; clear hK K)
              refine wpMix_yield (v := .int .i64 dc) (fun W hW => ?_) (fun K hK => ?_)
              · have z2 := hW.c2
                go_simp
              go_simp
              refine hK _ ?_
              clear hK K
              repeat (refine wpMix_free (fun K hK => ?_); go_simp; refine hK _ ?_; clear hK K)
              refine wpMix_yield (v := .int .i64 (posOf dc k)) (fun W hW => ?_) (fun K hK => ?_)
              · have z3 := hW.c3
                go_simp
              go_simp
              refine hK _ ?_
              clear hK K
              repeat (refine wpMix_free (fun K hK => ?_); go_simp; refine hK _ ?_; clear hK K)
              refine wpMix_one (fun K hK => ?_)
              go_wp2_with fail
              refine (rEnd_any R8).mono ?_
              rintro e w9 ⟨ev, rfl, hev, k9⟩
              rw [HDC.out] at hev
              have X9 : RefR w9 x bs k dc (posOf dc k) := k9.blk X8 (fun h => h)
              have K10 := K9.trans k9 (fun _ h _ => h)
              go_wp2_with fail
              refine hK _ _ X9 ?_
              clear hK K
              repeat (refine wpMix_free (fun K hK => ?_); go_simp; refine hK _ ?_; clear hK K)
              refine wpMix_one (fun K hK => ?_)
              go_wp2_with fail
              refine (is_any hev dc (posOf dc k)).mono ?_
              rintro e w10 ⟨rfl, n10, rfl⟩
              rw [show decide ((dc : Int) = dc ∧ posOf dc k = posOf dc k) = true from by simp]
              go_wp2_with fail
              refine hK _ _ (X9.drewN n10) ?_
              clear hK K
              repeat (refine wpMix_free (fun K hK => ?_); go_simp; refine hK _ ?_; clear hK K)
              refine wpMix_nil ?_
              go_wp2_with fail
              go_ret
              exact ⟨rfl, K10.drewN _⟩
            · go_wp2_with fail
              refine (ref_end X6).mono ?_
              rintro e w7 ⟨rfl, X7, K7⟩
              have R7 : Rd w7 q ar cr bs k := ⟨K7.blk R6.blk hpx, K7.own R6.own (fun g hg e => by subst e; rw [ownBlock_eq] at hg; exact hbx hg), R6.le⟩
              have K8 := K6.trans K7 (fun j hj hlt => by omega)
              clear R6 X6 K6 K7 m2 m3 f2 f3
              go_wp2_with fail
              obtain ⟨dc, hdc⟩ : ∃ dc, endOf bs k = dc := ⟨_, rfl⟩
              rw [hdc] at X7
              have HDC := shut hdc
              clear hdc
              refine wp_region_mix (fun W => RefR W x bs k dc (posOf dc k)) [(false, 0), (true, 1), (true, 2), (true, 4), (true, 5), (true, 6), (true, 7), (true, 8), (true, 9), (true, 10), (true, 11), (false, 3), (false, 12), (true, 13), (true, 14)] (by kernel_rfl) (by kernel_rfl) X7 ?_
              simp only [mixItems, List.map_cons, List.map_nil, List.getD_cons_zero, List.getD_cons_succ]
              refine wpMix_one (fun K hK => ?_)
              go_wp2_with fail
              refine (told_true _).mono ?_
              rintro e w8 ⟨rfl, k8⟩
              have X8 : RefR w8 x bs k dc (posOf dc k) := k8.blk (a := w7.drew) X7 (fun h => h)
              have R8 : Rd w8 q ar cr bs k := (Rd.drewN R7 1).keepsN k8
              have K9 := K8.drew.trans k8 (fun _ h _ => h)
              go_wp2_with fail
              refine hK _ _ X8 ?_
              clear hK K
              repeat (refine wpMix_free (fun K hK => ?_); go_simp; refine hK _ ?_; clear hK K)
              refine wpMix_yield (v := .int .i64 dc) (fun W hW => ?_) (fun K hK => ?_)
              · have z2 := hW.c2
                go_simp
              go_simp
              refine hK _ ?_
              clear hK K
              repeat (refine wpMix_free (fun K hK => ?_); go_simp; refine hK _ ?_; clear hK K)
              refine wpMix_yield (v := .int .i64 (posOf dc k)) (fun W hW => ?_) (fun K hK => ?_)
              · have z3 := hW.c3
                go_simp
              go_simp
              refine hK _ ?_
              clear hK K
              repeat (refine wpMix_free (fun K hK => ?_); go_simp; refine hK _ ?_; clear hK K)
              refine wpMix_one (fun K hK => ?_)
              go_wp2_with fail
              refine (rEnd_any R8).mono ?_
              rintro e w9 ⟨ev, rfl, hev, k9⟩
              rw [HDC.out] at hev
              have X9 : RefR w9 x bs k dc (posOf dc k) := k9.blk X8 (fun h => h)
              have K10 := K9.trans k9 (fun _ h _ => h)
              go_wp2_with fail
              refine hK _ _ X9 ?_
              clear hK K
              repeat (refine wpMix_free (fun K hK => ?_); go_simp; refine hK _ ?_; clear hK K)
              refine wpMix_one (fun K hK => ?_)
              go_wp2_with fail
              refine (is_any hev dc (posOf dc k)).mono ?_
              rintro e w10 ⟨rfl, n10, rfl⟩
              rw [show decide ((dc : Int) = dc ∧ posOf dc k = posOf dc k) = true from by simp]
              go_wp2_with fail
              refine hK _ _ (X9.drewN n10) ?_
              clear hK K
              repeat (refine wpMix_free (fun K hK => ?_); go_simp; refine hK _ ?_; clear hK K)
              refine wpMix_nil ?_
              go_wp2_with fail
              go_ret
              exact ⟨rfl, K10.drewN _⟩
set_option maxRecDepth 100000 in
theorem lifted (os : Os) (started : os.Started) (H : Type) (enc : TypeId × Value → H) :
    ReturnsInHanded {} Try.checked os 9 .any (Rows.wireReadsSpec.pre6 enc Try.prog Try.f9 Rows.wireReadsRow.domain false) (Rows.wireReadsSpec.post enc Try.prog Try.f9 false true false false) := by
  refine returnsInHanded_of_change (C := Try.checked) own started (by kernel_rfl) Try.func9
    (ChangeSpec.witness6 (enc := enc) (C := Try.checked) false ⟨#[], #[.slice none 0 0, .slice none 0 0], []⟩ 8 (by kernel_rfl) (by kernel_rfl) (by kernel_rfl) (by kernel_rfl)) ?_
  intro W base args ds gs before hval0 hW hcnd _
  have hval : ∀ (j : Nat) t v, Try.f9.params[j]? = some t → args[j]? = some v → Value.okWide Try.prog W .any base t v := hval0
  have hW' := hW
  obtain ⟨p, q, hA0, hV, rfl, hfz, hnd⟩ := hW
  have hA : DataW.TrodAll enc Try.prog W 0 (fun _ => true) true Try.f9.params.toList args.toList ds p := hA0
  rw [Try.params9] at hA hval
  obtain ⟨v0, vs0, d0, ds0, p0, q0, hargs, rfl, rfl, h0, r0⟩ := trodAll_cons hA
  obtain ⟨v1, vs1, d1, ds1, p1, q1, rfl, rfl, rfl, h1, r1⟩ := trodAll_cons r0
  obtain ⟨rfl, rfl, rfl⟩ := trodAll_nil r1
  obtain rfl : args = #[v0, v1] := by cases args; simp_all
  obtain ⟨rfl, rfl⟩ := trodVars_none hV
  have k0 := h0
  have lt0 : ∀ x ∈ p0, x.block < W.heap.size := by obtain ⟨m, hm⟩ := k0; exact DataW.trod_lt m _ _ _ hm
  have k1 := h1
  have lt1 : ∀ x ∈ p1, x.block < W.heap.size := by obtain ⟨m, hm⟩ := k1; exact DataW.trod_lt m _ _ _ hm
  obtain ⟨ab, lenb, capb, rfl⟩ := okWide_slice Try.underlying29 (hval 0 29 v0 rfl rfl)
  obtain ⟨ao, len, cap, rfl⟩ := okWide_slice Try.underlying57 (hval 1 57 v1 rfl rfl)
  obtain ⟨fuel0, hf0⟩ := h0
  obtain ⟨bs, hbl, hB, hlb, hcb⟩ := open_bytes rfl hf0
  obtain ⟨fuel, hf⟩ := h1
  obtain ⟨ops, hn, hO, hlc, hcm, _⟩ := open_ops rfl hf
  clear hA0 hval0
  refine (walk W ab lenb capb bs hbl hB ao len cap ops hn hO (Nat.le_trans hlc hcm)).mono fun e W' ⟨he, hk⟩ => ?_
  subst he
  have bel : Below W.heap.size W W' := hk.below (Nat.le_refl _) (fun _ h => h.elim)
  exact ⟨_, rfl, _, _, _, [], _, [], hW', trodAll_mk1 (shut_bool Try.underlying4 _), (trodAll_cons_mk (Below.trod laidOut (by kernel_rfl) (of_decide_eq_true (by kernel_rfl)) k0 bel lt0) (trodAll_cons_mk (Below.trod laidOut (by kernel_rfl) (of_decide_eq_true (by kernel_rfl)) k1 bel lt1) trodAll_mk0)), rfl, bel.frame _, fun h => by cases h⟩

/-- For every input the law returns true, and its arguments read as before. -/
theorem proved : Rows.WireReadsSaid :=
  OpenClaim.holds_of_wide 9 Try.f9 rfl rfl rfl rfl rfl rfl rfl ⟨rfl, rfl, rfl, rfl, rfl⟩ rfl rfl rfl rfl rfl (by kernel_rfl) Try.func9 (by kernel_rfl)
    (of_decide_eq_true (by kernel_rfl)) (by unfold Func.isWrapper; first | (rw [if_pos (by decide +kernel)]; kernel_rfl) | (rw [if_neg (by decide +kernel)]; exact ⟨rfl, rfl⟩))
    (fun os started H enc _ => lifted os started H enc)
#print axioms proved

end Go.Proofs.Ytkhbepmaeegekaa.wireReads
