/- usufructlaw25.DiskPlays: for any room and any calls the law returns true; no condition. -/
import Derived.Test.YtkhbepmaeegekaaRows
import Derived.Test.YtkhbepmaeegekaaDisk5
import Derived.Test.YtkhbepmaeegekaaMix
import Derived.IntWalk
import Derived.Laws.BitsAllLaws
import Derived.Deep.CutRange
import Derived.Deep.CutBlock
import Derived.ProofKit
import Derived.OpenShut
import Derived.ShutString
import Derived.ChangeOld
import Derived.Below
namespace Go.Proofs.Ytkhbepmaeegekaa.diskPlays
open Go.ChangeShapes Go.WideShapes Go.ChangeAt Go.RowKit
open Go.ChangeMaps (open_string shut_string)

theorem own : ownKnob Try.prog.godebug = none := by kernel_rfl
theorem laidOut : laidOutB Try.prog = true := by kernel_rfl


theorem i64_mask (x : Int) (m : Nat) (hm : m < 4294967296) : 0 ≤ bits .and .i64 x (m : Int) ∧ bits .and .i64 x (m : Int) ≤ m := by
  have e : bits .and .i64 x (m : Int) = IntKind.i64.wrap ((BitVec.ofInt 64 x &&& BitVec.ofInt 64 (m : Int)).toNat : Int) := rfl
  rw [e, BitVec.toNat_and]
  have h := Nat.and_le_right (n := (BitVec.ofInt 64 x).toNat) (m := (BitVec.ofInt 64 (m : Int)).toNat)
  have h2 : (BitVec.ofInt 64 (m : Int)).toNat = m := ofInt_u64 m (by omega)
  rw [h2] at h ⊢
  rw [IntWalk.i64_in _ (by omega)]
  omega
theorem add_one (c : UInt8) : IntKind.u8.wrap ((c.toNat : Int) + 1) = ((c + 1).toNat : Int) := by
  rw [IntKind.wrap_u8, UInt8.toNat_add]
  simp

set_option maxRecDepth 100000 in
set_option maxHeartbeats 6000000 in
theorem walk (w : World) (room : Int) (ao : Option Addr) (n c0 : Nat) (ops : List DOp) (hn : ops.length = n) (hO : DOpsAt w ao ops) (hmax : n ≤ maxLen) :
    Calls Try.prog 6 #[.int .i64 room, .slice ao n c0] w (SaysTrue w) := by
  have hn9 : n < 9223372036854775808 := by unfold maxLen at hmax; omega
  clear hmax
  have HN := shut hn
  clear hn
  have hr := i64_mask room 511 (by decide)
  rw [show ((511 : Nat) : Int) = 511 from rfl] at hr
  go_enter Try.func6, Try.ntmps6
  go_wp2_with fail
  generalize bits .and .i64 room 511 = r at *
  obtain ⟨hr0, hr1⟩ := hr
  refine (disk_new r (by omega) (by omega) w).mono ?_
  rintro e w0 ⟨rfl, hw0⟩
  have D0 := dkNew_new w r (by omega) (by omega)
  rw [← hw0] at D0
  clear hw0
  generalize hp : w.heap.size = p at *
  have HP := shut hp
  clear hp
  go_wp2_with fail
  have L0 : PL w (w0.alloc (.cells #[.string ⟨#[]⟩, .int .i64 0, .int .i64 r, .bool false] 51)) p w0.heap.size none 0 ⟨r, [], 0, false⟩ ⟨r, [], 0, false⟩ :=
    ⟨D0.keepsN ((Keeps.refl _ _).alloc _), blk_new w0 _ _, D0.keep.size⟩
  clear D0
  generalize w0.alloc (.cells #[.string ⟨#[]⟩, .int .i64 0, .int .i64 r, .bool false] 51) = W0 at *
  generalize w0.heap.size = q at *
  clear w0
  go_loopw [8] (fun s wx => ∃ (i : Nat) (d : DkS) (ao1 : Option Addr) (cap1 : Nat), s = .int .i64 i ∧ i ≤ n ∧ i ≤ 50 ∧ PL w wx p q ao1 cap1 d d) (fun s _ => (50 - intOf s).toNat)
  case atStart => exact ⟨0, _, none, 0, rfl, Nat.zero_le _, Nat.zero_le _, L0⟩
  case round =>
    clear L0
    obtain ⟨i, d, ao1, cap1, rfl, hi, h50, L1⟩ := hrel
    by_cases hb : i < n ∧ i < 50
    · obtain ⟨hlt, hlt50⟩ := hb
      obtain ⟨o, ho⟩ : ∃ o, ops[i]? = some o := ⟨_, List.getElem?_eq_getElem (by have := HN.out; omega)⟩
      obtain ⟨a, rfl⟩ : ∃ a, ao = some a := by
        cases ao with
        | none => have := hO.1 rfl; subst this; simp at ho
        | some a => exact ⟨a, rfl⟩
      obtain ⟨hfit, hs, hrng⟩ := hO.2 a rfl i o ho
      obtain ⟨b, off, rfl⟩ : ∃ b o, a = ⟨b, o, none⟩ := ⟨a.block, a.off, by cases a; simp_all⟩
      have hrng1 := rangeAt_keeps hrng L1.dk.keep (fun h => h)
      have f0 : wr.cell? ⟨b, off + i * 3, none⟩ = some (.int .i64 o.kind) := hrng1 0 _ rfl
      have f1 : wr.cell? ⟨b, off + i * 3 + 1, none⟩ = some (.int .i64 o.n) := hrng1 1 _ rfl
      have f2 : wr.cell? ⟨b, off + i * 3 + 2, none⟩ = some (.slice o.ao o.bs.length o.cap) := hrng1 2 _ rfl
      have hBo0 := hfit.at'
      have hocap := hfit.le
      have hkd := kind9_walk o
      have hkb := kind9_bd o
      have hol : o.bs.length < 9223372036854775808 := by have h1 := hfit.le; have h2 := hfit.cm; unfold maxLen at h2; omega
      clear hs hrng hrng1 ho hfit
      by_cases hS : 100 < o.bs.length
      · go_wp2_with fail
        refine (disk_told _).mono ?_
        rintro e w1 ⟨rfl, k1⟩
        go_wp2_with fail
        go_ret
        exact ⟨rfl, (L1.dk.keep.alloc _).trans k1 (fun _ h _ => h)⟩
      · have hBo1 := (hBo0.keepsN L1.dk.keep).keepsN ((Keeps.refl Nothing wr).alloc (.cells #[.int .i64 o.kind, .int .i64 o.n, .slice o.ao o.bs.length o.cap] 53))
        have hsR := src_at o.cap (hBo1.keepsN ((Keeps.refl Nothing _).alloc (.cells #[] 5)))
        have ho2 := own8_empty (wr.alloc (.cells #[.int .i64 o.kind, .int .i64 o.n, .slice o.ao o.bs.length o.cap] 53))
        rw [World.size_alloc] at ho2
        have B9 := blk_new wr #[.int .i64 o.kind, .int .i64 o.n, .slice o.ao o.bs.length o.cap] 53
        have L2 := L1.keepsN ((Keeps.refl Nothing wr).alloc (.cells #[.int .i64 o.kind, .int .i64 o.n, .slice o.ao o.bs.length o.cap] 53))
        clear L1 hBo1
        go_wp2_with (at_builtin; refine wpList_app8 _ rfl (.tmp 52) (.tmp 54) 29 rfl (some ⟨wr.heap.size + 1, 0, none⟩) 0 [] rfl ho2 _ rfl o.bs hsR (by simp) (by omega) ?_)
        intro ain cin wi oi ki mi
        have KA : Keeps Nothing (wr.alloc (.cells #[.int .i64 o.kind, .int .i64 o.n, .slice o.ao o.bs.length o.cap] 53)) wi := ((Keeps.refl _ _).alloc (.cells #[] 5)).trans ki (fun j hj hlt => by have := Option.some.inj hj; rw [World.size_alloc] at hlt; change wr.heap.size + 1 = j at this; omega)
        have hfr : ∀ g, blockOf ain = some g → wr.heap.size + 1 ≤ g := mi.new (by omega) (fun g hg => by have := Option.some.inj hg; change wr.heap.size + 1 = g at this; omega)
        have T1 : PI w wi p q ao1 cap1 d d ain cin o.bs := ⟨L2.keepsN KA, oi, fun g hg e => by have h1 := L2.dk.dk.lt.2 g e; rw [World.size_alloc] at h1; have h2 := hfr g hg; omega, fun g hg => by have h1 := L2.dk.keep.size; rw [World.size_alloc] at h1; have h2 := hfr g hg; omega⟩
        replace B9 := KA.blk B9 (fun h => h)
        have hBo : BytesAt wi o.ao o.bs := T1.own0 hBo0
        clear ki mi oi hsR ho2 L2 KA hfr f0 f1 f2
        generalize wr.heap.size = g9 at *
        have c0' := blk_cell B9 0 (show (#[.int .i64 o.kind, .int .i64 o.n, .slice o.ao o.bs.length o.cap] : Array Value)[0]? = some (.int .i64 o.kind) from rfl)
        go_upto_block 2 with fail
        clear c0'
        go_cut [9, 10, 11, 12, 13, 14, 15, 16] from 33 to 195 (fun s9 s10 s11 s12 s13 s14 s15 s16 wx => ∃ (c : Nat) (d2 : DkS) (ao2 : Option Addr) (cap2 BB : Nat) (ev : Value), s11 = ev ∧ s10 = .slice ain o.bs.length cin ∧ s12 = .int .i64 c ∧ IsErr BB wx ev c 0 ∧ PI w wx p q ao2 cap2 d2 d2 ain cin o.bs ∧ Shut (∀ g, blockOf ain = some g → g < BB))
        case first =>
          have hcase : kind9 o = 0 ∨ kind9 o = 1 ∨ kind9 o = 2 ∨ kind9 o = 3 ∨ kind9 o = 4 ∨ kind9 o = 5 ∨ kind9 o = 6 ∨ kind9 o = 7 ∨ kind9 o = 8 := by omega
          clear hkb
          rcases hcase with hc | hc | hc | hc | hc | hc | hc | hc | hc
          · rw [hc] at hkd
            as_aux_lemma =>
              have hBo1 : BytesAt wi.drew o.ao o.bs := hBo
              have B91 : Blk wi.drew g9 #[.int .i64 o.kind, .int .i64 o.n, .slice o.ao o.bs.length o.cap] 53 := B9
              go_wp2_with fail
              refine wp_region_mix (fun W => BytesAt W o.ao o.bs ∧ Blk W g9 #[.int .i64 o.kind, .int .i64 o.n, .slice o.ao o.bs.length o.cap] 53) [(true, 0), (true, 1), (true, 3), (true, 4), (true, 5), (true, 6), (false, 2), (false, 7), (true, 8), (true, 9)] (by kernel_rfl) (by kernel_rfl) ⟨hBo1, B91⟩ ?_
              simp only [mixItems, List.map_cons, List.map_nil, List.getD_cons_zero, List.getD_cons_succ]
              change wpMix _ _ _ _ _ _ wi.drew
              have T2 := T1.keepsN (Keeps.refl Nothing wi).drew
              clear T1 hBo B9
              generalize wi.drew = V at *
              repeat (refine wpMix_free (fun K hK => ?_); go_simp; refine hK _ ?_; clear hK K)
              refine wpMix_yield (v := .slice o.ao o.bs.length o.cap) (fun W hW => ?_) (fun K hK => ?_)
              · have c2 := blk_cell hW.2 2 (show (#[.int .i64 o.kind, .int .i64 o.n, .slice o.ao o.bs.length o.cap] : Array Value)[2]? = some (.slice o.ao o.bs.length o.cap) from rfl)
                go_simp
              go_simp
              refine hK _ ?_
              clear hK K
              refine wpMix_yield (v := .string ⟨o.bs.toArray⟩) (fun W hW => ?_) (fun K hK => ?_)
              · have c2 := run_str W o.cap o.bs (l := o.bs.length) rfl hW.1
                go_simp
              go_simp
              refine hK _ ?_
              clear hK K
              repeat (refine wpMix_free (fun K hK => ?_); go_simp; refine hK _ ?_; clear hK K)
              refine wpMix_one (fun K hK => ?_)
              go_wp2_with fail
              refine (disk_append T2.pl.dk.dk cin (own8_at T2.own) (by omega) rfl).mono ?_
              rintro e w6 ⟨ev, rfl, hev, ao6, cap6, d6, k6, m6⟩
              have T6 := T2.prog d6 k6 m6
              have hB6 := T6.own0 hBo0
              have B96 := T2.prog9 B91 k6
              go_wp2_with fail
              refine hK _ _ ⟨hB6, B96⟩ ?_
              clear hK K
              refine wpMix_one (fun K hK => ?_)
              go_wp2_with fail
              refine (dr_append T6.pl.dr T2.pl.dk.dk.ok.bl T2.pl.dk.dk.ok.r0 T2.pl.dk.dk.ok.r1 o.bs).mono ?_
              rintro e w7 ⟨rfl, r7, k7⟩
              have T7 := T6.doc r7 k7
              have hev7 := hev.keeps k7 T2.qlt
              go_wp2_with fail
              refine hK _ _ ⟨T7.own0 hBo0, T6.doc9 B96 k7⟩ ?_
              clear hK K
              repeat (refine wpMix_free (fun K hK => ?_); go_simp; refine hK _ ?_; clear hK K)
              refine wpMix_nil ?_
              go_wp2_with fail
              go_meet
              exact ⟨_, _, ao6, cap6, V.heap.size, ev, rfl, rfl, rfl, hev7, T7, shut T2.lt⟩
          · rw [hc] at hkd
            as_aux_lemma =>
              have hBo1 : BytesAt wi.drew o.ao o.bs := hBo
              have B91 : Blk wi.drew g9 #[.int .i64 o.kind, .int .i64 o.n, .slice o.ao o.bs.length o.cap] 53 := B9
              go_wp2_with fail
              refine wp_region_mix (fun W => BytesAt W o.ao o.bs ∧ Blk W g9 #[.int .i64 o.kind, .int .i64 o.n, .slice o.ao o.bs.length o.cap] 53) [(true, 0), (true, 1), (true, 3), (true, 4), (true, 5), (true, 6), (false, 2), (false, 7), (true, 8), (true, 9)] (by kernel_rfl) (by kernel_rfl) ⟨hBo1, B91⟩ ?_
              simp only [mixItems, List.map_cons, List.map_nil, List.getD_cons_zero, List.getD_cons_succ]
              change wpMix _ _ _ _ _ _ wi.drew
              have T2 := T1.keepsN (Keeps.refl Nothing wi).drew
              clear T1 hBo B9
              generalize wi.drew = V at *
              repeat (refine wpMix_free (fun K hK => ?_); go_simp; refine hK _ ?_; clear hK K)
              refine wpMix_yield (v := .slice o.ao o.bs.length o.cap) (fun W hW => ?_) (fun K hK => ?_)
              · have c2 := blk_cell hW.2 2 (show (#[.int .i64 o.kind, .int .i64 o.n, .slice o.ao o.bs.length o.cap] : Array Value)[2]? = some (.slice o.ao o.bs.length o.cap) from rfl)
                go_simp
              go_simp
              refine hK _ ?_
              clear hK K
              refine wpMix_yield (v := .string ⟨o.bs.toArray⟩) (fun W hW => ?_) (fun K hK => ?_)
              · have c2 := run_str W o.cap o.bs (l := o.bs.length) rfl hW.1
                go_simp
              go_simp
              refine hK _ ?_
              clear hK K
              repeat (refine wpMix_free (fun K hK => ?_); go_simp; refine hK _ ?_; clear hK K)
              refine wpMix_one (fun K hK => ?_)
              go_wp2_with fail
              refine (disk_append T2.pl.dk.dk cin (own8_at T2.own) (by omega) rfl).mono ?_
              rintro e w6 ⟨ev, rfl, hev, ao6, cap6, d6, k6, m6⟩
              have T6 := T2.prog d6 k6 m6
              have hB6 := T6.own0 hBo0
              have B96 := T2.prog9 B91 k6
              go_wp2_with fail
              refine hK _ _ ⟨hB6, B96⟩ ?_
              clear hK K
              refine wpMix_one (fun K hK => ?_)
              go_wp2_with fail
              refine (dr_append T6.pl.dr T2.pl.dk.dk.ok.bl T2.pl.dk.dk.ok.r0 T2.pl.dk.dk.ok.r1 o.bs).mono ?_
              rintro e w7 ⟨rfl, r7, k7⟩
              have T7 := T6.doc r7 k7
              have hev7 := hev.keeps k7 T2.qlt
              go_wp2_with fail
              refine hK _ _ ⟨T7.own0 hBo0, T6.doc9 B96 k7⟩ ?_
              clear hK K
              repeat (refine wpMix_free (fun K hK => ?_); go_simp; refine hK _ ?_; clear hK K)
              refine wpMix_nil ?_
              go_wp2_with fail
              go_meet
              exact ⟨_, _, ao6, cap6, V.heap.size, ev, rfl, rfl, rfl, hev7, T7, shut T2.lt⟩
          · rw [hc] at hkd
            as_aux_lemma =>
              have hBo1 : BytesAt wi.drew o.ao o.bs := hBo
              have B91 : Blk wi.drew g9 #[.int .i64 o.kind, .int .i64 o.n, .slice o.ao o.bs.length o.cap] 53 := B9
              go_wp2_with fail
              refine wp_region_mix (fun W => BytesAt W o.ao o.bs ∧ Blk W g9 #[.int .i64 o.kind, .int .i64 o.n, .slice o.ao o.bs.length o.cap] 53) [(true, 0), (true, 1), (true, 3), (true, 4), (true, 5), (true, 6), (false, 2), (false, 7), (true, 8), (true, 9)] (by kernel_rfl) (by kernel_rfl) ⟨hBo1, B91⟩ ?_
              simp only [mixItems, List.map_cons, List.map_nil, List.getD_cons_zero, List.getD_cons_succ]
              change wpMix _ _ _ _ _ _ wi.drew
              have T2 := T1.keepsN (Keeps.refl Nothing wi).drew
              clear T1 hBo B9
              generalize wi.drew = V at *
              repeat (refine wpMix_free (fun K hK => ?_); go_simp; refine hK _ ?_; clear hK K)
              refine wpMix_yield (v := .slice o.ao o.bs.length o.cap) (fun W hW => ?_) (fun K hK => ?_)
              · have c2 := blk_cell hW.2 2 (show (#[.int .i64 o.kind, .int .i64 o.n, .slice o.ao o.bs.length o.cap] : Array Value)[2]? = some (.slice o.ao o.bs.length o.cap) from rfl)
                go_simp
              go_simp
              refine hK _ ?_
              clear hK K
              refine wpMix_yield (v := .string ⟨o.bs.toArray⟩) (fun W hW => ?_) (fun K hK => ?_)
              · have c2 := run_str W o.cap o.bs (l := o.bs.length) rfl hW.1
                go_simp
              go_simp
              refine hK _ ?_
              clear hK K
              repeat (refine wpMix_free (fun K hK => ?_); go_simp; refine hK _ ?_; clear hK K)
              refine wpMix_one (fun K hK => ?_)
              go_wp2_with fail
              refine (disk_append T2.pl.dk.dk cin (own8_at T2.own) (by omega) rfl).mono ?_
              rintro e w6 ⟨ev, rfl, hev, ao6, cap6, d6, k6, m6⟩
              have T6 := T2.prog d6 k6 m6
              have hB6 := T6.own0 hBo0
              have B96 := T2.prog9 B91 k6
              go_wp2_with fail
              refine hK _ _ ⟨hB6, B96⟩ ?_
              clear hK K
              refine wpMix_one (fun K hK => ?_)
              go_wp2_with fail
              refine (dr_append T6.pl.dr T2.pl.dk.dk.ok.bl T2.pl.dk.dk.ok.r0 T2.pl.dk.dk.ok.r1 o.bs).mono ?_
              rintro e w7 ⟨rfl, r7, k7⟩
              have T7 := T6.doc r7 k7
              have hev7 := hev.keeps k7 T2.qlt
              go_wp2_with fail
              refine hK _ _ ⟨T7.own0 hBo0, T6.doc9 B96 k7⟩ ?_
              clear hK K
              repeat (refine wpMix_free (fun K hK => ?_); go_simp; refine hK _ ?_; clear hK K)
              refine wpMix_nil ?_
              go_wp2_with fail
              go_meet
              exact ⟨_, _, ao6, cap6, V.heap.size, ev, rfl, rfl, rfl, hev7, T7, shut T2.lt⟩
          · rw [hc] at hkd
            as_aux_lemma =>
              go_wp2_with fail
              refine (disk_sync T1.pl.dk.dk).mono ?_
              rintro e w6 ⟨ev, rfl, hev, ao6, cap6, d6, k6, m6⟩
              have T6 := T1.prog d6 k6 m6
              go_wp2_with fail
              refine (dr_sync T6.pl.dr).mono ?_
              rintro e w7 ⟨rfl, r7, k7⟩
              have T7 := T6.doc r7 k7
              have hev7 := hev.keeps k7 T1.qlt
              go_wp2_with fail
              go_meet
              exact ⟨_, _, ao6, cap6, wi.heap.size, ev, rfl, rfl, rfl, hev7, T7, shut T1.lt⟩
          · rw [hc] at hkd
            as_aux_lemma =>
              have hBo1 : BytesAt wi.drew o.ao o.bs := hBo
              have B91 : Blk wi.drew g9 #[.int .i64 o.kind, .int .i64 o.n, .slice o.ao o.bs.length o.cap] 53 := B9
              go_wp2_with fail
              refine wp_region_mix (fun W => BytesAt W o.ao o.bs ∧ Blk W g9 #[.int .i64 o.kind, .int .i64 o.n, .slice o.ao o.bs.length o.cap] 53) [(true, 0), (true, 1), (true, 2), (true, 4), (true, 5), (true, 6), (false, 3), (false, 7), (true, 8), (true, 9)] (by kernel_rfl) (by kernel_rfl) ⟨hBo1, B91⟩ ?_
              simp only [mixItems, List.map_cons, List.map_nil, List.getD_cons_zero, List.getD_cons_succ]
              change wpMix _ _ _ _ _ _ wi.drew
              have T2 := T1.keepsN (Keeps.refl Nothing wi).drew
              clear T1 hBo B9
              generalize wi.drew = V at *
              repeat (refine wpMix_free (fun K hK => ?_); go_simp; refine hK _ ?_; clear hK K)
              refine wpMix_yield (v := .int .i64 o.n) (fun W hW => ?_) (fun K hK => ?_)
              · have c2 := blk_cell hW.2 1 (show (#[.int .i64 o.kind, .int .i64 o.n, .slice o.ao o.bs.length o.cap] : Array Value)[1]? = some (.int .i64 o.n) from rfl)
                go_simp
              go_simp
              refine hK _ ?_
              clear hK K
              repeat (refine wpMix_free (fun K hK => ?_); go_simp; refine hK _ ?_; clear hK K)
              refine wpMix_yield (v := .int .i64 o.n) (fun W hW => ?_) (fun K hK => ?_)
              · have c2 := blk_cell hW.2 1 (show (#[.int .i64 o.kind, .int .i64 o.n, .slice o.ao o.bs.length o.cap] : Array Value)[1]? = some (.int .i64 o.n) from rfl)
                go_simp
              go_simp
              refine hK _ ?_
              clear hK K
              repeat (refine wpMix_free (fun K hK => ?_); go_simp; refine hK _ ?_; clear hK K)
              refine wpMix_one (fun K hK => ?_)
              go_wp2_with fail
              refine (disk_cut T2.pl.dk.dk o.n).mono ?_
              rintro e w6 ⟨ev, rfl, hev, ao6, cap6, d6, k6, m6⟩
              have T6 := T2.prog d6 k6 m6
              have hB6 := T6.own0 hBo0
              have B96 := T2.prog9 B91 k6
              go_wp2_with fail
              refine hK _ _ ⟨hB6, B96⟩ ?_
              clear hK K
              refine wpMix_one (fun K hK => ?_)
              go_wp2_with fail
              refine (dr_cut T6.pl.dr o.n).mono ?_
              rintro e w7 ⟨rfl, r7, k7⟩
              have T7 := T6.doc r7 k7
              have hev7 := hev.keeps k7 T2.qlt
              go_wp2_with fail
              refine hK _ _ ⟨T7.own0 hBo0, T6.doc9 B96 k7⟩ ?_
              clear hK K
              repeat (refine wpMix_free (fun K hK => ?_); go_simp; refine hK _ ?_; clear hK K)
              refine wpMix_nil ?_
              go_wp2_with fail
              go_meet
              exact ⟨_, _, ao6, cap6, V.heap.size, ev, rfl, rfl, rfl, hev7, T7, shut T2.lt⟩
          · rw [hc] at hkd
            as_aux_lemma =>
              have c1 := blk_cell B9 1 (show (#[.int .i64 o.kind, .int .i64 o.n, .slice o.ao o.bs.length o.cap] : Array Value)[1]? = some (.int .i64 o.n) from rfl)
              go_wp2_with fail
              refine (disk_crash T1.pl.dk.dk o.n).mono ?_
              rintro e w6 ⟨rfl, ao6, cap6, d6, k6, m6⟩
              have T6 := T1.prog d6 k6 m6
              have B96 := T1.prog9 B9 k6
              have c16 := blk_cell B96 1 (show (#[.int .i64 o.kind, .int .i64 o.n, .slice o.ao o.bs.length o.cap] : Array Value)[1]? = some (.int .i64 o.n) from rfl)
              go_wp2_with fail
              refine (dr_crash T6.pl.dr T1.pl.dk.dk.ok.bl T1.pl.dk.dk.ok.sl o.n).mono ?_
              rintro e w7 ⟨rfl, r7, k7⟩
              have T7 := T6.doc r7 k7
              go_wp2_with fail
              go_meet
              exact ⟨0, _, ao6, cap6, wi.heap.size, .nilIface, rfl, rfl, rfl, isErr_nil _ _, T7, shut T1.lt⟩
          · rw [hc] at hkd
            as_aux_lemma =>
              go_wp2_with fail
              refine (disk_start T1.pl.dk.dk).mono ?_
              rintro e w6 ⟨ev, rfl, hev, ao6, cap6, d6, k6, m6⟩
              have T6 := T1.prog d6 k6 m6
              go_wp2_with fail
              refine (dr_start T6.pl.dr).mono ?_
              rintro e w7 ⟨rfl, r7, k7⟩
              have T7 := T6.doc r7 k7
              have hev7 := hev.keeps k7 T1.qlt
              go_wp2_with fail
              go_meet
              exact ⟨_, _, ao6, cap6, wi.heap.size, ev, rfl, rfl, rfl, hev7, T7, shut T1.lt⟩
          · rw [hc] at hkd
            as_aux_lemma =>
              have c1 := blk_cell B9 1 (show (#[.int .i64 o.kind, .int .i64 o.n, .slice o.ao o.bs.length o.cap] : Array Value)[1]? = some (.int .i64 o.n) from rfl)
              go_wp2_with fail
              refine (disk_room T1.pl.dk.dk o.n).mono ?_
              rintro e w6 ⟨rfl, ao6, cap6, d6, k6, m6⟩
              have T6 := T1.prog d6 k6 m6
              have B96 := T1.prog9 B9 k6
              have c16 := blk_cell B96 1 (show (#[.int .i64 o.kind, .int .i64 o.n, .slice o.ao o.bs.length o.cap] : Array Value)[1]? = some (.int .i64 o.n) from rfl)
              go_wp2_with fail
              refine (dr_room T6.pl.dr o.n).mono ?_
              rintro e w7 ⟨rfl, r7, k7⟩
              have T7 := T6.doc r7 k7
              go_wp2_with fail
              go_meet
              exact ⟨0, _, ao6, cap6, wi.heap.size, .nilIface, rfl, rfl, rfl, isErr_nil _ _, T7, shut T1.lt⟩
          · rw [hc] at hkd
            as_aux_lemma =>
              go_wp2_with fail
              refine (disk_read T1.pl.dk.dk).mono ?_
              rintro e w6 ⟨hdn, hup⟩
              by_cases hd : d.dn = true
              · obtain ⟨ev, rfl, hev, k6⟩ := hdn hd
                clear hdn hup
                have T6 := T1.keepsN k6
                have c3 := T6.pl.dr.c3
                rw [hd] at c3
                go_wp2_with fail
                refine wp_region_mix (fun _ => True) [(true, 0), (true, 1), (true, 2), (true, 3), (true, 4), (true, 5), (true, 6), (true, 7), (true, 8), (true, 9), (true, 10), (true, 11), (true, 12), (true, 13), (true, 14), (true, 15), (true, 16), (true, 17), (true, 18), (true, 19)] (by kernel_rfl) (by kernel_rfl) trivial ?_
                simp only [mixItems, List.map_cons, List.map_nil, List.getD_cons_zero, List.getD_cons_succ]
                repeat (refine wpMix_free (fun K hK => ?_); go_simp; refine hK _ ?_; clear hK K)
                refine wpMix_nil ?_
                have T7 := T6.keepsN (Keeps.refl Nothing w6).drew
                have hev7 : IsErr wi.heap.size w6.drew ev 15 0 := hev
                have HLT := shut T1.lt
                clear T6 hev c3 k6
                generalize w6.drew = V at *
                go_wp2_with fail
                go_loopw [15] (fun s wx => s = .int .i64 0 ∧ wx = V) (fun _ _ => 0)
                case atStart => exact ⟨rfl, rfl⟩
                case round =>
                  obtain ⟨rfl, rfl⟩ := hrel
                  go_wp2_with fail
                  go_meet
                  exact ⟨15, d, ao1, cap1, _, ev, rfl, rfl, rfl, hev7, T7, HLT⟩
              · obtain ⟨aob, capb, rfl, ob, k6, hfb⟩ := hup (by simpa using hd)
                clear hdn hup
                have hd2 : d.dn = false := by simpa using hd
                have T6 := T1.keepsN k6
                have c3 := T6.pl.dr.c3
                rw [hd2] at c3
                have HSEP : Shut (∀ g, blockOf aob = some g → g ≠ p ∧ g ≠ q ∧ blockOf ao1 ≠ some g ∧ blockOf ain ≠ some g ∧ w.heap.size ≤ g) := shut (fun g hg => by
                  have h1 := hfb g hg
                  have h2 := T1.lt
                  have h3 := T1.pl.dk.dk.lt
                  have h4 := T1.qlt q rfl
                  have h5 := T1.pl.dk.keep.size
                  refine ⟨by omega, by omega, fun e => ?_, fun e => ?_, by omega⟩
                  · have := h3.2 g e; omega
                  · have := h2 g e; omega)
                have HLT := shut T1.lt
                have hsb := str_size d.bs
                have hbl := T1.pl.dk.dk.ok.bl
                go_wp2_with fail
                have ob2 : Own8 w6.drew 5 aob capb d.bs := ob
                have T7 := T6.keepsN (Keeps.refl Nothing w6).drew
                refine wp_region_mix (fun W => BytesAt W aob d.bs ∧ W.cell? ⟨q, 0, none⟩ = some (.string ⟨d.bs.toArray⟩)) [(true, 0), (true, 1), (true, 2), (true, 3), (true, 4), (true, 5), (true, 6), (true, 7), (true, 8), (true, 9), (true, 10), (true, 11), (true, 12), (true, 13), (true, 14), (true, 15), (true, 16), (true, 17), (true, 18), (true, 19)] (by kernel_rfl) (by kernel_rfl) ⟨own8_at ob2, T7.pl.dr.c0⟩ ?_
                simp only [mixItems, List.map_cons, List.map_nil, List.getD_cons_zero, List.getD_cons_succ]
                change wpMix _ _ _ _ _ _ w6.drew
                clear T6 c3 k6 ob
                generalize w6.drew = V at *
                repeat (refine wpMix_free (fun K hK => ?_); go_simp; refine hK _ ?_; clear hK K)
                refine wpMix_yield (v := .string ⟨d.bs.toArray⟩) (fun W hW => ?_) (fun K hK => ?_)
                · have c2 := run_str W capb d.bs (l := d.bs.length) rfl hW.1
                  go_simp
                go_simp
                refine hK _ ?_
                clear hK K
                repeat (refine wpMix_free (fun K hK => ?_); go_simp; refine hK _ ?_; clear hK K)
                refine wpMix_yield (v := .string ⟨d.bs.toArray⟩) (fun W hW => ?_) (fun K hK => ?_)
                · have c2 := hW.2
                  go_simp
                go_simp
                refine hK _ ?_
                clear hK K
                repeat (refine wpMix_free (fun K hK => ?_); go_simp; refine hK _ ?_; clear hK K)
                refine wpMix_nil ?_
                go_wp2_with fail
                go_loopw [15] (fun s wx => ∃ (i : Nat) (L : List UInt8), s = .int .i64 i ∧ i ≤ d.bs.length ∧ Shut (L.length = d.bs.length) ∧ Own8 wx 5 aob capb L ∧ PI w wx p q ao1 cap1 d d ain cin o.bs) (fun s _ => d.bs.length - (intOf s).toNat)
                case atStart => exact ⟨0, d.bs, rfl, Nat.zero_le _, shut rfl, ob2, T7⟩
                case round =>
                  clear ob2 T7
                  obtain ⟨i, L, rfl, hi2, HLL, ob2, T7⟩ := hrel
                  by_cases hlt2 : i < d.bs.length
                  · obtain ⟨g, rfl⟩ := own8_head ob2 (by rintro rfl; have := HLL.out; simp at this; omega)
                    obtain ⟨c, hc⟩ : ∃ c, L[i]? = some c := ⟨_, List.getElem?_eq_getElem (by rw [HLL.out]; exact hlt2)⟩
                    have cc := own8_cell ob2 hc
                    obtain ⟨_, hf, o4, k4⟩ := own8_store ob2 (j := i) (by rw [HLL.out]; exact hlt2) (c + 1)
                    obtain ⟨z1, z2, z3, z4, z5⟩ := HSEP.out g rfl
                    have T8 := T7.far k4 z1 z2 z3 z4 z5
                    have HLL2 : Shut ((L.set i (c + 1)).length = d.bs.length) := shut (by rw [List.length_set]; exact HLL.out)
                    have hw := add_one c
                    have i0 : (0 : Int) ≤ i := by omega
                    have i1 : (i : Int) < d.bs.length := by omega
                    clear hc z1 z2 z3 z4 z5 T7 ob2
                    go_wp2_with fail
                    go_roundw
                    case rel => exact ⟨i + 1, L.set i (c + 1), by go_num, by omega, HLL2, o4, T8⟩
                    case measure => simp [intOf]; omega
                  · go_wp2_with fail
                    go_meet
                    exact ⟨0, d, ao1, cap1, _, .nilIface, rfl, rfl, rfl, isErr_nil _ _, T7, HLT⟩
        case rest =>
          clear T1 B9 hBo
          obtain ⟨c, d2, ao2, cap2, BB, ev, rfl, rfl, rfl, hev, T3, HLT⟩ := hcut
          as_aux_lemma =>
            have hsb := str_size d2.bs
            go_wp2_with fail
            go_loopw [16] (fun s wx => ∃ (i3 : Nat) (L : List UInt8), s = .int .i64 i3 ∧ i3 ≤ o.bs.length ∧ Shut (L.length = o.bs.length) ∧ PI w wx p q ao2 cap2 d2 d2 ain cin L ∧ IsErr BB wx u11 c 0) (fun s _ => o.bs.length - (intOf s).toNat)
            case atStart => exact ⟨0, o.bs, rfl, Nat.zero_le _, shut rfl, T3, hev⟩
            case round =>
              clear T3 hev
              obtain ⟨i3, L, rfl, hi3, HLL, T3, hev⟩ := hrel
              by_cases hlt3 : i3 < o.bs.length
              · obtain ⟨g, rfl⟩ := own8_head T3.own (by rintro rfl; have := HLL.out; simp at this; omega)
                obtain ⟨b, hc⟩ : ∃ b, L[i3]? = some b := ⟨_, List.getElem?_eq_getElem (by rw [HLL.out]; exact hlt3)⟩
                have cc := own8_cell T3.own hc
                obtain ⟨_, hf, o4, k4⟩ := own8_store T3.own (j := i3) (by rw [HLL.out]; exact hlt3) (b + 1)
                have T4 := T3.store (j := i3) (by rw [HLL.out]; exact hlt3) (b + 1)
                have hev4 := hev.keeps k4 (fun i hi => by subst hi; exact HLT.out i rfl)
                have HLL2 : Shut ((L.set i3 (b + 1)).length = o.bs.length) := shut (by rw [List.length_set]; exact HLL.out)
                have hw := add_one b
                have i0 : (0 : Int) ≤ i3 := by omega
                have i1 : (i3 : Int) < o.bs.length := by omega
                clear hc T3 hev o4 k4
                go_wp2_with fail
                go_roundw
                case rel => exact ⟨i3 + 1, L.set i3 (b + 1), by go_num, by omega, HLL2, T4, hev4⟩
                case measure => simp [intOf]; omega
              · go_wp2_with fail
                refine wp_region_mix (fun W => W.cell? ⟨q, 0, none⟩ = some (.string ⟨d2.bs.toArray⟩) ∧ W.cell? ⟨q, 1, none⟩ = some (.int .i64 d2.sy)) [(true, 0), (true, 1), (false, 2), (true, 3), (true, 4), (true, 5), (true, 7), (true, 8), (true, 9), (true, 10), (true, 11), (false, 6), (true, 12), (true, 13), (true, 14), (true, 15), (true, 17), (true, 18), (true, 19), (true, 20), (false, 16), (true, 21), (true, 22)] (by kernel_rfl) (by kernel_rfl) ⟨T3.pl.dr.c0, T3.pl.dr.c1⟩ ?_
                simp only [mixItems, List.map_cons, List.map_nil, List.getD_cons_zero, List.getD_cons_succ]
                change wpMix _ _ _ _ _ _ wr.drew
                have T4 := T3.keepsN (Keeps.refl Nothing wr).drew
                have hev4 : IsErr BB wr.drew u11 c 0 := hev
                clear T3 hev
                generalize wr.drew = V at *
                repeat (refine wpMix_free (fun K hK => ?_); go_simp; refine hK _ ?_; clear hK K)
                refine wpMix_one (fun K hK => ?_)
                go_wp2_with fail
                refine (is_any hev4 c 0).mono ?_
                rintro e w8 ⟨rfl, n8, rfl⟩
                have T5 := T4.keepsN ((Keeps.refl Nothing V).drewN n8)
                clear T4
                go_wp2_with fail
                refine hK _ _ ⟨T5.pl.dr.c0, T5.pl.dr.c1⟩ ?_
                clear hK K
                repeat (refine wpMix_free (fun K hK => ?_); go_simp; refine hK _ ?_; clear hK K)
                refine wpMix_yield (v := .string ⟨d2.bs.toArray⟩) (fun W hW => ?_) (fun K hK => ?_)
                · have c2 := hW.1
                  go_simp
                go_simp
                refine hK _ ?_
                clear hK K
                repeat (refine wpMix_free (fun K hK => ?_); go_simp; refine hK _ ?_; clear hK K)
                refine wpMix_one (fun K hK => ?_)
                go_wp2_with fail
                refine (disk_size T5.pl.dk.dk).mono ?_
                rintro e w8 ⟨rfl, rfl⟩
                go_wp2_with fail
                refine hK _ _ ⟨T5.pl.dr.c0, T5.pl.dr.c1⟩ ?_
                clear hK K
                repeat (refine wpMix_free (fun K hK => ?_); go_simp; refine hK _ ?_; clear hK K)
                refine wpMix_yield (v := .int .i64 d2.sy) (fun W hW => ?_) (fun K hK => ?_)
                · have c2 := hW.2
                  go_simp
                go_simp
                refine hK _ ?_
                clear hK K
                repeat (refine wpMix_free (fun K hK => ?_); go_simp; refine hK _ ?_; clear hK K)
                refine wpMix_one (fun K hK => ?_)
                go_wp2_with fail
                refine (disk_synced T5.pl.dk.dk).mono ?_
                rintro e w8 ⟨rfl, rfl⟩
                go_wp2_with fail
                refine hK _ _ ⟨T5.pl.dr.c0, T5.pl.dr.c1⟩ ?_
                clear hK K
                repeat (refine wpMix_free (fun K hK => ?_); go_simp; refine hK _ ?_; clear hK K)
                refine wpMix_nil ?_
                have T6 := T5.pl
                clear T5
                go_wp2_with fail
                go_roundw
                case rel => exact ⟨i + 1, d2, ao2, cap2, by go_num, by omega, by omega, T6⟩
                case measure => simp [intOf]; omega
    · have hcase : ¬ i < n ∨ (i < n ∧ ¬ i < 50) := by omega
      rcases hcase with hx | ⟨hx, hy⟩
      all_goals
        go_wp2_with fail
        refine (disk_told wr).mono ?_
        rintro e w1 ⟨rfl, k1⟩
        go_wp2_with fail
        go_ret
        exact ⟨rfl, L1.dk.keep.trans k1 (fun _ h _ => h)⟩
set_option maxRecDepth 100000 in
theorem lifted (os : Os) (started : os.Started) (H : Type) (enc : TypeId × Value → H) :
    ReturnsInHanded {} Try.checked os 6 .any (Rows.diskPlaysSpec.pre6 enc Try.prog Try.f6 Rows.diskPlaysRow.domain false) (Rows.diskPlaysSpec.post enc Try.prog Try.f6 false true false false) := by
  refine returnsInHanded_of_change (C := Try.checked) own started (by kernel_rfl) Try.func6
    (ChangeSpec.witness6 (enc := enc) (C := Try.checked) false ⟨#[], #[.int .i64 0, .slice none 0 0], []⟩ 8 (by kernel_rfl) (by kernel_rfl) (by kernel_rfl) (by kernel_rfl)) ?_
  intro W base args ds gs before hval0 hW hcnd _
  have hval : ∀ (j : Nat) t v, Try.f6.params[j]? = some t → args[j]? = some v → Value.okWide Try.prog W .any base t v := hval0
  have hW' := hW
  obtain ⟨p, q, hA0, hV, rfl, hfz, hnd⟩ := hW
  have hA : DataW.TrodAll enc Try.prog W 0 (fun _ => true) true Try.f6.params.toList args.toList ds p := hA0
  rw [Try.params6] at hA hval
  obtain ⟨v0, vs0, d0, ds0, p0, q0, hargs, rfl, rfl, h0, r0⟩ := trodAll_cons hA
  obtain ⟨v1, vs1, d1, ds1, p1, q1, rfl, rfl, rfl, h1, r1⟩ := trodAll_cons r0
  obtain ⟨rfl, rfl, rfl⟩ := trodAll_nil r1
  obtain rfl : args = #[v0, v1] := by cases args; simp_all
  obtain ⟨rfl, rfl⟩ := trodVars_none hV
  have k0 := h0
  have lt0 : ∀ x ∈ p0, x.block < W.heap.size := by obtain ⟨m, hm⟩ := k0; exact DataW.trod_lt m _ _ _ hm
  have k1 := h1
  have lt1 : ∀ x ∈ p1, x.block < W.heap.size := by obtain ⟨m, hm⟩ := k1; exact DataW.trod_lt m _ _ _ hm
  obtain ⟨a0, rfl, rfl, rfl, w0⟩ := open_int Try.underlying3 (hval 0 3 v0 rfl rfl) h0
  have b0 := bounds_i64 w0
  obtain ⟨ao1, len1, cap1, rfl⟩ := okWide_slice Try.underlying48 (hval 1 48 v1 rfl rfl)
  obtain ⟨fuel1, hf1⟩ := h1
  obtain ⟨ops1, hn1, hO1, hlc1, hcm1⟩ := open_dops rfl hf1
  clear hA0 hval0
  refine (walk W a0 ao1 len1 cap1 ops1 hn1 hO1 (Nat.le_trans hlc1 hcm1)).mono fun e W' ⟨he, hk⟩ => ?_
  subst he
  have bel : Below W.heap.size W W' := hk.below (Nat.le_refl _) (fun _ h => h.elim)
  exact ⟨_, rfl, _, _, _, [], _, [], hW', trodAll_mk1 (shut_bool Try.underlying4 _), (trodAll_cons_mk (Below.trod laidOut (by kernel_rfl) (of_decide_eq_true (by kernel_rfl)) k0 bel lt0) (trodAll_cons_mk (Below.trod laidOut (by kernel_rfl) (of_decide_eq_true (by kernel_rfl)) k1 bel lt1) trodAll_mk0)), rfl, bel.frame _, fun h => by cases h⟩

/-- For every input the law returns true, and its arguments read as before. -/
theorem proved : Rows.DiskPlaysSaid :=
  OpenClaim.holds_of_wide 6 Try.f6 rfl rfl rfl rfl rfl rfl rfl ⟨rfl, rfl, rfl, rfl, rfl⟩ rfl rfl rfl rfl rfl (by kernel_rfl) Try.func6 (by kernel_rfl)
    (of_decide_eq_true (by kernel_rfl)) (by unfold Func.isWrapper; first | (rw [if_pos (by decide +kernel)]; kernel_rfl) | (rw [if_neg (by decide +kernel)]; exact ⟨rfl, rfl⟩))
    (fun os started H enc _ => lifted os started H enc)
#print axioms proved

end Go.Proofs.Ytkhbepmaeegekaa.diskPlays
