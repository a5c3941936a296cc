/- usufructlaw2.WireOnce: for any bytes and any list of things the law returns true; no condition. -/
import Derived.Test.YtkhbepmaeegekaaRows
import Derived.Test.YtkhbepmaeegekaaCanon2
import Derived.Deep.LoopGhost
import Derived.Deep.CutBlock
import Derived.Deep.DrawnRows
import Derived.ProofKit
import Derived.OpenShut
import Derived.ShutString
import Derived.ChangeOld
import Derived.Below
namespace Go.Proofs.Ytkhbepmaeegekaa.wireOnce
open Go.ChangeShapes Go.WideShapes Go.ChangeAt Go.RowKit
open Go.ChangeMaps (open_string shut_string)

theorem own : ownKnob Try.prog.godebug = none := by kernel_rfl
theorem laidOut : laidOutB Try.prog = true := by kernel_rfl


theorem decBool_bd (l : List UInt8) : (decBool l).1 = (decBool l).1 := rfl
theorem uint_of' {w : World} {p : Nat} (hW : Wr w p none 0 []) (x : Nat) (hx : x < 18446744073709551616) : Calls Try.prog 23 #[.pointer (some ⟨p, 0, none⟩), .int .u64 x] w (WrPost w p none ([] ++ encU x)) := uint_any hW x hx (by simp)
theorem bool_enc {w : World} {p : Nat} (hW : Wr w p none 0 []) (x : Bool) : Calls Try.prog 49 #[.pointer (some ⟨p, 0, none⟩), .bool x] w (WrPost w p none ([] ++ encB x)) := bool_any hW x (by simp)
theorem text_enc {w : World} {p : Nat} (hW : Wr w p none 0 []) (x : List UInt8) (hx : x.length ≤ 2000) : Calls Try.prog 50 #[.pointer (some ⟨p, 0, none⟩), .string ⟨x.toArray⟩] w (WrPost w p none ([] ++ encS x)) :=
  text_any hW ⟨x.toArray⟩ (by show x.toArray.size ≤ _; simp; omega) (by simp)

attribute [local go_sem ↓] exec_mid_hash exec_store_hash
attribute [local go_sem] rowOk_new World.setRow_alloc_new


theorem bytes_head {w : World} {ao : Option Addr} {bs : List UInt8} (h : BytesAt w ao bs) (h0 : 0 < bs.length) : ∃ b off, ao = some ⟨b, off, none⟩ := by
  cases ao with
  | none => have := h.1 rfl; subst this; simp at h0
  | some a =>
    have hc := h.2 a rfl 0 bs[0] (List.getElem?_eq_getElem h0)
    have hs := World.cell?_spot hc
    obtain ⟨b, off, s⟩ := a
    unfold Addr.add at hs
    exact ⟨b, off, by simpa using hs⟩


set_option maxRecDepth 100000 in
set_option maxHeartbeats 6000000 in
theorem walk (w : World) (ab : Option Addr) (nb cb : Nat) (bs : List UInt8) (hnb : bs.length = nb) (hB : BytesAt w ab bs) (hcb : nb ≤ cb) (hcm : cb ≤ maxLen) (ao : Option Addr) (n c : Nat) (ops : List OpD) (hn : ops.length = n) (hO : OpsAt w ao ops) (hmax : n ≤ maxLen) :
    Calls Try.prog 11 #[.slice ab nb cb, .slice ao n c] w (SaysTrue w) := by
  have HN := Lib.hid hn
  have HNB := Lib.hid hnb
  have hn9 : n < 9223372036854775808 := by unfold maxLen at hmax; omega
  have hcb9 : cb < 9223372036854775808 := by unfold maxLen at hcm; omega
  clear hn hmax hnb hcm
  by_cases hbig : 2000 < nb
  · go_enter Try.func11, Try.ntmps11
    go_wp2_with fail
    exact (told_true w).mono fun e w' h => by
      obtain ⟨rfl, k⟩ := h
      go_wp2_with fail
      go_ret
      exact ⟨rfl, k⟩
  · go_enter Try.func11, Try.ntmps11
    go_wp2_with fail
    refine (newReader_len cb HNB.out hB (by have := HNB.out; omega)).mono ?_
    rintro e w0 ⟨q, ao3, cap3, rfl, R0, K0, hq, hqa⟩
    clear hqa
    go_wp2_with fail
    go_loopg [6] 30 (fun g s wr => ∃ (i k : Nat), s = .int .i64 i ∧ i ≤ n ∧ i ≤ 30 ∧ g = 30 - i ∧ Rd wr q ao3 cap3 bs k ∧ Keeps Nothing w wr)
    case atStart => exact ⟨0, 0, rfl, Nat.zero_le _, Nat.zero_le _, rfl, R0, K0⟩
    case round =>
      clear R0 K0
      obtain ⟨i, k, rfl, hi, h30, hg, R1, K1⟩ := hrel
      by_cases hb : i < n ∧ i < 30
      · obtain ⟨hlt, hlt30⟩ := hb
        obtain ⟨o, ho⟩ : ∃ o, ops[i]? = some o := ⟨_, List.getElem?_eq_getElem (by have := HN.out; omega)⟩
        obtain ⟨b, off, rfl, hf, hr⟩ := ops_head hO ho
        clear ho
        have hbx := opBox hf (rangeAt_keeps hr K1 (fun h => h))
        have hk := kindN_bd o
        have hkd := kindN_walk o
        have c0 : (wr.alloc (.cells #[.slice none 0 0] 93)).cell? ⟨b, off + i * 38, none⟩ = some (.int .i64 o.kind) := ((Keeps.refl Nothing wr).alloc _).cell hbx.c0 (fun h => h)
        clear hbx hr hf
        go_wp2_with fail
        refine (rAt_any R1).mono ?_
        rintro e w1 ⟨rfl, rfl⟩
        go_wp2_with fail
        refine (newWriter_any _).mono ?_
        rintro e w0' ⟨rfl, rfl⟩
        have hql := lt_of_block R1.blk
        have hwl := K1.size
        have Wp1 : Wr (w1.alloc (.cells #[.slice none 0 0] 93)) w1.heap.size none 0 [] := wr_new w1
        have HL : Hid (∀ g, (Value.slice ao3 bs.length cap3).ownBlock = some g → g < w1.heap.size) := Lib.hid (fun g hg => own_lt R1.own hg)
        have R1 := R1.keepsN ((Keeps.refl _ _).alloc (.cells #[.slice none 0 0] 93))
        have K1 := K1.alloc (.cells #[.slice none 0 0] 93)
        have hbl : bs.length ≤ 2000 := by have := HNB.out; omega
        generalize hpw : w1.heap.size = pw at *
        have HSW : Hid ((w1.alloc (.cells #[.slice none 0 0] 93)).heap.size = pw + 1) := Lib.hid (by rw [World.size_alloc, hpw])
        have HPW := Lib.hid hpw
        clear hpw
        go_upto_block 2 with fail
        go_cut [9, 10, 11, 12, 13, 14, 15, 16, 17, 18, 19] from 28 to 131 (fun s9 s10 s11 s12 s13 s14 s15 s16 s17 s18 s19 wx => ∃ (dc dn : Nat) (V : List UInt8) (ao4 : Option Addr) (cap4 : Nat), IsErr (pw + 1) wx s9 dc (posOf dc k) ∧ Rd wx q ao3 cap3 bs (k + dn) ∧ Wr wx pw ao4 cap4 V ∧ Keeps Nothing w wx ∧ Hid (Canon (bs.drop k) dc dn V))
        case first =>
          have hcase : kindN o = 0 ∨ kindN o = 1 ∨ kindN o = 2 ∨ kindN o = 3 ∨ kindN o = 4 ∨ kindN o = 5 := by omega
          rcases hcase with hc | hc | hc | hc | hc | hc
          · clear hk hkd
            obtain ⟨dc, dv, dn, hD⟩ : ∃ dc dv dn, decU (bs.drop k) = (dc, dv, dn) := ⟨_, _, _, rfl⟩
            have hcan := canonU (bs.drop k)
            have hbd := decU_bd (bs.drop k)
            have hrd := rUint R1 (by omega)
            rw [hD] at hcan hbd hrd
            simp only at hcan hbd hrd
            clear hD
            have HCAN := Lib.hid hcan
            clear hcan
            have HBD := Lib.hid hbd
            clear hbd
            go_wp2_with fail
            refine hrd.mono ?_
            clear hrd
            rintro e w2 ⟨ev, rfl, hev, R2, K2⟩
            rw [HSW.out] at hev
            have Wp2 : Wr w2 pw none 0 [] := ⟨K2.blk Wp1.blk (fun h => by omega), World.ownsRow_nil _ _ _ _⟩
            have hsz2 := K2.size
            have hwr := uint_of' Wp2 dv HBD.out
            have R2a := R2
            have hev2 := hev
            have K2a := Keeps.refl Nothing w2
            have HWR := Lib.hid hwr
            clear hwr hev R2
            go_wp2_with fail
            refine HWR.out.mono ?_
            clear HWR
            rintro e w3 ⟨rfl, ao4, cap4, W3, K3, m3⟩
            have R3 : Rd w3 q ao3 cap3 bs (k + dn) := ⟨K3.blk R2a.blk (fun h => by rcases h with h | h; omega; simp [blockOf] at h), K3.own R2a.own (fun g hg h => by rcases h with h | h; have := HL.out g hg; omega; simp [blockOf] at h), R2a.le⟩
            have hev3 := hev2.keeps K3 (fun i h => by rcases h with h | h; omega; simp [blockOf] at h)
            have K4 := ((K1.trans K2 (fun i h hlt => by omega)).trans K2a (fun _ h _ => h)).trans K3 (fun i h hlt => by rcases h with h | h; omega; simp [blockOf] at h)
            clear K3 K2a K2 m3 R2a Wp2 hev2
            go_wp2_with fail
            go_meet
            exact ⟨dc, dn, _, ao4, cap4, hev3, R3, W3, K4, HCAN⟩
          · clear hk hkd
            obtain ⟨dc, dv, dn, hD⟩ : ∃ dc dv dn, decI (bs.drop k) = (dc, dv, dn) := ⟨_, _, _, rfl⟩
            have hcan := canonI (bs.drop k)
            have hbd := decI_bd (bs.drop k)
            have hrd := rInt_any R1 (by omega)
            rw [hD] at hcan hbd hrd
            simp only at hcan hbd hrd
            clear hD
            have HCAN := Lib.hid hcan
            clear hcan
            have HBD := Lib.hid hbd
            clear hbd
            go_wp2_with fail
            refine hrd.mono ?_
            clear hrd
            rintro e w2 ⟨ev, rfl, hev, R2, K2⟩
            rw [HSW.out] at hev
            have Wp2 : Wr w2 pw none 0 [] := ⟨K2.blk Wp1.blk (fun h => by omega), World.ownsRow_nil _ _ _ _⟩
            have hsz2 := K2.size
            have hwr := int_any Wp2 dv HBD.out.1 HBD.out.2 (by simp)
            have R2a := R2
            have hev2 := hev
            have K2a := Keeps.refl Nothing w2
            have HWR := Lib.hid hwr
            clear hwr hev R2
            go_wp2_with fail
            refine HWR.out.mono ?_
            clear HWR
            rintro e w3 ⟨rfl, ao4, cap4, W3, K3, m3⟩
            have R3 : Rd w3 q ao3 cap3 bs (k + dn) := ⟨K3.blk R2a.blk (fun h => by rcases h with h | h; omega; simp [blockOf] at h), K3.own R2a.own (fun g hg h => by rcases h with h | h; have := HL.out g hg; omega; simp [blockOf] at h), R2a.le⟩
            have hev3 := hev2.keeps K3 (fun i h => by rcases h with h | h; omega; simp [blockOf] at h)
            have K4 := ((K1.trans K2 (fun i h hlt => by omega)).trans K2a (fun _ h _ => h)).trans K3 (fun i h hlt => by rcases h with h | h; omega; simp [blockOf] at h)
            clear K3 K2a K2 m3 R2a Wp2 hev2
            go_wp2_with fail
            go_meet
            exact ⟨dc, dn, _, ao4, cap4, hev3, R3, W3, K4, HCAN⟩
          · clear hk hkd
            obtain ⟨dc, dv, dn, hD⟩ : ∃ dc dv dn, decU (bs.drop k) = (dc, dv, dn) := ⟨_, _, _, rfl⟩
            have hcan := canonU (bs.drop k)
            have hbd := decU_bd (bs.drop k)
            have hrd := rUint R1 (by omega)
            rw [hD] at hcan hbd hrd
            simp only at hcan hbd hrd
            clear hD
            have HCAN := Lib.hid hcan
            clear hcan
            have HBD := Lib.hid hbd
            clear hbd
            go_wp2_with fail
            refine hrd.mono ?_
            clear hrd
            rintro e w2 ⟨ev, rfl, hev, R2, K2⟩
            rw [HSW.out] at hev
            have Wp2 : Wr w2 pw none 0 [] := ⟨K2.blk Wp1.blk (fun h => by omega), World.ownsRow_nil _ _ _ _⟩
            have hsz2 := K2.size
            have hwr := uint_of' Wp2 dv HBD.out
            have R2a := R2
            have hev2 := hev
            have K2a := Keeps.refl Nothing w2
            have HWR := Lib.hid hwr
            clear hwr hev R2
            go_wp2_with fail
            refine HWR.out.mono ?_
            clear HWR
            rintro e w3 ⟨rfl, ao4, cap4, W3, K3, m3⟩
            have R3 : Rd w3 q ao3 cap3 bs (k + dn) := ⟨K3.blk R2a.blk (fun h => by rcases h with h | h; omega; simp [blockOf] at h), K3.own R2a.own (fun g hg h => by rcases h with h | h; have := HL.out g hg; omega; simp [blockOf] at h), R2a.le⟩
            have hev3 := hev2.keeps K3 (fun i h => by rcases h with h | h; omega; simp [blockOf] at h)
            have K4 := ((K1.trans K2 (fun i h hlt => by omega)).trans K2a (fun _ h _ => h)).trans K3 (fun i h hlt => by rcases h with h | h; omega; simp [blockOf] at h)
            clear K3 K2a K2 m3 R2a Wp2 hev2
            go_wp2_with fail
            go_meet
            exact ⟨dc, dn, _, ao4, cap4, hev3, R3, W3, K4, HCAN⟩
          · clear hk hkd
            obtain ⟨dc, dv, dn, hD⟩ : ∃ dc dv dn, decBool (bs.drop k) = (dc, dv, dn) := ⟨_, _, _, rfl⟩
            have hcan := canonB (bs.drop k)
            have hbd := decBool_bd (bs.drop k)
            have hrd := rBool_any R1 (by omega)
            rw [hD] at hcan hbd hrd
            simp only at hcan hbd hrd
            clear hD
            have HCAN := Lib.hid hcan
            clear hcan
            have HBD := Lib.hid hbd
            clear hbd
            go_wp2_with fail
            refine hrd.mono ?_
            clear hrd
            rintro e w2 ⟨ev, rfl, hev, R2, K2⟩
            rw [HSW.out] at hev
            have Wp2 : Wr w2 pw none 0 [] := ⟨K2.blk Wp1.blk (fun h => by omega), World.ownsRow_nil _ _ _ _⟩
            have hsz2 := K2.size
            have hwr := bool_enc Wp2 dv
            have R2a := R2
            have hev2 := hev
            have K2a := Keeps.refl Nothing w2
            have HWR := Lib.hid hwr
            clear hwr hev R2
            go_wp2_with fail
            refine HWR.out.mono ?_
            clear HWR
            rintro e w3 ⟨rfl, ao4, cap4, W3, K3, m3⟩
            have R3 : Rd w3 q ao3 cap3 bs (k + dn) := ⟨K3.blk R2a.blk (fun h => by rcases h with h | h; omega; simp [blockOf] at h), K3.own R2a.own (fun g hg h => by rcases h with h | h; have := HL.out g hg; omega; simp [blockOf] at h), R2a.le⟩
            have hev3 := hev2.keeps K3 (fun i h => by rcases h with h | h; omega; simp [blockOf] at h)
            have K4 := ((K1.trans K2 (fun i h hlt => by omega)).trans K2a (fun _ h _ => h)).trans K3 (fun i h hlt => by rcases h with h | h; omega; simp [blockOf] at h)
            clear K3 K2a K2 m3 R2a Wp2 hev2
            go_wp2_with fail
            go_meet
            exact ⟨dc, dn, _, ao4, cap4, hev3, R3, W3, K4, HCAN⟩
          · clear hk hkd
            obtain ⟨dc, dv, dn, hD⟩ : ∃ dc dv dn, decText 2000 (bs.drop k) = (dc, dv, dn) := ⟨_, _, _, rfl⟩
            have hcan := canonS 2000 (bs.drop k)
            have hbd := decText_bd 2000 (bs.drop k)
            have hrd := rText_any R1 (by omega) 2000 (by omega)
            rw [hD] at hcan hbd hrd
            simp only at hcan hbd hrd
            clear hD
            have HCAN := Lib.hid hcan
            clear hcan
            have HBD := Lib.hid hbd
            clear hbd
            go_wp2_with fail
            refine hrd.mono ?_
            clear hrd
            rintro e w2 ⟨ev, rfl, hev, R2, K2⟩
            rw [HSW.out] at hev
            have Wp2 : Wr w2 pw none 0 [] := ⟨K2.blk Wp1.blk (fun h => by omega), World.ownsRow_nil _ _ _ _⟩
            have hsz2 := K2.size
            have hwr := text_enc Wp2 dv (by have := HBD.out; rw [List.length_drop] at this; omega)
            have R2a := R2
            have hev2 := hev
            have K2a := Keeps.refl Nothing w2
            have HWR := Lib.hid hwr
            clear hwr hev R2
            go_wp2_with fail
            refine HWR.out.mono ?_
            clear HWR
            rintro e w3 ⟨rfl, ao4, cap4, W3, K3, m3⟩
            have R3 : Rd w3 q ao3 cap3 bs (k + dn) := ⟨K3.blk R2a.blk (fun h => by rcases h with h | h; omega; simp [blockOf] at h), K3.own R2a.own (fun g hg h => by rcases h with h | h; have := HL.out g hg; omega; simp [blockOf] at h), R2a.le⟩
            have hev3 := hev2.keeps K3 (fun i h => by rcases h with h | h; omega; simp [blockOf] at h)
            have K4 := ((K1.trans K2 (fun i h hlt => by omega)).trans K2a (fun _ h _ => h)).trans K3 (fun i h hlt => by rcases h with h | h; omega; simp [blockOf] at h)
            clear K3 K2a K2 m3 R2a Wp2 hev2
            go_wp2_with fail
            go_meet
            exact ⟨dc, dn, _, ao4, cap4, hev3, R3, W3, K4, HCAN⟩
          · clear hk hkd
            obtain ⟨dc, dv, dn, hD⟩ : ∃ dc dv dn, decHash (bs.drop k) = (dc, dv, dn) := ⟨_, _, _, rfl⟩
            have hcan := canonH (bs.drop k)
            have hbd := decHash_bd (bs.drop k)
            have hrd := rHash_any R1 (by omega)
            rw [hD] at hcan hbd hrd
            simp only at hcan hbd hrd
            clear hD
            have HCAN := Lib.hid hcan
            clear hcan
            have HBD := Lib.hid hbd
            clear hbd
            go_wp2_with fail
            refine hrd.mono ?_
            clear hrd
            rintro e w2 ⟨ev, rfl, hev, R2, K2⟩
            rw [HSW.out] at hev
            have Wp2 : Wr w2 pw none 0 [] := ⟨K2.blk Wp1.blk (fun h => by omega), World.ownsRow_nil _ _ _ _⟩
            have hsz2 := K2.size
            obtain ⟨HA, hHA⟩ : ∃ HA, HA = (dv.map byteV).toArray := ⟨_, rfl⟩
            rw [show hashV dv = .agg HA from by rw [hHA]; rfl]
            have hHs : HA.size = 32 := by rw [hHA]; simp [HBD.out]
            have hag2 := aggOk_agg 32 HA hHs (by rw [hHA]; exact bytes_all _)
            obtain ⟨y1, y2⟩ := mid_new w2 hHs 59
            have HHA := Lib.hid hHA
            clear hHs hHA
            have Wp2' : Wr (w2.alloc (.cells HA 59)) pw none 0 [] := ⟨blk_alloc Wp2.blk _, World.ownsRow_nil _ _ _ _⟩
            have hwr : Calls Try.prog 51 #[.pointer (some ⟨pw, 0, none⟩), .agg HA] (w2.alloc (.cells HA 59)) (WrPost (w2.alloc (.cells HA 59)) pw none ([] ++ dv)) := by
              rw [HHA.out]
              exact hash_any (HHA.out ▸ Wp2') dv HBD.out (by simp)
            have R2a := R2.keepsN ((Keeps.refl _ _).alloc (.cells HA 59))
            have hev2 := hev.keeps ((Keeps.refl Nothing _).alloc (.cells HA 59)) (fun _ h => h.elim)
            have K2a := ((Keeps.refl Nothing w2).alloc (.cells HA 59))
            have HWR := Lib.hid hwr
            clear hwr hev R2
            go_wp2_with fail
            refine HWR.out.mono ?_
            clear HWR
            rintro e w3 ⟨rfl, ao4, cap4, W3, K3, m3⟩
            have R3 : Rd w3 q ao3 cap3 bs (k + dn) := ⟨K3.blk R2a.blk (fun h => by rcases h with h | h; omega; simp [blockOf] at h), K3.own R2a.own (fun g hg h => by rcases h with h | h; have := HL.out g hg; omega; simp [blockOf] at h), R2a.le⟩
            have hev3 := hev2.keeps K3 (fun i h => by rcases h with h | h; omega; simp [blockOf] at h)
            have K4 := ((K1.trans K2 (fun i h hlt => by omega)).trans K2a (fun _ h _ => h)).trans K3 (fun i h hlt => by rcases h with h | h; omega; simp [blockOf] at h)
            clear K3 K2a K2 m3 R2a Wp2 hev2
            go_wp2_with fail
            go_meet
            exact ⟨dc, dn, _, ao4, cap4, hev3, R3, W3, K4, HCAN⟩
        case rest =>
          obtain ⟨dc, dn, V, ao4, cap4, hev, R3, W3, K4, HCAN⟩ := hcut
          clear R1 K1 Wp1 c0
          rcases HCAN.out with ⟨hne, hdn⟩ | ⟨hz, hle, hpos, hV⟩
          · subst hdn
            obtain ⟨bb, rfl⟩ := isErr_yes hev (by omega)
            clear hev
            rw [Nat.add_zero] at R3
            go_wp2_with fail
            refine (rAt_any R3).mono ?_
            rintro e w5 ⟨rfl, rfl⟩
            go_wp2_with fail
            go_roundg (30 - (i + 1))
            case measure => omega
            case rel => exact ⟨i + 1, k, by go_num, by omega, by omega, rfl, R3, K4⟩
          · subst hz
            obtain rfl := isErr_no hev
            clear hev HCAN
            rw [List.length_drop] at hle
            have hle2 : k + dn ≤ bs.length := by omega
            obtain ⟨b', off', rfl⟩ := bytes_head hB (by omega)
            have hnbk : bs.length = nb := HNB.out
            have hk1 : k + dn ≤ nb := by omega
            have hck : ¬ cb = k := by omega
            clear hnbk
            have hBk : BytesAt w (some ⟨b', off' + k, none⟩) V := by rw [hV]; exact bytesAt_take hB k dn
            have hVl : V.length = dn := by rw [hV, List.length_take, List.length_drop]; omega
            have HV := Lib.hid hVl
            clear hV hVl
            have hVs : V.length ≤ 2000 := by have := HV.out; omega
            obtain ⟨k2, hk2⟩ : ∃ k2, k + dn = k2 := ⟨_, rfl⟩
            rw [hk2] at R3 hk1
            have hle3 : k ≤ k2 := by omega
            have hd1 : ¬ k2 < k := by omega
            have hd2 : ¬ nb < k2 := by omega
            have HV2 : Hid (V.length = k2 - k) := Lib.hid (by rw [HV.out]; omega)
            clear hk2 HV hle2
            clear hle hpos
            go_wp2_with fail
            go_region_with (first
              | (go_at_call 41; (first | refine (rAt_any R5).mono ?_ | refine (rAt_any (R3.drewN 1)).mono ?_); rintro e w' ⟨rfl, rfl⟩)
              | (go_at_call 26; refine (bytes_any (w := wc.drew) ⟨W3.blk, W3.own⟩ (by omega)).mono ?_; rintro e w5 ⟨ao5, cap5, rfl, o5, K5, _⟩; have R5 := (R3.drewN 1).keepsN K5; have hconv1 := run_str w5 cap5 V (l := V.length) rfl (own8_at o5); have hconv2 := run_str w5 (cb - k) V (l := k2 - k) HV2.out (hBk.keeps ((K4.drewN 1).trans K5 (fun _ h _ => h)) (fun _ _ h => h)); have hK5 := (K4.drewN 1).trans K5 (fun _ h _ => h)))
            all_goals
              go_wp2_with fail
              go_roundg (30 - (i + 1))
              case measure => omega
              case rel => exact ⟨i + 1, k2, by go_num, by omega, by omega, rfl, R5, hK5⟩
      · have hcase : ¬ i < n ∨ (i < n ∧ ¬ i < 30) := by omega
        rcases hcase with hx | ⟨hx, hy⟩
        all_goals
          go_wp2_with fail
          refine (told_true wr).mono ?_
          rintro e w1 ⟨rfl, k1⟩
          go_wp2_with fail
          go_ret
          exact ⟨rfl, K1.trans k1 (fun _ h _ => h)⟩
set_option maxRecDepth 100000 in
theorem lifted (os : Os) (started : os.Started) (H : Type) (enc : TypeId × Value → H) :
    ReturnsInHanded {} Try.checked os 11 .any (Rows.wireOnceSpec.pre6 enc Try.prog Try.f11 Rows.wireOnceRow.domain false) (Rows.wireOnceSpec.post enc Try.prog Try.f11 false true false false) := by
  refine returnsInHanded_of_change (C := Try.checked) own started (by kernel_rfl) Try.func11
    (ChangeSpec.witness6 (enc := enc) (C := Try.checked) false ⟨#[], #[.slice none 0 0, .slice none 0 0], []⟩ 8 (by kernel_rfl) (by kernel_rfl) (by kernel_rfl) (by kernel_rfl)) ?_
  intro W base args ds gs before hval0 hW hcnd _
  have hval : ∀ (j : Nat) t v, Try.f11.params[j]? = some t → args[j]? = some v → Value.okWide Try.prog W .any base t v := hval0
  have hW' := hW
  obtain ⟨p, q, hA0, hV, rfl, hfz, hnd⟩ := hW
  have hA : DataW.TrodAll enc Try.prog W 0 (fun _ => true) true Try.f11.params.toList args.toList ds p := hA0
  rw [Try.params11] at hA hval
  obtain ⟨v0, vs0, d0, ds0, p0, q0, hargs, rfl, rfl, h0, r0⟩ := trodAll_cons hA
  obtain ⟨v1, vs1, d1, ds1, p1, q1, rfl, rfl, rfl, h1, r1⟩ := trodAll_cons r0
  obtain ⟨rfl, rfl, rfl⟩ := trodAll_nil r1
  obtain rfl : args = #[v0, v1] := by cases args; simp_all
  obtain ⟨rfl, rfl⟩ := trodVars_none hV
  have k0 := h0
  have lt0 : ∀ x ∈ p0, x.block < W.heap.size := by obtain ⟨m, hm⟩ := k0; exact DataW.trod_lt m _ _ _ hm
  have k1 := h1
  have lt1 : ∀ x ∈ p1, x.block < W.heap.size := by obtain ⟨m, hm⟩ := k1; exact DataW.trod_lt m _ _ _ hm
  obtain ⟨ab, lenb, capb, rfl⟩ := okWide_slice Try.underlying29 (hval 0 29 v0 rfl rfl)
  obtain ⟨ao, len, cap, rfl⟩ := okWide_slice Try.underlying57 (hval 1 57 v1 rfl rfl)
  obtain ⟨fuel0, hf0⟩ := h0
  obtain ⟨bs, hbl, hB, hlb, hcb⟩ := open_bytes rfl hf0
  obtain ⟨fuel, hf⟩ := h1
  obtain ⟨ops, hn, hO, hlc, hcm, _⟩ := open_ops rfl hf
  clear hA0 hval0
  refine (walk W ab lenb capb bs hbl hB hlb hcb ao len cap ops hn hO (Nat.le_trans hlc hcm)).mono fun e W' ⟨he, hk⟩ => ?_
  subst he
  have bel : Below W.heap.size W W' := hk.below (Nat.le_refl _) (fun _ h => h.elim)
  exact ⟨_, rfl, _, _, _, [], _, [], hW', trodAll_mk1 (shut_bool Try.underlying4 _), (trodAll_cons_mk (Below.trod laidOut (by kernel_rfl) (of_decide_eq_true (by kernel_rfl)) k0 bel lt0) (trodAll_cons_mk (Below.trod laidOut (by kernel_rfl) (of_decide_eq_true (by kernel_rfl)) k1 bel lt1) trodAll_mk0)), rfl, bel.frame _, fun h => by cases h⟩

/-- For every input the law returns true, and its arguments read as before. -/
theorem proved : Rows.WireOnceSaid :=
  OpenClaim.holds_of_wide 11 Try.f11 rfl rfl rfl rfl rfl rfl rfl ⟨rfl, rfl, rfl, rfl, rfl⟩ rfl rfl rfl rfl rfl (by kernel_rfl) Try.func11 (by kernel_rfl)
    (of_decide_eq_true (by kernel_rfl)) (by unfold Func.isWrapper; first | (rw [if_pos (by decide +kernel)]; kernel_rfl) | (rw [if_neg (by decide +kernel)]; exact ⟨rfl, rfl⟩))
    (fun os started H enc _ => lifted os started H enc)
#print axioms proved

end Go.Proofs.Ytkhbepmaeegekaa.wireOnce
