/- usufructlaw2.WireBack: for any list of things the law returns true; no condition. -/
import Derived.Test.YtkhbepmaeegekaaRows
import Derived.Test.YtkhbepmaeegekaaBackP2
import Derived.ProofKit
import Derived.OpenShut
import Derived.ShutString
import Derived.ChangeOld
import Derived.Below
namespace Go.Proofs.Ytkhbepmaeegekaa.wireBack
open Go.ChangeShapes Go.WideShapes Go.ChangeAt Go.RowKit
open Go.ChangeMaps (open_string shut_string)

theorem own : ownKnob Try.prog.godebug = none := by kernel_rfl
theorem laidOut : laidOutB Try.prog = true := by kernel_rfl


attribute [local go_sem ↓] exec_mid_op exec_store_op exec_mid_hash exec_store_hash
attribute [local go_sem] rowOk_new World.setRow_alloc_new

theorem snoc_all {ops : List OpD} {i : Nat} {o : OpD} (h : ∀ j x, j < i → ops[j]? = some x → x.s.size ≤ 500) (ho : ops[i]? = some o) (hs : o.s.size ≤ 500) : ∀ j x, j < i + 1 → ops[j]? = some x → x.s.size ≤ 500 := by
  intro j x hj hx
  by_cases hji : j = i
  · subst hji
    rw [ho] at hx
    obtain rfl := Option.some.inj hx
    exact hs
  · exact h j x (by omega) hx

theorem loop_end {i n : Nat} (hi : i ≤ n) (h30 : i ≤ 30) (h : ¬ (i < n ∧ i < 30)) {α : Type} (l : List α) (hl : l.length = n) : l.take i = l.take 30 := by
  by_cases hin : i < n
  · rw [show i = 30 by omega]
  · rw [List.take_of_length_le (by omega), List.take_of_length_le (by omega)]


set_option maxRecDepth 100000 in
set_option maxHeartbeats 1000000 in
theorem walk (w : World) (ao : Option Addr) (n c : Nat) (ops : List OpD) (hn : ops.length = n) (hO : OpsAt w ao ops) (hmax : n ≤ maxLen) :
    Calls Try.prog 10 #[.slice ao n c] w (SaysTrue w) := by
  have HN := Lib.hid hn
  have hn9 : n < 9223372036854775808 := by unfold maxLen at hmax; omega
  clear hn hmax
  go_enter Try.func10, Try.ntmps10
  go_wp2_with fail
  refine (newWriter_any w).mono ?_
  rintro e w0 ⟨rfl, hw0⟩
  have W0 : WrNew w w0 w.heap.size none 0 [] := hw0 ▸ wrNew_new w
  clear hw0
  generalize hp : w.heap.size = p at *
  have HP := Lib.hid hp
  clear hp
  go_wp2_with fail
  go_loopw [4] (fun s wr => ∃ (i : Nat) (ao1 : Option Addr) (cap1 : Nat) (E : List UInt8), s = .int .i64 i ∧ i ≤ n ∧ i ≤ 30 ∧ Hid (encAll (ops.take i) = E) ∧ E.length ≤ 510 * i ∧ Hid (∀ j x, j < i → ops[j]? = some x → x.s.size ≤ 500) ∧ WrNew w wr p ao1 cap1 E) (fun s _ => (30 - intOf s).toNat)
  case atStart => exact ⟨0, none, 0, [], rfl, Nat.zero_le _, Nat.zero_le _, Lib.hid rfl, Nat.zero_le _, Lib.hid (fun j x h => absurd h (Nat.not_lt_zero _)), W0⟩
  case round =>
    obtain ⟨i, ao1, cap1, E, rfl, hi, h30, HE, hE, HS, W1⟩ := hrel
    by_cases hb : i < n ∧ i < 30
    · obtain ⟨hlt, hlt30⟩ := hb
      obtain ⟨o, ho⟩ : ∃ o, ops[i]? = some o := ⟨_, List.getElem?_eq_getElem (by have := HN.out; omega)⟩
      obtain ⟨b, off, rfl, hf, hr⟩ := ops_head hO ho
      have HO := Lib.hid ho
      clear ho
      have hbx := opBox hf (rangeAt_keeps hr W1.keep (fun h => h))
      generalize hC : (opCells o).toArray = C at *
      have HC := Lib.hid hC
      clear hC
      obtain ⟨hz, b1, b2, b3, b4, b0, c1, c2, c3, c4, c5⟩ := hbx
      clear hz
      by_cases hS : 500 < o.s.size
      · go_wp2_with fail
        refine (told_true wr).mono ?_
        rintro e w1 ⟨rfl, k1⟩
        go_wp2_with fail
        go_ret
        exact ⟨rfl, W1.keep.trans k1 (fun _ h _ => h)⟩
      · have hw := write_any W1.wr o hf (by omega) (by omega)
        rw [HC.out] at hw
        go_wp2_with fail
        refine hw.mono ?_
        clear hw
        rintro e w1 ⟨rfl, ao2, cap2, h1, k1, m1⟩
        have W2 := W1.step h1 k1 m1
        have hel := encOp_len o hf (by omega)
        go_wp2_with fail
        go_roundw
        case rel => exact ⟨i + 1, ao2, cap2, E ++ encOp o, by go_num, by omega, by omega, Lib.hid (by rw [encAll_snoc HO.out, HE.out]), by rw [List.length_append]; omega, Lib.hid (snoc_all HS.out HO.out (by omega)), W2⟩
        case measure => simp [intOf]; omega
    · have hT := loop_end hi h30 hb ops HN.out
      have HE2 : Hid (encAll (ops.take 30) = E) := Lib.hid (by rw [← hT]; exact HE.out)
      have hE2 : E.length ≤ 15300 := by omega
      have HSZ : Hid (∀ j x, j < n → j < 30 → ops[j]? = some x → x.s.size ≤ 500) := Lib.hid (fun j x h1 h2 hx => HS.out j x (by omega) hx)
      have hcase : ¬ i < n ∨ (i < n ∧ ¬ i < 30) := by omega
      clear hT HE hb hE HS
      rcases hcase with hx | ⟨hx, hy⟩
      all_goals
        go_wp2_with fail
        refine (bytes_any W1.wr (by omega)).mono ?_
        rintro e w2 ⟨ao2, cap2, rfl, o2, K2, _⟩
        have W2 := W1.keeps K2 (fun h => h) (fun _ _ h => h) (fun _ h => h.elim)
        clear W1 K2
        go_wp2_with fail
        refine (newReader_any cap2 (own8_at o2) (by omega)).mono ?_
        rintro e w3 ⟨q, ao3, cap3, rfl, R3, K3, hq, hqa⟩
        have W3 := W2.keeps K3 (fun h => h) (fun _ _ h => h) (fun _ h => h.elim)
        have hl2 := W2.wr.lt
        have hpq : p < q := by omega
        have haq : ∀ g, blockOf ao1 = some g → g < q := fun g hg => by have := hl2.2 g hg; omega
        have hpw := W3.pn
        clear o2 K3 W2 hl2 hq hqa
        have W3n := W3.keep
        have W3w := W3.wr
        clear W3
        have HAQ := Lib.hid haq
        clear haq
        go_wp2_with fail
        first | (obtain ⟨W9, hW9⟩ : ∃ W9, W9 = wr := ⟨_, rfl⟩; clear hW9) | skip
        go_loopw [6] (fun s wr => ∃ (i k : Nat), s = .int .i64 i ∧ i ≤ n ∧ i ≤ 30 ∧ Hid (k = (encAll (ops.take i)).length) ∧ Rd wr q ao3 cap3 E k ∧ Keeps Nothing w wr ∧ Wr wr p ao1 cap1 E) (fun s _ => (30 - intOf s).toNat)
        case atStart => exact ⟨0, 0, rfl, Nat.zero_le _, Nat.zero_le _, Lib.hid rfl, R3, W3n, W3w⟩
        case round =>
          clear R3 W3n W3w
          obtain ⟨i, k, rfl, hi, h30, HK, R1, K1, Wp⟩ := hrel
          by_cases hb : i < n ∧ i < 30
          · obtain ⟨hlt, hlt30⟩ := hb
            obtain ⟨o, ho⟩ : ∃ o, ops[i]? = some o := ⟨_, List.getElem?_eq_getElem (by have := HN.out; omega)⟩
            obtain ⟨b, off, rfl, hf, hr⟩ := ops_head hO ho
            obtain ⟨rest, hdr⟩ : ∃ rest, E.drop k = encOp o ++ rest := by rw [← HE2.out, HK.out]; exact encAll_drop ho hlt30
            have HDR := Lib.hid hdr
            clear hdr
            have SZ := Lib.hid (HSZ.out i o hlt hlt30 ho)
            have HO := Lib.hid ho
            clear ho
            have hbx := opBox hf (rangeAt_keeps hr K1 (fun h => h))
            have bx : OpBox (wr.alloc (.cells (opCells o).toArray 61)) wr.heap.size 0 (opCells o).toArray o := opBox_blk hf (blk_new wr _ _)
            have hcs : (opCells o).toArray.size = 38 := by simpa using opCells_length o hf.h32
            have hag := aggOk_agg 38 _ hcs (opCells_one o)
            have g0 : (opCells o).toArray[0]? = some (.int .i64 o.kind) := rfl
            clear hcs
            generalize hC : (opCells o).toArray = C at *
            clear hC
            have BX := Lib.hid bx
            clear bx
            have hk := kindN_bd o
            have hkd := kindN_walk o
            have b1 := hbx.ok
            have b2 := hbx.of
            clear hbx
            have R3 := R1.keepsN ((Keeps.refl _ _).alloc (.cells C 61))
            have K3 := K1.alloc (.cells C 61)
            have W3 : Wr (wr.alloc (.cells C 61)) p ao1 cap1 E := ⟨blk_alloc Wp.blk _, World.ownsRow.alloc Wp.own _⟩
            have hqlt := lt_of_block R1.blk
            have hqne : ¬ wr.heap.size = q := by omega
            clear hr R1 K1 Wp
            have hcase : kindN o = 0 ∨ kindN o = 1 ∨ kindN o = 2 ∨ kindN o = 3 ∨ kindN o = 4 ∨ kindN o = 5 := by omega
            rcases hcase with hc | hc | hc | hc | hc | hc
            · rw [hc] at hkd
              have hen : encOp o = encU o.v := by unfold encOp; rw [hc]; rfl
              have hS : Calls Try.prog 44 #[.pointer (some ⟨q, 0, none⟩)] (wr.alloc (.cells C 61)) (RdPost (wr.alloc (.cells C 61)) q ao3 cap3 E (.int .u64 o.v) 0 (posOf 0 k) (k + (encOp o).length)) := by
                have h := rUint R3 (by omega)
                have hdd := HDR.out
                rw [hen] at hdd
                have hd := decU_enc o.v hf.v1 rest
                rw [← hdd] at hd
                rw [hd] at h
                rw [hen]
                exact h
              clear hen hc hk
              generalize hk2 : k + (encOp o).length = k2 at *
              have HK2 := Lib.hid hk2
              clear hk2
              go_wp2_with fail
              refine hS.mono ?_
              clear hS
              rintro e w5 ⟨ev, rfl, hev, R5, K5⟩
              obtain rfl := isErr_no hev
              clear hev
              have hbx := BX.out.keeps K5 hqne hf
              have kk := K3.trans K5 (fun i h hlt => by subst h; omega)
              have w5h : Wr w5 p ao1 cap1 E := ⟨K5.blk W3.blk (fun h => by omega), K5.own W3.own (fun g hg h => by rw [ownBlock_eq] at hg; have := HAQ.out g hg; have := HP.out; omega)⟩
              have hb5 := K5.size
              clear K3 K5
              clear W3
              have cc := hbx.lits.2.2.2.1
              clear hbx
              go_wp2_with fail
              go_roundw
              case rel => exact ⟨i + 1, k2, by go_num, by omega, by omega, Lib.hid (by rw [encAll_snoc HO.out, List.length_append, ← HK.out, ← HK2.out]), R5, kk, w5h⟩
              case measure => simp [intOf]; omega
            · rw [hc] at hkd
              have hen : encOp o = encI o.n := by unfold encOp; rw [hc]; rfl
              have hS : Calls Try.prog 45 #[.pointer (some ⟨q, 0, none⟩)] (wr.alloc (.cells C 61)) (RdPost (wr.alloc (.cells C 61)) q ao3 cap3 E (.int .i64 o.n) 0 (posOf 0 k) (k + (encOp o).length)) := by
                have h := rInt_any R3 (by omega)
                have hdd := HDR.out
                rw [hen] at hdd
                have hd := decI_enc o.n hf.n0 hf.n1 rest
                rw [← hdd] at hd
                rw [hd] at h
                rw [hen]
                exact h
              clear hen hc hk
              generalize hk2 : k + (encOp o).length = k2 at *
              have HK2 := Lib.hid hk2
              clear hk2
              go_wp2_with fail
              refine hS.mono ?_
              clear hS
              rintro e w5 ⟨ev, rfl, hev, R5, K5⟩
              obtain rfl := isErr_no hev
              clear hev
              have hbx := BX.out.keeps K5 hqne hf
              have kk := K3.trans K5 (fun i h hlt => by subst h; omega)
              have w5h : Wr w5 p ao1 cap1 E := ⟨K5.blk W3.blk (fun h => by omega), K5.own W3.own (fun g hg h => by rw [ownBlock_eq] at hg; have := HAQ.out g hg; have := HP.out; omega)⟩
              have hb5 := K5.size
              clear K3 K5
              clear W3
              have cc := hbx.lits.2.1
              clear hbx
              go_wp2_with fail
              go_roundw
              case rel => exact ⟨i + 1, k2, by go_num, by omega, by omega, Lib.hid (by rw [encAll_snoc HO.out, List.length_append, ← HK.out, ← HK2.out]), R5, kk, w5h⟩
              case measure => simp [intOf]; omega
            · rw [hc] at hkd
              have hen : encOp o = encU o.v := by unfold encOp; rw [hc]; rfl
              have hS : Calls Try.prog 44 #[.pointer (some ⟨q, 0, none⟩)] (wr.alloc (.cells C 61)) (RdPost (wr.alloc (.cells C 61)) q ao3 cap3 E (.int .u64 o.v) 0 (posOf 0 k) (k + (encOp o).length)) := by
                have h := rUint R3 (by omega)
                have hdd := HDR.out
                rw [hen] at hdd
                have hd := decU_enc o.v hf.v1 rest
                rw [← hdd] at hd
                rw [hd] at h
                rw [hen]
                exact h
              clear hen hc hk
              generalize hk2 : k + (encOp o).length = k2 at *
              have HK2 := Lib.hid hk2
              clear hk2
              go_wp2_with fail
              refine hS.mono ?_
              clear hS
              rintro e w5 ⟨ev, rfl, hev, R5, K5⟩
              obtain rfl := isErr_no hev
              clear hev
              have hbx := BX.out.keeps K5 hqne hf
              have kk := K3.trans K5 (fun i h hlt => by subst h; omega)
              have w5h : Wr w5 p ao1 cap1 E := ⟨K5.blk W3.blk (fun h => by omega), K5.own W3.own (fun g hg h => by rw [ownBlock_eq] at hg; have := HAQ.out g hg; have := HP.out; omega)⟩
              have hb5 := K5.size
              clear K3 K5
              clear W3
              have cc := hbx.lits.2.2.2.1
              clear hbx
              go_wp2_with fail
              go_roundw
              case rel => exact ⟨i + 1, k2, by go_num, by omega, by omega, Lib.hid (by rw [encAll_snoc HO.out, List.length_append, ← HK.out, ← HK2.out]), R5, kk, w5h⟩
              case measure => simp [intOf]; omega
            · rw [hc] at hkd
              have hen : encOp o = encB o.b := by unfold encOp; rw [hc]; rfl
              have hS : Calls Try.prog 46 #[.pointer (some ⟨q, 0, none⟩)] (wr.alloc (.cells C 61)) (RdPost (wr.alloc (.cells C 61)) q ao3 cap3 E (.bool o.b) 0 (posOf 0 k) (k + (encOp o).length)) := by
                have h := rBool_any R3 (by omega)
                have hdd := HDR.out
                rw [hen] at hdd
                have hd := decB_enc o.b rest
                rw [← hdd] at hd
                rw [hd] at h
                rw [hen]
                exact h
              clear hen hc hk
              generalize hk2 : k + (encOp o).length = k2 at *
              have HK2 := Lib.hid hk2
              clear hk2
              go_wp2_with fail
              refine hS.mono ?_
              clear hS
              rintro e w5 ⟨ev, rfl, hev, R5, K5⟩
              obtain rfl := isErr_no hev
              clear hev
              have hbx := BX.out.keeps K5 hqne hf
              have kk := K3.trans K5 (fun i h hlt => by subst h; omega)
              have w5h : Wr w5 p ao1 cap1 E := ⟨K5.blk W3.blk (fun h => by omega), K5.own W3.own (fun g hg h => by rw [ownBlock_eq] at hg; have := HAQ.out g hg; have := HP.out; omega)⟩
              have hb5 := K5.size
              clear K3 K5
              clear W3
              have cc := hbx.lits.2.2.2.2.1
              clear hbx
              go_wp2_with fail
              go_roundw
              case rel => exact ⟨i + 1, k2, by go_num, by omega, by omega, Lib.hid (by rw [encAll_snoc HO.out, List.length_append, ← HK.out, ← HK2.out]), R5, kk, w5h⟩
              case measure => simp [intOf]; omega
            · rw [hc] at hkd
              have hen : encOp o = encS (bytesOf o.s) := by unfold encOp; rw [hc]; rfl
              have hS : Calls Try.prog 47 #[.pointer (some ⟨q, 0, none⟩), .int .i64 500] (wr.alloc (.cells C 61)) (RdPost (wr.alloc (.cells C 61)) q ao3 cap3 E (.string o.s) 0 (posOf 0 k) (k + (encOp o).length)) := by
                have h := rText_any R3 (by omega) 500 (by omega)
                have hdd := HDR.out
                rw [hen] at hdd
                have hd := decText_enc (bytesOf o.s) 500 (by rw [bytesOf_length]; have := SZ.out; omega) (by rw [bytesOf_length]; have := SZ.out; omega) rest
                rw [← hdd] at hd
                rw [hd] at h
                rw [hen]
                rw [show (⟨((0 : Nat), bytesOf o.s, (encS (bytesOf o.s)).length).2.1.toArray⟩ : ByteArray) = o.s from text_eta o.s] at h; exact h
              clear hen hc hk
              generalize hk2 : k + (encOp o).length = k2 at *
              have HK2 := Lib.hid hk2
              clear hk2
              go_wp2_with fail
              refine hS.mono ?_
              clear hS
              rintro e w5 ⟨ev, rfl, hev, R5, K5⟩
              obtain rfl := isErr_no hev
              clear hev
              have hbx := BX.out.keeps K5 hqne hf
              have kk := K3.trans K5 (fun i h hlt => by subst h; omega)
              have w5h : Wr w5 p ao1 cap1 E := ⟨K5.blk W3.blk (fun h => by omega), K5.own W3.own (fun g hg h => by rw [ownBlock_eq] at hg; have := HAQ.out g hg; have := HP.out; omega)⟩
              have hb5 := K5.size
              clear K3 K5
              clear W3
              have cc := hbx.lits.2.2.2.2.2.1
              clear hbx
              go_wp2_with fail
              go_roundw
              case rel => exact ⟨i + 1, k2, by go_num, by omega, by omega, Lib.hid (by rw [encAll_snoc HO.out, List.length_append, ← HK.out, ← HK2.out]), R5, kk, w5h⟩
              case measure => simp [intOf]; omega
            · rw [hc] at hkd
              have hen : encOp o = o.h := by unfold encOp; rw [hc]; rfl
              have hS : Calls Try.prog 48 #[.pointer (some ⟨q, 0, none⟩)] (wr.alloc (.cells C 61)) (RdPost (wr.alloc (.cells C 61)) q ao3 cap3 E (.agg (o.h.map byteV).toArray) 0 (posOf 0 k) (k + (encOp o).length)) := by
                have h := rHash_any R3 (by omega)
                have hdd := HDR.out
                rw [hen] at hdd
                have hd := decHash_enc o.h hf.h32 rest
                rw [← hdd] at hd
                rw [hd] at h
                rw [hen]
                rw [hf.h32]; exact h
              clear hen hc hk
              generalize hk2 : k + (encOp o).length = k2 at *
              have HK2 := Lib.hid hk2
              clear hk2
              go_wp2_with fail
              refine hS.mono ?_
              clear hS
              rintro e w5 ⟨ev, rfl, hev, R5, K5⟩
              obtain rfl := isErr_no hev
              clear hev
              have hbx := BX.out.keeps K5 hqne hf
              have kk := K3.trans K5 (fun i h hlt => by subst h; omega)
              have w5h : Wr w5 p ao1 cap1 E := ⟨K5.blk W3.blk (fun h => by omega), K5.own W3.own (fun g hg h => by rw [ownBlock_eq] at hg; have := HAQ.out g hg; have := HP.out; omega)⟩
              have hb5 := K5.size
              clear K3 K5
              clear W3
              have hhl := hf.h32
              have hx6 := hbx.lits.2.2.2.2.2.2.1
              have ho6 := hbx.lits.2.2.2.2.2.2.2
              have e1 := eql_hash_run o.h o.h hhl hhl
              generalize hH : (o.h.map byteV).toArray = HA at *
              have hHs : HA.size = 32 := by rw [← hH]; simp [hhl]
              have hag2 := aggOk_agg 32 HA hHs (by rw [← hH]; exact bytes_all _)
              have Y1 := mid_new w5 hHs 59
              have Y2 := mid_old hx6 ho6 (by rw [hHs]) (.cells HA 59)
              have HHs := Lib.hid hHs
              clear hH hhl hHs hx6 ho6
              clear hbx
              obtain ⟨y1, y2⟩ := Y1
              obtain ⟨y3, y4⟩ := Y2
              go_wp2_with fail
              go_roundw
              case rel => exact ⟨i + 1, k2, by go_num, by omega, by omega, Lib.hid (by rw [encAll_snoc HO.out, List.length_append, ← HK.out, ← HK2.out]), R5.keepsN ((Keeps.refl _ _).alloc _), kk.alloc _, ⟨blk_alloc w5h.blk _, World.ownsRow.alloc w5h.own _⟩⟩
              case measure => simp [intOf]; omega
          · have hT := loop_end hi h30 hb ops HN.out
            have hkE : k = E.length := by rw [HK.out, hT, HE2.out]
            have hcase : ¬ i < n ∨ (i < n ∧ ¬ i < 30) := by omega
            subst hkE
            clear hT HK hb
            rcases hcase with hx | ⟨hx, hy⟩
            all_goals (go_wp2_with fail)
            all_goals
              refine (told_true wr).mono ?_
              rintro e w4 ⟨rfl, k4⟩
              have R4 := R1.keepsN k4
              have Wp4 : Wr w4 p ao1 cap1 E := ⟨k4.blk Wp.blk (fun h => h), k4.own Wp.own (fun _ _ h => h)⟩
              have hEnd := rEnd_any R4
              rw [show endOf E E.length = 0 from if_neg (Nat.lt_irrefl _)] at hEnd
              go_wp2_with fail
              refine hEnd.mono ?_
              clear hEnd
              rintro e w5 ⟨ev, rfl, hev, k5⟩
              obtain rfl := isErr_no hev
              have R5 := R4.keepsN k5
              have Wp5 : Wr w5 p ao1 cap1 E := ⟨k5.blk Wp4.blk (fun h => h), k5.own Wp4.own (fun _ _ h => h)⟩
              go_wp2_with fail
              refine (rAt_any R5).mono ?_
              rintro e w6 ⟨rfl, rfl⟩
              go_wp2_with fail
              refine (bytes_any Wp5 (by omega)).mono ?_
              rintro e w7 ⟨ao7, cap7, rfl, o7, K7, _⟩
              go_wp2_with fail
              go_ret
              exact ⟨rfl, ((K1.trans k4 (fun _ h _ => h)).trans k5 (fun _ h _ => h)).trans K7 (fun _ h _ => h)⟩
set_option maxRecDepth 100000 in
theorem lifted (os : Os) (started : os.Started) (H : Type) (enc : TypeId × Value → H) :
    ReturnsInHanded {} Try.checked os 10 .any (Rows.wireBackSpec.pre6 enc Try.prog Try.f10 Rows.wireBackRow.domain false) (Rows.wireBackSpec.post enc Try.prog Try.f10 false true false false) := by
  refine returnsInHanded_of_change (C := Try.checked) own started (by kernel_rfl) Try.func10
    (ChangeSpec.witness6 (enc := enc) (C := Try.checked) false ⟨#[], #[.slice none 0 0], []⟩ 8 (by kernel_rfl) (by kernel_rfl) (by kernel_rfl) (by kernel_rfl)) ?_
  intro W base args ds gs before hval0 hW hcnd _
  have hval : ∀ (j : Nat) t v, Try.f10.params[j]? = some t → args[j]? = some v → Value.okWide Try.prog W .any base t v := hval0
  have hW' := hW
  obtain ⟨p, q, hA0, hV, rfl, hfz, hnd⟩ := hW
  have hA : DataW.TrodAll enc Try.prog W 0 (fun _ => true) true Try.f10.params.toList args.toList ds p := hA0
  rw [Try.params10] at hA hval
  obtain ⟨v0, vs0, d0, ds0, p0, q0, hargs, rfl, rfl, h0, r0⟩ := trodAll_cons hA
  obtain ⟨rfl, rfl, rfl⟩ := trodAll_nil r0
  obtain rfl : args = #[v0] := by cases args; simp_all
  obtain ⟨rfl, rfl⟩ := trodVars_none hV
  have k0 := h0
  have lt0 : ∀ x ∈ p0, x.block < W.heap.size := by obtain ⟨m, hm⟩ := k0; exact DataW.trod_lt m _ _ _ hm
  obtain ⟨ao, len, cap, rfl⟩ := okWide_slice Try.underlying57 (hval 0 57 v0 rfl rfl)
  obtain ⟨fuel, hf⟩ := h0
  obtain ⟨ops, hn, hO, hlc, hcm, _⟩ := open_ops rfl hf
  clear hA0 hval0
  refine (walk W ao len cap ops hn hO (Nat.le_trans hlc hcm)).mono fun e W' ⟨he, hk⟩ => ?_
  subst he
  have bel : Below W.heap.size W W' := hk.below (Nat.le_refl _) (fun _ h => h.elim)
  exact ⟨_, rfl, _, _, _, [], _, [], hW', trodAll_mk1 (shut_bool Try.underlying4 _), (trodAll_cons_mk (Below.trod laidOut (by kernel_rfl) (of_decide_eq_true (by kernel_rfl)) k0 bel lt0) trodAll_mk0), rfl, bel.frame _, fun h => by cases h⟩

/-- For every input the law returns true, and its arguments read as before. -/
theorem proved : Rows.WireBackSaid :=
  OpenClaim.holds_of_wide 10 Try.f10 rfl rfl rfl rfl rfl rfl rfl ⟨rfl, rfl, rfl, rfl, rfl⟩ rfl rfl rfl rfl rfl (by kernel_rfl) Try.func10 (by kernel_rfl)
    (of_decide_eq_true (by kernel_rfl)) (by unfold Func.isWrapper; first | (rw [if_pos (by decide +kernel)]; kernel_rfl) | (rw [if_neg (by decide +kernel)]; exact ⟨rfl, rfl⟩))
    (fun os started H enc _ => lifted os started H enc)
#print axioms proved

end Go.Proofs.Ytkhbepmaeegekaa.wireBack
