/- net.Put. -/
import Derived.Test.YteifmkfkekglpaaNet1
import Derived.Test.YteifmkfkekglpaaMixJ
namespace Go.Proofs.Yteifmkfkekglpaa
open Go.RowKit

/-- A writer within a call: what lay in w0 lies there still, but for its own block. -/
def PutS (w0 w : World) (p : Nat) (bs : List UInt8) : Prop := ∃ ao cap, Wr w p ao cap bs ∧ (∀ g, blockOf ao = some g → w0.heap.size ≤ g) ∧ Keeps (fun k => k = p) w0 w
theorem puts_of {w0 w w' : World} {p : Nat} {ao : Option Addr} {bs : List UInt8} {e : Ending} (hf : ∀ g, blockOf ao = some g → w0.heap.size ≤ g) (K : Keeps (fun k => k = p) w0 w) (h : WrPost w p ao bs e w') : e = .returned (.tuple #[]) ∧ PutS w0 w' p bs := by
  obtain ⟨he, ao', cap', hW, hk, hm⟩ := h
  refine ⟨he, ao', cap', hW, fun g hg => ?_, K.trans hk (fun i hi hlt => ?_)⟩
  · have := K.size
    rcases hm with hm | ⟨g', hm, h2⟩
    · exact hf g (hm ▸ hg)
    · rw [hm] at hg
      obtain rfl := Option.some.inj hg
      omega
  · rcases hi with hi | hi
    · exact hi
    · have := hf i hi; omega
theorem PutS.keeps {w0 w : World} {p : Nat} {bs : List UInt8} (h : PutS w0 w p bs) : Keeps (fun k => k = p) w0 w := h.choose_spec.choose_spec.2.2
theorem PutS.more {w0 w w' : World} {p : Nat} {bs : List UInt8} (h : PutS w0 w p bs) (k : Keeps Nothing w w') : PutS w0 w' p bs := by
  obtain ⟨ao, cap, hW, hf, K⟩ := h
  exact ⟨ao, cap, ⟨k.blk hW.blk (fun h => h), k.own hW.own (fun _ _ h => h)⟩, hf, K.trans k (fun _ h _ => h.elim)⟩
theorem puts_int {w0 w : World} {p : Nat} {bs : List UInt8} (h : PutS w0 w p bs) (x : Int) (h0 : -9223372036854775808 ≤ x) (hx : x < 9223372036854775808) (hl : bs.length ≤ 1000000) :
    Calls Try.prog 28 #[.pointer (some ⟨p, 0, none⟩), .int .i64 x] w fun e w' => e = .returned (.tuple #[]) ∧ PutS w0 w' p (bs ++ encI x) := by
  obtain ⟨ao, cap, hW, hf, K⟩ := h
  exact (int_any hW x h0 hx hl).mono fun _ _ hp => puts_of hf K hp
theorem puts_text {w0 w : World} {p : Nat} {bs : List UInt8} (h : PutS w0 w p bs) (s : List UInt8) (hs : s.length ≤ 1000000) (hl : bs.length ≤ 900000) :
    Calls Try.prog 29 #[.pointer (some ⟨p, 0, none⟩), .string ⟨s.toArray⟩] w fun e w' => e = .returned (.tuple #[]) ∧ PutS w0 w' p (bs ++ encS s) := by
  obtain ⟨ao, cap, hW, hf, K⟩ := h
  have := text_any hW ⟨s.toArray⟩ (by show s.toArray.size ≤ _; simpa using hs) hl
  exact this.mono fun _ _ hp => puts_of hf K hp
theorem puts_hash {w0 w : World} {p : Nat} {bs : List UInt8} (h : PutS w0 w p bs) (s : List UInt8) (hs : s.length = 32) (hl : bs.length ≤ 1000000) :
    Calls Try.prog 30 #[.pointer (some ⟨p, 0, none⟩), .agg (s.map byteV).toArray] w fun e w' => e = .returned (.tuple #[]) ∧ PutS w0 w' p (bs ++ s) := by
  obtain ⟨ao, cap, hW, hf, K⟩ := h
  exact (hash_any hW s hs hl).mono fun _ _ hp => puts_of hf K hp
theorem puts_uint {w0 w : World} {p : Nat} {bs : List UInt8} (h : PutS w0 w p bs) (x : Nat) (hx : x < 18446744073709551616) (hl : bs.length ≤ 1000000) :
    Calls Try.prog 31 #[.pointer (some ⟨p, 0, none⟩), .int .u64 x] w fun e w' => e = .returned (.tuple #[]) ∧ PutS w0 w' p (bs ++ encU x) := by
  obtain ⟨ao, cap, hW, hf, K⟩ := h
  exact (uint_any hW x hx hl).mono fun _ _ hp => puts_of hf K hp
theorem encI_len (x : Int) (h0 : -9223372036854775808 ≤ x) (hx : x < 9223372036854775808) : (encI x).length ≤ 10 := encU_len10 (zig_lt x h0 hx)

theorem encS_len (s : List UInt8) (h : s.length < 18446744073709551616) : (encS s).length ≤ s.length + 10 := by
  unfold encS
  rw [List.length_append]
  have := encU_len10 h
  omega
def encMsg (m : MsgT) : List UInt8 := encI m.kind ++ encI m.frm ++ encI m.to ++ encI m.crate ++ encI m.epoch ++ encS m.name ++ m.hash ++ encU m.hashes.length ++ m.hashes.flatten ++ encS m.blob ++ encS m.sig
/-- How Put ends. -/
def PutPost (w : World) (m : MsgT) (e : Ending) (w' : World) : Prop :=
  (mayP m → ∃ a c, e = .returned (.tuple #[.slice a (encMsg m).length c, .nilIface]) ∧ Own8 w' 5 a c (encMsg m) ∧ Keeps Nothing w w' ∧ (∀ g, blockOf a = some g → w.heap.size ≤ g)) ∧
  (¬ mayP m → ∃ ev, e = .returned (.tuple #[.slice none 0 0, ev]) ∧ IsErr w.heap.size w' ev 1 0 ∧ Keeps Nothing w w')
/-- No text of the message is longer than this. -/
def MsgSmall (m : MsgT) : Prop := m.name.length ≤ 5000 ∧ m.blob.length ≤ 5000 ∧ m.sig.length ≤ 5000

attribute [local go_sem ↓] exec_mid_msg exec_store_msg exec_mid_hash exec_load_hash exec_store_hash
attribute [local go_sem] rowOk_new World.setRow_alloc_new

set_option maxRecDepth 100000 in
set_option maxHeartbeats 4000000 in
theorem put_any {w : World} {C : Array Value} {m : MsgT} {ao : Option Addr} {cap : Nat} (hC : MsgC C m ao cap) (hM : MsgAt w m ao cap) (hS : MsgSmall m) :
    Calls Try.prog 9 #[.agg C] w (PutPost w m) := by
  have B0 := blk_new w C 26
  have K0 := (Keeps.refl Nothing w).alloc (.cells C 26)
  obtain ⟨x1, x2⟩ := blk_mid B0 hC.size
  have hmay := fun W => may_any (w := W) hC
  have hCr := hC.row
  obtain ⟨Z, hZ⟩ : ∃ Z, decide (mayP m) = Z := ⟨_, rfl⟩
  rw [hZ] at hmay
  have HZ := shut hZ
  clear hZ
  go_enter Try.func9, Try.ntmps9
  go_wp2_with fail
  refine (hmay _).mono ?_
  rintro e w1 ⟨rfl, k1⟩
  have K1 := K0.trans k1 (fun _ h _ => h)
  have B1 := k1.blk B0 (fun h => h)
  clear x1 x2 hmay B0 k1
  cases Z with
  | false =>
    have hno : ¬ mayP m := by have := HZ.out; simpa using this
    have hnew := new_err 1 0 w1 rfl
    go_wp2_with fail
    refine hnew.mono ?_
    rintro e w2 ⟨rfl, rfl⟩
    go_wp2_with fail
    go_ret2
    refine ⟨fun h => absurd h hno, fun _ => ⟨_, rfl, ?_, K1.alloc _⟩⟩
    have hq := isErr_new w1 1 0 rfl
    rcases hq with ⟨hq, _⟩ | ⟨b, hb, hr⟩
    · cases hq
    · exact .inr ⟨b, Nat.le_trans K1.size hb, hr⟩
  | true =>
    have hyes : mayP m := by have := HZ.out; simpa using this
    have hbd := hyes
    unfold mayP at hbd
    obtain ⟨s1, s2, s3⟩ := hS
    have hFIN : Shut (∀ W a c, Own8 W 5 a c (encMsg m) → Keeps Nothing w W → (∀ g, blockOf a = some g → w.heap.size ≤ g) → PutPost w m (.returned (.tuple #[.slice a (encMsg m).length c, .nilIface])) W) := shut fun W a c h1 h2 h3 =>
      ⟨fun _ => ⟨a, c, rfl, h1, h2, h3⟩, fun h => absurd hyes h⟩
    obtain ⟨enc, henc⟩ : ∃ enc, enc = encMsg m := ⟨_, rfl⟩
    rw [← henc] at hFIN
    unfold encMsg at henc
    have HENC := shut henc
    have HB := shut hbd
    clear henc hyes hbd HZ
    have d0 := hM.k0
    obtain ⟨kd, fr, tt, cr, ep, nm, hs, hh, bl, sg⟩ := m
    simp only at s1 s2 s3 HENC HB
    go_wp2_with fail
    refine (newWriter_any w1).mono ?_
    rintro e w2 ⟨rfl, rfl⟩
    have Kw := (Keeps.refl Nothing w1).alloc (.cells #[.slice none 0 0] 104)
    have B2 := Kw.blk B1 (fun h => h)
    have c0 := blk_cell B2 0 hC.c0
    have c1 := blk_cell B2 1 hC.c1
    have c2 := blk_cell B2 2 hC.c2
    have c3 := blk_cell B2 3 hC.c3
    have c4 := blk_cell B2 4 hC.c4
    have hgp := lt_of_block B1
    go_wp2_with fail
    have Ka := (Keeps.refl Nothing (w1.alloc (.cells #[.slice none 0 0] 104))).alloc (.cells #[.int .i64 kd, .int .i64 fr, .int .i64 tt, .int .i64 cr, .int .i64 ep] 3)
    have A3 := blk_new (w1.alloc (.cells #[.slice none 0 0] 104)) #[.int .i64 kd, .int .i64 fr, .int .i64 tt, .int .i64 cr, .int .i64 ep] 3
    rw [World.size_alloc] at A3
    have B3 := Ka.blk B2 (fun h => h)
    have K3 := (K1.trans Kw (fun _ h _ => h)).trans Ka (fun _ h _ => h)
    have P3 : PutS _ _ w1.heap.size [] := ⟨none, 0, ⟨Ka.blk (wr_new w1).blk (fun h => h), Ka.own (wr_new w1).own (fun _ _ h => h)⟩, (fun g e => by cases e), Keeps.refl _ ((w1.alloc (.cells #[.slice none 0 0] 104)).alloc (.cells #[.int .i64 kd, .int .i64 fr, .int .i64 tt, .int .i64 cr, .int .i64 ep] 3))⟩
    have hpw := K1.size
    clear c0 c1 c2 c3 c4 B2 Kw Ka B1 K0 K1
    generalize (w1.alloc (.cells #[.slice none 0 0] 104)).alloc (.cells #[.int .i64 kd, .int .i64 fr, .int .i64 tt, .int .i64 cr, .int .i64 ep] 3) = w3 at *
    generalize w1.heap.size = p at *
    have hgk : ∀ V, Keeps (fun k => k = p) w3 V → Keeps Nothing w V := fun V k => K3.trans k (fun i hi hlt => by omega)
    have hgb : ∀ V, Keeps (fun k => k = p) w3 V → Blk V w.heap.size C 26 := fun V k => k.blk B3 (by omega)
    have hga : ∀ V, Keeps (fun k => k = p) w3 V → Blk V (p + 1) #[.int .i64 kd, .int .i64 fr, .int .i64 tt, .int .i64 cr, .int .i64 ep] 3 := fun V k => k.blk A3 (by omega)
    have h32 : (hs.map byteV).length = 32 := by rw [List.length_map]; exact hC.h32
    clear B3 A3
    obtain ⟨b0, hb0⟩ : ∃ b : List UInt8, b = [] := ⟨_, rfl⟩
    have hl0 : b0.length ≤ 0 := by rw [hb0]; simp
    rw [← hb0] at P3
    have HB0 := shut hb0
    clear hb0
    refine wp_loop_rounds 6 ?_
    rw [rounds_succ]
    have a9 := blk_cell (hga _ P3.keeps) 0 rfl
    go_wp2_with fail
    refine (puts_int P3 kd hM.k0 hM.k1 (by omega)).mono ?_
    rintro e w4 ⟨rfl, P4⟩
    have hl1 : (b0 ++ encI kd).length ≤ 10 := by have := encI_len kd hM.k0 hM.k1; rw [List.length_append]; omega
    obtain ⟨b1, hb⟩ : ∃ b, b0 ++ encI kd = b := ⟨_, rfl⟩
    rw [hb] at P4 hl1
    have HB1 := shut hb
    clear hb P3 a9
    go_wp2_with fail
    rw [rounds_succ]
    have a9 := blk_cell (hga _ P4.keeps) 1 rfl
    go_wp2_with fail
    refine (puts_int P4 fr hM.f0 hM.f1 (by omega)).mono ?_
    rintro e w5 ⟨rfl, P5⟩
    have hl2 : (b1 ++ encI fr).length ≤ 20 := by have := encI_len fr hM.f0 hM.f1; rw [List.length_append]; omega
    obtain ⟨b2, hb⟩ : ∃ b, b1 ++ encI fr = b := ⟨_, rfl⟩
    rw [hb] at P5 hl2
    have HB2 := shut hb
    clear hb P4 a9
    go_wp2_with fail
    rw [rounds_succ]
    have a9 := blk_cell (hga _ P5.keeps) 2 rfl
    go_wp2_with fail
    refine (puts_int P5 tt hM.t0 hM.t1 (by omega)).mono ?_
    rintro e w6 ⟨rfl, P6⟩
    have hl3 : (b2 ++ encI tt).length ≤ 30 := by have := encI_len tt hM.t0 hM.t1; rw [List.length_append]; omega
    obtain ⟨b3, hb⟩ : ∃ b, b2 ++ encI tt = b := ⟨_, rfl⟩
    rw [hb] at P6 hl3
    have HB3 := shut hb
    clear hb P5 a9
    go_wp2_with fail
    rw [rounds_succ]
    have a9 := blk_cell (hga _ P6.keeps) 3 rfl
    go_wp2_with fail
    refine (puts_int P6 cr hM.c0 hM.c1 (by omega)).mono ?_
    rintro e w7 ⟨rfl, P7⟩
    have hl4 : (b3 ++ encI cr).length ≤ 40 := by have := encI_len cr hM.c0 hM.c1; rw [List.length_append]; omega
    obtain ⟨b4, hb⟩ : ∃ b, b3 ++ encI cr = b := ⟨_, rfl⟩
    rw [hb] at P7 hl4
    have HB4 := shut hb
    clear hb P6 a9
    go_wp2_with fail
    rw [rounds_succ]
    have a9 := blk_cell (hga _ P7.keeps) 4 rfl
    go_wp2_with fail
    refine (puts_int P7 ep hM.e0 hM.e1 (by omega)).mono ?_
    rintro e w8 ⟨rfl, P8⟩
    have hl5 : (b4 ++ encI ep).length ≤ 50 := by have := encI_len ep hM.e0 hM.e1; rw [List.length_append]; omega
    obtain ⟨b5, hb⟩ : ∃ b, b4 ++ encI ep = b := ⟨_, rfl⟩
    rw [hb] at P8 hl5
    have HB5 := shut hb
    clear hb P7 a9
    go_wp2_with fail
    rw [rounds_succ]
    have c5 := blk_cell (hgb _ P8.keeps) 5 hC.c5
    go_wp2_with fail
    refine (puts_text P8 nm (by omega) (by omega)).mono ?_
    rintro e w9 ⟨rfl, P9⟩
    have hl6 : (b5 ++ encS nm).length ≤ 6000 := by rw [List.length_append]; have := encS_len nm (by omega); omega
    obtain ⟨b6, hb⟩ : ∃ b, b5 ++ encS nm = b := ⟨_, rfl⟩
    rw [hb] at P9 hl6
    have HB6 := shut hb
    clear hb P8
    clear c5
    have r1 := msg_hash (hgb _ P9.keeps) hC
    have k1 := midOk_range r1
    have k2 := midOf_range r1
    rw [h32] at k1 k2
    go_wp2_with fail
    refine (puts_hash P9 hs hC.h32 (by omega)).mono ?_
    rintro e w10 ⟨rfl, P10⟩
    have hl7 : (b6 ++ hs).length ≤ 6100 := by rw [List.length_append]; have := hC.h32; simp only at this; omega
    obtain ⟨b7, hb⟩ : ∃ b, b6 ++ hs = b := ⟨_, rfl⟩
    rw [hb] at P10 hl7
    have HB7 := shut hb
    clear hb P9
    clear r1 k1 k2
    have c38 := blk_cell (hgb _ P10.keeps) 38 hC.c38
    have hhl : hh.length ≤ 64 := HB.out.2.2.2.2.2.2.2.2.2.2.2.1
    have hw64 : IntKind.u64.wrap (hh.length : Int) = hh.length := by rw [IntKind.wrap_u64]; omega
    go_wp2_with fail
    refine (puts_uint P10 hh.length (by omega) (by omega)).mono ?_
    rintro e w11 ⟨rfl, P11⟩
    have hl8 : (b7 ++ encU hh.length).length ≤ 6200 := by rw [List.length_append]; have := encU_len10 (show hh.length < 18446744073709551616 by omega); omega
    obtain ⟨b8, hb⟩ : ∃ b, b7 ++ encU hh.length = b := ⟨_, rfl⟩
    rw [hb] at P11 hl8
    have HB8 := shut hb
    clear hb P10
    clear c38
    have c38 := blk_cell (hgb _ P11.keeps) 38 hC.c38
    go_wp2_with fail
    clear c38
    obtain ⟨n, hn⟩ : ∃ n, hh.length = n := ⟨_, rfl⟩
    rw [hn] at hw64 hhl ⊢
    have hM2 := hM
    have hat := hM.at'
    have h3232 := hM.h32
    simp only at hat h3232
    go_loopw [60] (fun s60 wx => ∃ (i : Nat) (b : List UInt8), s60 = .int .i64 i ∧ i ≤ n ∧ PutS w3 wx p b ∧ b.length ≤ 6200 + 32 * i ∧ Shut (b = b8 ++ (hh.take i).flatten)) (fun s60 _ => n - (intOf s60).toNat)
    case atStart => exact ⟨0, b8, rfl, by omega, P11, by omega, shut (by simp)⟩
    case round =>
      obtain ⟨i, b, rfl, hi, Pb, hbl, hbe⟩ := hrel
      by_cases hlt : i < n
      · have m1 : (i : Int) < n := by omega
        obtain ⟨x, hx⟩ : ∃ x, hh[i]? = some x := ⟨hh[i]'(by omega), by rw [List.getElem?_eq_getElem (by omega)]⟩
        obtain ⟨bb, oo, rfl⟩ := hat.head (by omega)
        obtain ⟨_, hx32, r1⟩ := (hat.keepsN (hgk _ Pb.keeps)).2 _ rfl i x hx
        have hxl : (x.map byteV).length = 32 := by rw [List.length_map]; exact hx32
        have k1 := midOk_range r1
        have k2 := midOf_range r1
        rw [hxl] at k1 k2
        have hag : aggOk 32 (.agg (x.map byteV).toArray) = true := aggOk_agg 32 _ (by simp [hx32]) (bytes_all _)
        have hszx : (x.map byteV).toArray.size = 32 := by simp [hx32]
        have hs' : Shut (b ++ x = b8 ++ (hh.take (i + 1)).flatten) := shut (by rw [hbe.out, List.take_add_one, hx]; simp)
        clear hx r1
        obtain ⟨X, hX⟩ : ∃ X, (x.map byteV).toArray = X := ⟨_, rfl⟩
        have hpx := fun V (Q : PutS w3 V p b) => puts_hash Q x hx32 (by omega)
        rw [hX] at k2 hag hszx hpx
        clear hX
        go_wp2_with fail
        have Pc := Pb.more ((Keeps.refl Nothing wr).alloc (.cells X 23))
        rw [rowOf_blk (blk_new wr X 23)]
        refine (hpx _ Pc).mono ?_
        rintro e w12 ⟨rfl, P12⟩
        go_wp2_with fail
        go_roundw
        case rel => exact ⟨i + 1, b ++ x, by go_num, by omega, P12, by rw [List.length_append]; omega, hs'⟩
        case measure => simp [intOf]; omega
      · obtain rfl : i = n := by omega
        have m1 : ¬ (i : Int) < i := by omega
        have hbe' : Shut (b = b8 ++ hh.flatten) := shut (by rw [hbe.out, List.take_of_length_le (by omega)])
        have c39 := blk_cell (hgb _ Pb.keeps) 39 hC.c39
        clear hbe
        go_wp2_with fail
        refine (puts_text Pb bl (by omega) (by omega)).mono ?_
        rintro e w13 ⟨rfl, P13⟩
        have hl13 : (b ++ encS bl).length ≤ 15000 := by
          have := encS_len bl (by omega)
          rw [List.length_append]; omega
        obtain ⟨b13, hb⟩ : ∃ b', b ++ encS bl = b' := ⟨_, rfl⟩
        rw [hb] at P13 hl13
        have HB13 := shut hb
        clear hb c39
        have c40 := blk_cell (hgb _ P13.keeps) 40 hC.c40
        go_wp2_with fail
        refine (puts_text P13 sg (by omega) (by omega)).mono ?_
        rintro e w14 ⟨rfl, P14⟩
        have hl14 : (b13 ++ encS sg).length ≤ 25000 := by
          have := encS_len sg (by omega)
          rw [List.length_append]; omega
        have hfin : b13 ++ encS sg = enc := by
          rw [HENC.out, ← HB13.out, hbe'.out, ← HB8.out, ← HB7.out, ← HB6.out, ← HB5.out, ← HB4.out, ← HB3.out, ← HB2.out, ← HB1.out, HB0.out]
          simp only [List.nil_append, List.append_assoc]
        rw [hfin] at P14 hl14
        clear c40 hfin
        have KF := hgk _ P14.keeps
        obtain ⟨aw, cw, hW, -, -⟩ := P14
        go_wp2_with fail
        refine (bytes_any hW (by omega)).mono ?_
        rintro e w15 ⟨a15, c15, rfl, o15, k15, f15⟩
        go_wp2_with fail
        go_ret2
        exact hFIN.out _ _ _ o15 (KF.trans k15 (fun _ h _ => h)) (fun g hg => Nat.le_trans KF.size (f15 g hg))

end Go.Proofs.Yteifmkfkekglpaa
