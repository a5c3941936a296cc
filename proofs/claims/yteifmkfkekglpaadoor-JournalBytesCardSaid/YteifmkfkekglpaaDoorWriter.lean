/- wire.Writer: contracts. -/
import Derived.Test.YteifmkfkekglpaaDoorBytes
namespace Go.Proofs.YteifmkfkekglpaaDoor
open Go.RowKit

/-- A writer at block p whose bytes are bs. -/
structure Wr (w : World) (p : Nat) (ao : Option Addr) (cap : Nat) (bs : List UInt8) : Prop where
  blk : Blk w p #[.slice ao bs.length cap] 92
  own : Own8 w 5 ao cap bs

/-- 'w.b = append(w.b, ..)': behind the append, ahead of the store. -/
theorem wr_mid {w wa w1 : World} {p : Nat} {ao : Option Addr} {cap : Nat} {bs : List UInt8} (hW : Wr w p ao cap bs) (ha : Keeps Nothing w wa) (hk : Keeps (fun k => blockOf ao = some k) wa w1) :
    Blk w1 p #[.slice ao bs.length cap] 92 := hk.blk (ha.blk hW.blk (fun h => h)) (own8_ne hW.own hW.blk (by decide))

theorem wr_put {w wa w1 : World} {p : Nat} {ao ao1 : Option Addr} {cap cap1 : Nat} {bs bs' : List UInt8} (hW : Wr w p ao cap bs) (ha : Keeps Nothing w wa) (hk : Keeps (fun k => blockOf ao = some k) wa w1)
    (ho : Own8 w1 5 ao1 cap1 bs') (hm : Moved wa.heap.size ao ao1) :
    Wr (w1.setCell ⟨p, 0, none⟩ (.slice ao1 bs'.length cap1)) p ao1 cap1 bs' ∧ Keeps (WrF p ao) w (w1.setCell ⟨p, 0, none⟩ (.slice ao1 bs'.length cap1)) ∧ Moved w.heap.size ao ao1 := by
  have hb := wr_mid hW ha hk
  refine ⟨⟨blk_set hb 0 _, ownsRow_setCell_other ho (own_ne ho hb (by decide)) _⟩, ?_, hm.mono ha.size⟩
  have h1 : Keeps (WrF p ao) w w1 := (ha.mono (fun _ h _ => h.elim)).trans hk (fun i h _ => .inr h)
  exact h1.setCell (fun _ => .inl rfl) _

/-- The bytes of a number: groups of seven bits. -/
def encU (x : Nat) : List UInt8 := if x < 128 then [UInt8.ofNat x] else UInt8.ofNat (x % 128 + 128) :: encU (x / 128)

theorem or128 (y : Nat) : bits .or .u8 ((y : Int) % 256) 128 = ((y % 128 + 128 : Nat) : Int) := by
  have h : ∀ m : Fin 256, m.val ||| 128 = m.val % 128 + 128 := by decide +kernel
  have e : ((y : Int) % 256) = ((y % 256 : Nat) : Int) := by omega
  have := u8_or_nat (y % 256) 128 (by omega) (by omega)
  rw [e]
  refine this.trans ?_
  rw [h ⟨y % 256, by omega⟩]
  simp only
  rw [Nat.mod_mod_of_dvd y (by decide : 128 ∣ 256)]

theorem encU_lt {x : Nat} (h : x < 128) : encU x = [UInt8.ofNat x] := by rw [encU, if_pos h]
theorem encU_ge {x : Nat} (h : ¬ x < 128) : encU x = UInt8.ofNat (x % 128 + 128) :: encU (x / 128) := by rw [encU, if_neg h]

theorem encU_len (n : Nat) : ∀ x, x < 128 ^ (n + 1) → (encU x).length ≤ n + 1 := by
  induction n with
  | zero => intro x hx; rw [encU_lt (by omega)]; simp
  | succ n ih =>
    intro x hx
    by_cases h : x < 128
    · rw [encU_lt h]; simp
    · rw [encU_ge h, List.length_cons]
      have := ih (x / 128) (by rw [Nat.pow_succ] at hx; omega)
      omega
theorem encU_len10 {x : Nat} (hx : x < 18446744073709551616) : (encU x).length ≤ 10 := encU_len 9 x (by omega)

set_option maxRecDepth 100000 in
set_option maxHeartbeats 400000 in
theorem uint_any {w : World} {p : Nat} {ao : Option Addr} {cap : Nat} {bs : List UInt8} (hW : Wr w p ao cap bs) (x : Nat) (hx : x < 18446744073709551616) (hl : bs.length ≤ 1000000) :
    Calls Tryd.prog 46 #[.pointer (some ⟨p, 0, none⟩), .int .u64 x] w fun e w' =>
      e = .returned (.tuple #[]) ∧ ∃ ao' cap', Wr w' p ao' cap' (bs ++ encU x) ∧ Keeps (WrF p ao) w w' ∧ Moved w.heap.size ao ao' := by
  go_enter Tryd.func46, Tryd.ntmps46
  go_wp2_with fail
  go_loopw [1] (fun s wr => ∃ (y : Nat) (aor : Option Addr) (capr : Nat) (bsr : List UInt8), s = .int .u64 y ∧ y < 18446744073709551616 ∧ Wr wr p aor capr bsr ∧ Keeps (WrF p ao) w wr ∧ Moved w.heap.size ao aor ∧ bsr ++ encU y = bs ++ encU x)
    (fun s _ => (intOf s).toNat)
  case atStart => exact ⟨x, ao, cap, bs, rfl, hx, hW, Keeps.refl _ _, Moved.refl _ _, rfl⟩
  case round =>
    obtain ⟨y, aor, capr, bsr, rfl, hy, hWr, hK, hM, hE⟩ := hrel
    have hc : wr.cell? ⟨p, 0, none⟩ = some (.slice aor bsr.length capr) := blk_cell hWr.blk 0 rfl
    have hf := blk_free hWr.blk 0
    have hbl : bsr.length ≤ 1000010 := by
      have h1 := congrArg List.length hE
      have h2 := encU_len10 hx
      simp only [List.length_append] at h1
      omega
    have HE := Lib.hid hE
    clear hE
    by_cases hlt : y < 128
    · go_wp2_with (at_builtin; refine wpList_app8 _ rfl (.tmp 26) (.tmp 29) 25 rfl aor capr bsr rfl (hWr.own.alloc _) _ rfl [UInt8.ofNat y] (src_new wr _ ?c1) ?c2 ?c3 ?_)
      case c1 => exact byteV_nat (by omega)
      case c2 => omega
      case c3 => simp
      intro ao1 cap1 w1 ho1 hk1 hm1
      have hb1 := wr_mid hWr ((Keeps.refl _ _).alloc _) hk1
      have P1 := wr_put hWr ((Keeps.refl _ _).alloc _) hk1 ho1 (by simpa using hm1)
      simp only [List.length_append, List.length_singleton] at P1
      have hc1 : w1.cell? ⟨p, 0, none⟩ = some (.slice aor bsr.length capr) := blk_cell hb1 0 rfl
      have hf1 := blk_free hb1 0
      clear ho1 hk1 hm1 hb1
      go_wp2_with fail
      go_end0
      refine ⟨rfl, ao1, cap1, ?_, ?_, ?_⟩
      · rw [← HE.out, encU_lt hlt]; exact P1.1
      · exact hK.trans P1.2.1 (fun i hi hlt => wrF_back hM i hi hlt)
      · exact hM.trans P1.2.2 hK.size
    · go_wp2_with (at_builtin; refine wpList_app8 _ rfl (.tmp 12) (.tmp 16) 25 rfl aor capr bsr rfl (hWr.own.alloc _) _ rfl [UInt8.ofNat (y % 128 + 128)] (src_new wr _ ?c1) ?c2 ?c3 ?_)
      case c1 => rw [or128]; exact byteV_nat (by omega)
      case c2 => omega
      case c3 => simp
      intro ao1 cap1 w1 ho1 hk1 hm1
      have hb1 := wr_mid hWr ((Keeps.refl _ _).alloc _) hk1
      have P1 := wr_put hWr ((Keeps.refl _ _).alloc _) hk1 ho1 (by simpa using hm1)
      simp only [List.length_append, List.length_singleton] at P1
      have hc1 : w1.cell? ⟨p, 0, none⟩ = some (.slice aor bsr.length capr) := blk_cell hb1 0 rfl
      have hf1 := blk_free hb1 0
      clear ho1 hk1 hm1 hb1
      go_wp2_with fail
      go_roundw
      case rel =>
        refine ⟨y / 128, ao1, cap1, _, by simp, by omega, P1.1, ?_, ?_, ?_⟩
        · exact hK.trans P1.2.1 (fun i hi hlt => wrF_back hM i hi hlt)
        · exact hM.trans P1.2.2 hK.size
        · rw [← HE.out, encU_ge hlt]; simp
      case measure => simp [intOf]; omega

theorem uint_of {w : World} {p : Nat} {ao : Option Addr} {cap : Nat} {bs : List UInt8} (hW : Wr w p ao cap bs) (x : Int) (h0 : 0 ≤ x) (hx : x < 18446744073709551616) (hl : bs.length ≤ 1000000) :
    Calls Tryd.prog 46 #[.pointer (some ⟨p, 0, none⟩), .int .u64 x] w fun e w' =>
      e = .returned (.tuple #[]) ∧ ∃ ao' cap', Wr w' p ao' cap' (bs ++ encU x.toNat) ∧ Keeps (WrF p ao) w w' ∧ Moved w.heap.size ao ao' := by
  obtain ⟨n, rfl⟩ := Int.eq_ofNat_of_zero_le h0
  exact uint_any hW n (by omega) hl

/-- The end of a write. -/
def WrPost (w : World) (p : Nat) (ao : Option Addr) (bs : List UInt8) (e : Ending) (w' : World) : Prop :=
  e = .returned (.tuple #[]) ∧ ∃ ao' cap', Wr w' p ao' cap' bs ∧ Keeps (WrF p ao) w w' ∧ Moved w.heap.size ao ao'

/-- What a number that may be below 0 is written as. -/
def zig (v : Int) : Nat := if v < 0 then (-(v + 1) * 2 + 1).toNat else (v * 2).toNat
def encI (v : Int) : List UInt8 := encU (zig v)

theorem zig_neg (x : Int) (h0 : -9223372036854775808 ≤ x) (hneg : x < 0) :
    bits .xor .u64 IntKind.u64.max (IntKind.u64.wrap (IntKind.u64.wrap x * 2)) = ((zig x : Nat) : Int) := by
  have e1 : IntKind.u64.wrap (IntKind.u64.wrap x * 2) = ((x * 2 + 18446744073709551616).toNat : Int) := by
    rw [IntKind.wrap_u64, IntKind.wrap_u64]; omega
  have e2 : IntKind.u64.max = ((18446744073709551615 : Nat) : Int) := by decide +kernel
  rw [e1, e2, u64_xor_nat _ _ (by omega) (by omega)]
  have e3 : ∀ n : Nat, n < 18446744073709551616 → 18446744073709551615 ^^^ n = 18446744073709551615 - n := by
    intro n hn
    have h1 : (18446744073709551615 : Nat) = 2 ^ 64 - 1 := by decide +kernel
    rw [Nat.xor_comm, h1]
    have := BitVec.toNat_not (x := BitVec.ofNat 64 n)
    simp only [BitVec.toNat_ofNat, Nat.mod_eq_of_lt (show n < 2 ^ 64 from hn)] at this
    rw [← this, BitVec.not_def, BitVec.toNat_xor, BitVec.toNat_ofNat, Nat.mod_eq_of_lt (show n < 2 ^ 64 from hn), Nat.xor_comm]
    congr 1
  rw [e3 _ (by omega)]
  unfold zig
  rw [if_pos hneg]
  omega

theorem zig_lt (x : Int) (h0 : -9223372036854775808 ≤ x) (hx : x < 9223372036854775808) : zig x < 18446744073709551616 := by
  unfold zig; split <;> omega

set_option maxHeartbeats 400000 in
theorem int_any {w : World} {p : Nat} {ao : Option Addr} {cap : Nat} {bs : List UInt8} (hW : Wr w p ao cap bs) (x : Int) (h0 : -9223372036854775808 ≤ x) (hx : x < 9223372036854775808) (hl : bs.length ≤ 1000000) :
    Calls Tryd.prog 30 #[.pointer (some ⟨p, 0, none⟩), .int .i64 x] w (WrPost w p ao (bs ++ encI x)) := by
  have hz := zig_lt x h0 hx
  by_cases hneg : x < 0
  · have hzn := Lib.hid (zig_neg x h0 hneg)
    go_enter Tryd.func30, Tryd.ntmps30
    go_wp2_with fail
    rw [hzn.out]
    refine (uint_of hW _ (by omega) (by omega) hl).mono ?_
    rintro e w' ⟨rfl, ao1, cap1, h1, h2, h3⟩
    go_wp2_with fail
    go_end0
    exact ⟨rfl, ao1, cap1, h1, h2, h3⟩
  · go_enter Tryd.func30, Tryd.ntmps30
    go_wp2_with fail
    refine (uint_of hW _ (by omega) (by omega) hl).mono ?_
    rintro e w' ⟨rfl, ao1, cap1, h1, h2, h3⟩
    go_wp2_with fail
    go_end0
    refine ⟨rfl, ao1, cap1, ?_, h2, h3⟩
    unfold encI zig
    rw [if_neg (by omega)]
    exact h1

theorem encU_0 : encU (Int.toNat 0) = [0] := by rw [encU_lt (by decide)]; rfl
theorem encU_1 : encU (Int.toNat 1) = [1] := by rw [encU_lt (by decide)]; rfl

def encS (s : List UInt8) : List UInt8 := encU s.length ++ s

set_option maxHeartbeats 400000 in
theorem text_any {w : World} {p : Nat} {ao : Option Addr} {cap : Nat} {bs : List UInt8} (hW : Wr w p ao cap bs) (s : ByteArray) (hs : s.size ≤ 1000000) (hl : bs.length ≤ 900000) :
    Calls Tryd.prog 31 #[.pointer (some ⟨p, 0, none⟩), .string s] w (WrPost w p ao (bs ++ encS (bytesOf s))) := by
  have hlen := Lib.hid (bytesOf_length s)
  go_enter Tryd.func31, Tryd.ntmps31
  go_wp2_with fail
  refine (uint_of hW _ (by omega) (by omega) (by omega)).mono ?_
  rintro e w1 ⟨rfl, ao1, cap1, h1, h2, h3⟩
  have hel : (encU s.size).length ≤ 10 := encU_len10 (by omega)
  have hbl : (bs ++ encU s.size).length ≤ 900010 := by rw [List.length_append]; omega
  rw [Int.toNat_natCast] at h1
  generalize hB : bs ++ encU s.size = B at *
  have HB := Lib.hid hB
  clear hB
  have hc : w1.cell? ⟨p, 0, none⟩ = some (.slice ao1 B.length cap1) := blk_cell h1.blk 0 rfl
  have hf := blk_free h1.blk 0
  go_wp2_with (at_builtin; refine wpList_app8 _ rfl (.tmp 15) (.tmp 16) 9 rfl ao1 cap1 B rfl h1.own _ rfl (bytesOf s) (src_string w1 s) ?c2 ?c3 ?_)
  case c2 => omega
  case c3 => rw [hlen.out]; omega
  intro ao2 cap2 w2 ho2 hk2 hm2
  have hb1 := wr_mid h1 (Keeps.refl _ _) hk2
  have P1 := wr_put h1 (Keeps.refl _ _) hk2 ho2 hm2
  have hc1 : w2.cell? ⟨p, 0, none⟩ = some (.slice ao1 B.length cap1) := blk_cell hb1 0 rfl
  have hf1 := blk_free hb1 0
  clear ho2 hk2 hm2 hb1
  simp only [List.length_append] at P1
  go_wp2_with fail
  go_end0
  refine ⟨rfl, ao2, cap2, ?_, ?_, ?_⟩
  · unfold encS
    rw [hlen.out, ← List.append_assoc, HB.out]
    exact P1.1
  · exact h2.trans P1.2.1 (fun i hi hlt => wrF_back h3 i hi hlt)
  · exact h3.trans P1.2.2 h2.size

set_option maxHeartbeats 400000 in
theorem bytes_any {w : World} {p : Nat} {ao : Option Addr} {cap : Nat} {bs : List UInt8} (hW : Wr w p ao cap bs) (hl : bs.length ≤ 1000000) :
    Calls Tryd.prog 33 #[.pointer (some ⟨p, 0, none⟩)] w (NewBytes w bs) := by
  have hc : w.cell? ⟨p, 0, none⟩ = some (.slice ao bs.length cap) := blk_cell hW.blk 0 rfl
  have hlt := lt_of_block hW.blk
  go_enter Tryd.func33, Tryd.ntmps33
  go_wp2_with (at_builtin; refine wpList_app8 _ rfl (.tmp 5) (.tmp 9) 25 rfl (some ⟨w.heap.size, 0, none⟩) 0 [] rfl (own8_empty w) _ rfl bs (src_own (World.ownsRow.alloc hW.own _)) ?c2 ?c3 ?_)
  case c2 => simp
  case c3 => omega
  intro ao1 cap1 w1 ho1 hk1 hm1
  go_wp2_with fail
  go_ret
  refine ⟨ao1, cap1, rfl, ho1, ?_, ?_⟩
  · exact ((Keeps.refl Nothing w).alloc _).trans hk1 (fun i hi hlt => by simp [blockOf] at hi; omega)
  · intro g hg
    rcases hm1 with h | ⟨g', h, hg'⟩
    · rw [h] at hg; simp [blockOf] at hg; omega
    · rw [h] at hg; obtain rfl := Option.some.inj hg; omega

theorem newWriter_any (w : World) :
    Calls Tryd.prog 29 #[] w fun e w' => e = .returned (.pointer (some ⟨w.heap.size, 0, none⟩)) ∧ w' = w.alloc (.cells #[.slice none 0 0] 92) := by
  go_enter Tryd.func29, Tryd.ntmps29
  go_wp2
  go_ret
  exact ⟨rfl, rfl⟩

theorem wr_new (w : World) : Wr (w.alloc (.cells #[.slice none 0 0] 92)) w.heap.size none 0 [] :=
  ⟨blk_new w _ _, World.ownsRow_nil _ _ _ _⟩

end Go.Proofs.YteifmkfkekglpaaDoor
