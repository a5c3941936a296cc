/- journal: what stands in bytes. journal.Scan. journal.Open. -/
import Derived.Test.YteifmkfkekglpaaDoorJou3
import Derived.Test.YteifmkfkekglpaaDoorOwnC
import Derived.StillTailTactics
import Derived.Deep.LoopGhost
import Derived.Test.YteifmkfkekglpaaDoorDisk2
namespace Go.Proofs.YteifmkfkekglpaaDoor
open Go.RowKit

theorem i64_or_nat (a b : Nat) (ha : a < 4294967296) (hb : b < 4294967296) : bits .or .i64 (a : Int) (b : Int) = ((a ||| b : Nat) : Int) := by
  have hx : a ||| b < 2 ^ 32 := Nat.or_lt_two_pow (by omega) (by omega)
  show IntKind.i64.wrap ((BitVec.ofInt 64 (a : Int) ||| BitVec.ofInt 64 (b : Int)).toNat : Int) = _
  rw [BitVec.toNat_or, ofInt_u64 a (by omega), ofInt_u64 b (by omega), IntKind.wrap_i64]
  omega
theorem big_bits (a b c d : UInt8) : bits .or .i64 (bits .or .i64 (bits .or .i64 (IntKind.i64.wrap (IntKind.i64.wrap (a.toNat : Int) * 16777216)) (IntKind.i64.wrap (IntKind.i64.wrap (b.toNat : Int) * 65536)))
    (IntKind.i64.wrap (IntKind.i64.wrap (c.toNat : Int) * 256))) (IntKind.i64.wrap (d.toNat : Int)) = ((16777216 * a.toNat + 65536 * b.toNat + 256 * c.toNat + d.toNat : Nat) : Int) := by
  have ha := a.toNat_lt
  have hb := b.toNat_lt
  have hc := c.toNat_lt
  have hd := d.toNat_lt
  generalize a.toNat = a at *
  generalize b.toNat = b at *
  generalize c.toNat = c at *
  generalize d.toNat = d at *
  rw [show IntKind.i64.wrap (IntKind.i64.wrap (a : Int) * 16777216) = ((a * 16777216 : Nat) : Int) by rw [IntKind.wrap_i64, IntKind.wrap_i64]; omega,
    show IntKind.i64.wrap (IntKind.i64.wrap (b : Int) * 65536) = ((b * 65536 : Nat) : Int) by rw [IntKind.wrap_i64, IntKind.wrap_i64]; omega,
    show IntKind.i64.wrap (IntKind.i64.wrap (c : Int) * 256) = ((c * 256 : Nat) : Int) by rw [IntKind.wrap_i64, IntKind.wrap_i64]; omega,
    show IntKind.i64.wrap (d : Int) = ((d : Nat) : Int) by rw [IntKind.wrap_i64]; omega]
  rw [i64_or_nat _ _ (by omega) (by omega), nat_join 24 _ _ (by omega) (by omega), i64_or_nat _ _ (by omega) (by omega), nat_join 16 _ _ (by omega) (by omega), i64_or_nat _ _ (by omega) (by omega), nat_join 8 _ _ (by omega) (by omega)]
  omega

/-- The number that stands in the first four bytes. -/
def big4 (b : List UInt8) : Nat := 16777216 * (b.getD 0 0).toNat + 65536 * (b.getD 1 0).toNat + 256 * (b.getD 2 0).toNat + (b.getD 3 0).toNat
/-- The entry whose frame stands at the beginning. -/
def stepE (b : List UInt8) : Option EntT :=
  if 12 + big4 b ≤ b.length then
    match parseE ((b.drop 12).take (big4 b)) with
    | some e => if frameP e ∧ frameE e = b.take (12 + big4 b) then some e else none
    | none => none
  else none
theorem stepE_short {b : List UInt8} (h : b.length < 12 + big4 b) : stepE b = none := by
  unfold stepE; rw [if_neg (by omega)]
theorem stepE_no {b : List UInt8} (h : parseE ((b.drop 12).take (big4 b)) = none) : stepE b = none := by
  unfold stepE
  split
  · rw [h]
  · rfl
theorem stepE_bad {b : List UInt8} {e : EntT} (h : parseE ((b.drop 12).take (big4 b)) = some e) (hn : ¬ (frameP e ∧ frameE e = b.take (12 + big4 b))) : stepE b = none := by
  unfold stepE
  split
  · rw [h]; show (if _ then _ else _) = _; rw [if_neg hn]
  · rfl
theorem stepE_yes {b : List UInt8} {e : EntT} (hl : 12 + big4 b ≤ b.length) (h : parseE ((b.drop 12).take (big4 b)) = some e) (hn : frameP e ∧ frameE e = b.take (12 + big4 b)) : stepE b = some e := by
  unfold stepE
  rw [if_pos hl, h]
  show (if _ then _ else _) = _
  rw [if_pos hn]
theorem stepE_some {b : List UInt8} {e : EntT} (h : stepE b = some e) : 12 + big4 b ≤ b.length ∧ parseE ((b.drop 12).take (big4 b)) = some e ∧ frameP e ∧ frameE e = b.take (12 + big4 b) := by
  unfold stepE at h
  split at h
  · rename_i h1
    split at h
    · rename_i x hx
      split at h
      · rename_i h2
        obtain rfl := Option.some.inj h
        exact ⟨h1, hx, h2⟩
      · cases h
    · cases h
  · cases h
/-- The entries at the beginning, and how many bytes they are. -/
def scanG (f : List UInt8 → Option EntT) (g : List UInt8 → Nat) : Nat → List UInt8 → List EntT × Nat
  | 0, _ => ([], 0)
  | k + 1, b => match f b with
    | none => ([], 0)
    | some e => (e :: (scanG f g k (b.drop (g b))).1, g b + (scanG f g k (b.drop (g b))).2)
theorem scanG_succ (f : List UInt8 → Option EntT) (g : List UInt8 → Nat) (k : Nat) (b : List UInt8) : scanG f g (k + 1) b = match f b with
    | none => ([], 0)
    | some e => (e :: (scanG f g k (b.drop (g b))).1, g b + (scanG f g k (b.drop (g b))).2) := rfl
theorem scanG_none {f : List UInt8 → Option EntT} {g : List UInt8 → Nat} {b : List UInt8} (h : f b = none) (k : Nat) : scanG f g k b = ([], 0) := by
  cases k with
  | zero => rfl
  | succ k => rw [scanG_succ, h]
theorem scanG_some {f : List UInt8 → Option EntT} {g : List UInt8 → Nat} {b : List UInt8} {e : EntT} (h : f b = some e) (k : Nat) : scanG f g (k + 1) b = (e :: (scanG f g k (b.drop (g b))).1, g b + (scanG f g k (b.drop (g b))).2) := by
  rw [scanG_succ, h]
/-- More rounds tell the same. -/
theorem scanG_more {f : List UInt8 → Option EntT} {g : List UInt8 → Nat} (hf : ∀ b e, f b = some e → 1 ≤ g b ∧ g b ≤ b.length) : ∀ (k m : Nat) (b : List UInt8), b.length ≤ k → b.length ≤ m → scanG f g k b = scanG f g m b := by
  intro k
  induction k with
  | zero =>
    intro m b h _
    have hn : f b = none := by
      cases hs : f b with
      | none => rfl
      | some e => have := hf b e hs; omega
    rw [scanG_none hn, scanG_none hn]
  | succ k ih =>
    intro m b h1 h2
    cases hs : f b with
    | none => rw [scanG_none hs, scanG_none hs]
    | some e =>
      have h3 := hf b e hs
      cases m with
      | zero => omega
      | succ m =>
        rw [scanG_some hs, scanG_some hs, ih m (b.drop (g b)) (by rw [List.length_drop]; omega) (by rw [List.length_drop]; omega)]
def lenE (b : List UInt8) : Nat := 12 + big4 b
theorem lenE_bd (b : List UInt8) (e : EntT) (h : stepE b = some e) : 1 ≤ lenE b ∧ lenE b ≤ b.length := by
  have := (stepE_some h).1
  unfold lenE
  omega
def scanE (b : List UInt8) : List EntT × Nat := scanG stepE lenE b.length b
theorem scanE_none {b : List UInt8} (h : stepE b = none) : scanE b = ([], 0) := scanG_none h _
theorem scanE_some {b : List UInt8} {e : EntT} (h : stepE b = some e) : scanE b = (e :: (scanE (b.drop (lenE b))).1, lenE b + (scanE (b.drop (lenE b))).2) := by
  have h3 := lenE_bd b e h
  obtain ⟨k, hk⟩ : ∃ k, b.length = k + 1 := ⟨b.length - 1, by omega⟩
  unfold scanE
  rw [hk, scanG_some h, scanG_more lenE_bd k (b.drop (lenE b)).length (b.drop (lenE b)) (by rw [List.length_drop]; omega) (Nat.le_refl _)]
attribute [irreducible] scanE stepE

end Go.Proofs.YteifmkfkekglpaaDoor

namespace Go.Proofs.YteifmkfkekglpaaDoor
open Go.RowKit

theorem jblk_mid {w : World} {g : Nat} {C : Array Value} {t : TypeId} (h : Blk w g C t) {n : Nat} (hn : C.size = n) : midOk w g 0 n = true ∧ midOf w g 0 n = C := by
  have hr : w.rangeAt g 0 C.toList := fun j v hj => blk_cell h (0 + j) (by simpa using hj)
  have h1 := midOk_range hr
  have h2 := midOf_range hr
  rw [Array.length_toList, hn] at h1 h2
  exact ⟨h1, by rw [h2]⟩
theorem jinfo3 {α β γ : Type} {x : Option TypeInfo} {f : TypeInfo → α} {g : TypeInfo → β} {h : TypeInfo → γ} {a : α} {b : β} {c : γ} (e : x.map (fun i => (f i, g i, h i)) = some (a, b, c)) : ∃ i, x = some i ∧ f i = a ∧ g i = b ∧ h i = c := by
  cases x with
  | none => simp at e
  | some i =>
    simp only [Option.map_some, Option.some.injEq, Prod.mk.injEq] at e
    exact ⟨i, rfl, e⟩
theorem infoEnt3 : (Tryd.prog.info? 23).map (fun i => (i.zero, i.size, i.bytes)) = some (some (.agg #[.int .i64 0, .int .i64 0, .string ⟨#[]⟩]), 3, 32) := by kernel_rfl
theorem EntT.one (d : EntT) : ∀ u ∈ d.cells, u.oneCell' = true := by
  intro u hu
  unfold EntT.cells at hu
  simp only [List.mem_cons, List.not_mem_nil, or_false] at hu
  rcases hu with rfl | rfl | rfl <;> rfl
/-- append of one entry. -/
theorem wpList_appE (w : World) {ops : Array Oper} {rest : List Oper} {o : Oper} {a : Act} {Q : Exit → Act → World → Prop} (hgd : o.guard = none) (s x : Operand)
    (ho : o.op = .call { callee := .builtin .append, args := #[s, x], argTypes := #[24, 24] })
    (ao : Option Addr) (cap : Nat) (L : List EntT) (n : Nat) (hn : L.length = n) (hsv : a.eval s = .slice ao n cap) (hown : OwnC w 23 3 ao cap (L.map EntT.cells)) (g : Nat) (C : Array Value) (d : EntT) (hC : C = d.cells.toArray)
    (hx : a.eval x = .slice (some ⟨g, 0, none⟩) 1 1) (hg : Blk w g C 23) (hb : n ≤ 1000000000)
    (h : ∀ ao' cap' w', OwnC w' 23 3 ao' cap' ((L ++ [d]).map EntT.cells) → Keeps (fun k => blockOf ao = some k) w w' → Moved w.heap.size ao ao' → wpList Tryd.prog ops Q rest (a.put o.dst (.slice ao' (n + 1) cap')) w') : wpList Tryd.prog ops Q (o :: rest) a w := by
  obtain ⟨i0, hi, hz0, hz1, hz2⟩ := jinfo3 infoEnt3
  refine wpList_appC w hgd s x 24 ho 23 i0 (.agg #[.int .i64 0, .int .i64 0, .string ⟨#[]⟩]) 3 32 Tryd.underlying24 hi hz0 hz1 hz2 (by rfl) (by omega) ao cap (L.map EntT.cells) n (by rw [List.length_map, hn]) hsv hown g C d.cells hC rfl d.one hx hg hb fun ao' cap' w' h1 h2 h3 => ?_
  exact h ao' cap' w' (by rw [List.map_append]; exact h1) h2 h3

theorem jequal_any (w : World) {aa ab : Option Addr} {na nb : Nat} (ca cb : Nat) {a b : List UInt8} (hna : a.length = na) (hnb : b.length = nb) (hA : BytesAt w aa a) (hB : BytesAt w ab b) :
    Calls Tryd.prog 38 #[.slice aa na ca, .slice ab nb cb] w fun e w' => e = .returned (.bool (a == b)) ∧ w' = w := by
  have e1 := run_str w ca a hna hA
  have e2 := run_str w cb b hnb hB
  go_enter Tryd.func38, Tryd.ntmps38
  go_wp2_with fail
  go_ret
  exact ⟨rfl, rfl⟩
theorem parseE_nil : parseE [] = none := by
  unfold parseE
  rw [if_neg (by decide)]
theorem zeroFit : zeroEnt.Fit := ⟨by decide, by decide, by decide, by decide⟩
theorem zeroP : frameP zeroEnt := by unfold frameP zeroEnt; simp
theorem zeroCells : zeroEnt.cells.toArray = #[.int .i64 0, .int .i64 0, .string ⟨#[]⟩] := rfl
def ScanPost (w : World) (b : List UInt8) (e : Ending) (w' : World) : Prop :=
  ∃ o cap, e = .returned (.tuple #[.slice o (scanE b).1.length cap, .int .i64 ((scanE b).2 : Nat)]) ∧ OwnC w' 23 3 o cap ((scanE b).1.map EntT.cells) ∧ Keeps Nothing w w' ∧ ∀ g, blockOf o = some g → w.heap.size ≤ g
theorem scanE_bd : ∀ (k : Nat) (b : List UInt8), b.length ≤ k → (scanE b).1.length ≤ b.length ∧ (scanE b).2 ≤ b.length := by
  intro k
  induction k with
  | zero =>
    intro b hb
    rw [scanE_none (stepE_short (by omega))]
    exact ⟨Nat.zero_le _, Nat.zero_le _⟩
  | succ k ih =>
    intro b hb
    cases h : stepE b with
    | none => rw [scanE_none h]; exact ⟨Nat.zero_le _, Nat.zero_le _⟩
    | some e =>
      have h3 := lenE_bd b e h
      rw [scanE_some h]
      have := ih (b.drop (lenE b)) (by rw [List.length_drop]; omega)
      rw [List.length_drop] at this
      simp only [List.length_cons]
      omega

attribute [local go_sem ↓] exec_store_ent exec_mid_ent
attribute [local go_sem] rowOk_new World.setRow_alloc_new aggOk_ent mid_new

set_option maxRecDepth 100000 in
set_option maxHeartbeats 4000000 in
theorem scan_any {w : World} {ao : Option Addr} {c n : Nat} {b : List UInt8} (hn : b.length = n) (hB : BytesAt w ao b) (hs : ∀ a, ao = some a → a.spot = none) (hl : n ≤ 5000) (hc : n ≤ c) :
    Calls Tryd.prog 11 #[.slice ao n c] w (ScanPost w b) := by
  have hend : ∀ (L : List EntT) (o : Option Addr) (cap at' : Nat) (W : World), scanE b = (L ++ (scanE (b.drop at')).1, at' + (scanE (b.drop at')).2) → stepE (b.drop at') = none → OwnC W 23 3 o cap (L.map EntT.cells) → Keeps Nothing w W → (∀ g, blockOf o = some g → w.heap.size ≤ g) →
      ScanPost w b (.returned (.tuple #[.slice o L.length cap, .int .i64 at'])) W := fun L o cap at' W he hs ho hk hf => by
    rw [scanE_none hs, List.append_nil, Nat.add_zero] at he
    unfold ScanPost
    rw [he]
    exact ⟨o, cap, rfl, ho, hk, hf⟩
  have HEND := shut hend
  have HN := shut hn
  clear hn hend
  go_enter Tryd.func11, Tryd.ntmps11
  go_wp2_with fail
  go_step3
  go_wp2_with fail
  go_step3
  go_wp2_with fail
  go_loopw [4, 5] (fun s4 s5 wx => ∃ (L : List EntT) (o : Option Addr) (cap q : Nat), s4 = .slice o L.length cap ∧ s5 = .int .i64 q ∧ q ≤ n ∧ L.length ≤ q ∧ OwnC wx 23 3 o cap (L.map EntT.cells) ∧ Keeps Nothing w wx ∧ Shut (∀ g, blockOf o = some g → w.heap.size ≤ g) ∧
    Shut (scanE b = (L ++ (scanE (b.drop q)).1, q + (scanE (b.drop q)).2))) (fun _ s5 _ => n - (intOf s5).toNat)
  case atStart =>
    refine ⟨[], none, 0, 0, rfl, rfl, Nat.zero_le _, Nat.le_refl _, ownC_nil _ _ _, Keeps.refl _ _, shut (fun g hg => by simp [blockOf] at hg), shut ?_⟩
    rw [List.drop_zero, List.nil_append, Nat.zero_add]
  case round =>
    obtain ⟨L, o, cap, q, rfl, rfl, hq, hLq, HO, K, HF, HS⟩ := hrel
    by_cases h12 : q + 12 ≤ n
    · skip
      have hx0 : ∃ g off, ao = some ⟨g, off, none⟩ := by
        cases ao with
        | none => have := hB.1 rfl; have := HN.out; subst b; simp at this; omega
        | some a =>
          obtain ⟨g, off, s⟩ := a
          have := hs _ rfl
          simp only at this
          subst this
          exact ⟨g, off, rfl⟩
      obtain ⟨g, off, rfl⟩ := hx0
      have hBw := hB.keeps K (fun _ _ h => h)
      have hg : ∀ j, j < 4 → ∃ x : UInt8, (b.drop q).getD j 0 = x ∧ wr.cell? ⟨g, off + (q + j), none⟩ = some (.int .u8 (x.toNat : Int)) := fun j hj => by
        have hlt : q + j < b.length := by rw [HN.out]; omega
        refine ⟨b[q + j], by simp [List.getD, hlt], ?_⟩
        have := hBw.2 _ rfl (q + j) _ (List.getElem?_eq_getElem hlt)
        rw [Addr.add_mid'] at this
        exact this
      obtain ⟨x0, y0, c0⟩ := hg 0 (by omega)
      obtain ⟨x1, y1, c1⟩ := hg 1 (by omega)
      obtain ⟨x2, y2, c2⟩ := hg 2 (by omega)
      obtain ⟨x3, y3, c3⟩ := hg 3 (by omega)
      have HB4 : Shut (big4 (b.drop q) = 16777216 * x0.toNat + 65536 * x1.toNat + 256 * x2.toNat + x3.toNat) := shut (by unfold big4; rw [y0, y1, y2, y3])
      clear y0 y1 y2 y3 hg
      rw [Nat.add_zero] at c0
      have e1 : IntKind.i64.wrap ((q : Int) + 1) = (q : Int) + 1 := by rw [IntKind.wrap_i64]; omega
      have e2 : IntKind.i64.wrap ((q : Int) + 2) = (q : Int) + 2 := by rw [IntKind.wrap_i64]; omega
      have e3 : IntKind.i64.wrap ((q : Int) + 3) = (q : Int) + 3 := by rw [IntKind.wrap_i64]; omega
      have i0 : (0 : Int) ≤ (q : Int) := by omega
      have i1 : (0 : Int) ≤ (q : Int) + 1 := by omega
      have i2 : (0 : Int) ≤ (q : Int) + 2 := by omega
      have i3 : (0 : Int) ≤ (q : Int) + 3 := by omega
      have j0 : (q : Int) < n := by omega
      have j1 : (q : Int) + 1 < n := by omega
      have j2 : (q : Int) + 2 < n := by omega
      have j3 : (q : Int) + 3 < n := by omega
      have n1 : ((q : Int) + 1).toNat = q + 1 := by omega
      have n2 : ((q : Int) + 2).toNat = q + 2 := by omega
      have n3 : ((q : Int) + 3).toNat = q + 3 := by omega
      have hge : (12 : Int) ≤ (n : Int) - q := by omega
      go_wp2_with fail
      go_still_tail 29, (by kernel_rfl)
      rw [big_bits x0 x1 x2 x3]
      change wpList _ _ _ _ _ wr.drew
      have hNlt : 16777216 * x0.toNat + 65536 * x1.toNat + 256 * x2.toNat + x3.toNat < 4294967296 := by
        have := x0.toNat_lt; have := x1.toNat_lt; have := x2.toNat_lt; have := x3.toNat_lt; omega
      generalize 16777216 * x0.toNat + 65536 * x1.toNat + 256 * x2.toNat + x3.toNat = N at *
      have kd : Keeps Nothing wr wr.drew := (Keeps.refl Nothing wr).drew
      have KV := K.trans kd (fun _ h _ => h)
      have HOV := HO.keepsN kd
      have hBV := hBw.keeps kd (fun _ _ h => h)
      clear K kd HO hBw c0 c1 c2 c3 e1 e2 e3 i0 i1 i2 i3 j0 j1 j2 j3 n1 n2 n3
      generalize wr.drew = V at *
      clear hs
      by_cases hfit : q + 12 + N ≤ n
      · have hdd : (b.drop q).drop 12 = b.drop (q + 12) := by rw [List.drop_drop]
        have HDD := shut hdd
        clear hdd
        have f1 : (q : Int) + 12 ≤ (q : Int) + 12 + N := by omega
        have f2 : (q : Int) + 12 + N ≤ c := by omega
        have f3 : ((q : Int) + 12 + N).toNat - ((q : Int) + 12).toNat = N := by omega
        have f4 : ((q : Int) + 12).toNat = q + 12 := by omega
        have f5 : ((q : Int) + 12 + N).toNat = q + 12 + N := by omega
        have hng : ¬ (n : Int) - q - 12 < (N : Int) := by omega
        by_cases hcq : c = q + 12
        · obtain rfl : N = 0 := by omega
          have hno : Shut (parseE [] = none) := shut parseE_nil
          have hst : Shut (stepE (b.drop q) = none) := shut (stepE_no (by rw [HB4.out, List.take_zero]; exact hno.out))
          have hent := entry_any (c := 0) (w := V) (ao := some ⟨g, off, none⟩) (b := []) (n := 0) rfl (bytesAt_nil _) (by omega)
          clear HB4 HDD
          go_wp2_with fail
          refine hent.mono ?_
          rintro e w1 hp
          obtain ⟨rfl, k1⟩ := hp.2 hno.out
          clear hent hp
          have ka : Keeps Nothing w1 (w1.alloc (.cells #[.int .i64 0, .int .i64 0, .string ⟨#[]⟩] 23)) := (Keeps.refl Nothing w1).alloc _
          have KW := (KV.trans k1 (fun _ h _ => h)).trans ka (fun _ h _ => h)
          have HOW := (HOV.keepsN k1).keepsN ka
          have hfr := frame_any (w1.alloc (.cells #[.int .i64 0, .int .i64 0, .string ⟨#[]⟩] 23)) zeroEnt zeroFit (by decide)
          rw [zeroCells] at hfr ⊢
          go_wp2_with fail
          refine hfr.mono ?_
          rintro e w3 hp3
          obtain ⟨a3, c3, rfl, -, k3, -⟩ := hp3.1 zeroP
          clear hfr hp3
          go_wp2_with fail
          go_ret2
          exact HEND.out L o cap q _ HS.out hst.out (HOW.keepsN k3) (KW.trans k3 (fun _ h _ => h)) HF.out
        · have hB1 := bytesAt_take hBV (q + 12) N
          have hl1 : ((b.drop (q + 12)).take N).length = N := by rw [List.length_take, List.length_drop, HN.out]; omega
          have hent := entry_any (c := c - (q + 12)) hl1 hB1 (by omega)
          have HL1 := shut hl1
          clear hl1 hB1
          generalize hbody : (b.drop (q + 12)).take N = body at *
          have HBD := shut hbody
          clear hbody
          cases hpe : parseE body with
          | none =>
            have hno := shut hpe
            have hst : Shut (stepE (b.drop q) = none) := shut (stepE_no (by rw [HB4.out, HDD.out, HBD.out]; exact hno.out))
            clear hpe HB4 HDD HBD HL1
            go_wp2_with fail
            refine hent.mono ?_
            rintro e w1 hp
            obtain ⟨rfl, k1⟩ := hp.2 hno.out
            clear hent hp
            have ka : Keeps Nothing w1 (w1.alloc (.cells #[.int .i64 0, .int .i64 0, .string ⟨#[]⟩] 23)) := (Keeps.refl Nothing w1).alloc _
            have KW := (KV.trans k1 (fun _ h _ => h)).trans ka (fun _ h _ => h)
            have HOW := (HOV.keepsN k1).keepsN ka
            have hfr := frame_any (w1.alloc (.cells #[.int .i64 0, .int .i64 0, .string ⟨#[]⟩] 23)) zeroEnt zeroFit (by decide)
            rw [zeroCells] at hfr ⊢
            go_wp2_with fail
            refine hfr.mono ?_
            rintro e w3 hp3
            obtain ⟨a3, c3, rfl, -, k3, -⟩ := hp3.1 zeroP
            clear hfr hp3
            go_wp2_with fail
            go_ret2
            exact HEND.out L o cap q _ HS.out hst.out (HOW.keepsN k3) (KW.trans k3 (fun _ h _ => h)) HF.out
          | some x =>
            have hye := shut hpe
            have hft := parseE_fit hpe
            clear hpe
            rw [HL1.out] at hft
            go_wp2_with fail
            refine hent.mono ?_
            rintro e w1 hp
            obtain ⟨rfl, k1⟩ := hp.1 x hye.out
            clear hent hp
            obtain ⟨z1, z2, z3⟩ := x
            have hxc : (EntT.mk z1 z2 z3).cells.toArray = #[.int .i64 z1, .int .i64 z2, .string ⟨z3.toArray⟩] := rfl
            have ka : Keeps Nothing w1 (w1.alloc (.cells #[.int .i64 z1, .int .i64 z2, .string ⟨z3.toArray⟩] 23)) := (Keeps.refl Nothing w1).alloc _
            have KW := (KV.trans k1 (fun _ h _ => h)).trans ka (fun _ h _ => h)
            have HOW := (HOV.keepsN k1).keepsN ka
            have hBW := (hBV.keeps k1 (fun _ _ h => h)).keeps ka (fun _ _ h => h)
            have BE := blk_new w1 #[.int .i64 z1, .int .i64 z2, .string ⟨z3.toArray⟩] 23
            have hfr := frame_any (w1.alloc (.cells #[.int .i64 z1, .int .i64 z2, .string ⟨z3.toArray⟩] 23)) ⟨z1, z2, z3⟩ hft.1 (by have := hft.2; omega)
            rw [hxc] at hfr ⊢
            clear hxc
            have hq1 : w.heap.size ≤ w1.heap.size := (KV.trans k1 (fun _ h _ => h)).size
            clear HOV KV hBV k1
            go_wp2_with fail
            refine hfr.mono ?_
            rintro e w3 hp3
            clear hfr
            by_cases hP : frameP ⟨z1, z2, z3⟩
            · obtain ⟨a3, c3, rfl, o3, k3, -⟩ := hp3.1 hP
              have K3 := KW.trans k3 (fun _ h _ => h)
              have HO3 := HOW.keepsN k3
              have B3 := k3.blk BE (fun h => h)
              have hl2 : ((b.drop q).take (12 + N)).length = q + 12 + N - q := by rw [List.length_take, List.length_drop, HN.out]; omega
              have heq := jequal_any w3 c3 (c - q) rfl hl2 (own8_at o3) (bytesAt_take (hBW.keeps k3 (fun _ _ h => h)) q (12 + N))
              have HL2 := shut hl2
              clear hp3 hl2 o3 HOW KW hBW BE ka
              obtain ⟨Z2, hZ2⟩ : ∃ Z2, (frameE ⟨z1, z2, z3⟩ == (b.drop q).take (12 + N)) = Z2 := ⟨_, rfl⟩
              rw [hZ2] at heq
              have HZ2 := shut hZ2
              clear hZ2
              generalize (frameE ⟨z1, z2, z3⟩).length = LE at *
              have hcq2 : ¬ c = q := by omega
              obtain ⟨x1, x2⟩ := jblk_mid B3 (n := 3) rfl
              go_wp2_with fail
              refine heq.mono ?_
              rintro e w4 ⟨rfl, rfl⟩
              clear heq
              cases Z2 with
              | false =>
                have hst : Shut (stepE (b.drop q) = none) := shut (stepE_bad (by rw [HB4.out, HDD.out, HBD.out]; exact hye.out) (fun h => by have h1 := HZ2.out; rw [h.2, HB4.out, beq_self_eq_true] at h1; cases h1))
                clear HB4 HDD HBD HL1 hye HZ2
                go_wp2_with fail
                go_ret2
                exact HEND.out L o cap q _ HS.out hst.out HO3 K3 HF.out
              | true =>
                have hst : Shut (stepE (b.drop q) = some ⟨z1, z2, z3⟩) := shut (stepE_yes (by rw [List.length_drop, HN.out, HB4.out]; omega) (by rw [HB4.out, HDD.out, HBD.out]; exact hye.out) ⟨hP, by rw [HB4.out]; simpa using HZ2.out⟩)
                have HS2 : Shut (scanE b = ((L ++ [⟨z1, z2, z3⟩]) ++ (scanE (b.drop (q + 12 + N))).1, q + 12 + N + (scanE (b.drop (q + 12 + N))).2)) := shut (by
                  have h1 := HS.out
                  rw [scanE_some hst.out, List.drop_drop] at h1
                  have h2 : lenE (b.drop q) = 12 + N := by unfold lenE; rw [HB4.out]
                  rw [h2, ← Nat.add_assoc] at h1
                  rw [h1]
                  simp [Nat.add_assoc])
                clear HB4 HDD HBD HL1 hye HZ2 hst HS
                have ka2 : Keeps Nothing w4 (w4.alloc (.cells #[.int .i64 z1, .int .i64 z2, .string ⟨z3.toArray⟩] 23)) := (Keeps.refl Nothing w4).alloc _
                have BD := blk_new w4 #[.int .i64 z1, .int .i64 z2, .string ⟨z3.toArray⟩] 23
                go_wp2_with (at_builtin; refine wpList_appE _ rfl (.tmp 80) (.tmp 82) rfl o cap L L.length rfl rfl (HO3.keepsN ka2) w4.heap.size _ ⟨z1, z2, z3⟩ rfl rfl BD (by omega) ?_)
                intro o5 c5 w5 HO5 k5 m5
                have K5 : Keeps Nothing w w5 := (K3.trans ka2 (fun _ h _ => h)).trans k5 (fun i hi hlt => by have := HF.out i hi; omega)
                have HF5 := shut (m5.new (by have := K3.size; omega) HF.out)
                clear k5 m5 BD ka2 HO3 K3 B3
                go_wp2_with fail
                go_roundw
                case rel => exact ⟨L ++ [⟨z1, z2, z3⟩], o5, c5, q + 12 + N, by simp, by go_num, by omega, by simp; omega, by rw [List.map_append]; exact HO5, K5, HF5, HS2⟩
                case measure => simp [intOf]; omega
            · have hst : Shut (stepE (b.drop q) = none) := shut (stepE_bad (by rw [HB4.out, HDD.out, HBD.out]; exact hye.out) (fun h => hP h.1))
              obtain ⟨ev, rfl, hev, -, k3⟩ := hp3.2 hP
              obtain ⟨be, rfl⟩ := isErr_yes hev (by decide)
              clear hp3 HB4 HDD HBD HL1 hye
              go_wp2_with fail
              go_ret2
              exact HEND.out L o cap q _ HS.out hst.out (HOW.keepsN k3) (KW.trans k3 (fun _ h _ => h)) HF.out
      · have hst : Shut (stepE (b.drop q) = none) := shut (stepE_short (by rw [List.length_drop, HN.out, HB4.out]; omega))
        have hng : (n : Int) - q - 12 < (N : Int) := by omega
        go_wp2_with fail
        go_ret2
        exact HEND.out L o cap q _ HS.out hst.out HOV KV HF.out
    · have hst : Shut (stepE (b.drop q) = none) := shut (stepE_short (by rw [List.length_drop, HN.out]; omega))
      have hlt : ¬ (12 : Int) ≤ (n : Int) - q := by omega
      go_wp2_with fail
      go_ret2
      exact HEND.out L o cap q wr HS.out hst.out HO K HF.out

end Go.Proofs.YteifmkfkekglpaaDoor

namespace Go.Proofs.YteifmkfkekglpaaDoor
open Go.RowKit

/-- A journal at block q over the disk at block p. -/
structure Jr (w : World) (q p : Nat) (o : Option Addr) (cap : Nat) (L : List EntT) : Prop where
  blk : Blk w q #[.pointer (some ⟨p, 0, none⟩), .slice o L.length cap] 82
  own : OwnC w 23 3 o cap (L.map EntT.cells)
theorem Jr.keeps {S : Nat → Prop} {w w' : World} {q p : Nat} {o : Option Addr} {cap : Nat} {L : List EntT} (h : Jr w q p o cap L) (k : Keeps S w w') (hp : ¬ S q) (ha : ∀ g, blockOf o = some g → ¬ S g) : Jr w' q p o cap L :=
  ⟨k.blk h.blk hp, h.own.keeps k ha⟩
theorem Jr.keepsN {w w' : World} {q p : Nat} {o : Option Addr} {cap : Nat} {L : List EntT} (h : Jr w q p o cap L) (k : Keeps Nothing w w') : Jr w' q p o cap L := h.keeps k (fun h => h) (fun _ _ h => h)
/-- What the disk holds behind Open. -/
def openD (d : DkS) : DkS := { d with bs := d.bs.take (scanE d.bs).2, sy := if (scanE d.bs).2 < d.bs.length then (scanE d.bs).2 else d.sy }
def OpenPost (w : World) (p : Nat) (ao : Option Addr) (d : DkS) (e : Ending) (w' : World) : Prop :=
  ∃ q o cap ao' cap', e = .returned (.tuple #[.pointer (some ⟨q, 0, none⟩), .nilIface]) ∧ Jr w' q p o cap (scanE d.bs).1 ∧ Dk w' p ao' cap' (openD d) ∧ Keeps (WrF p ao) w w' ∧ Moved w.heap.size ao ao' ∧ w.heap.size ≤ q ∧ ∀ g, blockOf o = some g → w.heap.size ≤ g

theorem open_nil (w : World) : Calls Tryd.prog 15 #[.pointer none] w fun e w' => ∃ ev, e = .returned (.tuple #[.pointer none, ev]) ∧ IsErr w.heap.size w' ev 1 0 ∧ Keeps Nothing w w' := by
  go_enter Tryd.func15, Tryd.ntmps15
  go_wp2_with fail
  refine (new_err 1 0 _ rfl).mono ?_
  rintro e w' ⟨rfl, rfl⟩
  go_wp2_with fail
  go_ret2
  exact ⟨_, rfl, isErr_new w 1 0 rfl, (Keeps.refl _ _).alloc _⟩

set_option maxRecDepth 100000 in
set_option maxHeartbeats 2000000 in
theorem open_any {w : World} {p : Nat} {ao : Option Addr} {cap : Nat} {d : DkS} (h : Dk w p ao cap d) (hd : d.dn = false) (hl : d.bs.length ≤ 5000) : Calls Tryd.prog 15 #[.pointer (some ⟨p, 0, none⟩)] w (OpenPost w p ao d) := by
  have HD := shut hd
  clear hd
  go_enter Tryd.func15, Tryd.ntmps15
  go_wp2_with fail
  refine (disk_read h).mono ?_
  rintro e w1 hr
  obtain ⟨a1, c1, rfl, o1, k1, f1⟩ := hr.2 HD.out
  have hsc := scan_any (c := c1) (n := d.bs.length) rfl (own8_at o1) (jown8_spot o1) hl (own8_cap o1).1
  have h1 := h.keepsN k1
  clear hr o1
  go_wp2_with fail
  refine hsc.mono ?_
  rintro e w2 ⟨o, c2, rfl, O2, k2, f2⟩
  have h2 := h1.keepsN k2
  have K2 := k1.trans k2 (fun _ h _ => h)
  have hbd := scanE_bd _ d.bs (Nat.le_refl _)
  have f2' : ∀ g, blockOf o = some g → w.heap.size ≤ g := fun g hg => by have := f2 g hg; have := k1.size; omega
  clear hsc h1 f1 f2 k1 k2
  have hfin : ∀ (W : World) (a' : Option Addr) (c' : Nat), Dk W p a' c' (openD d) → OwnC W 23 3 o c2 ((scanE d.bs).1.map EntT.cells) → Keeps (WrF p ao) w W → Moved w.heap.size ao a' →
      OpenPost w p ao d (.returned (.tuple #[.pointer (some ⟨W.heap.size, 0, none⟩), .nilIface])) (W.alloc (.cells #[.pointer (some ⟨p, 0, none⟩), .slice o (scanE d.bs).1.length c2] 82)) := fun W a' c' hk ho K hm => by
    have ka : Keeps Nothing W (W.alloc (.cells #[.pointer (some ⟨p, 0, none⟩), .slice o (scanE d.bs).1.length c2] 82)) := (Keeps.refl Nothing W).alloc _
    exact ⟨W.heap.size, o, c2, a', c', rfl, ⟨blk_new _ _ _, ho.keepsN ka⟩, hk.keepsN ka, K.trans ka (fun _ h _ => h.elim), hm, K.size, f2'⟩
  have HFIN := shut hfin
  clear hfin
  by_cases hlt : (scanE d.bs).2 < d.bs.length
  · have hcut := disk_cut h2 ((scanE d.bs).2 : Nat)
    have hD : d.cut ((scanE d.bs).2 : Nat) = (0, openD d) := by
      unfold DkS.cut openD
      rw [if_neg (by rw [HD.out]; decide), if_neg (by omega), if_pos hlt, Int.toNat_natCast]
    rw [hD] at hcut
    have hlt' : ((scanE d.bs).2 : Int) < d.bs.length := by omega
    clear hlt hD
    go_wp2_with fail
    refine hcut.mono ?_
    rintro e w3 ⟨ev, rfl, hev, a3, c3, h3, k3, m3⟩
    obtain rfl := isErr_no hev
    have O3 := O2.keeps k3 (fun g hg hx => by
      rcases hx with hx | hx
      · subst hx; have := f2' _ hg; have := h.lt.1; omega
      · have := f2' _ hg; have := h.lt.2 _ hx; omega)
    clear hcut hev
    go_wp2_with fail
    go_ret2
    exact HFIN.out w3 a3 c3 h3 O3 (((Keeps.refl (WrF p ao) w).trans K2 (fun _ h _ => h.elim)).trans k3 (fun _ h _ => h)) (m3.mono K2.size)
  · have hlt' : ¬ ((scanE d.bs).2 : Int) < d.bs.length := by omega
    have he : openD d = d := by
      unfold openD
      rw [if_neg hlt, List.take_of_length_le (by omega)]
    go_wp2_with fail
    go_ret2
    exact HFIN.out w2 ao cap (by rw [he]; exact h2) O2 ((Keeps.refl (WrF p ao) w).trans K2 (fun _ h _ => h.elim)) (Moved.refl _ _)

end Go.Proofs.YteifmkfkekglpaaDoor
