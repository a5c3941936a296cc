/- A net's calls as arguments; both nets side by side. -/
import Derived.Test.YteifmkfkekglpaaNet11
import Derived.Test.YteifmkfkekglpaaNet14
import Derived.Test.YteifmkfkekglpaaNet16
namespace Go.Proofs.Yteifmkfkekglpaa
open Go.RowKit Go.ChangeShapes Go.WideShapes

structure NOp where
  kind : Int
  k : Int
  d : MsgD
instance : Inhabited NOp := ⟨⟨0, 0, default⟩⟩
def NOp.cells (o : NOp) : List Value := .int .i64 o.kind :: .int .i64 o.k :: o.d.cells
structure NOp.Ok (w : World) (o : NOp) : Prop where
  d : o.d.Ok w
  k0 : -9223372036854775808 ≤ o.kind
  k1 : o.kind < 9223372036854775808
theorem NOp.Ok.len {w : World} {o : NOp} (h : o.Ok w) : o.cells.length = 43 := by unfold NOp.cells; rw [List.length_cons, List.length_cons, h.d.len]
theorem NOp.Ok.keepsN {w w' : World} {o : NOp} (h : o.Ok w) (k : Keeps Nothing w w') : o.Ok w' := ⟨h.d.keepsN k, h.k0, h.k1⟩
theorem NOp.Ok.one {w : World} {o : NOp} (h : o.Ok w) : ∀ u ∈ o.cells, u.oneCell' = true := by
  intro u hu
  unfold NOp.cells at hu
  rcases List.mem_cons.1 hu with rfl | hu
  · rfl
  · rcases List.mem_cons.1 hu with rfl | hu
    · rfl
    · exact h.d.one u hu
def NOpsAt (w : World) (ao : Option Addr) (l : List NOp) : Prop :=
  (ao = none → l = []) ∧ ∀ a, ao = some a → ∀ j d, l[j]? = some d → a.spot = none ∧ d.Ok w ∧ w.rangeAt a.block (a.off + j * 43) d.cells
theorem NOpsAt.keepsN {w w' : World} {ao : Option Addr} {l : List NOp} (h : NOpsAt w ao l) (k : Keeps Nothing w w') : NOpsAt w' ao l :=
  ⟨h.1, fun a e j x hx => ⟨(h.2 a e j x hx).1, (h.2 a e j x hx).2.1.keepsN k, rangeAt_keeps (h.2 a e j x hx).2.2 k (fun h => h)⟩⟩
theorem NOpsAt.head {w : World} {ao : Option Addr} {l : List NOp} (h : NOpsAt w ao l) (h1 : 1 ≤ l.length) : ∃ b o, ao = some ⟨b, o, none⟩ := by
  cases ao with
  | none => rw [h.1 rfl] at h1; simp at h1
  | some a =>
    obtain ⟨hs0, _⟩ := h.2 a rfl 0 l[0] (List.getElem?_eq_getElem (by omega))
    obtain ⟨b, o, s⟩ := a
    simp only at hs0
    subst hs0
    exact ⟨b, o, rfl⟩

section
variable {H : Type} {enc : TypeId × Value → H} {w W : World} {base : Nat} {spare : Nat → Bool} {held : Bool}
theorem cellsNOp : Try.prog.cellsOf 51 = 43 := by kernel_rfl
theorem trod_nop {fuel : Nat} {cs : List Value} {x : DataW H × List MemPlace} (h : DataW.trod enc Try.prog w base spare held fuel 51 cs = some x) : ∃ d : NOp, cs = d.cells ∧ d.Ok w := by
  obtain ⟨xs, n, rfl, rfl, hlen, hxs, hf⟩ := DataW.trod_struct Try.underlying51 h
  rw [cellsNOp] at hlen
  have hx : xs.length = 3 := hxs
  have g : ∀ i (hi : i < 3), xs[i]? = some (xs[i]'(by omega)) := fun i hi => List.getElem?_eq_getElem (by omega)
  have f0 : DataW.trod enc Try.prog w base spare held n 3 ((cs.drop 0).take 1) = some (xs[0]'(by omega)) := by
    have h := (hf 0 _ rfl).trans (g 0 (by omega))
    exact (cellsInt9 ▸ h : _)
  have f1 : DataW.trod enc Try.prog w base spare held n 3 ((cs.drop 1).take 1) = some (xs[1]'(by omega)) := by
    have h := (hf 1 _ rfl).trans (g 1 (by omega))
    exact (cellsInt9 ▸ h : _)
  have f2 : DataW.trod enc Try.prog w base spare held n 26 ((cs.drop 2).take 41) = some (xs[2]'(by omega)) := by
    have h := (hf 2 _ rfl).trans (g 2 (by omega))
    exact (cellsMsg ▸ h : _)
  obtain ⟨kd, e0, _, w0⟩ := DataW.trod_int Try.underlying3 f0
  obtain ⟨k, e1, _, w1⟩ := DataW.trod_int Try.underlying3 f1
  obtain ⟨d, hd, hok⟩ := trod_msgD f2
  have b0 := bounds_i64 w0
  refine ⟨⟨kd, k, d⟩, ?_, ⟨hok, b0.1, by show kd < _; omega⟩⟩
  have d2 : cs.drop 2 = d.cells := by rw [← hd, List.take_of_length_le (by rw [List.length_drop]; omega)]
  have := take1 e0
  rw [take1 e1, d2, List.drop_zero] at this
  exact this
theorem open_nops {fuel : Nat} {v : Value} {ao : Option Addr} {len cap : Nat} {x : DataW H × List MemPlace} (hv : v = .slice ao len cap) (h : DataW.trod enc Try.prog w base spare held fuel 44 v.cells.toList = some x) :
    ∃ l : List NOp, l.length = len ∧ NOpsAt w ao l ∧ len ≤ cap ∧ cap ≤ maxLen := by
  subst hv
  rcases Deep.open_slice Try.underlying44 h with ⟨hcs, _⟩ | ⟨a, len', cap', m, n, D, Pl, hcs, hb, hl, hm, hmm, hx, hel⟩
  · simp [Value.cells] at hcs
    obtain ⟨rfl, rfl, rfl⟩ := hcs
    exact ⟨[], rfl, ⟨fun _ => rfl, fun a e => by simp at e⟩, Nat.le_refl _, Nat.zero_le _⟩
  · simp [Value.cells] at hcs
    obtain ⟨rfl, rfl, rfl⟩ := hcs
    have hlm : len ≤ m := by rw [hmm]; split <;> omega
    have hel' : ∀ i, i < m → ∃ cs', w.cells? base (a.add (i * 43)) 43 = some cs' ∧ DataW.trod enc Try.prog w base spare held n 51 cs' = some (D i, Pl i) := fun i hi => by
      obtain ⟨cs', hc, ht⟩ := hel i hi
      rw [cellsNOp] at hc
      exact ⟨cs', hc, ht⟩
    have hspot : 0 < len → a.spot = none := by
      intro h0
      obtain ⟨cs', hc, ht⟩ := hel' 0 (by omega)
      obtain ⟨_, hlen, hcell⟩ := World.cells?_some hc
      obtain ⟨d, rfl, hd⟩ := trod_nop ht
      have h1 : w.cell? ((a.add 0).add 0) = some (.int .i64 d.kind) := hcell 0 (by omega)
      have hs0 := World.cell?_spot h1
      rw [Deep.add_add] at hs0
      unfold Addr.add at hs0
      simpa using hs0
    have hex : ∀ i, i < len → ∃ d : NOp, a.spot = none ∧ d.Ok w ∧ w.rangeAt a.block (a.off + i * 43) d.cells := by
      intro i hi
      obtain ⟨cs', hc, ht⟩ := hel' i (by omega)
      obtain ⟨_, hlen, hcell⟩ := World.cells?_some hc
      obtain ⟨d, rfl, hd⟩ := trod_nop ht
      have hsp := hspot (by omega)
      refine ⟨d, hsp, hd, fun j v hj => ?_⟩
      have hjl : j < 43 := by
        have := (List.getElem?_eq_some_iff.1 hj).1
        rw [hd.len] at this; exact this
      have := hcell j hjl
      rw [Deep.add_add, ad_add a hsp, hj, ← Nat.add_assoc] at this
      exact this
    obtain ⟨f, hf⟩ := Deep.choose_lt hex
    refine ⟨(List.range len).map f, by simp, ⟨fun e => by simp at e, fun a' e i o hi => ?_⟩, hl, hm⟩
    obtain rfl := Option.some.inj e
    rw [List.getElem?_map] at hi
    by_cases hlt : i < len
    · rw [List.getElem?_range hlt] at hi
      obtain rfl := Option.some.inj hi
      exact hf i hlt
    · rw [List.getElem?_eq_none (by simp; omega)] at hi
      cases hi
end

/-! ### both nets -/
theorem NT.aside {S : Nat → Prop} {w0 w w' : World} {p : Nat} {L : List Row8} {sent : Int} (h : NT w0 w p L sent) (k : Keeps S w w') (h0 : ∀ i, S i → w0.heap.size ≤ i) (hT : ∀ i, S i → ∃ cur t, Blk w i cur t ∧ t ≠ 98 ∧ t ≠ 27 ∧ t ≠ 5) : NT w0 w' p L sent := by
  obtain ⟨ao, cap, hN, K, h1, h2, h3⟩ := h
  refine ⟨ao, cap, hN.keeps k (fun hp => ?_) (fun g hg hp => ?_) (fun x hx hp => ?_), K.trans k (fun i hi hlt => by have := h0 i hi; omega), h1, h2, h3⟩
  · obtain ⟨cur, t, hb, t1, t2, t3⟩ := hT p hp
    have := hN.blk.symm.trans hb
    simp at this
    exact t1 this.2.symm
  · obtain ⟨cur, t, hb, t1, t2, t3⟩ := hT g hp
    exact hN.row.ne hb (fun e => t2 e.symm) hg
  · obtain ⟨cur, t, hb, t1, t2, t3⟩ := hT x.1 hp
    exact own8_ne (hN.each x hx) hb (fun e => t3 e.symm) rfl
/-- The document's net, made since w0, all of it below B. -/
def RNT (w0 : World) (B : Nat) (w : World) (q : Nat) (LS : List (List UInt8)) (sent : Int) : Prop :=
  ∃ ar cr, RNet w q ar cr LS sent ∧ (w0.heap.size ≤ q ∧ q < B) ∧ ∀ g, blockOf ar = some g → w0.heap.size ≤ g ∧ g < B
/-- Only the document's net's blocks were written to, and they lie between w0 and B. -/
def AsideR (w0 : World) (B : Nat) (w w' : World) : Prop := ∃ S : Nat → Prop, Keeps S w w' ∧ ∀ i, S i → w0.heap.size ≤ i ∧ i < B ∧ ∃ cur t, Blk w i cur t ∧ (t = 49 ∨ t = 9)
theorem AsideR.size {w0 w w' : World} {B : Nat} (a : AsideR w0 B w w') : w.heap.size ≤ w'.heap.size := by obtain ⟨S, k, _⟩ := a; exact k.size
theorem AsideR.ofN {w0 w w' : World} (B : Nat) (k : Keeps Nothing w w') : AsideR w0 B w w' := ⟨Nothing, k, fun _ h => h.elim⟩
theorem AsideR.nt {w0 w w' : World} {B p : Nat} {L : List Row8} {sent : Int} (a : AsideR w0 B w w') (h : NT w0 w p L sent) : NT w0 w' p L sent := by
  obtain ⟨S, k, hS⟩ := a
  refine h.aside k (fun i hi => (hS i hi).1) (fun i hi => ?_)
  obtain ⟨_, _, cur, t, hb, ht⟩ := hS i hi
  rcases ht with rfl | rfl
  · exact ⟨cur, _, hb, by decide, by decide, by decide⟩
  · exact ⟨cur, _, hb, by decide, by decide, by decide⟩
theorem AsideR.err {w0 w w' : World} {B B' : Nat} {v : Value} {c p : Int} (a : AsideR w0 B w w') (h : IsErr B' w v c p) (hB : B ≤ B') : IsErr B' w' v c p := by
  obtain ⟨S, k, hS⟩ := a
  exact h.keeps k (fun i hi => Nat.lt_of_lt_of_le (hS i hi).2.1 hB)
theorem AsideR.blk {w0 w w' : World} {B : Nat} (a : AsideR w0 B w w') {g : Nat} {cs : Array Value} {t : TypeId} (h : Blk w g cs t) (h1 : t ≠ 49) (h2 : t ≠ 9) : Blk w' g cs t := by
  obtain ⟨S, k, hS⟩ := a
  refine k.blk h (fun hs => ?_)
  obtain ⟨_, _, cur, u, hb, ht⟩ := hS g hs
  have := hb.symm.trans h
  simp at this
  rcases ht with rfl | rfl
  · exact h1 this.2.symm
  · exact h2 this.2.symm
theorem AsideR.own8 {w0 w w' : World} {B : Nat} (a : AsideR w0 B w w') {b c : Nat} {l : List UInt8} (h : Own8 w 5 (some ⟨b, 0, none⟩) c l) : Own8 w' 5 (some ⟨b, 0, none⟩) c l := by
  obtain ⟨S, k, hS⟩ := a
  refine k.own h (fun g hg hs => ?_)
  rw [ownBlock_eq] at hg
  obtain ⟨_, _, cur, u, hb, ht⟩ := hS g hs
  rcases ht with rfl | rfl
  · exact own8_ne h hb (by decide) hg
  · exact own8_ne h hb (by decide) hg
theorem RNT.other {w0 w w' : World} {B q : Nat} {LS : List (List UInt8)} {sent : Int} (h : RNT w0 B w q LS sent) (o : Other w w') : RNT w0 B w' q LS sent := by
  obtain ⟨ar, cr, hR, h1, h2⟩ := h
  refine ⟨ar, cr, ⟨o.2 _ _ _ hR.blk (by decide) (by decide), ⟨hR.row.le, hR.row.max, hR.row.one, ?_⟩⟩, h1, h2⟩
  rcases hR.row.at' with h3 | ⟨g, oo, cur, h3, h4, h5⟩
  · exact .inl h3
  · exact .inr ⟨g, oo, cur, h3, o.2 _ _ _ h4 (by decide) (by decide), h5⟩
theorem RNT.keepsN {w0 w w' : World} {B q : Nat} {LS : List (List UInt8)} {sent : Int} (h : RNT w0 B w q LS sent) (k : Keeps Nothing w w') : RNT w0 B w' q LS sent := h.other (.of k)
theorem RNT.mono {w0 w : World} {B B' q : Nat} {LS : List (List UInt8)} {sent : Int} (h : RNT w0 B w q LS sent) (hB : B ≤ B') : RNT w0 B' w q LS sent := by
  obtain ⟨ar, cr, hR, h1, h2⟩ := h
  exact ⟨ar, cr, hR, ⟨h1.1, by omega⟩, fun g hg => ⟨(h2 g hg).1, by have := (h2 g hg).2; omega⟩⟩
theorem RNT.far {w0 w w' : World} {B q b c : Nat} {LS : List (List UInt8)} {l : List UInt8} {sent : Int} (h : RNT w0 B w q LS sent) (ho : Own8 w 5 (some ⟨b, 0, none⟩) c l) (k : Keeps (fun i => i = b) w w') : RNT w0 B w' q LS sent := by
  obtain ⟨ar, cr, hR, h1, h2⟩ := h
  refine ⟨ar, cr, hR.keeps k (fun e => ?_) (fun g hg e => ?_), h1, h2⟩
  · exact own8_ne ho hR.blk (by decide) (congrArg some e.symm)
  · subst e
    rcases hR.row.at' with ⟨h3, _⟩ | ⟨g', oo, cur, h3, h4, h5⟩
    · rw [h3] at hg; cases hg
    · rw [h3] at hg
      obtain rfl := Option.some.inj hg
      exact own8_ne ho h4 (by decide) rfl
theorem NT.far {w0 w w' : World} {p b c : Nat} {L : List Row8} {l : List UInt8} {sent : Int} (h : NT w0 w p L sent) (ho : Own8 w 5 (some ⟨b, 0, none⟩) c l) (hb : w0.heap.size ≤ b) (hx : ∀ y ∈ L, y.1 ≠ b) (k : Keeps (fun i => i = b) w w') : NT w0 w' p L sent := by
  obtain ⟨ao, cap, hN, K, h1, h2, h3⟩ := h
  refine ⟨ao, cap, hN.keeps k (fun e => ?_) (fun g hg e => ?_) hx, K.trans k (fun i hi hlt => by omega), h1, h2, h3⟩
  · exact own8_ne ho hN.blk (by decide) (congrArg some e.symm)
  · exact hN.row.ne8 ho (by rw [hg, e])
theorem nodup_apart {L : List Row8} {x : Row8} {J : Nat} (h : (L.map (·.1)).Nodup) (hx : L[J]? = some x) : ∀ y ∈ L.eraseIdx J, y.1 ≠ x.1 := by
  intro y hy e
  obtain ⟨i, hi⟩ := List.getElem?_of_mem hy
  rw [List.getElem?_eraseIdx] at hi
  have key : ∀ j, j ≠ J → L[j]? = some y → False := fun j hj hyj => by
    have a1 : (L.map (·.1))[j]? = some y.1 := by rw [List.getElem?_map, hyj]; rfl
    have a2 : (L.map (·.1))[J]? = some x.1 := by rw [List.getElem?_map, hx]; rfl
    rw [e] at a1
    obtain ⟨b1, -⟩ := List.getElem?_eq_some_iff.1 a1
    exact hj ((List.getElem?_inj b1 h).1 (a1.trans a2.symm))
  split at hi
  · exact key i (by omega) hi
  · exact key (i + 1) (by omega) hi
theorem nt_apart {w0 w : World} {p J : Nat} {L : List Row8} {sent : Int} (h : NT w0 w p L sent) {x : Row8} (hx : L[J]? = some x) : (∀ y ∈ L.eraseIdx J, y.1 ≠ x.1) ∧ w0.heap.size ≤ x.1 := by
  obtain ⟨ao, cap, hN, K, h1, h2, h3⟩ := h
  exact ⟨nodup_apart hN.dis hx, h3 x (List.mem_of_getElem? hx)⟩

section
variable {w0 w : World} {B q : Nat} {LS : List (List UInt8)} {sent : Int}
theorem rt_aside {w' : World} {ar : Option Addr} {cr : Nat} (hR : RNet w q ar cr LS sent) (h1 : w0.heap.size ≤ q ∧ q < B) (h2 : ∀ g, blockOf ar = some g → w0.heap.size ≤ g ∧ g < B) (k : Keeps (fun i => i = q ∨ blockOf ar = some i) w w') : AsideR w0 B w w' := by
  refine ⟨_, k, fun i hi => ?_⟩
  rcases hi with rfl | hi
  · exact ⟨h1.1, h1.2, _, _, hR.blk, .inl rfl⟩
  · rcases hR.row.at' with ⟨h3, _⟩ | ⟨g, oo, cur, h3, h4, h5⟩
    · rw [h3] at hi; cases hi
    · have hi' := hi
      rw [h3] at hi'
      obtain rfl := Option.some.inj hi'
      exact ⟨(h2 _ hi).1, (h2 _ hi).2, cur, _, h4, .inr rfl⟩
theorem rt_send (h : RNT w0 B w q LS sent) (hB : B ≤ w.heap.size) (hw : w0.heap.size ≤ B) (s0 : 0 ≤ sent) (s1 : sent < 1000000000) (hl : LS.length < 4096) {C : Array Value} {m : MsgT} {am : Option Addr} {cm : Nat} (hC : MsgC C m am cm) (hM : MsgAt w m am cm) (hS : MsgSmall m) (hy : mayP m) :
    Calls Try.prog 19 #[.pointer (some ⟨q, 0, none⟩), .agg C] w fun e w' => e = .returned (.int .i64 0) ∧ RNT w0 w'.heap.size w' q (LS ++ [encMsg m]) (sent + 1) ∧ AsideR w0 B w w' := by
  obtain ⟨ar, cr, hR, h1, h2⟩ := h
  refine (rnet_send hR s0 s1 (by omega) hC hM hS).mono fun e w' hp => ?_
  obtain ⟨ar', cr', he, hR', k, hm⟩ := hp.1 hy hl
  exact ⟨he, ⟨ar', cr', hR', ⟨h1.1, lt_of_block hR'.blk⟩, fun g hg => ⟨hm.new (by omega) (fun g hg => (h2 g hg).1) g hg, hR'.row.lt hg⟩⟩, rt_aside hR h1 h2 k⟩
theorem rt_bad (h : RNT w0 B w q LS sent) (s0 : 0 ≤ sent) (s1 : sent < 1000000000) (hl : LS.length < 4096) {C : Array Value} {m : MsgT} {am : Option Addr} {cm : Nat} (hC : MsgC C m am cm) (hM : MsgAt w m am cm) (hS : MsgSmall m) (hy : ¬ mayP m) :
    Calls Try.prog 19 #[.pointer (some ⟨q, 0, none⟩), .agg C] w fun e w' => e = .returned (.int .i64 1) ∧ RNT w0 B w' q LS sent ∧ AsideR w0 B w w' := by
  have h0 := h
  obtain ⟨ar, cr, hR, h1, h2⟩ := h
  refine (rnet_send hR s0 s1 (by omega) hC hM hS).mono fun e w' hp => ?_
  obtain ⟨he, k⟩ := hp.2.1 hy
  exact ⟨he, h0.keepsN k, .ofN B k⟩
theorem rt_take (h : RNT w0 B w q LS sent) (hB : B ≤ w.heap.size) (hw : w0.heap.size ≤ B) (k : Int) (hn : 0 < LS.length) (hl : LS.length ≤ 1000000) {x : List UInt8} (hx : LS[placeN k LS.length]? = some x) :
    Calls Try.prog 23 #[.pointer (some ⟨q, 0, none⟩), .int .i64 k] w fun e w' => e = .returned (.tuple #[.string ⟨x.toArray⟩, .int .i64 0]) ∧ RNT w0 w'.heap.size w' q (LS.eraseIdx (placeN k LS.length)) sent ∧ AsideR w0 B w w' := by
  obtain ⟨ar, cr, hR, h1, h2⟩ := h
  refine (rnet_take hR k hn hl hx).mono fun e w' hp => ?_
  obtain ⟨ar', cr', he, hR', k', hf⟩ := hp
  exact ⟨he, ⟨ar', cr', hR', ⟨h1.1, lt_of_block hR'.blk⟩, fun g hg => ⟨by have := hf g hg; omega, hR'.row.lt hg⟩⟩, rt_aside hR h1 h2 k'⟩
theorem rt_take0 (h : RNT w0 B w q [] sent) (k : Int) :
    Calls Try.prog 23 #[.pointer (some ⟨q, 0, none⟩), .int .i64 k] w fun e w' => e = .returned (.tuple #[.string ⟨#[]⟩, .int .i64 10]) ∧ w' = w := by
  obtain ⟨ar, cr, hR, _⟩ := h
  exact rnet_take0 hR k
theorem rt_double (h : RNT w0 B w q LS sent) (hB : B ≤ w.heap.size) (hw : w0.heap.size ≤ B) (k : Int) (hn : 0 < LS.length) (hl : LS.length < 4096) {x : List UInt8} (hx : LS[placeN k LS.length]? = some x) :
    Calls Try.prog 21 #[.pointer (some ⟨q, 0, none⟩), .int .i64 k] w fun e w' => e = .returned (.int .i64 0) ∧ RNT w0 w'.heap.size w' q (LS ++ [x]) sent ∧ AsideR w0 B w w' := by
  obtain ⟨ar, cr, hR, h1, h2⟩ := h
  refine (rnet_double hR k hn hl hx).mono fun e w' hp => ?_
  obtain ⟨ar', cr', he, hR', k', hm⟩ := hp
  exact ⟨he, ⟨ar', cr', hR', ⟨h1.1, lt_of_block hR'.blk⟩, fun g hg => ⟨hm.new (by omega) (fun g hg => (h2 g hg).1) g hg, hR'.row.lt hg⟩⟩, rt_aside hR h1 h2 k'⟩
theorem rt_double0 (h : RNT w0 B w q [] sent) (k : Int) :
    Calls Try.prog 21 #[.pointer (some ⟨q, 0, none⟩), .int .i64 k] w fun e w' => e = .returned (.int .i64 10) ∧ w' = w := by
  obtain ⟨ar, cr, hR, _⟩ := h
  exact rnet_double0 hR k
end

end Go.Proofs.Yteifmkfkekglpaa
