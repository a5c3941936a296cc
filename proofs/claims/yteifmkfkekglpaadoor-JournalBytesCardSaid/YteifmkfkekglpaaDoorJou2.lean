/- journal.Frame; entries. -/
import Derived.Test.YteifmkfkekglpaaDoorJou1
import Derived.Test.YteifmkfkekglpaaDoorAs5
namespace Go.Proofs.YteifmkfkekglpaaDoor
open Go.RowKit

structure EntT where
  crate : Int
  epoch : Int
  data : List UInt8
instance : Inhabited EntT := ⟨⟨0, 0, []⟩⟩
def EntT.cells (e : EntT) : List Value := [.int .i64 e.crate, .int .i64 e.epoch, .string ⟨e.data.toArray⟩]
/-- Its numbers are Go's. -/
structure EntT.Fit (e : EntT) : Prop where
  c0 : -9223372036854775808 ≤ e.crate
  c1 : e.crate < 9223372036854775808
  p0 : -9223372036854775808 ≤ e.epoch
  p1 : e.epoch < 9223372036854775808
def frameP (e : EntT) : Prop := -2 ≤ e.crate ∧ e.crate < 64 ∧ 0 ≤ e.epoch ∧ e.epoch ≤ 1099511627776 ∧ e.data.length ≤ 4194304
instance (e : EntT) : Decidable (frameP e) := by unfold frameP; infer_instance
def encE (e : EntT) : List UInt8 := encI e.crate ++ encI e.epoch ++ encS e.data
def frameE (e : EntT) : List UInt8 := frameB (encE e)
theorem encE_len (e : EntT) (he : e.Fit) (hd : e.data.length ≤ 1000000) : (encE e).length ≤ 30 + e.data.length := by
  have h1 : (encI e.crate).length ≤ 10 := encU_len10 (zig_lt e.crate he.c0 he.c1)
  have h2 : (encI e.epoch).length ≤ 10 := encU_len10 (zig_lt e.epoch he.p0 he.p1)
  have h3 := encU_len10 (show e.data.length < 18446744073709551616 by omega)
  unfold encE encS
  simp only [List.length_append]
  omega
theorem wr_keepsN {w w' : World} {p : Nat} {ao : Option Addr} {cap : Nat} {bs : List UInt8} (h : Wr w p ao cap bs) (k : Keeps Nothing w w') : Wr w' p ao cap bs := ⟨k.blk h.blk (fun h => h), k.own h.own (fun _ _ h => h)⟩

/-- A writer within a call. -/
def JW (w0 w : World) (p : Nat) (bs : List UInt8) : Prop := ∃ ao cap, Wr w p ao cap bs ∧ (∀ g, blockOf ao = some g → w0.heap.size ≤ g) ∧ Keeps (fun k => k = p) w0 w
theorem JW.keeps {w0 w : World} {p : Nat} {bs : List UInt8} (h : JW w0 w p bs) : Keeps (fun k => k = p) w0 w := h.choose_spec.choose_spec.2.2
theorem jw_of {w0 w w' : World} {p : Nat} {ao : Option Addr} {bs : List UInt8} {e : Ending} (hf : ∀ g, blockOf ao = some g → w0.heap.size ≤ g) (K : Keeps (fun k => k = p) w0 w) (h : WrPost w p ao bs e w') : e = .returned (.tuple #[]) ∧ JW w0 w' p bs := by
  obtain ⟨he, ao', cap', hW, hk, hm⟩ := h
  refine ⟨he, ao', cap', hW, hm.new K.size hf, K.trans hk (fun i hi hlt => ?_)⟩
  rcases hi with hi | hi
  · exact hi
  · have := hf i hi; omega
theorem jw_int {w0 w : World} {p : Nat} {bs : List UInt8} (h : JW w0 w p bs) (x : Int) (h0 : -9223372036854775808 ≤ x) (hx : x < 9223372036854775808) (hl : bs.length ≤ 1000000) :
    Calls Tryd.prog 30 #[.pointer (some ⟨p, 0, none⟩), .int .i64 x] w fun e w' => e = .returned (.tuple #[]) ∧ JW w0 w' p (bs ++ encI x) := by
  obtain ⟨ao, cap, hW, hf, K⟩ := h
  exact (int_any hW x h0 hx hl).mono fun _ _ hp => jw_of hf K hp
theorem jw_text {w0 w : World} {p : Nat} {bs : List UInt8} (h : JW w0 w p bs) (s : List UInt8) (hs : s.length ≤ 1000000) (hl : bs.length ≤ 900000) :
    Calls Tryd.prog 31 #[.pointer (some ⟨p, 0, none⟩), .string ⟨s.toArray⟩] w fun e w' => e = .returned (.tuple #[]) ∧ JW w0 w' p (bs ++ encS s) := by
  obtain ⟨ao, cap, hW, hf, K⟩ := h
  have := text_any hW ⟨s.toArray⟩ (by show s.toArray.size ≤ _; simpa using hs) hl
  exact this.mono fun _ _ hp => jw_of hf K hp

/-- How Frame ends. -/
def FramePost (w : World) (x : EntT) (e : Ending) (w' : World) : Prop :=
  (frameP x → ∃ a c, e = .returned (.tuple #[.slice a (frameE x).length c, .nilIface]) ∧ Own8 w' 5 a c (frameE x) ∧ Keeps Nothing w w' ∧ (∀ g, blockOf a = some g → w.heap.size ≤ g)) ∧
  (¬ frameP x → ∃ ev, e = .returned (.tuple #[.slice none 0 0, ev]) ∧ IsErr w.heap.size w' ev 1 0 ∧ FChain w' 1 [0] ev ∧ Keeps Nothing w w')

set_option maxRecDepth 100000 in
set_option maxHeartbeats 2000000 in
theorem frame_any (w : World) (x : EntT) (hx : x.Fit) (hd : x.data.length ≤ 5000) : Calls Tryd.prog 8 #[.agg x.cells.toArray] w (FramePost w x) := by
  have hFP := shut (fun (w' : World) (a : Option Addr) (c : Nat) (hy : frameP x) (h1 : Own8 w' 5 a c (frameE x)) (h2 : Keeps Nothing w w') (h3 : ∀ g, blockOf a = some g → w.heap.size ≤ g) => (⟨fun _ => ⟨a, c, rfl, h1, h2, h3⟩, fun h => absurd hy h⟩ : FramePost w x (.returned (.tuple #[.slice a (frameE x).length c, .nilIface])) w'))
  obtain ⟨cr, ep, dt⟩ := x
  have hc0 := hx.c0
  have hc1 := hx.c1
  have hp0 := hx.p0
  have hp1 := hx.p1
  have hfl : (frameE ⟨cr, ep, dt⟩).length ≤ 6000 := by
    unfold frameE
    rw [frameB_len]
    have := encE_len ⟨cr, ep, dt⟩ hx (by simp only at hd ⊢; omega)
    simp only at this hd
    omega
  have henl : (encE ⟨cr, ep, dt⟩).length ≤ 6000 := by
    have := encE_len ⟨cr, ep, dt⟩ hx (by simp only at hd ⊢; omega)
    simp only at this hd
    omega
  simp only at hc0 hc1 hp0 hp1 hd
  show Calls _ _ #[.agg #[.int .i64 cr, .int .i64 ep, .string ⟨dt.toArray⟩]] _ _
  have B := blk_new w #[.int .i64 cr, .int .i64 ep, .string ⟨dt.toArray⟩] 23
  have K := (Keeps.refl Nothing w).alloc (.cells #[.int .i64 cr, .int .i64 ep, .string ⟨dt.toArray⟩] 23)
  by_cases hy : frameP ⟨cr, ep, dt⟩
  · have hyy := hy
    unfold frameP at hyy
    simp only at hyy
    obtain ⟨y1, y2, y3, y4, y5⟩ := hyy
    have hFIN := fun w' a c h1 h2 h3 => hFP.out w' a c hy h1 h2 h3
    have HFIN := shut hFIN
    clear hFIN hFP hy
    have m1 : ¬ cr < -2 := by omega
    have m2 : ¬ (64 : Int) ≤ cr := by omega
    have m3 : ¬ ep < 0 := by omega
    have m4 : ¬ (1099511627776 : Int) < ep := by omega
    have m5 : ¬ (4194304 : Int) < dt.length := by omega
    go_enter Tryd.func8, Tryd.ntmps8
    go_wp2_with fail
    refine (newWriter_any _).mono ?_
    rintro e w1 ⟨rfl, rfl⟩
    have KW := K.trans ((Keeps.refl Nothing _).alloc (.cells #[.slice none 0 0] 92)) (fun _ h _ => h)
    have W0 := wr_new (w.alloc (.cells #[.int .i64 cr, .int .i64 ep, .string ⟨dt.toArray⟩] 23))
    have B1 := blk_alloc B (.cells #[.slice none 0 0] 92)
    have hp : (w.alloc (.cells #[.int .i64 cr, .int .i64 ep, .string ⟨dt.toArray⟩] 23)).heap.size = w.heap.size + 1 := World.size_alloc ..
    rw [hp] at W0 ⊢
    clear hp
    generalize ((w.alloc (.cells #[.int .i64 cr, .int .i64 ep, .string ⟨dt.toArray⟩] 23)).alloc (.cells #[.slice none 0 0] 92)) = w2 at *
    obtain ⟨ge, hge⟩ : ∃ g, w.heap.size = g := ⟨_, rfl⟩
    have HGE := shut hge
    rw [hge] at W0 B1 ⊢
    clear hge B K
    have c0 := blk_cell B1 0 rfl
    have P0 : JW w2 w2 (ge + 1) [] := ⟨none, 0, W0, fun g hg => (by cases hg), Keeps.refl _ _⟩
    go_wp2_with fail
    refine (jw_int P0 cr hc0 hc1 (by simp)).mono ?_
    rintro e w3 ⟨rfl, P1⟩
    have B3 := P1.keeps.blk B1 (fun h => by omega)
    have c1 := blk_cell B3 1 rfl
    have l1 : (encI cr).length ≤ 10 := encU_len10 (zig_lt cr hc0 hc1)
    have l2 : (encI ep).length ≤ 10 := encU_len10 (zig_lt ep hp0 hp1)
    rw [List.nil_append] at P1
    clear c0
    go_wp2_with fail
    refine (jw_int P1 ep hp0 hp1 (by omega)).mono ?_
    rintro e w4 ⟨rfl, P2⟩
    have B4 := P2.keeps.blk B1 (fun h => by omega)
    have c2 := blk_cell B4 2 rfl
    clear c1 B3
    go_wp2_with fail
    refine (jw_text P2 dt (by omega) (by rw [List.length_append]; omega)).mono ?_
    rintro e w5 ⟨rfl, P3⟩
    obtain ⟨E, hE⟩ : ∃ E, encE ⟨cr, ep, dt⟩ = E := ⟨_, rfl⟩
    have P3' : JW w2 w5 (ge + 1) E := by rw [← hE]; exact P3
    rw [hE] at henl
    have HE := shut hE
    clear c2 B4 P3 hE
    have KQ := P3'.keeps
    obtain ⟨aw, cw, hW, -, -⟩ := P3'
    go_wp2_with fail
    refine (bytes_any hW (by omega)).mono ?_
    rintro e w6 ⟨a6, c6, rfl, o6, k6, f6⟩
    have K6 : Keeps Nothing w w6 := (KW.trans KQ (fun i hi hlt => by have := HGE.out; omega)).trans k6 (fun _ h _ => h)
    have hfr := framed_any (n := E.length) rfl o6 (by omega)
    go_wp2_with fail
    refine hfr.mono ?_
    rintro e w7 ⟨a7, c7, rfl, o7, k7, f7⟩
    have hff : frameB E = frameE ⟨cr, ep, dt⟩ := by unfold frameE; rw [HE.out]
    rw [hff] at o7 ⊢
    go_wp2_with fail
    go_ret2
    exact HFIN.out _ _ _ o7 (K6.trans k7 (fun _ h _ => h)) (fun g hg => Nat.le_trans K6.size (f7 g hg))
  · have hE := isErr_new (w.alloc (.cells #[.int .i64 cr, .int .i64 ep, .string ⟨dt.toArray⟩] 23)) 1 0 rfl
    have hC := chain_new (w.alloc (.cells #[.int .i64 cr, .int .i64 ep, .string ⟨dt.toArray⟩] 23)) 1 0
    simp only [World.size_alloc] at hE hC
    have hno := hy
    unfold frameP at hno
    simp only at hno
    go_enter Tryd.func8, Tryd.ntmps8
    go_wp2_with fail
    all_goals
      refine (new_err 1 0 _ rfl).mono ?_
      rintro e w2 ⟨rfl, rfl⟩
      go_wp2_with fail
      go_ret2
      exact ⟨fun h => absurd h hy, fun _ => ⟨_, rfl, hE.mono (by omega), hC, K.alloc _⟩⟩

end Go.Proofs.YteifmkfkekglpaaDoor
