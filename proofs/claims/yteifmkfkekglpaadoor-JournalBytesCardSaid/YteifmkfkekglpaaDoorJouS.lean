/- Entries as arguments. A disk, a journal over it and two rows of entries, all made since w0. usufructlaw26.JournalFull: the walk. -/
import Derived.Test.YteifmkfkekglpaaDoorJouR
import Derived.Test.YteifmkfkekglpaaDoorArgs
import Derived.Deep.Strs
namespace Go.Proofs.YteifmkfkekglpaaDoor
open Go.RowKit Go.ChangeShapes Go.WideShapes

/-- A row of entries that was handed in. -/
def EntsAt (w : World) (ao : Option Addr) (l : List EntT) : Prop :=
  (ao = none → l = []) ∧ ∀ a, ao = some a → ∀ j d, l[j]? = some d → a.spot = none ∧ d.Fit ∧ d.data.length ≤ maxLen ∧ w.rangeAt a.block (a.off + j * 3) d.cells
theorem EntsAt.keepsN {w w' : World} {ao : Option Addr} {l : List EntT} (h : EntsAt w ao l) (k : Keeps Nothing w w') : EntsAt w' ao l :=
  ⟨h.1, fun a e j x hx => ⟨(h.2 a e j x hx).1, (h.2 a e j x hx).2.1, (h.2 a e j x hx).2.2.1, rangeAt_keeps (h.2 a e j x hx).2.2.2 k (fun h => h)⟩⟩
theorem EntsAt.head {w : World} {ao : Option Addr} {l : List EntT} (h : EntsAt w ao l) (h1 : 1 ≤ l.length) : ∃ b o, ao = some ⟨b, o, none⟩ := by
  cases ao with
  | none => rw [h.1 rfl] at h1; simp at h1
  | some a =>
    obtain ⟨hs0, _⟩ := h.2 a rfl 0 l[0] (List.getElem?_eq_getElem (by omega))
    obtain ⟨b, o, s⟩ := a
    simp only at hs0
    subst hs0
    exact ⟨b, o, rfl⟩
theorem jad_add (a : Addr) (h : a.spot = none) (j : Nat) : a.add j = ⟨a.block, a.off + j, none⟩ := by
  obtain ⟨b, o, s⟩ := a
  simp only at h
  subst h
  exact Addr.add_lit ..
theorem jtake1 {k : Nat} {v : Value} {cs : List Value} (h : (cs.drop k).take 1 = [v]) : cs.drop k = v :: cs.drop (k + 1) := by
  cases hd : cs.drop k with
  | nil => rw [hd] at h; simp at h
  | cons a l =>
    rw [hd] at h
    simp at h
    rw [h, ← List.drop_drop, hd]
    rfl
section
variable {H : Type} {enc : TypeId × Value → H} {w W : World} {base : Nat} {spare : Nat → Bool} {held : Bool}
theorem cellsIntJ : Tryd.prog.cellsOf 3 = 1 := by kernel_rfl
theorem cellsStrJ : Tryd.prog.cellsOf 9 = 1 := by kernel_rfl
theorem cellsEnt : Tryd.prog.cellsOf 23 = 3 := by kernel_rfl
theorem trod_ent {fuel : Nat} {cs : List Value} {x : DataW H × List MemPlace} (h : DataW.trod enc Tryd.prog w base spare held fuel 23 cs = some x) :
    ∃ d : EntT, cs = d.cells ∧ d.Fit ∧ d.data.length ≤ maxLen := by
  obtain ⟨xs, n, rfl, rfl, hlen, hxs, hf⟩ := DataW.trod_struct Tryd.underlying23 h
  rw [cellsEnt] at hlen
  have hx : xs.length = 3 := hxs
  have g : ∀ i (hi : i < 3), xs[i]? = some (xs[i]'(by omega)) := fun i hi => List.getElem?_eq_getElem (by omega)
  have f0 : DataW.trod enc Tryd.prog w base spare held n 3 ((cs.drop 0).take 1) = some (xs[0]'(by omega)) := by
    have h := (hf 0 _ rfl).trans (g 0 (by omega))
    exact (cellsIntJ ▸ h : _)
  have f1 : DataW.trod enc Tryd.prog w base spare held n 3 ((cs.drop 1).take 1) = some (xs[1]'(by omega)) := by
    have h := (hf 1 _ rfl).trans (g 1 (by omega))
    exact (cellsIntJ ▸ h : _)
  have f2 : DataW.trod enc Tryd.prog w base spare held n 9 ((cs.drop 2).take 1) = some (xs[2]'(by omega)) := by
    have h := (hf 2 _ rfl).trans (g 2 (by omega))
    exact (cellsStrJ ▸ h : _)
  obtain ⟨c, e0, _, w0⟩ := DataW.trod_int Tryd.underlying3 f0
  obtain ⟨p, e1, _, w1⟩ := DataW.trod_int Tryd.underlying3 f1
  obtain ⟨s, e2, _, ws2⟩ := DataW.trod_string Tryd.underlying9 f2
  have b0 := bounds_i64 w0
  have b1 := bounds_i64 w1
  refine ⟨⟨c, p, bytesOf s⟩, ?_, ⟨b0.1, ?_, b1.1, ?_⟩, ?_⟩
  · have := jtake1 e0
    rw [List.drop_zero, jtake1 e1, jtake1 e2, List.drop_eq_nil_of_le (by omega)] at this
    rw [this]
    unfold EntT.cells
    simp only [text_eta]
  · show c < _; omega
  · show p < _; omega
  · show (bytesOf s).length ≤ _; rw [bytesOf_length]; exact ws2
set_option maxRecDepth 100000 in
theorem open_ent {r : Reach} {b0 : Nat} {v : Value} {d : DataW H} {ps : List MemPlace} (hval : Value.okWide Tryd.prog W r b0 23 v) (h : DataW.Trod enc Tryd.prog w base spare held 23 v d ps) :
    ∃ x : EntT, v = .agg x.cells.toArray ∧ x.Fit ∧ x.data.length ≤ maxLen := by
  obtain ⟨cs, rfl, hsz⟩ := okWide_struct Tryd.underlying23 hval
  obtain ⟨fuel, hf⟩ := h
  obtain ⟨x, hc, h1, h2⟩ := trod_ent hf
  refine ⟨x, ?_, h1, h2⟩
  have : cs = x.cells.toArray := by
    apply Array.ext'
    rw [← hc]
    rfl
  rw [this]
theorem open_ents {fuel : Nat} {v : Value} {ao : Option Addr} {len cap : Nat} {x : DataW H × List MemPlace} (hv : v = .slice ao len cap) (h : DataW.trod enc Tryd.prog w base spare held fuel 24 v.cells.toList = some x) :
    ∃ l : List EntT, l.length = len ∧ EntsAt w ao l ∧ len ≤ cap ∧ cap ≤ maxLen := by
  subst hv
  rcases Deep.open_slice Tryd.underlying24 h with ⟨hcs, _⟩ | ⟨a, len', cap', m, n, D, Pl, hcs, hb, hl, hm, hmm, hx, hel⟩
  · simp [Value.cells] at hcs
    obtain ⟨rfl, rfl, rfl⟩ := hcs
    exact ⟨[], rfl, ⟨fun _ => rfl, fun a e => by simp at e⟩, Nat.le_refl _, Nat.zero_le _⟩
  · simp [Value.cells] at hcs
    obtain ⟨rfl, rfl, rfl⟩ := hcs
    have hlm : len ≤ m := by rw [hmm]; split <;> omega
    have hel' : ∀ i, i < m → ∃ cs', w.cells? base (a.add (i * 3)) 3 = some cs' ∧ DataW.trod enc Tryd.prog w base spare held n 23 cs' = some (D i, Pl i) := fun i hi => by
      obtain ⟨cs', hc, ht⟩ := hel i hi
      rw [cellsEnt] at hc
      exact ⟨cs', hc, ht⟩
    have hspot : 0 < len → a.spot = none := by
      intro h0
      obtain ⟨cs', hc, ht⟩ := hel' 0 (by omega)
      obtain ⟨_, hlen, hcell⟩ := World.cells?_some hc
      obtain ⟨d, rfl, hd⟩ := trod_ent ht
      have h1 : w.cell? ((a.add 0).add 0) = some (.int .i64 d.crate) := hcell 0 (by omega)
      have hs0 := World.cell?_spot h1
      rw [Deep.add_add] at hs0
      unfold Addr.add at hs0
      simpa using hs0
    have hex : ∀ i, i < len → ∃ d : EntT, a.spot = none ∧ d.Fit ∧ d.data.length ≤ maxLen ∧ w.rangeAt a.block (a.off + i * 3) d.cells := by
      intro i hi
      obtain ⟨cs', hc, ht⟩ := hel' i (by omega)
      obtain ⟨_, hlen, hcell⟩ := World.cells?_some hc
      obtain ⟨d, rfl, hd, hd2⟩ := trod_ent ht
      have hsp := hspot (by omega)
      refine ⟨d, hsp, hd, hd2, fun j v hj => ?_⟩
      have hjl : j < 3 := (List.getElem?_eq_some_iff.1 hj).1
      have := hcell j hjl
      rw [Deep.add_add, jad_add a hsp, hj, ← Nat.add_assoc] at this
      exact this
    obtain ⟨f, hf⟩ := Deep.choose_lt hex
    refine ⟨(List.range len).map f, by simp, ⟨fun e => by simp at e, fun a' e i o hi => ?_⟩, hl, hm⟩
    obtain rfl := Option.some.inj e
    rw [List.getElem?_map] at hi
    by_cases hlt : i < len
    · rw [List.getElem?_range hlt] at hi
      obtain rfl := Option.some.inj hi
      exact hf i hlt
    · rw [List.getElem?_eq_none (by simp; omega)] at hi
      cases hi
end

end Go.Proofs.YteifmkfkekglpaaDoor

namespace Go.Proofs.YteifmkfkekglpaaDoor
open Go.RowKit

/-- Their blocks are unlike. -/
def Unl (a b : Option Addr) : Prop := ∀ g, blockOf a = some g → blockOf b ≠ some g
theorem Unl.symm {a b : Option Addr} (h : Unl a b) : Unl b a := fun g h1 h2 => h g h2 h1
theorem Unl.moved {a a' b : Option Addr} {B : Nat} (h : Unl a b) (m : Moved B a a') (hb : ∀ g, blockOf b = some g → g < B) : Unl a' b := by
  intro g h1 h2
  rcases m with m | ⟨g', m, hg⟩
  · rw [m] at h1; exact h g h1 h2
  · rw [m] at h1
    obtain rfl := Option.some.inj h1
    have := hb _ h2
    omega
structure TT (w0 w : World) (q p : Nat) (d : DkS) (L : List EntT) (ao : Option Addr) (k : Nat) (o : Option Addr) (c : Nat) (o1 : Option Addr) (c1 : Nat) (W : List EntT) (o2 : Option Addr) (c2 : Nat) (F : List EntT) : Prop where
  jr : Jr w q p o c L
  dk : Dk w p ao k d
  r1 : OwnE w o1 c1 W
  r2 : OwnE w o2 c2 F
  q0 : w0.heap.size ≤ q
  p0 : w0.heap.size ≤ p
  fa : ∀ g, blockOf ao = some g → w0.heap.size ≤ g
  fo : ∀ g, blockOf o = some g → w0.heap.size ≤ g
  f1 : ∀ g, blockOf o1 = some g → w0.heap.size ≤ g
  f2 : ∀ g, blockOf o2 = some g → w0.heap.size ≤ g
  u1 : Unl o o1
  u2 : Unl o o2
  u3 : Unl o1 o2
  keep : Keeps Nothing w0 w
section
variable {w0 w w' : World} {q p : Nat} {d : DkS} {L : List EntT} {ao : Option Addr} {k : Nat} {o : Option Addr} {c : Nat} {o1 : Option Addr} {c1 : Nat} {W : List EntT} {o2 : Option Addr} {c2 : Nat} {F : List EntT}
theorem TT.keepsN (h : TT w0 w q p d L ao k o c o1 c1 W o2 c2 F) (K : Keeps Nothing w w') : TT w0 w' q p d L ao k o c o1 c1 W o2 c2 F :=
  ⟨h.jr.keepsN K, h.dk.keepsN K, OwnC.keepsN h.r1 K, OwnC.keepsN h.r2 K, h.q0, h.p0, h.fa, h.fo, h.f1, h.f2, h.u1, h.u2, h.u3, h.keep.trans K (fun _ h _ => h)⟩
theorem rowD (h : OwnE w o1 c1 W) (hk : Dk w p ao k d) (K : Keeps (WrF p ao) w w') : OwnE w' o1 c1 W :=
  OwnC.keeps h K (fun g hg hx => by
    rcases hx with hx | hx
    · subst hx; exact OwnC.ne h hk.blk (by decide) hg
    · exact ownE_ne8 h hk.own hg hx)
/-- A call to the disk. -/
theorem TT.disk (h : TT w0 w q p d L ao k o c o1 c1 W o2 c2 F) {a' : Option Addr} {k' : Nat} {d' : DkS} (hk' : Dk w' p a' k' d') (K : Keeps (WrF p ao) w w') (m : Moved w.heap.size ao a') : TT w0 w' q p d' L a' k' o c o1 c1 W o2 c2 F :=
  ⟨h.jr.keepsD h.dk K, hk', rowD h.r1 h.dk K, rowD h.r2 h.dk K, h.q0, h.p0, m.new h.keep.size h.fa, h.fo, h.f1, h.f2, h.u1, h.u2, h.u3, h.keep.trans K (fun i hx hlt => by
    rcases hx with hx | hx
    · have := h.p0; omega
    · have := h.fa i hx; omega)⟩
/-- Add. -/
theorem TT.add (h : TT w0 w q p d L ao k o c o1 c1 W o2 c2 F) {a' o' : Option Addr} {k' c' : Nat} {d' : DkS} {L' : List EntT} (hj' : Jr w' q p o' c' L') (hk' : Dk w' p a' k' d') (K : Keeps (JF q p ao o) w w') (m : Moved w.heap.size ao a') (m2 : Moved w.heap.size o o') : TT w0 w' q p d' L' a' k' o' c' o1 c1 W o2 c2 F := by
  have hx1 : ∀ {o1 : Option Addr} {c1 : Nat} {W : List EntT}, OwnE w o1 c1 W → Unl o o1 → OwnE w' o1 c1 W := fun {o1 c1 W} r u => OwnC.keeps r K (fun g hg hx => by
    rcases hx with hx | hx | hx | hx
    · subst hx; exact OwnC.ne r h.jr.blk (by decide) hg
    · subst hx; exact OwnC.ne r h.dk.blk (by decide) hg
    · exact ownE_ne8 r h.dk.own hg hx
    · exact u g hx hg)
  exact ⟨hj', hk', hx1 h.r1 h.u1, hx1 h.r2 h.u2, h.q0, h.p0, m.new h.keep.size h.fa, m2.new h.keep.size h.fo, h.f1, h.f2, h.u1.moved m2 (fun g hg => OwnC.lt h.r1 hg), h.u2.moved m2 (fun g hg => OwnC.lt h.r2 hg), h.u3, h.keep.trans K (fun i hx hlt => by
    rcases hx with hx | hx | hx | hx
    · have := h.q0; omega
    · have := h.p0; omega
    · have := h.fa i hx; omega
    · have := h.fo i hx; omega)⟩
/-- append to the first row. -/
theorem TT.app1 (h : TT w0 w q p d L ao k o c o1 c1 W o2 c2 F) {o1' : Option Addr} {c1' : Nat} {W' : List EntT} (r : OwnE w' o1' c1' W') (K : Keeps (fun i => blockOf o1 = some i) w w') (m : Moved w.heap.size o1 o1') : TT w0 w' q p d L ao k o c o1' c1' W' o2 c2 F :=
  ⟨h.jr.keeps K (fun hx => OwnC.ne h.r1 h.jr.blk (by decide) hx) (fun g hg hx => h.u1 g hg hx), h.dk.keeps K (fun hx => OwnC.ne h.r1 h.dk.blk (by decide) hx) (fun g hg hx => ownE_ne8 h.r1 h.dk.own hx hg), r,
    OwnC.keeps h.r2 K (fun g hg hx => h.u3 g hx hg), h.q0, h.p0, h.fa, h.fo, m.new h.keep.size h.f1, h.f2, (h.u1.symm.moved m (fun g hg => OwnC.lt h.jr.own hg)).symm, h.u2, h.u3.moved m (fun g hg => OwnC.lt h.r2 hg), h.keep.trans K (fun i hx hlt => by have := h.f1 i hx; omega)⟩
/-- append to the second row. -/
theorem TT.app2 (h : TT w0 w q p d L ao k o c o1 c1 W o2 c2 F) {o2' : Option Addr} {c2' : Nat} {F' : List EntT} (r : OwnE w' o2' c2' F') (K : Keeps (fun i => blockOf o2 = some i) w w') (m : Moved w.heap.size o2 o2') : TT w0 w' q p d L ao k o c o1 c1 W o2' c2' F' :=
  ⟨h.jr.keeps K (fun hx => OwnC.ne h.r2 h.jr.blk (by decide) hx) (fun g hg hx => h.u2 g hg hx), h.dk.keeps K (fun hx => OwnC.ne h.r2 h.dk.blk (by decide) hx) (fun g hg hx => ownE_ne8 h.r2 h.dk.own hx hg),
    OwnC.keeps h.r1 K (fun g hg hx => h.u3 g hg hx), r, h.q0, h.p0, h.fa, h.fo, h.f1, m.new h.keep.size h.f2, h.u1, (h.u2.symm.moved m (fun g hg => OwnC.lt h.jr.own hg)).symm, (h.u3.symm.moved m (fun g hg => OwnC.lt h.r1 hg)).symm, h.keep.trans K (fun i hx hlt => by have := h.f2 i hx; omega)⟩
end

end Go.Proofs.YteifmkfkekglpaaDoor

namespace Go.Proofs.YteifmkfkekglpaaDoor
open Go.RowKit

theorem ents_one {w : World} {b off : Nat} {l : List EntT} (h : EntsAt w (some ⟨b, off, none⟩) l) {i : Nat} {x : EntT} (hi : l[i]? = some x) :
    x.Fit ∧ w.cell? ⟨b, off + i * 3 + 2, none⟩ = some (.string ⟨x.data.toArray⟩) ∧ midOk w b (off + i * 3) 3 = true ∧ midOf w b (off + i * 3) 3 = x.cells.toArray := by
  obtain ⟨_, hf, _, hr⟩ := h.2 _ rfl i x hi
  have h1 := midOk_range hr
  have h2 := midOf_range hr
  exact ⟨hf, hr 2 _ rfl, h1, h2⟩
theorem framesB_len {k : Nat} (hk : k ≤ 5000) : ∀ {L : List EntT}, (∀ x ∈ L, GoodE x ∧ x.data.length ≤ k) → (framesB L).length ≤ (42 + k) * L.length := by
  intro L
  induction L with
  | nil => intro _; exact Nat.zero_le _
  | cons x l ih =>
    intro h
    have h1 := good_len (h x (by simp)).1 k (h x (by simp)).2 hk
    have h2 := ih (fun y hy => h y (List.mem_cons_of_mem _ hy))
    have e : framesB (x :: l) = frameE x ++ framesB l := by unfold framesB; simp
    rw [e, List.length_append, List.length_cons, Nat.mul_succ]
    omega
/-- Its disk holds just these. -/
def fullD (room : Int) (W : List EntT) : DkS := ⟨room, framesB W, (framesB W).length, false⟩
theorem fullD_add (room : Int) (W : List EntT) (x : EntT) : addD (fullD room W) x = fullD room (W ++ [x]) := by
  unfold addD fullD
  rw [framesB_snoc]
theorem i64_and1023 (n : Int) : bits .and .i64 n 1023 = n % 1024 := by
  have h127 : (BitVec.ofInt 64 1023).toNat = 2 ^ 10 - 1 := by decide
  have key : (BitVec.ofInt 64 n &&& BitVec.ofInt 64 1023).toNat = (n % ((2 ^ 64 : Nat) : Int)).toNat % 2 ^ 10 := by
    rw [BitVec.toNat_and, BitVec.toNat_ofInt, h127, Nat.and_two_pow_sub_one_eq_mod]
  show IntKind.i64.wrap ((BitVec.ofInt 64 n &&& BitVec.ofInt 64 1023).toNat : Nat) = n % 1024
  rw [key, IntKind.wrap_i64]
  omega

attribute [local go_sem ↓] exec_store_ent exec_mid_ent

set_option maxRecDepth 100000 in
set_option maxHeartbeats 4000000 in
theorem full_any {w : World} (hg : ErrVar w) {ao0 : Option Addr} {n c0 : Nat} {l : List EntT} (hn : l.length = n) (hX : EntsAt w ao0 l) (room : Int) :
    Calls Tryd.prog 4 #[.slice ao0 n c0, .int .i64 room] w fun e w' => e = .returned (.bool true) ∧ Keeps Nothing w w' := by
  have hand := i64_and1023 room
  obtain ⟨r, hr⟩ : ∃ r, room % 1024 = r := ⟨_, rfl⟩
  rw [hr] at hand
  have hr0 : 0 ≤ r ∧ r ≤ 1023 := by omega
  have HN := shut hn
  clear hn hr
  go_enter Tryd.func4, Tryd.ntmps4
  go_wp2_with fail
  refine (disk_new r hr0.1 (by omega) w).mono ?_
  rintro e w1 ⟨rfl, hw1⟩
  have hk1 := dk_new w r hr0.1 (by omega)
  rw [← hw1] at hk1
  have K1 : Keeps Nothing w w1 := by rw [hw1]; exact (Keeps.refl Nothing w).alloc _
  clear hw1
  obtain ⟨p, hp0⟩ : ∃ p, p = w.heap.size := ⟨_, rfl⟩
  rw [← hp0] at hk1 ⊢
  have hp : w.heap.size ≤ p := Nat.le_of_eq hp0.symm
  clear hp0
  go_wp2_with fail
  refine (open_any hk1 rfl (by show 0 ≤ 5000; omega)).mono ?_
  rintro e w2 ⟨q, o, c, ao, k, rfl, hj2, hk2, kk2, m2, hq, ho⟩
  have hs0 : scanE [] = ([], 0) := scanE_none (stepE_short (by rw [List.length_nil]; omega))
  rw [openD_all (L := []) (by simp) rfl] at hk2
  simp only at hj2
  rw [hs0] at hj2
  have hT : TT w w2 q p (fullD r []) [] ao k o c none 0 [] none 0 [] :=
    ⟨hj2, hk2, ownC_nil _ _ _, ownC_nil _ _ _, by have := K1.size; omega, hp, m2.new K1.size (fun g h => by simp [blockOf] at h), fun g h => by have := ho g h; have := K1.size; omega, fun g h => by simp [blockOf] at h, fun g h => by simp [blockOf] at h,
      fun g _ h => by simp [blockOf] at h, fun g _ h => by simp [blockOf] at h, fun g _ h => by simp [blockOf] at h, K1.trans kk2 (fun i hx hlt => by
        rcases hx with hx | hx
        · omega
        · simp [blockOf] at hx)⟩
  clear hj2 hk2 kk2 m2 hq ho hs0 hk1 K1 hand
  go_wp2_with fail
  go_loopw [9, 10, 11] (fun s9 s10 s11 wx => ∃ (i : Nat) (W F : List EntT) (ao : Option Addr) (k : Nat) (o : Option Addr) (c : Nat) (o1 : Option Addr) (c1 : Nat) (o2 : Option Addr) (c2 : Nat), s9 = .slice o1 W.length c1 ∧ s10 = .slice o2 F.length c2 ∧ s11 = .int .i64 i ∧ i ≤ n ∧ i ≤ 8 ∧ W.length ≤ i ∧ F.length ≤ i ∧
    Shut (∀ x ∈ W, GoodE x ∧ x.data.length ≤ 100) ∧ Shut (∀ x ∈ F, GoodE x ∧ x.data.length ≤ 100) ∧ TT w wx q p (fullD r W) W ao k o c o1 c1 W o2 c2 F) (fun _ _ s11 _ => 8 - (intOf s11).toNat)
  case atStart => exact ⟨0, [], [], ao, k, o, c, none, 0, none, 0, rfl, rfl, rfl, Nat.zero_le _, by omega, Nat.le_refl _, Nat.le_refl _, shut (by simp), shut (by simp), hT⟩
  case round =>
    clear hT
    obtain ⟨i, W, F, ao, k, o, c, o1, c1, o2, c2, rfl, rfl, rfl, hin, hi8, hWi, hFi, GW, GF, T⟩ := hrel
    by_cases hlt : i < n ∧ i < 8
    · obtain ⟨x, hx⟩ : ∃ x, l[i]? = some x := ⟨_, List.getElem?_eq_getElem (by rw [HN.out]; exact hlt.1)⟩
      obtain ⟨b, off, rfl⟩ := hX.head (by rw [HN.out]; omega)
      obtain ⟨hfit, c2d, m1d, m2d⟩ := ents_one (hX.keepsN T.keep) hx
      have i1 : (i : Int) < n := by omega
      have i2 : (i : Int) < 8 := by omega
      have i3 : (0 : Int) ≤ i := by omega
      have HX := shut hx
      clear hx
      by_cases hbig : 100 < x.data.length
      · have hb : (100 : Int) < x.data.length := by omega
        have hsz : (⟨x.data.toArray⟩ : ByteArray).size = x.data.length := rfl
        go_wp2_with fail
        refine (told26_any (hg.keeps T.keep)).mono ?_
        rintro e w3 ⟨rfl, k3⟩
        go_wp2_with fail
        go_ret
        exact ⟨rfl, T.keep.trans k3 (fun _ h _ => h)⟩
      · have hb : ¬ (100 : Int) < x.data.length := by omega
        have hsz : (⟨x.data.toArray⟩ : ByteArray).size = x.data.length := rfl
        have hadd := add_any (hg.keeps T.keep) T.jr T.dk rfl hfit (by omega) (by omega) (by have := hg.pos; have := T.p0; omega) (fun g hg' => by have := T.fa g hg'; have := hg.pos; omega)
        go_wp2_with fail
        refine hadd.mono ?_
        rintro e w3 ⟨A, B⟩
        clear hadd
        by_cases hP : frameP x
        · have hgx : GoodE x ∧ x.data.length ≤ 100 := ⟨⟨hfit, hP, by omega⟩, by omega⟩
          have hac : addC (fullD r W) x = ((fullD r W).append (frameE x)).1 := by unfold addC; rw [if_pos hP]
          by_cases hroom : r - (framesB W).length < ((frameE x).length : Int)
          · have hc : addC (fullD r W) x = 12 := by
              rw [hac]
              unfold DkS.append fullD
              rw [if_neg (by simp), if_pos hroom]
            rw [hc] at B
            obtain ⟨be, rfl, hbe, hch, c', a', k', hj', hk', kk', m'⟩ := B (by decide)
            have T2 := T.add hj' hk' kk' m' (Moved.refl _ _)
            have ht := told_two hch
            clear A B T hj' hk' kk' m' hac hc hroom
            go_wp2_with fail
            refine ht.mono ?_
            rintro e w4 ⟨rfl, k4⟩
            have T3 := T2.keepsN k4
            obtain ⟨-, -, m1e, m2e0⟩ := ents_one (hX.keepsN T3.keep) HX.out
            have m2e : midOf w4 b (off + i * 3) 3 = #[.int .i64 x.crate, .int .i64 x.epoch, .string ⟨x.data.toArray⟩] := m2e0
            clear ht hch k4 T2 c2d m1d m2d m2e0
            have ka : Keeps Nothing w4 (w4.alloc (.cells #[.int .i64 x.crate, .int .i64 x.epoch, .string ⟨x.data.toArray⟩] 23)) := (Keeps.refl Nothing w4).alloc _
            have BD := blk_new w4 #[.int .i64 x.crate, .int .i64 x.epoch, .string ⟨x.data.toArray⟩] 23
            have T4 := T3.keepsN ka
            go_wp2_with (at_builtin; refine wpList_appE _ rfl (.tmp 80) (.tmp 85) rfl o2 c2 F F.length rfl rfl T4.r2 w4.heap.size _ x rfl rfl BD (by omega) ?_)
            intro on cn wn On kn mn
            have On' : OwnE wn on cn (F ++ [x]) := by unfold OwnE; rw [List.map_append]; exact On
            have T11 := T4.app2 On' kn (mn.mono (by rw [World.size_alloc]; exact Nat.le_refl _))
            have GN : Shut (∀ y ∈ F ++ [x], GoodE y ∧ y.data.length ≤ 100) := shut (by
              intro y hy
              rcases List.mem_append.1 hy with hy | hy
              · exact GF.out y hy
              · rw [List.mem_singleton] at hy
                subst hy
                exact hgx)
            clear T4 T3 ka BD m1e m2e kn mn On On'
            have hgo : ∀ y ∈ W, GoodE y := fun y hy => (GW.out y hy).1
            have hle := framesB_len (k := 100) (by omega) (L := W) (GW.out)
            have hsc : (scanE (fullD r (W)).bs).1 = W := by show (scanE (framesB (W))).1 = _; rw [scanE_all _ hgo]
            have hop := open_any T11.dk rfl (by show (framesB (W)).length ≤ 5000; skip; omega)
            go_wp2_with fail
            refine hop.mono ?_
            rintro e w5 ⟨q2, o5, c5, a5, k5, rfl, hj5, hk5, kk5, m5, hq5, ho5⟩
            rw [openD_all hgo rfl] at hk5
            rw [hsc] at hj5
            have T5 := T11.disk hk5 kk5 m5
            clear hop hk5 kk5 m5 hsc hle
            go_wp2_with fail
            refine (entries_any hj5 (by skip; omega)).mono ?_
            rintro e w6 ⟨o6, c6, rfl, O6, k6⟩
            have T6 := T5.keepsN k6
            have hr6 := rents_any w6 (W) (by skip; omega) O6 T6.r1
            try simp only [List.length_append, List.length_cons, List.length_nil, Nat.zero_add] at hr6
            clear T5 k6 hj5
            go_wp2_with fail
            refine hr6.mono ?_
            rintro e w7 ⟨rfl, k7⟩
            have T7 := T6.keepsN k7
            clear hr6 T6 k7 O6
            go_wp2_with fail
            refine (entries_any T7.jr (by skip; omega)).mono ?_
            rintro e w8 ⟨o8, c8, rfl, O8, k8⟩
            have T8 := T7.keepsN k8
            have hr8 := rents_any w8 (W) (by skip; omega) O8 T8.r1
            try simp only [List.length_append, List.length_cons, List.length_nil, Nat.zero_add] at hr8
            clear T7 k8
            go_wp2_with fail
            refine hr8.mono ?_
            rintro e w9 ⟨rfl, k9⟩
            have T9 := T8.keepsN k9
            clear hr8 T8 k9 O8
            go_wp2_with fail
            go_roundw
            case rel => exact ⟨i + 1, W, F ++ [x], _, _, _, _, o1, c1, on, cn, by simp, by simp, by go_num, by omega, by omega, by skip; omega, by (try simp only [List.length_append, List.length_cons, List.length_nil]); omega, shut (GW.out), shut (GN.out), T9⟩
            case measure => simp [intOf]; omega
          · have hc : addC (fullD r W) x = 0 := by
              rw [hac]
              unfold DkS.append fullD
              rw [if_neg (by simp), if_neg hroom]
            obtain ⟨rfl, o', c', a', k', hj', hk', kk', m', m2'⟩ := A hc
            rw [fullD_add] at hk'
            have T2 := T.add hj' hk' kk' m' m2'
            have ht := told_nil w3
            clear A B T hj' hk' kk' m' m2' hac hc hroom
            go_wp2_with fail
            refine ht.mono ?_
            rintro e w4 ⟨rfl, hw4⟩
            have k4 : Keeps Nothing w3 w4 := by rw [hw4]; exact Keeps.refl _ _
            clear hw4
            have T3 := T2.keepsN k4
            obtain ⟨-, -, m1e, m2e0⟩ := ents_one (hX.keepsN T3.keep) HX.out
            have m2e : midOf w4 b (off + i * 3) 3 = #[.int .i64 x.crate, .int .i64 x.epoch, .string ⟨x.data.toArray⟩] := m2e0
            clear ht k4 T2 c2d m1d m2d m2e0
            have ka : Keeps Nothing w4 (w4.alloc (.cells #[.int .i64 x.crate, .int .i64 x.epoch, .string ⟨x.data.toArray⟩] 23)) := (Keeps.refl Nothing w4).alloc _
            have BD := blk_new w4 #[.int .i64 x.crate, .int .i64 x.epoch, .string ⟨x.data.toArray⟩] 23
            have T4 := T3.keepsN ka
            go_wp2_with (at_builtin; refine wpList_appE _ rfl (.tmp 71) (.tmp 76) rfl o1 c1 W W.length rfl rfl T4.r1 w4.heap.size _ x rfl rfl BD (by omega) ?_)
            intro on cn wn On kn mn
            have On' : OwnE wn on cn (W ++ [x]) := by unfold OwnE; rw [List.map_append]; exact On
            have T11 := T4.app1 On' kn (mn.mono (by rw [World.size_alloc]; exact Nat.le_refl _))
            have GN : Shut (∀ y ∈ W ++ [x], GoodE y ∧ y.data.length ≤ 100) := shut (by
              intro y hy
              rcases List.mem_append.1 hy with hy | hy
              · exact GW.out y hy
              · rw [List.mem_singleton] at hy
                subst hy
                exact hgx)
            clear T4 T3 ka BD m1e m2e kn mn On On'
            have hgo : ∀ y ∈ W ++ [x], GoodE y := fun y hy => (GN.out y hy).1
            have hle := framesB_len (k := 100) (by omega) (L := W ++ [x]) (GN.out)
            have hWl : (W ++ [x]).length = W.length + 1 := by rw [List.length_append]; rfl
            rw [hWl] at hle
            clear hWl
            have hsc : (scanE (fullD r (W ++ [x])).bs).1 = W ++ [x] := by show (scanE (framesB (W ++ [x]))).1 = _; rw [scanE_all _ hgo]
            have hop := open_any T11.dk rfl (by show (framesB (W ++ [x])).length ≤ 5000; omega)
            go_wp2_with fail
            refine hop.mono ?_
            rintro e w5 ⟨q2, o5, c5, a5, k5, rfl, hj5, hk5, kk5, m5, hq5, ho5⟩
            rw [openD_all hgo rfl] at hk5
            rw [hsc] at hj5
            have T5 := T11.disk hk5 kk5 m5
            clear hop hk5 kk5 m5 hsc hle
            go_wp2_with fail
            refine (entries_any hj5 (by (try simp only [List.length_append, List.length_cons, List.length_nil]); omega)).mono ?_
            rintro e w6 ⟨o6, c6, rfl, O6, k6⟩
            have T6 := T5.keepsN k6
            have hr6 := rents_any w6 (W ++ [x]) (by (try simp only [List.length_append, List.length_cons, List.length_nil]); omega) O6 T6.r1
            try simp only [List.length_append, List.length_cons, List.length_nil, Nat.zero_add] at hr6
            clear T5 k6 hj5
            go_wp2_with fail
            refine hr6.mono ?_
            rintro e w7 ⟨rfl, k7⟩
            have T7 := T6.keepsN k7
            clear hr6 T6 k7 O6
            go_wp2_with fail
            refine (entries_any T7.jr (by (try simp only [List.length_append, List.length_cons, List.length_nil]); omega)).mono ?_
            rintro e w8 ⟨o8, c8, rfl, O8, k8⟩
            have T8 := T7.keepsN k8
            have hr8 := rents_any w8 (W ++ [x]) (by (try simp only [List.length_append, List.length_cons, List.length_nil]); omega) O8 T8.r1
            try simp only [List.length_append, List.length_cons, List.length_nil, Nat.zero_add] at hr8
            clear T7 k8
            go_wp2_with fail
            refine hr8.mono ?_
            rintro e w9 ⟨rfl, k9⟩
            have T9 := T8.keepsN k9
            clear hr8 T8 k9 O8
            go_wp2_with fail
            go_roundw
            case rel => exact ⟨i + 1, W ++ [x], F, _, _, _, _, on, cn, o2, c2, by simp, by simp, by go_num, by omega, by omega, by (try simp only [List.length_append, List.length_cons, List.length_nil]); omega, by skip; omega, shut (GN.out), shut (GF.out), T9⟩
            case measure => simp [intOf]; omega
        · have hc : addC (fullD r W) x = 1 := by unfold addC; rw [if_neg hP]
          rw [hc] at B
          obtain ⟨be, rfl, hbe, hch, c', a', k', hj', hk', kk', m'⟩ := B (by decide)
          have T2 := T.add hj' hk' kk' m' (Moved.refl _ _)
          have ht := told_two hch
          clear A B T hj' hk' kk' m' hc
          go_wp2_with fail
          refine ht.mono ?_
          rintro e w4 ⟨rfl, k4⟩
          have T3 := T2.keepsN k4
          clear ht hch k4 T2 c2d m1d m2d
          have hgo : ∀ y ∈ W, GoodE y := fun y hy => (GW.out y hy).1
          have hle := framesB_len (k := 100) (by omega) (L := W) (GW.out)
          have hsc : (scanE (fullD r (W)).bs).1 = W := by show (scanE (framesB (W))).1 = _; rw [scanE_all _ hgo]
          have hop := open_any T3.dk rfl (by show (framesB (W)).length ≤ 5000; skip; omega)
          go_wp2_with fail
          refine hop.mono ?_
          rintro e w5 ⟨q2, o5, c5, a5, k5, rfl, hj5, hk5, kk5, m5, hq5, ho5⟩
          rw [openD_all hgo rfl] at hk5
          rw [hsc] at hj5
          have T5 := T3.disk hk5 kk5 m5
          clear hop hk5 kk5 m5 hsc hle
          go_wp2_with fail
          refine (entries_any hj5 (by skip; omega)).mono ?_
          rintro e w6 ⟨o6, c6, rfl, O6, k6⟩
          have T6 := T5.keepsN k6
          have hr6 := rents_any w6 (W) (by skip; omega) O6 T6.r1
          try simp only [List.length_append, List.length_cons, List.length_nil, Nat.zero_add] at hr6
          clear T5 k6 hj5
          go_wp2_with fail
          refine hr6.mono ?_
          rintro e w7 ⟨rfl, k7⟩
          have T7 := T6.keepsN k7
          clear hr6 T6 k7 O6
          go_wp2_with fail
          refine (entries_any T7.jr (by skip; omega)).mono ?_
          rintro e w8 ⟨o8, c8, rfl, O8, k8⟩
          have T8 := T7.keepsN k8
          have hr8 := rents_any w8 (W) (by skip; omega) O8 T8.r1
          try simp only [List.length_append, List.length_cons, List.length_nil, Nat.zero_add] at hr8
          clear T7 k8
          go_wp2_with fail
          refine hr8.mono ?_
          rintro e w9 ⟨rfl, k9⟩
          have T9 := T8.keepsN k9
          clear hr8 T8 k9 O8
          go_wp2_with fail
          go_roundw
          case rel => exact ⟨i + 1, W, F, _, _, _, _, o1, c1, o2, c2, by simp, by simp, by go_num, by omega, by omega, by skip; omega, by skip; omega, shut (GW.out), shut (GF.out), T9⟩
          case measure => simp [intOf]; omega
    · have hor : ¬ (i : Int) < n ∨ ¬ (i : Int) < 8 := by omega
      have hdn : (fullD r W).dn = false := rfl
      have hroom := disk_room T.dk 1048576
      have hsr : (fullD r W).setRoom 1048576 = fullD 1048576 W := by unfold DkS.setRoom fullD; rw [show min (max (1048576 : Int) 0) 16777216 = 1048576 by decide]
      rw [hsr] at hroom
      go_wp2_with fail
      all_goals
        refine hroom.mono ?_
        rintro e w3 ⟨rfl, a3, k3, hk3, kk3, m3⟩
        have T3 := T.disk hk3 kk3 m3
        clear hroom hsr hor hdn T hk3 kk3 m3
        go_wp2_with fail
        go_loopw [9, 16] (fun s9 s16 wx => ∃ (t : Nat) (W : List EntT) (ao : Option Addr) (k : Nat) (o : Option Addr) (c : Nat) (o1 : Option Addr) (c1 : Nat), s9 = .slice o1 W.length c1 ∧ s16 = .int .i64 t ∧ t ≤ F.length ∧ W.length ≤ 8 + t ∧ Shut (∀ x ∈ W, GoodE x ∧ x.data.length ≤ 100) ∧ TT w wx q p (fullD 1048576 W) W ao k o c o1 c1 W o2 c2 F) (fun _ s16 _ => F.length - (intOf s16).toNat)
        case atStart => exact ⟨0, W, _, _, _, _, o1, c1, rfl, rfl, Nat.zero_le _, by omega, GW, T3⟩
        case round =>
          clear T3 GW
          obtain ⟨t, W, ao, k, o, c, o1, c1, rfl, rfl, htF, hWt, GW, T⟩ := hrel
          by_cases hlt2 : t < F.length
          · obtain ⟨x, hx⟩ : ∃ x, F[t]? = some x := ⟨_, List.getElem?_eq_getElem hlt2⟩
            have hgx := GF.out x (List.mem_of_getElem? hx)
            obtain ⟨g2, rfl⟩ := OwnC.head T.r2 (by intro h; rw [List.map_eq_nil_iff] at h; subst h; cases hx)
            have HX := shut hx
            have hrange := fun V (h : OwnE V (some ⟨g2, 0, none⟩) c2 F) => OwnC.range h (fun y hy => by obtain ⟨d, _, rfl⟩ := List.mem_map.1 hy; rfl) (show (F.map EntT.cells)[t]? = some x.cells by rw [List.getElem?_map, HX.out]; rfl)
            clear hx
            have m1d := midOk_range (hrange _ T.r2)
            have m2d : midOf wr g2 (t * 3) 3 = #[.int .i64 x.crate, .int .i64 x.epoch, .string ⟨x.data.toArray⟩] := midOf_range (hrange _ T.r2)
            have m1d' : midOk wr g2 (t * 3) 3 = true := m1d
            clear m1d
            have i1 : (t : Int) < F.length := by omega
            have i3 : (0 : Int) ≤ t := by omega
            have hle := framesB_len (k := 100) (by omega) (L := W) GW.out
            have hc : addC (fullD 1048576 W) x = 0 := addC_good hgx.1 rfl (by have := good_len hgx.1 100 hgx.2 (by omega); show ((framesB W).length : Int) + _ ≤ 1048576; omega)
            have hadd := add_any (hg.keeps T.keep) T.jr T.dk rfl hgx.1.1 (by omega) (by omega) (by have := hg.pos; have := T.p0; omega) (fun g hg' => by have := T.fa g hg'; have := hg.pos; omega)
            have hadd2 : Calls Tryd.prog 17 #[.pointer (some ⟨q, 0, none⟩), .agg #[.int .i64 x.crate, .int .i64 x.epoch, .string ⟨x.data.toArray⟩]] wr _ := hadd
            clear hadd
            go_wp2_with fail
            refine hadd2.mono ?_
            rintro e w4 ⟨A, -⟩
            obtain ⟨rfl, o', c', a', k', hj', hk', kk', m', m2'⟩ := A hc
            rw [fullD_add] at hk'
            have T2 := T.add hj' hk' kk' m' m2'
            clear A hadd2 T hj' hk' kk' m' m2' hc m2d m1d'
            have m1e : midOk w4 g2 (t * 3) 3 = true := midOk_range (hrange _ T2.r2)
            have m2e : midOf w4 g2 (t * 3) 3 = #[.int .i64 x.crate, .int .i64 x.epoch, .string ⟨x.data.toArray⟩] := midOf_range (hrange _ T2.r2)
            have ka : Keeps Nothing w4 (w4.alloc (.cells #[.int .i64 x.crate, .int .i64 x.epoch, .string ⟨x.data.toArray⟩] 23)) := (Keeps.refl Nothing w4).alloc _
            have BD := blk_new w4 #[.int .i64 x.crate, .int .i64 x.epoch, .string ⟨x.data.toArray⟩] 23
            have T4 := T2.keepsN ka
            go_wp2_with (at_builtin; refine wpList_appE _ rfl (.tmp 129) (.tmp 134) rfl o1 c1 W W.length rfl rfl T4.r1 w4.heap.size _ x rfl rfl BD (by omega) ?_)
            intro on cn wn On kn mn
            have On' : OwnE wn on cn (W ++ [x]) := by unfold OwnE; rw [List.map_append]; exact On
            have T11 := T4.app1 On' kn (mn.mono (by rw [World.size_alloc]; exact Nat.le_refl _))
            have GN : Shut (∀ y ∈ W ++ [x], GoodE y ∧ y.data.length ≤ 100) := shut (by
              intro y hy
              rcases List.mem_append.1 hy with hy | hy
              · exact GW.out y hy
              · rw [List.mem_singleton] at hy
                subst hy
                exact hgx)
            clear T4 T2 ka BD m1e m2e kn mn On On' hrange
            go_wp2_with fail
            go_roundw
            case rel => exact ⟨t + 1, W ++ [x], _, _, _, _, on, cn, by simp, by go_num, by omega, by simp; omega, GN, T11⟩
            case measure => simp [intOf]; omega
          · have i1 : ¬ (t : Int) < F.length := by omega
            go_wp2_with fail
            refine (told26_any (hg.keeps T.keep)).mono ?_
            rintro e w4 ⟨rfl, k4⟩
            have T4 := T.keepsN k4
            go_wp2_with fail
            refine (entries_any T4.jr (by omega)).mono ?_
            rintro e w5 ⟨o5, c5, rfl, O5, k5⟩
            have T5 := T4.keepsN k5
            go_wp2_with fail
            refine (rents_any w5 W (by omega) O5 T5.r1).mono ?_
            rintro e w6 ⟨rfl, k6⟩
            go_wp2_with fail
            go_ret
            exact ⟨rfl, T5.keep.trans k6 (fun _ h _ => h)⟩

end Go.Proofs.YteifmkfkekglpaaDoor
