/- TrR Tree3 Lex1 Lex2 Lex3 Lex4 Lex5 Lex6 Lex7 Lex8 Lex9 Lex10 Lex11 Shelf Tree8 Tree9 TrS MidS -/
import Derived.Test.YtjbcagbnagefcaaGreatZb1
import Derived.Lib.Strings
import Derived.Lib.Slices
import Derived.Lib.Walk
import Derived.Lib.Bytealg
import Derived.Laws.Strings2
import Derived.IntWalk
import Derived.Laws.ResultCell
import Derived.Laws.Rows
import Derived.Deep.DrawnRows
import Derived.Deep.WholeRow
import Derived.Deep.LoopGhost
import Derived.Laws.StructEq
import Derived.Shelf.Strings.Cut
import Derived.Test.YtjbcagbnagefcaaGreatProg
import Derived.Lib.IndexMore
import Derived.Laws.CopyRow
namespace Go.Proofs.YtjbcagbnagefcaaGreat
open Go.RowKit
def stB (w : World) (b : Nat) : Prop := ∃ cs : Array Value, Blk w b cs 121
theorem stB_keeps {T : Nat → Prop} {w w' : World} {b : Nat} (K : Keeps T w w') (hT : ¬ T b) (hb : b < w.heap.size) : stB w' b ↔ stB w b := by
 unfold stB Blk
 rw [K.block b hb hT]
def NewA (N : Nat) (w : World) (b : Nat) : Prop := N ≤ b ∧ b < w.heap.size
def NewB (N : Nat) (w : World) (b : Nat) : Prop := N ≤ b ∧ b < w.heap.size ∧ ¬ stB w b
structure SetOk (Z : World → Nat → Prop) : Prop where
 lt : ∀ w b, Z w b → b < w.heap.size
 keep : ∀ (T : Nat → Prop) (w w' : World) (b : Nat), Keeps T w w' → ¬ T b → Z w b → Z w' b
theorem newA_ok (N : Nat) : SetOk (NewA N) := ⟨fun _ _ h => h.2, fun _ _ _ _ K _ h => ⟨h.1, Nat.lt_of_lt_of_le h.2 K.size⟩⟩
theorem newB_ok (N : Nat) : SetOk (NewB N) := ⟨fun _ _ h => h.2.1, fun _ _ _ _ K hT h => ⟨h.1, Nat.lt_of_lt_of_le h.2.1 K.size, fun q => h.2.2 ((stB_keeps K hT h.2.1).1 q)⟩⟩
structure LayOk {α : Type} (k : Nat) (P : (Nat → Prop) → World → α → List Value → Prop) : Prop where
 len : ∀ S w d cs, P S w d cs → cs.length = k
 one : ∀ S w d cs, P S w d cs → ∀ u ∈ cs, u.oneCell' = true
 keep : ∀ (S S' T : Nat → Prop) (w w' : World) (d : α) (cs : List Value), P S w d cs → Keeps T w w' → (∀ b, S b → ¬ T b) → (∀ b, S b → S' b) → P S' w' d cs
theorem tyOk : LayOk 4 TyIs := ⟨fun _ _ _ _ h => h.len, fun _ _ _ _ h => h.one, fun _ _ _ _ _ _ _ h => h.keeps⟩
theorem oprOk : LayOk 4 OprIs := ⟨fun _ _ _ _ h => h.len, fun _ _ _ _ h => h.one, fun _ _ _ _ _ _ _ h => h.keeps⟩
theorem fldOk : LayOk 6 FldIs := ⟨fun _ _ _ _ h => h.len, fun _ _ _ _ h => h.one, fun _ _ _ _ _ _ _ h => h.keeps⟩
theorem lifOk : LayOk 2 LifIs := ⟨fun _ _ _ _ h => h.len, fun _ _ _ _ h => h.one, fun _ _ _ _ _ _ _ h => h.keeps⟩
theorem strOk : LayOk 5 StrIs := ⟨fun _ _ _ _ h => h.len, fun _ _ _ _ h => h.one, fun _ _ _ _ _ _ _ h => h.keeps⟩
theorem funOk : LayOk 10 FunIs := ⟨fun _ _ _ _ h => h.len, fun _ _ _ _ h => h.one, fun _ _ _ _ _ _ _ h => h.keeps⟩
def InB (Z : World → Nat → Prop) (w : World) (ao : Option Addr) (b : Nat) : Prop := Z w b ∧ ¬ blockOf ao = some b
structure OutR {α : Type} (Z : World → Nat → Prop) (e : TypeId) (k : Nat) (P : (Nat → Prop) → World → α → List Value → Prop) (M : Nat) (w : World) (ao : Option Addr) (cap : Nat) (out : List α) : Prop where
 row : ∃ L : List (List Value), OwnC w e k ao cap L ∧ L.length = out.length ∧ ∀ (j : Nat) (d : α), out[j]? = some d → ∃ cs, L[j]? = some cs ∧ P (InB Z w ao) w d cs
 new : ∀ g, blockOf ao = some g → M ≤ g
section
variable {α : Type} {Z : World → Nat → Prop} {e : TypeId} {k : Nat} {P : (Nat → Prop) → World → α → List Value → Prop} {M : Nat} {w w' : World} {ao : Option Addr} {cap : Nat} {out : List α}
theorem outR_nil (Z : World → Nat → Prop) (e : TypeId) (k : Nat) (P : (Nat → Prop) → World → α → List Value → Prop) (M : Nat) (w : World) : OutR Z e k P M w none 0 [] :=
 ⟨⟨[], ownC_nil _ _ _, rfl, fun j d hd => by simp at hd⟩, fun g hg => by cases hg⟩
theorem OutR.lt (h : OutR Z e k P M w ao cap out) {g : Nat} (hg : blockOf ao = some g) : g < w.heap.size := by
 obtain ⟨L, o, _, _⟩ := h.row
 exact o.lt hg
theorem OutR.blk {g : Nat} (h : OutR Z e k P M w (some ⟨g, 0, none⟩) cap out) : ∃ cur : Array Value, Blk w g cur e := by
 obtain ⟨L, o, _, _⟩ := h.row
 exact o.blk
theorem OutR.head (h : OutR Z e k P M w ao cap out) (hne : out ≠ []) : ∃ g, ao = some ⟨g, 0, none⟩ := by
 obtain ⟨L, o, hl, _⟩ := h.row
 exact o.head (fun q => hne (List.eq_nil_of_length_eq_zero (by rw [← hl, q]; rfl)))
theorem OutR.ne {p : Nat} {cs : Array Value} {t : TypeId} (h : OutR Z e k P M w ao cap out) (hp : Blk w p cs t) (hne : e ≠ t) : blockOf ao ≠ some p := by
 obtain ⟨L, o, _, _⟩ := h.row
 exact o.ne hp hne
theorem OutR.keeps {T : Nat → Prop} (h : OutR Z e k P M w ao cap out) (hZ : SetOk Z) (hP : LayOk k P) (K : Keeps T w w') (hT : ∀ b, Z w b → ¬ T b) (hA : ∀ g, blockOf ao = some g → ¬ T g) : OutR Z e k P M w' ao cap out := by
 obtain ⟨L, o, hl, he⟩ := h.row
 refine ⟨⟨L, o.keeps K hA, hl, fun j d hd => ?_⟩, h.new⟩
 obtain ⟨cs, e1, e2⟩ := he j d hd
 exact ⟨cs, e1, hP.keep _ _ _ _ _ _ _ e2 K (fun b hb => hT b hb.1) (fun b hb => ⟨hZ.keep _ _ _ _ K (hT b hb.1) hb.1, hb.2⟩)⟩
theorem OutR.keepsN (h : OutR Z e k P M w ao cap out) (hZ : SetOk Z) (hP : LayOk k P) (K : Keeps Nothing w w') : OutR Z e k P M w' ao cap out := h.keeps hZ hP K (fun _ _ h => h) (fun _ _ h => h)
theorem OutR.sl {S : Nat → Prop} (h : OutR Z e k P M w ao cap out) (hP : LayOk k P) (hZS : ∀ b, Z w b → S b) (hA : ∀ g, blockOf ao = some g → S g) (hb : out.length ≤ bigN) : SlIs S w k (P S w) ao out := by
 obtain ⟨L, o, hl, he⟩ := h.row
 refine ⟨hb, ?_⟩
 by_cases h0 : out = []
 ·exact .inl h0
 ·obtain ⟨g, rfl⟩ := h.head h0
  refine .inr ⟨g, 0, rfl, hA g rfl, rowIs_mk fun j d hd => ?_⟩
  obtain ⟨cs, e1, e2⟩ := he j d hd
  refine ⟨cs, hP.len _ _ _ _ e2, ?_, hP.keep _ _ _ _ _ _ _ e2 (Keeps.refl Nothing w) (fun _ _ h => h) (fun b hb => hZS b hb.1)⟩
  rw [Nat.zero_add]
  refine o.range (fun x hx => ?_) e1
  obtain ⟨i, hi⟩ := List.mem_iff_getElem?.1 hx
  have hlt := (List.getElem?_eq_some_iff.1 hi).1
  obtain ⟨cs', f1, f2⟩ := he i _ (List.getElem?_eq_getElem (by omega))
  rw [hi] at f1
  obtain rfl := Option.some.inj f1
  exact hP.len _ _ _ _ f2
theorem info_app {Pr : Program} {e : TypeId} {k b : Nat} (h : (Pr.info? e).map (fun i => (i.zero.map (fun z => z.cells.size), i.size, i.bytes)) = some (some k, k, b)) : ∃ i z, Pr.info? e = some i ∧ i.zero = some z ∧ i.size = k ∧ i.bytes = b ∧ z.cells.size = k := by
 cases hi : Pr.info? e with
 | none => rw [hi] at h; cases h
 | some i =>
  rw [hi] at h
  simp only [Option.map_some, Option.some.injEq, Prod.mk.injEq] at h
  cases hz : i.zero with
  | none => rw [hz] at h; cases h.1
  | some z =>
   rw [hz] at h
   simp only [Option.map_some, Option.some.injEq] at h
   exact ⟨i, z, rfl, hz, h.2.1, h.2.2, h.1⟩
theorem wpList_appD {Pr : Program} (w : World) {ops : Array Oper} {rest : List Oper} {o : Oper} {a : Act} {Q : Exit → Act → World → Prop} (hgd : o.guard = none) (s x : Operand) (t : TypeId)
  (ho : o.op = .call { callee := .builtin .append, args := #[s, x], argTypes := #[t, t] }) {b : Nat} (ht : Pr.underlying t = some (.slice e)) (hinfo : (Pr.info? e).map (fun i => (i.zero.map (fun z => z.cells.size), i.size, i.bytes)) = some (some k, k, b)) (hb64 : b ≤ 1000)
  (hZ : SetOk Z) (hP : LayOk k P) (n : Nat) (hn : out.length = n) (hsv : a.eval s = .slice ao n cap) (hown : OutR Z e k P M w ao cap out) (hM : M ≤ w.heap.size) (g : Nat) (C : Array Value) (l : List Value) (d : α) (hC : C = l.toArray)
  (hx : a.eval x = .slice (some ⟨g, 0, none⟩) 1 1) (hg : Blk w g C e) (hel : P (InB Z w ao) w d l) (hb : n ≤ 1000000000)
  (h : ∀ ao' cap' w', OutR Z e k P M w' ao' cap' (out ++ [d]) → Keeps (fun i => blockOf ao = some i) w w' → Moved w.heap.size ao ao' → wpList Pr ops Q rest (a.put o.dst (.slice ao' (n + 1) cap')) w') : wpList Pr ops Q (o :: rest) a w := by
 obtain ⟨i, z, hi, hz, hsize, hby, hzs⟩ := info_app hinfo
 obtain ⟨L, ow, hl, he⟩ := hown.row
 refine wpList_appC w hgd s x t ho e i z k b ht hi hz hsize hby hzs hb64 ao cap L n (by rw [hl, hn]) hsv ow g C l hC (hP.len _ _ _ _ hel) (hP.one _ _ _ _ hel) hx hg hb fun ao' cap' w' h1 h2 h3 => ?_
 have hin : ∀ b, InB Z w ao b → InB Z w' ao' b := fun b hb => by
  refine ⟨hZ.keep _ _ _ _ h2 hb.2 hb.1, fun q => ?_⟩
  rcases h3 with h3 | ⟨g', h3, hg'⟩
  ·exact hb.2 (by rw [← h3]; exact q)
  ·rw [h3] at q
   obtain rfl := Option.some.inj q
   have := hZ.lt _ _ hb.1
   omega
 refine h ao' cap' w' ⟨⟨L ++ [l], h1, by simp [hl], fun j d' hd => ?_⟩, fun g' hg' => ?_⟩ h2 h3
 ·by_cases hj : j < out.length
  ·rw [List.getElem?_append_left hj] at hd
   obtain ⟨cs, e1, e2⟩ := he j d' hd
   exact ⟨cs, by rw [List.getElem?_append_left (by rw [hl]; exact hj)]; exact e1, hP.keep _ _ _ _ _ _ _ e2 h2 (fun b hb => hb.2) hin⟩
  ·have hj2 : j = out.length := by
    have := (List.getElem?_eq_some_iff.1 hd).1
    simp at this
    omega
   subst hj2
   rw [List.getElem?_concat_length] at hd
   obtain rfl := Option.some.inj hd
   exact ⟨l, by rw [← hl, List.getElem?_concat_length], hP.keep _ _ _ _ _ _ _ hel h2 (fun b hb => hb.2) hin⟩
 ·rcases h3 with h3 | ⟨g'', h3, hb⟩
  ·exact hown.new g' (by rw [← h3]; exact hg')
  ·rw [h3] at hg'
   obtain rfl := Option.some.inj hg'
   omega
end
theorem iaTy : (Tryz.prog.info? 53).map (fun i => (i.zero.map (fun z => z.cells.size), i.size, i.bytes)) = some (some 4, 4, 72) := by kernel_rfl
theorem iaFld : (Tryz.prog.info? 73).map (fun i => (i.zero.map (fun z => z.cells.size), i.size, i.bytes)) = some (some 6, 6, 96) := by kernel_rfl
theorem iaLif : (Tryz.prog.info? 76).map (fun i => (i.zero.map (fun z => z.cells.size), i.size, i.bytes)) = some (some 2, 2, 40) := by kernel_rfl
theorem iaOpr : (Tryz.prog.info? 116).map (fun i => (i.zero.map (fun z => z.cells.size), i.size, i.bytes)) = some (some 4, 4, 56) := by kernel_rfl
theorem iaSt : (Tryz.prog.info? 121).map (fun i => (i.zero.map (fun z => z.cells.size), i.size, i.bytes)) = some (some 32, 32, 496) := by kernel_rfl
theorem iaStr : (Tryz.prog.info? 49).map (fun i => (i.zero.map (fun z => z.cells.size), i.size, i.bytes)) = some (some 5, 5, 80) := by kernel_rfl
theorem iaFun : (Tryz.prog.info? 56).map (fun i => (i.zero.map (fun z => z.cells.size), i.size, i.bytes)) = some (some 10, 10, 176) := by kernel_rfl
end Go.Proofs.YtjbcagbnagefcaaGreat
namespace Go.Proofs.YtjbcagbnagefcaaGreat
open Go.RowKit
def bareStr (s : StrD) : StrD := ⟨s.pub, s.name, s.lives, s.fields, 0⟩
def offB (S : Nat → Prop) (w : World) (b : Nat) : Prop := S b ∧ b < w.heap.size ∧ ¬ stB w b
def onB (S : Nat → Prop) (w : World) (b : Nat) : Prop := S b ∧ stB w b
mutual
def St2 (S : Nat → Prop) (w : World) : StD → List Value → Prop
 | .mk x_kind x_pos x_mu x_name x_ty x_has x_place x_val x_cond x_thn x_els, cs => ∃ (s4 : List Value) (s9 : List Value) (s11 : List Value) (s26 : List Value) (a30 : Option Addr) (c30 : Nat) (a31 : Option Addr) (c31 : Nat), cs = [.int .i64 x_kind, .int .i64 x_pos, .bool x_mu, txV x_name] ++ s4 ++ [.bool x_has] ++ s9 ++ s11 ++ s26 ++ [.slice a30 (x_thn).length c30, .slice a31 (x_els).length c31] ∧ (x_name).length ≤ bigN ∧ TyIs (offB S w) w (x_ty) s4 ∧ PlIs (offB S w) w (x_place) s9 ∧ ValIs (offB S w) w (x_val) s11 ∧ OprIs (offB S w) w (x_cond) s26 ∧ ((x_thn).length ≤ bigN ∧ ((x_thn) = [] ∨ ∃ b, a30 = some ⟨b, 0, none⟩ ∧ onB S w b ∧ Sts2 S w (x_thn) b 0)) ∧ ((x_els).length ≤ bigN ∧ ((x_els) = [] ∨ ∃ b, a31 = some ⟨b, 0, none⟩ ∧ onB S w b ∧ Sts2 S w (x_els) b 0))
def Sts2 (S : Nat → Prop) (w : World) : List StD → Nat → Nat → Prop
 | [], _, _ => True
 | d :: r, b, o => (∃ cs, cs.length = 32 ∧ w.rangeAt b o cs ∧ St2 S w d cs) ∧ Sts2 S w r b (o + 32)
end
theorem Sts2_row (S : Nat → Prop) (w : World) : ∀ (l : List StD) (b o : Nat), Sts2 S w l b o ↔ rowIs w 32 (St2 S w) l b o
 | [], _, _ => by unfold Sts2 rowIs; exact Iff.rfl
 | d :: r, b, o => by
  unfold Sts2 rowIs
  rw [Sts2_row S w r b (o + 32)]
def Sl2 (S : Nat → Prop) (w : World) (ao : Option Addr) (l : List StD) : Prop := l.length ≤ bigN ∧ (l = [] ∨ ∃ b, ao = some ⟨b, 0, none⟩ ∧ onB S w b ∧ rowIs w 32 (St2 S w) l b 0)
theorem st2_iff (S : Nat → Prop) (w : World) (d : StD) (cs : List Value) : St2 S w d cs ↔ ∃ (s4 : List Value) (s9 : List Value) (s11 : List Value) (s26 : List Value) (a30 : Option Addr) (c30 : Nat) (a31 : Option Addr) (c31 : Nat), cs = [.int .i64 d.kind, .int .i64 d.pos, .bool d.mu, txV d.name] ++ s4 ++ [.bool d.has] ++ s9 ++ s11 ++ s26 ++ [.slice a30 (d.thn).length c30, .slice a31 (d.els).length c31] ∧ (d.name).length ≤ bigN ∧ TyIs (offB S w) w (d.ty) s4 ∧ PlIs (offB S w) w (d.place) s9 ∧ ValIs (offB S w) w (d.val) s11 ∧ OprIs (offB S w) w (d.cond) s26 ∧ Sl2 S w a30 (d.thn) ∧ Sl2 S w a31 (d.els) := by
 cases d
 unfold St2
 simp only [Sts2_row]
 exact Iff.rfl
theorem offB_keeps {S S' T : Nat → Prop} {w w' : World} (K : Keeps T w w') (hT : ∀ b, S b → ¬ T b) (hS : ∀ b, S b → S' b) : ∀ b, offB S w b → offB S' w' b := fun b h =>
 ⟨hS b h.1, Nat.lt_of_lt_of_le h.2.1 K.size, fun q => h.2.2 ((stB_keeps K (hT b h.1) h.2.1).1 q)⟩
theorem stB_lt {w : World} {b : Nat} (h : stB w b) : b < w.heap.size := by
 obtain ⟨cs, hc⟩ := h
 exact lt_of_block hc
theorem onB_keeps {S S' T : Nat → Prop} {w w' : World} (K : Keeps T w w') (hT : ∀ b, S b → ¬ T b) (hS : ∀ b, S b → S' b) : ∀ b, onB S w b → onB S' w' b := fun b h =>
 ⟨hS b h.1, (stB_keeps K (hT b h.1) (stB_lt h.2)).2 h.2⟩
theorem Sl2.keepsQ {S S' T : Nat → Prop} {w w' : World} {ao : Option Addr} {l : List StD} (h : Sl2 S w ao l) (K : Keeps T w w') (hT : ∀ b, S b → ¬ T b) (hS : ∀ b, S b → S' b) (hq : ∀ d ∈ l, ∀ cs, St2 S w d cs → St2 S' w' d cs) : Sl2 S' w' ao l := by
 refine ⟨h.1, ?_⟩
 rcases h.2 with h | ⟨b, h1, h2, h3⟩
 ·exact .inl h
 ·exact .inr ⟨b, h1, onB_keeps K hT hS b h2, rowIs_keeps h3 K (hT b h2.1) hq⟩
theorem St2.keeps {S S' T : Nat → Prop} {w w' : World} {d : StD} {cs : List Value} (h : St2 S w d cs) (K : Keeps T w w') (hT : ∀ b, S b → ¬ T b) (hS : ∀ b, S b → S' b) : St2 S' w' d cs := by
 refine StD.ind (P := fun d => ∀ cs, St2 S w d cs → St2 S' w' d cs) ?_ d cs h
 clear h cs d
 intro x_kind x_pos x_mu x_name x_ty x_has x_place x_val x_cond x_thn x_els ih_thn ih_els cs h
 rw [st2_iff] at h ⊢
 obtain ⟨s4, s9, s11, s26, a30, c30, a31, c31, rfl, h0, h1, h2, h3, h4, h5, h6⟩ := h
 have hT' : ∀ b, offB S w b → ¬ T b := fun b h => hT b h.1
 have hS' := offB_keeps K hT hS
 exact ⟨s4, s9, s11, s26, a30, c30, a31, c31, rfl, h0, h1.keeps K hT' hS', h2.keeps K hT' hS', h3.keeps K hT' hS', h4.keeps K hT' hS', h5.keepsQ K hT hS (fun e he cs hc => ih_thn e he cs hc), h6.keepsQ K hT hS (fun e he cs hc => ih_els e he cs hc)⟩
theorem Sl2.keeps {S S' T : Nat → Prop} {w w' : World} {ao : Option Addr} {l : List StD} (h : Sl2 S w ao l) (K : Keeps T w w') (hT : ∀ b, S b → ¬ T b) (hS : ∀ b, S b → S' b) : Sl2 S' w' ao l := h.keepsQ K hT hS (fun _ _ _ h => h.keeps K hT hS)
theorem St2.st {S : Nat → Prop} {w : World} {d : StD} {cs : List Value} (h : St2 S w d cs) : StIs S w d cs := by
 refine StD.ind (P := fun d => ∀ cs, St2 S w d cs → StIs S w d cs) ?_ d cs h
 clear h cs d
 intro x_kind x_pos x_mu x_name x_ty x_has x_place x_val x_cond x_thn x_els ih_thn ih_els cs h
 rw [st2_iff] at h
 rw [stIs_iff]
 obtain ⟨s4, s9, s11, s26, a30, c30, a31, c31, rfl, h0, h1, h2, h3, h4, h5, h6⟩ := h
 have K : Keeps Nothing w w := Keeps.refl _ _
 have hS : ∀ b, offB S w b → S b := fun b h => h.1
 have sl : ∀ (ao : Option Addr) (l : List StD), (∀ e ∈ l, ∀ cs, St2 S w e cs → StIs S w e cs) → Sl2 S w ao l → SlIs S w 32 (StIs S w) ao l := by
  intro ao l ih h
  refine ⟨h.1, ?_⟩
  rcases h.2 with h | ⟨b, e1, e2, e3⟩
  ·exact .inl h
  ·exact .inr ⟨b, 0, e1, e2.1, rowIs_keeps e3 K (fun h => h) ih⟩
 exact ⟨s4, s9, s11, s26, a30, c30, a31, c31, rfl, h0, h1.keeps K (fun _ _ h => h) hS, h2.keeps K (fun _ _ h => h) hS, h3.keeps K (fun _ _ h => h) hS, h4.keeps K (fun _ _ h => h) hS, sl _ _ ih_thn h5, sl _ _ ih_els h6⟩
theorem Sl2.sl {S : Nat → Prop} {w : World} {ao : Option Addr} {l : List StD} (h : Sl2 S w ao l) : SlIs S w 32 (StIs S w) ao l := by
 refine ⟨h.1, ?_⟩
 rcases h.2 with h | ⟨b, e1, e2, e3⟩
 ·exact .inl h
 ·exact .inr ⟨b, 0, e1, e2.1, rowIs_keeps e3 (Keeps.refl Nothing w) (fun h => h) (fun _ _ _ h => h.st)⟩
theorem St2.len {S : Nat → Prop} {w : World} {d : StD} {cs : List Value} (h : St2 S w d cs) : cs.length = 32 := h.st.len
theorem St2.one {S : Nat → Prop} {w : World} {d : StD} {cs : List Value} (h : St2 S w d cs) : ∀ u ∈ cs, u.oneCell' = true := h.st.one
theorem st2Ok : LayOk 32 St2 := ⟨fun _ _ _ _ h => h.len, fun _ _ _ _ h => h.one, fun _ _ _ _ _ _ _ h => h.keeps⟩
theorem OutR.sl2 {Z : World → Nat → Prop} {M : Nat} {w : World} {ao : Option Addr} {cap : Nat} {out : List StD} {S : Nat → Prop} (h : OutR Z 121 32 St2 M w ao cap out) (hZS : ∀ b, Z w b → S b) (hA : ∀ g, blockOf ao = some g → S g) (hb : out.length ≤ bigN) : Sl2 S w ao out := by
 obtain ⟨L, o, hl, he⟩ := h.row
 refine ⟨hb, ?_⟩
 by_cases h0 : out = []
 ·exact .inl h0
 ·obtain ⟨g, rfl⟩ := h.head h0
  obtain ⟨cur, hc⟩ := h.blk
  refine .inr ⟨g, rfl, ⟨hA g rfl, cur, hc⟩, rowIs_mk fun j d hd => ?_⟩
  obtain ⟨cs, e1, e2⟩ := he j d hd
  refine ⟨cs, e2.len, ?_, e2.keeps (Keeps.refl Nothing w) (fun _ _ h => h) (fun b hb => hZS b hb.1)⟩
  rw [Nat.zero_add]
  refine o.range (fun x hx => ?_) e1
  obtain ⟨i, hi⟩ := List.mem_iff_getElem?.1 hx
  have hlt := (List.getElem?_eq_some_iff.1 hi).1
  obtain ⟨cs', f1, f2⟩ := he i _ (List.getElem?_eq_getElem (by omega))
  rw [hi] at f1
  obtain rfl := Option.some.inj f1
  exact f2.len
section
variable {N : Nat} {w w' : World}
end
end Go.Proofs.YtjbcagbnagefcaaGreat
namespace Go.Proofs.YtjbcagbnagefcaaGreat
open Go.RowKit
attribute [local go_sem ↓] exec_mid_ty exec_store_ty exec_mid_pl exec_store_pl exec_mid_opr exec_store_opr exec_mid_val exec_store_val exec_mid_st exec_store_st exec_mid_fld exec_store_fld exec_mid_str exec_store_str exec_mid_lif exec_store_lif exec_mid_fun exec_store_fun exec_mid_cr exec_store_cr
attribute [local go_sem] rowOk_new World.setRow_alloc_new
set_option maxRecDepth 100000 in
set_option maxHeartbeats 4000000 in
theorem eqf_ty (f : FuncId) (hcf : Entered f) {S S' : Nat → Prop} {l m : List TyD} (hf : ∀ a ∈ l, ∀ b ∈ m, ∀ (W : World) (cs ds : List Value), TyIs S W a cs → TyIs S' W b ds → Calls Tryz.prog f #[.agg cs.toArray, .agg ds.toArray] W (Tells W (a = b)))
  (w : World) {ax ay : Option Addr} (cx cy : Nat) (hx : SlIs S w 4 (TyIs S w) ax l) (hy : SlIs S' w 4 (TyIs S' w) ay m) :
  Calls Tryz.prog 150 #[.slice ax l.length cx, .slice ay m.length cy, .func (.func f) #[] #[]] w (Tells w (l = m)) := by
 have hlx := hx.1
 have hly := hy.1
 unfold bigN at hlx hly
 have HX := shut hx
 have HY := shut hy
 have HF := shut hf
 clear hx hy hf
 by_cases hne : l.length = m.length
 ·obtain ⟨n, hn⟩ : ∃ n, l.length = n := ⟨_, rfl⟩
  have hm : m.length = n := by omega
  rw [hn, hm]
  rw [hn] at hlx
  clear hne hly
  have HN := shut hn
  have HM := shut hm
  clear hn hm
  go_enter Tryz.func150, Tryz.ntmps150
  go_wp2_with fail
  go_loopw [7, 8, 9, 17] (fun s7 s8 s9 s17 wx => ∃ t : Nat, s17 = .int .i64 t ∧ t ≤ n ∧ Keeps Nothing w wx ∧ Shut (l.take t = m.take t)) (fun _ _ _ s17 _ => n - (intOf s17).toNat)
  case atStart => exact ⟨0, rfl, Nat.zero_le _, Keeps.refl _ _, shut (by simp)⟩
  case round =>
   obtain ⟨t, rfl, ht, K, HT⟩ := hrel
   by_cases hlt : t < n
   ·obtain ⟨a, ha⟩ : ∃ a, l[t]? = some a := ⟨_, List.getElem?_eq_getElem (by rw [HN.out]; exact hlt)⟩
    obtain ⟨b, hb⟩ : ∃ b, m[t]? = some b := ⟨_, List.getElem?_eq_getElem (by rw [HM.out]; exact hlt)⟩
    have HA := shut ha
    have HB := shut hb
    obtain ⟨g1, o1, rfl, -, cs, l1, r1, i1⟩ := (HX.out.keeps K (fun _ _ h => h) (fun _ h => h) (fun _ _ _ h => h.keeps K (fun _ _ h => h) (fun _ h => h))).get ha
    obtain ⟨g2, o2, rfl, -, ds, l2, r2, i2⟩ := (HY.out.keeps K (fun _ _ h => h) (fun _ h => h) (fun _ _ _ h => h.keeps K (fun _ _ h => h) (fun _ h => h))).get hb
    have ag1 := agg_ok l1 i1.one
    have ag2 := agg_ok l2 i2.one
    have hcm := List.mem_of_getElem? ha
    have hdm := List.mem_of_getElem? hb
    clear ha hb
    have m0 : (0 : Int) ≤ t := by omega
    have m1 : (t : Int) < n := by omega
    have hk := midOk_range r1
    have ho := midOf_range r1
    rw [l1] at hk ho
    have hz : cs.toArray.size = 4 := by simpa using l1
    obtain ⟨C, hC⟩ : ∃ C, C = cs.toArray := ⟨_, rfl⟩
    rw [← hC] at ag1 ho hz
    have HC := shut hC
    clear hC
    go_upto_region 6 with fail
    have kb1 : Keeps Nothing wr (wr.alloc (.cells C 53)) := (Keeps.refl Nothing wr).alloc _
    have bx1 := blk_new wr C 53
    have r2' := rangeAt_keeps r2 kb1 (fun h => h)
    clear hk ho r2
    generalize hgx1 : wr.heap.size = gx1 at *
    clear hgx1
    have hk := midOk_range r2'
    have ho := midOf_range r2'
    rw [l2] at hk ho
    have hz2 : ds.toArray.size = 4 := by simpa using l2
    obtain ⟨D, hD⟩ : ∃ D, D = ds.toArray := ⟨_, rfl⟩
    rw [← hD] at ag2 ho hz2
    have HD := shut hD
    clear hD
    have KB := K.trans kb1 (fun _ h _ => h)
    have j1 := i1.keeps kb1 (fun _ _ h => h) (fun _ h => h)
    have j2 := i2.keeps kb1 (fun _ _ h => h) (fun _ h => h)
    clear i1 i2 kb1 K r1
    generalize wr.alloc (.cells C 53) = w1 at *
    go_upto_region 7 with fail
    have kb2 : Keeps Nothing w1 (w1.alloc (.cells D 53)) := (Keeps.refl Nothing w1).alloc _
    have bx2 := blk_new w1 D 53
    have bx1 := kb2.blk bx1 (fun h => h)
    have KC := KB.trans kb2 (fun _ h _ => h)
    have q1 := j1.keeps kb2 (fun _ _ h => h) (fun _ h => h)
    have q2 := j2.keeps kb2 (fun _ _ h => h) (fun _ h => h)
    clear hk ho r2' j1 j2 kb2 KB
    generalize hgx2 : w1.heap.size = gx2 at *
    clear hgx2
    generalize w1.alloc (.cells D 53) = w2 at *
    obtain ⟨y1, y2⟩ := tblk_mid bx1 hz
    obtain ⟨y3, y4⟩ := tblk_mid bx2 hz2
    have hcall := HF.out a hcm b hdm w2 cs ds q1 q2
    rw [← HC.out, ← HD.out] at hcall
    clear q1 q2 bx1 bx2
    have hcf2 := hcf #[.agg C, .agg D] w2
    go_wp2_with fail
    clear hcf2
    refine hcall.mono ?_
    rintro e w3 ⟨⟨z, rfl, hzz⟩, k3⟩
    have KD := KC.trans k3 (fun _ h _ => h)
    have HZ := shut hzz
    clear hcall y1 y2 y3 y4 KC k3 hzz
    cases z with
    | true =>
     have HAB := shut (HZ.out.1 rfl)
     clear HZ
     go_wp2_with fail
     go_roundw
     case rel => exact ⟨t + 1, by go_num, by omega, KD, shut (take_eq HA.out HB.out HT.out HAB.out)⟩
     case measure => simp [intOf]; omega
    | false =>
     have HAB : Shut (a ≠ b) := shut (fun h => by have h2 := HZ.out.2 h; cases h2)
     clear HZ
     go_wp2_with fail
     go_ret
     exact tells_f (ne_at HA.out HB.out HAB.out) KD
   ·obtain rfl : t = n := by omega
    have m1 : ¬ (t : Int) < t := by omega
    go_wp2_with fail
    go_ret
    refine tells_t ?_ K
    have h := HT.out
    rwa [List.take_of_length_le (Nat.le_of_eq HN.out), List.take_of_length_le (Nat.le_of_eq HM.out)] at h
 ·have hne' : ¬ (l.length : Int) = m.length := by omega
  have hl : l ≠ m := fun h => hne (by rw [h])
  go_enter Tryz.func150, Tryz.ntmps150
  go_wp2_with fail
  go_ret
  exact tells_f hl (Keeps.refl _ _)
set_option maxHeartbeats 1000000 in
theorem each_ty (f : FuncId) (hcf : Entered f) {S S' : Nat → Prop} {l m : List TyD} (hf : ∀ a ∈ l, ∀ b ∈ m, ∀ (W : World) (cs ds : List Value), TyIs S W a cs → TyIs S' W b ds → Calls Tryz.prog f #[.agg cs.toArray, .agg ds.toArray] W (Tells W (a = b)))
  (w : World) {ax ay : Option Addr} (cx cy : Nat) (hx : SlIs S w 4 (TyIs S w) ax l) (hy : SlIs S' w 4 (TyIs S' w) ay m) :
  Calls Tryz.prog 142 #[.slice ax l.length cx, .slice ay m.length cy, .func (.func f) #[] #[]] w (Tells w (l = m)) := by
 have h := eqf_ty f hcf hf w cx cy hx hy
 clear hf hcf hx hy
 go_enter Tryz.func142, Tryz.ntmps142
 go_wp2_with fail
 refine h.mono ?_
 rintro e w1 ⟨⟨z, rfl, hz⟩, k⟩
 have HZ := shut hz
 clear hz h
 go_wp2_with fail
 go_ret
 exact tells_z HZ.out k
theorem ent_sameType : Entered 134 := entered_of Tryz.func134 (by kernel_rfl) (by kernel_rfl)
set_option maxRecDepth 100000 in
set_option maxHeartbeats 4000000 in
theorem sameType_any {S S' : Nat → Prop} : ∀ (a b : TyD) (w : World) (cs ds : List Value), TyIs S w a cs → TyIs S' w b ds → Calls Tryz.prog 134 #[.agg cs.toArray, .agg ds.toArray] w (Tells w (a = b)) := by
 refine TyD.ind ?_
 intro a_kind a_name a_lives a_elem ih_elem b w cs ds ha hb
 obtain ⟨b_kind, b_name, b_lives, b_elem⟩ := b
 have hih_elem : ∀ a ∈ a_elem, ∀ b ∈ b_elem, ∀ (W : World) (cs ds : List Value), TyIs S W a cs → TyIs S' W b ds → Calls Tryz.prog 134 #[.agg cs.toArray, .agg ds.toArray] W (Tells W (a = b)) := fun a h b _ W cs ds => ih_elem a h b W cs ds
 have HI_elem := shut hih_elem
 clear hih_elem ih_elem
 have ag1 := agg_ok ha.len ha.one
 have ag2 := agg_ok hb.len hb.one
 rw [tyIs_iff] at ha hb
 obtain ⟨p2, q2, p3, q3, hcs, ah_name, ah_lives, ah_elem⟩ := ha
 have HCA := shut hcs
 clear hcs
 obtain ⟨x2, y2, x3, y3, hcs, bh_name, bh_lives, bh_elem⟩ := hb
 have HCB := shut hcs
 clear hcs
 simp only [TyD.kind, TyD.name, TyD.lives, TyD.elem] at ah_name bh_name ah_lives bh_lives ah_elem bh_elem HCA HCB
 have HE : Shut ((TyD.mk a_kind a_name a_lives a_elem) = (TyD.mk b_kind b_name b_lives b_elem) ↔ a_kind = b_kind ∧ a_name = b_name ∧ a_lives = b_lives ∧ a_elem = b_elem) := shut (by rw [TyD.mk.injEq])
 obtain ⟨XA, hXA⟩ : ∃ X, X = TyD.mk a_kind a_name a_lives a_elem := ⟨_, rfl⟩
 obtain ⟨XB, hXB⟩ : ∃ X, X = TyD.mk b_kind b_name b_lives b_elem := ⟨_, rfl⟩
 rw [← hXA, ← hXB] at HE ⊢
 clear hXA hXB
 obtain ⟨CA, hCA⟩ : ∃ C, C = cs.toArray := ⟨_, rfl⟩
 obtain ⟨CB, hCB⟩ : ∃ C, C = ds.toArray := ⟨_, rfl⟩
 rw [← hCA] at ag1 ⊢
 rw [← hCB] at ag2 ⊢
 rw [HCA.out] at hCA
 rw [HCB.out] at hCB
 have GCA := shut hCA
 have GCB := shut hCB
 clear hCA hCB HCA HCB
 have KW : Keeps Nothing w ((w.alloc (.cells CA 53)).alloc (.cells CB 53)) := ((Keeps.refl Nothing w).alloc _).alloc _
 have BA : Blk ((w.alloc (.cells CA 53)).alloc (.cells CB 53)) w.heap.size CA 53 := blk_alloc (blk_new w CA 53) _
 have BB : Blk ((w.alloc (.cells CA 53)).alloc (.cells CB 53)) (w.heap.size + 1) CB 53 := by have h := blk_new (w.alloc (.cells CA 53)) CB 53; rwa [World.size_alloc] at h
 go_enter Tryz.func134, Tryz.ntmps134
 obtain ⟨ae0, ae1, ae2, -⟩ := TyB  GCA.out BA
 obtain ⟨be0, be1, be2, -⟩ := TyB  GCB.out BB
 have ac0 := blk_inv BA ae0
 have bc0 := blk_inv BB be0
 have ac1 := blk_inv BA ae1
 have bc1 := blk_inv BB be1
 have ac2 := blk_inv BA ae2
 have bc2 := blk_inv BB be2
 by_cases e_kind : a_kind = b_kind
 rotate_left
 ·have hno : Shut (¬ XA = XB) := shut (fun h => e_kind ((HE.out.1 h).1))
  clear HE GCA GCB BA BB
  unfold txV at *
  go_wp2_with fail
  go_ret
  exact tells_f hno.out KW
 subst e_kind
 by_cases e_name : a_name = b_name
 rotate_left
 ·have hno : Shut (¬ XA = XB) := shut (fun h => e_name ((HE.out.1 h).2.1))
  clear HE GCA GCB BA BB
  have hq : (a_name == b_name) = false := by rw [beq_eq_false_iff_ne]; exact e_name
  unfold txV at *
  go_wp2_with fail
  go_ret
  exact tells_f hno.out KW
 subst e_name
 have hq_name : (a_name == a_name) = true := beq_self_eq_true _
 have hc := equal_tx ((w.alloc (.cells CA 53)).alloc (.cells CB 53)) q2 y2 (ah_lives.keeps KW (fun _ _ h => h) (fun _ h => h) (fun _ _ _ h => h)) (bh_lives.keeps KW (fun _ _ h => h) (fun _ h => h) (fun _ _ _ h => h))
 unfold txV at *
 go_wp2_with fail
 refine hc.mono ?_
 rintro e w1 ⟨⟨z, rfl, hz⟩, k1⟩
 have KW := KW.trans k1 (fun _ h _ => h)
 have BA := k1.blk BA (fun h => h)
 have BB := k1.blk BB (fun h => h)
 clear hc k1 ae0 ac0 be0 bc0 ae1 ac1 be1 bc1 ae2 ac2 be2 bc2 hq_name
 cases z
 ·have hno : Shut (¬ XA = XB) := shut (fun h => by have h2 := hz.2 ((HE.out.1 h).2.2.1); cases h2)
  clear HE GCA GCB BA BB hz
  go_wp2_with fail
  go_ret
  exact tells_f hno.out KW
 have E_lives := shut (hz.1 rfl)
 clear hz
 obtain ⟨-, -, -, ae3⟩ := TyB  GCA.out BA
 obtain ⟨-, -, -, be3⟩ := TyB  GCB.out BB
 have hc := each_ty _ ent_sameType HI_elem.out w1 q3 y3 (ah_elem.keeps KW (fun _ _ h => h) (fun _ h => h) (fun _ _ _ h => h.keeps KW (fun _ _ h => h) (fun _ h => h))) (bh_elem.keeps KW (fun _ _ h => h) (fun _ h => h) (fun _ _ _ h => h.keeps KW (fun _ _ h => h) (fun _ h => h)))
 skip
 go_wp2_with fail
 refine hc.mono ?_
 rintro e w2 ⟨⟨z, rfl, hz⟩, k2⟩
 have KW := KW.trans k2 (fun _ h _ => h)
 have BA := k2.blk BA (fun h => h)
 have BB := k2.blk BB (fun h => h)
 clear hc k2 ae3 be3
 cases z
 ·have hno : Shut (¬ XA = XB) := shut (fun h => by have h2 := hz.2 ((HE.out.1 h).2.2.2); cases h2)
  clear HE GCA GCB BA BB hz
  go_wp2_with fail
  go_ret
  exact tells_f hno.out KW
 have E_elem := shut (hz.1 rfl)
 clear hz
 go_wp2_with fail
 go_ret
 exact tells_t (HE.out.2 ⟨(by first | rfl | trivial), (by first | rfl | trivial), E_lives.out, E_elem.out⟩) KW
set_option maxRecDepth 100000 in
set_option maxHeartbeats 4000000 in
theorem samePlace_any {S S' : Nat → Prop} (a b : PlD) (w : World) (cs ds : List Value) (ha : PlIs S w a cs) (hb : PlIs S' w b ds) : Calls Tryz.prog 133 #[.agg cs.toArray, .agg ds.toArray] w (Tells w (a = b)) := by
 obtain ⟨a_name, a_path⟩ := a
 obtain ⟨b_name, b_path⟩ := b
 have ag1 := agg_ok ha.len ha.one
 have ag2 := agg_ok hb.len hb.one
 obtain ⟨p1, q1, hcs, ah_name, ah_path⟩ := ha
 have HCA := shut hcs
 clear hcs
 obtain ⟨x1, y1, hcs, bh_name, bh_path⟩ := hb
 have HCB := shut hcs
 clear hcs
 simp only at HCA HCB ah_name bh_name ah_path bh_path
 have HE : Shut ((PlD.mk a_name a_path) = (PlD.mk b_name b_path) ↔ a_name = b_name ∧ a_path = b_path) := shut (by rw [PlD.mk.injEq])
 obtain ⟨XA, hXA⟩ : ∃ X, X = PlD.mk a_name a_path := ⟨_, rfl⟩
 obtain ⟨XB, hXB⟩ : ∃ X, X = PlD.mk b_name b_path := ⟨_, rfl⟩
 rw [← hXA, ← hXB] at HE ⊢
 clear hXA hXB
 obtain ⟨CA, hCA⟩ : ∃ C, C = cs.toArray := ⟨_, rfl⟩
 obtain ⟨CB, hCB⟩ : ∃ C, C = ds.toArray := ⟨_, rfl⟩
 rw [← hCA] at ag1 ⊢
 rw [← hCB] at ag2 ⊢
 rw [HCA.out] at hCA
 rw [HCB.out] at hCB
 have GCA := shut hCA
 have GCB := shut hCB
 clear hCA hCB HCA HCB
 have KW : Keeps Nothing w ((w.alloc (.cells CA 114)).alloc (.cells CB 114)) := ((Keeps.refl Nothing w).alloc _).alloc _
 have BA : Blk ((w.alloc (.cells CA 114)).alloc (.cells CB 114)) w.heap.size CA 114 := blk_alloc (blk_new w CA 114) _
 have BB : Blk ((w.alloc (.cells CA 114)).alloc (.cells CB 114)) (w.heap.size + 1) CB 114 := by have h := blk_new (w.alloc (.cells CA 114)) CB 114; rwa [World.size_alloc] at h
 go_enter Tryz.func133, Tryz.ntmps133
 obtain ⟨ae0, ae1⟩ := PlB  GCA.out BA
 obtain ⟨be0, be1⟩ := PlB  GCB.out BB
 have ac0 := blk_inv BA ae0
 have bc0 := blk_inv BB be0
 have ac1 := blk_inv BA ae1
 have bc1 := blk_inv BB be1
 by_cases e_name : a_name = b_name
 rotate_left
 ·have hno : Shut (¬ XA = XB) := shut (fun h => e_name ((HE.out.1 h).1))
  clear HE GCA GCB BA BB
  have hq : (a_name == b_name) = false := by rw [beq_eq_false_iff_ne]; exact e_name
  unfold txV at *
  go_wp2_with fail
  go_ret
  exact tells_f hno.out KW
 subst e_name
 have hq_name : (a_name == a_name) = true := beq_self_eq_true _
 have hc := equal_tx ((w.alloc (.cells CA 114)).alloc (.cells CB 114)) q1 y1 (ah_path.keeps KW (fun _ _ h => h) (fun _ h => h) (fun _ _ _ h => h)) (bh_path.keeps KW (fun _ _ h => h) (fun _ h => h) (fun _ _ _ h => h))
 unfold txV at *
 go_wp2_with fail
 refine hc.mono ?_
 rintro e w1 ⟨⟨z, rfl, hz⟩, k1⟩
 have KW := KW.trans k1 (fun _ h _ => h)
 have BA := k1.blk BA (fun h => h)
 have BB := k1.blk BB (fun h => h)
 clear hc k1 ae0 ac0 be0 bc0 ae1 ac1 be1 bc1 hq_name
 cases z
 ·have hno : Shut (¬ XA = XB) := shut (fun h => by have h2 := hz.2 ((HE.out.1 h).2); cases h2)
  clear HE GCA GCB BA BB hz
  go_wp2_with fail
  go_ret
  exact tells_f hno.out KW
 have E_path := shut (hz.1 rfl)
 clear hz
 go_wp2_with fail
 go_ret
 exact tells_t (HE.out.2 ⟨(by first | rfl | trivial), E_path.out⟩) KW
theorem ent_sameOper : Entered 135 := entered_of Tryz.func135 (by kernel_rfl) (by kernel_rfl)
set_option maxRecDepth 100000 in
set_option maxHeartbeats 4000000 in
theorem sameOper_any {S S' : Nat → Prop} (a b : OprD) (w : World) (cs ds : List Value) (ha : OprIs S w a cs) (hb : OprIs S' w b ds) : Calls Tryz.prog 135 #[.agg cs.toArray, .agg ds.toArray] w (Tells w (a = b)) := by
 obtain ⟨a_kind, a_n, a_place⟩ := a
 obtain ⟨b_kind, b_n, b_place⟩ := b
 have ag1 := agg_ok ha.len ha.one
 have ag2 := agg_ok hb.len hb.one
 obtain ⟨s2, hcs, ah_place⟩ := ha
 have HCA := shut hcs
 clear hcs
 obtain ⟨t2, hcs, bh_place⟩ := hb
 have HCB := shut hcs
 clear hcs
 simp only at HCA HCB ah_place bh_place
 have HE : Shut ((OprD.mk a_kind a_n a_place) = (OprD.mk b_kind b_n b_place) ↔ a_kind = b_kind ∧ a_n = b_n ∧ a_place = b_place) := shut (by rw [OprD.mk.injEq])
 obtain ⟨XA, hXA⟩ : ∃ X, X = OprD.mk a_kind a_n a_place := ⟨_, rfl⟩
 obtain ⟨XB, hXB⟩ : ∃ X, X = OprD.mk b_kind b_n b_place := ⟨_, rfl⟩
 rw [← hXA, ← hXB] at HE ⊢
 clear hXA hXB
 obtain ⟨CA, hCA⟩ : ∃ C, C = cs.toArray := ⟨_, rfl⟩
 obtain ⟨CB, hCB⟩ : ∃ C, C = ds.toArray := ⟨_, rfl⟩
 rw [← hCA] at ag1 ⊢
 rw [← hCB] at ag2 ⊢
 rw [HCA.out] at hCA
 rw [HCB.out] at hCB
 have GCA := shut hCA
 have GCB := shut hCB
 clear hCA hCB HCA HCB
 have KW : Keeps Nothing w ((w.alloc (.cells CA 116)).alloc (.cells CB 116)) := ((Keeps.refl Nothing w).alloc _).alloc _
 have BA : Blk ((w.alloc (.cells CA 116)).alloc (.cells CB 116)) w.heap.size CA 116 := blk_alloc (blk_new w CA 116) _
 have BB : Blk ((w.alloc (.cells CA 116)).alloc (.cells CB 116)) (w.heap.size + 1) CB 116 := by have h := blk_new (w.alloc (.cells CA 116)) CB 116; rwa [World.size_alloc] at h
 have al_place := ah_place.len
 have bl_place := bh_place.len
 go_enter Tryz.func135, Tryz.ntmps135
 obtain ⟨ae0, ae1, ⟨ae2, af2⟩⟩ := OprB al_place GCA.out BA
 obtain ⟨be0, be1, ⟨be2, bf2⟩⟩ := OprB bl_place GCB.out BB
 have ac0 := blk_inv BA ae0
 have bc0 := blk_inv BB be0
 have ac1 := blk_inv BA ae1
 have bc1 := blk_inv BB be1
 by_cases e_kind : a_kind = b_kind
 rotate_left
 ·have hno : Shut (¬ XA = XB) := shut (fun h => e_kind ((HE.out.1 h).1))
  clear HE GCA GCB BA BB
  go_wp2_with fail
  go_ret
  exact tells_f hno.out KW
 subst e_kind
 by_cases e_n : a_n = b_n
 rotate_left
 ·have hno : Shut (¬ XA = XB) := shut (fun h => e_n ((HE.out.1 h).2.1))
  clear HE GCA GCB BA BB
  go_wp2_with fail
  go_ret
  exact tells_f hno.out KW
 subst e_n
 have hc := samePlace_any _ _ ((w.alloc (.cells CA 116)).alloc (.cells CB 116)) _ _ (ah_place.keeps KW (fun _ _ h => h) (fun _ h => h)) (bh_place.keeps KW (fun _ _ h => h) (fun _ h => h))
 generalize hsa : s2.toArray = sa at *
 generalize hsb : t2.toArray = sb at *
 clear hsa hsb
 skip
 go_wp2_with fail
 refine hc.mono ?_
 rintro e w1 ⟨⟨z, rfl, hz⟩, k1⟩
 have KW := KW.trans k1 (fun _ h _ => h)
 have BA := k1.blk BA (fun h => h)
 have BB := k1.blk BB (fun h => h)
 clear hc k1 ae0 ac0 be0 bc0 ae1 ac1 be1 bc1 ae2 af2 be2 bf2
 cases z
 ·have hno : Shut (¬ XA = XB) := shut (fun h => by have h2 := hz.2 ((HE.out.1 h).2.2); cases h2)
  clear HE GCA GCB BA BB hz
  go_wp2_with fail
  go_ret
  exact tells_f hno.out KW
 have E_place := shut (hz.1 rfl)
 clear hz
 go_wp2_with fail
 go_ret
 exact tells_t (HE.out.2 ⟨(by first | rfl | trivial), (by first | rfl | trivial), E_place.out⟩) KW
set_option maxRecDepth 100000 in
set_option maxHeartbeats 4000000 in
theorem eqf_opr (f : FuncId) (hcf : Entered f) {S S' : Nat → Prop} {l m : List OprD} (hf : ∀ a ∈ l, ∀ b ∈ m, ∀ (W : World) (cs ds : List Value), OprIs S W a cs → OprIs S' W b ds → Calls Tryz.prog f #[.agg cs.toArray, .agg ds.toArray] W (Tells W (a = b)))
  (w : World) {ax ay : Option Addr} (cx cy : Nat) (hx : SlIs S w 4 (OprIs S w) ax l) (hy : SlIs S' w 4 (OprIs S' w) ay m) :
  Calls Tryz.prog 149 #[.slice ax l.length cx, .slice ay m.length cy, .func (.func f) #[] #[]] w (Tells w (l = m)) := by
 have hlx := hx.1
 have hly := hy.1
 unfold bigN at hlx hly
 have HX := shut hx
 have HY := shut hy
 have HF := shut hf
 clear hx hy hf
 by_cases hne : l.length = m.length
 ·obtain ⟨n, hn⟩ : ∃ n, l.length = n := ⟨_, rfl⟩
  have hm : m.length = n := by omega
  rw [hn, hm]
  rw [hn] at hlx
  clear hne hly
  have HN := shut hn
  have HM := shut hm
  clear hn hm
  go_enter Tryz.func149, Tryz.ntmps149
  go_wp2_with fail
  go_loopw [7, 8, 9, 17] (fun s7 s8 s9 s17 wx => ∃ t : Nat, s17 = .int .i64 t ∧ t ≤ n ∧ Keeps Nothing w wx ∧ Shut (l.take t = m.take t)) (fun _ _ _ s17 _ => n - (intOf s17).toNat)
  case atStart => exact ⟨0, rfl, Nat.zero_le _, Keeps.refl _ _, shut (by simp)⟩
  case round =>
   obtain ⟨t, rfl, ht, K, HT⟩ := hrel
   by_cases hlt : t < n
   ·obtain ⟨a, ha⟩ : ∃ a, l[t]? = some a := ⟨_, List.getElem?_eq_getElem (by rw [HN.out]; exact hlt)⟩
    obtain ⟨b, hb⟩ : ∃ b, m[t]? = some b := ⟨_, List.getElem?_eq_getElem (by rw [HM.out]; exact hlt)⟩
    have HA := shut ha
    have HB := shut hb
    obtain ⟨g1, o1, rfl, -, cs, l1, r1, i1⟩ := (HX.out.keeps K (fun _ _ h => h) (fun _ h => h) (fun _ _ _ h => h.keeps K (fun _ _ h => h) (fun _ h => h))).get ha
    obtain ⟨g2, o2, rfl, -, ds, l2, r2, i2⟩ := (HY.out.keeps K (fun _ _ h => h) (fun _ h => h) (fun _ _ _ h => h.keeps K (fun _ _ h => h) (fun _ h => h))).get hb
    have ag1 := agg_ok l1 i1.one
    have ag2 := agg_ok l2 i2.one
    have hcm := List.mem_of_getElem? ha
    have hdm := List.mem_of_getElem? hb
    clear ha hb
    have m0 : (0 : Int) ≤ t := by omega
    have m1 : (t : Int) < n := by omega
    have hk := midOk_range r1
    have ho := midOf_range r1
    rw [l1] at hk ho
    have hz : cs.toArray.size = 4 := by simpa using l1
    obtain ⟨C, hC⟩ : ∃ C, C = cs.toArray := ⟨_, rfl⟩
    rw [← hC] at ag1 ho hz
    have HC := shut hC
    clear hC
    go_upto_region 6 with fail
    have kb1 : Keeps Nothing wr (wr.alloc (.cells C 116)) := (Keeps.refl Nothing wr).alloc _
    have bx1 := blk_new wr C 116
    have r2' := rangeAt_keeps r2 kb1 (fun h => h)
    clear hk ho r2
    generalize hgx1 : wr.heap.size = gx1 at *
    clear hgx1
    have hk := midOk_range r2'
    have ho := midOf_range r2'
    rw [l2] at hk ho
    have hz2 : ds.toArray.size = 4 := by simpa using l2
    obtain ⟨D, hD⟩ : ∃ D, D = ds.toArray := ⟨_, rfl⟩
    rw [← hD] at ag2 ho hz2
    have HD := shut hD
    clear hD
    have KB := K.trans kb1 (fun _ h _ => h)
    have j1 := i1.keeps kb1 (fun _ _ h => h) (fun _ h => h)
    have j2 := i2.keeps kb1 (fun _ _ h => h) (fun _ h => h)
    clear i1 i2 kb1 K r1
    generalize wr.alloc (.cells C 116) = w1 at *
    go_upto_region 7 with fail
    have kb2 : Keeps Nothing w1 (w1.alloc (.cells D 116)) := (Keeps.refl Nothing w1).alloc _
    have bx2 := blk_new w1 D 116
    have bx1 := kb2.blk bx1 (fun h => h)
    have KC := KB.trans kb2 (fun _ h _ => h)
    have q1 := j1.keeps kb2 (fun _ _ h => h) (fun _ h => h)
    have q2 := j2.keeps kb2 (fun _ _ h => h) (fun _ h => h)
    clear hk ho r2' j1 j2 kb2 KB
    generalize hgx2 : w1.heap.size = gx2 at *
    clear hgx2
    generalize w1.alloc (.cells D 116) = w2 at *
    obtain ⟨y1, y2⟩ := tblk_mid bx1 hz
    obtain ⟨y3, y4⟩ := tblk_mid bx2 hz2
    have hcall := HF.out a hcm b hdm w2 cs ds q1 q2
    rw [← HC.out, ← HD.out] at hcall
    clear q1 q2 bx1 bx2
    have hcf2 := hcf #[.agg C, .agg D] w2
    go_wp2_with fail
    clear hcf2
    refine hcall.mono ?_
    rintro e w3 ⟨⟨z, rfl, hzz⟩, k3⟩
    have KD := KC.trans k3 (fun _ h _ => h)
    have HZ := shut hzz
    clear hcall y1 y2 y3 y4 KC k3 hzz
    cases z with
    | true =>
     have HAB := shut (HZ.out.1 rfl)
     clear HZ
     go_wp2_with fail
     go_roundw
     case rel => exact ⟨t + 1, by go_num, by omega, KD, shut (take_eq HA.out HB.out HT.out HAB.out)⟩
     case measure => simp [intOf]; omega
    | false =>
     have HAB : Shut (a ≠ b) := shut (fun h => by have h2 := HZ.out.2 h; cases h2)
     clear HZ
     go_wp2_with fail
     go_ret
     exact tells_f (ne_at HA.out HB.out HAB.out) KD
   ·obtain rfl : t = n := by omega
    have m1 : ¬ (t : Int) < t := by omega
    go_wp2_with fail
    go_ret
    refine tells_t ?_ K
    have h := HT.out
    rwa [List.take_of_length_le (Nat.le_of_eq HN.out), List.take_of_length_le (Nat.le_of_eq HM.out)] at h
 ·have hne' : ¬ (l.length : Int) = m.length := by omega
  have hl : l ≠ m := fun h => hne (by rw [h])
  go_enter Tryz.func149, Tryz.ntmps149
  go_wp2_with fail
  go_ret
  exact tells_f hl (Keeps.refl _ _)
set_option maxHeartbeats 1000000 in
theorem each_opr (f : FuncId) (hcf : Entered f) {S S' : Nat → Prop} {l m : List OprD} (hf : ∀ a ∈ l, ∀ b ∈ m, ∀ (W : World) (cs ds : List Value), OprIs S W a cs → OprIs S' W b ds → Calls Tryz.prog f #[.agg cs.toArray, .agg ds.toArray] W (Tells W (a = b)))
  (w : World) {ax ay : Option Addr} (cx cy : Nat) (hx : SlIs S w 4 (OprIs S w) ax l) (hy : SlIs S' w 4 (OprIs S' w) ay m) :
  Calls Tryz.prog 141 #[.slice ax l.length cx, .slice ay m.length cy, .func (.func f) #[] #[]] w (Tells w (l = m)) := by
 have h := eqf_opr f hcf hf w cx cy hx hy
 clear hf hcf hx hy
 go_enter Tryz.func141, Tryz.ntmps141
 go_wp2_with fail
 refine h.mono ?_
 rintro e w1 ⟨⟨z, rfl, hz⟩, k⟩
 have HZ := shut hz
 clear hz h
 go_wp2_with fail
 go_ret
 exact tells_z HZ.out k
set_option maxRecDepth 100000 in
set_option maxHeartbeats 4000000 in
theorem sameValue_any {S S' : Nat → Prop} (a b : ValD) (w : World) (cs ds : List Value) (ha : ValIs S w a cs) (hb : ValIs S' w b ds) : Calls Tryz.prog 132 #[.agg cs.toArray, .agg ds.toArray] w (Tells w (a = b)) := by
 obtain ⟨a_kind, a_a, a_b, a_op, a_place, a_name, a_names, a_args⟩ := a
 obtain ⟨b_kind, b_a, b_b, b_op, b_place, b_name, b_names, b_args⟩ := b
 have ag1 := agg_ok ha.len ha.one
 have ag2 := agg_ok hb.len hb.one
 obtain ⟨s1, s5, s10, p13, q13, p14, q14, hcs, ah_a, ah_b, ah_place, ah_name, ah_names, ah_args⟩ := ha
 have HCA := shut hcs
 clear hcs
 obtain ⟨t1, t5, t10, x13, y13, x14, y14, hcs, bh_a, bh_b, bh_place, bh_name, bh_names, bh_args⟩ := hb
 have HCB := shut hcs
 clear hcs
 simp only at HCA HCB ah_a bh_a ah_b bh_b ah_place bh_place ah_name bh_name ah_names bh_names ah_args bh_args
 have HE : Shut ((ValD.mk a_kind a_a a_b a_op a_place a_name a_names a_args) = (ValD.mk b_kind b_a b_b b_op b_place b_name b_names b_args) ↔ a_kind = b_kind ∧ a_a = b_a ∧ a_b = b_b ∧ a_op = b_op ∧ a_place = b_place ∧ a_name = b_name ∧ a_names = b_names ∧ a_args = b_args) := shut (by rw [ValD.mk.injEq])
 obtain ⟨XA, hXA⟩ : ∃ X, X = ValD.mk a_kind a_a a_b a_op a_place a_name a_names a_args := ⟨_, rfl⟩
 obtain ⟨XB, hXB⟩ : ∃ X, X = ValD.mk b_kind b_a b_b b_op b_place b_name b_names b_args := ⟨_, rfl⟩
 rw [← hXA, ← hXB] at HE ⊢
 clear hXA hXB
 obtain ⟨CA, hCA⟩ : ∃ C, C = cs.toArray := ⟨_, rfl⟩
 obtain ⟨CB, hCB⟩ : ∃ C, C = ds.toArray := ⟨_, rfl⟩
 rw [← hCA] at ag1 ⊢
 rw [← hCB] at ag2 ⊢
 rw [HCA.out] at hCA
 rw [HCB.out] at hCB
 have GCA := shut hCA
 have GCB := shut hCB
 clear hCA hCB HCA HCB
 have KW : Keeps Nothing w ((w.alloc (.cells CA 119)).alloc (.cells CB 119)) := ((Keeps.refl Nothing w).alloc _).alloc _
 have BA : Blk ((w.alloc (.cells CA 119)).alloc (.cells CB 119)) w.heap.size CA 119 := blk_alloc (blk_new w CA 119) _
 have BB : Blk ((w.alloc (.cells CA 119)).alloc (.cells CB 119)) (w.heap.size + 1) CB 119 := by have h := blk_new (w.alloc (.cells CA 119)) CB 119; rwa [World.size_alloc] at h
 have al_a := ah_a.len
 have bl_a := bh_a.len
 have al_b := ah_b.len
 have bl_b := bh_b.len
 have al_place := ah_place.len
 have bl_place := bh_place.len
 go_enter Tryz.func132, Tryz.ntmps132
 obtain ⟨ae0, ⟨ae1, af1⟩, -, -, -, -, -, -⟩ := ValB al_a al_b al_place GCA.out BA
 obtain ⟨be0, ⟨be1, bf1⟩, -, -, -, -, -, -⟩ := ValB bl_a bl_b bl_place GCB.out BB
 have ac0 := blk_inv BA ae0
 have bc0 := blk_inv BB be0
 by_cases e_kind : a_kind = b_kind
 rotate_left
 ·have hno : Shut (¬ XA = XB) := shut (fun h => e_kind ((HE.out.1 h).1))
  clear HE GCA GCB BA BB
  go_wp2_with fail
  go_ret
  exact tells_f hno.out KW
 subst e_kind
 have hc := sameOper_any _ _ ((w.alloc (.cells CA 119)).alloc (.cells CB 119)) _ _ (ah_a.keeps KW (fun _ _ h => h) (fun _ h => h)) (bh_a.keeps KW (fun _ _ h => h) (fun _ h => h))
 generalize hsa : s1.toArray = sa at *
 generalize hsb : t1.toArray = sb at *
 clear hsa hsb
 skip
 go_wp2_with fail
 refine hc.mono ?_
 rintro e w1 ⟨⟨z, rfl, hz⟩, k1⟩
 have KW := KW.trans k1 (fun _ h _ => h)
 have BA := k1.blk BA (fun h => h)
 have BB := k1.blk BB (fun h => h)
 clear hc k1 ae0 ac0 be0 bc0 ae1 af1 be1 bf1
 cases z
 ·have hno : Shut (¬ XA = XB) := shut (fun h => by have h2 := hz.2 ((HE.out.1 h).2.1); cases h2)
  clear HE GCA GCB BA BB hz
  go_wp2_with fail
  go_ret
  exact tells_f hno.out KW
 have E_a := shut (hz.1 rfl)
 clear hz
 obtain ⟨-, -, ⟨ae5, af5⟩, -, -, -, -, -⟩ := ValB al_a al_b al_place GCA.out BA
 obtain ⟨-, -, ⟨be5, bf5⟩, -, -, -, -, -⟩ := ValB bl_a bl_b bl_place GCB.out BB
 have hc := sameOper_any _ _ w1 _ _ (ah_b.keeps KW (fun _ _ h => h) (fun _ h => h)) (bh_b.keeps KW (fun _ _ h => h) (fun _ h => h))
 generalize hsa : s5.toArray = sa at *
 generalize hsb : t5.toArray = sb at *
 clear hsa hsb
 skip
 go_wp2_with fail
 refine hc.mono ?_
 rintro e w2 ⟨⟨z, rfl, hz⟩, k2⟩
 have KW := KW.trans k2 (fun _ h _ => h)
 have BA := k2.blk BA (fun h => h)
 have BB := k2.blk BB (fun h => h)
 clear hc k2 ae5 af5 be5 bf5
 cases z
 ·have hno : Shut (¬ XA = XB) := shut (fun h => by have h2 := hz.2 ((HE.out.1 h).2.2.1); cases h2)
  clear HE GCA GCB BA BB hz
  go_wp2_with fail
  go_ret
  exact tells_f hno.out KW
 have E_b := shut (hz.1 rfl)
 clear hz
 obtain ⟨-, -, -, ae9, ⟨ae10, af10⟩, -, -, -⟩ := ValB al_a al_b al_place GCA.out BA
 obtain ⟨-, -, -, be9, ⟨be10, bf10⟩, -, -, -⟩ := ValB bl_a bl_b bl_place GCB.out BB
 by_cases e_op : a_op = b_op
 rotate_left
 ·have hno : Shut (¬ XA = XB) := shut (fun h => e_op ((HE.out.1 h).2.2.2.1))
  clear HE GCA GCB BA BB
  go_wp2_with fail
  go_ret
  exact tells_f hno.out KW
 subst e_op
 have hc := samePlace_any _ _ w2 _ _ (ah_place.keeps KW (fun _ _ h => h) (fun _ h => h)) (bh_place.keeps KW (fun _ _ h => h) (fun _ h => h))
 generalize hsa : s10.toArray = sa at *
 generalize hsb : t10.toArray = sb at *
 clear hsa hsb
 skip
 go_wp2_with fail
 refine hc.mono ?_
 rintro e w3 ⟨⟨z, rfl, hz⟩, k3⟩
 have KW := KW.trans k3 (fun _ h _ => h)
 have BA := k3.blk BA (fun h => h)
 have BB := k3.blk BB (fun h => h)
 clear hc k3 ae9 be9 ae10 af10 be10 bf10
 cases z
 ·have hno : Shut (¬ XA = XB) := shut (fun h => by have h2 := hz.2 ((HE.out.1 h).2.2.2.2.1); cases h2)
  clear HE GCA GCB BA BB hz
  go_wp2_with fail
  go_ret
  exact tells_f hno.out KW
 have E_place := shut (hz.1 rfl)
 clear hz
 obtain ⟨-, -, -, -, -, ae12, ae13, -⟩ := ValB al_a al_b al_place GCA.out BA
 obtain ⟨-, -, -, -, -, be12, be13, -⟩ := ValB bl_a bl_b bl_place GCB.out BB
 by_cases e_name : a_name = b_name
 rotate_left
 ·have hno : Shut (¬ XA = XB) := shut (fun h => e_name ((HE.out.1 h).2.2.2.2.2.1))
  clear HE GCA GCB BA BB
  have hq : (a_name == b_name) = false := by rw [beq_eq_false_iff_ne]; exact e_name
  unfold txV at *
  go_wp2_with fail
  go_ret
  exact tells_f hno.out KW
 subst e_name
 have hq_name : (a_name == a_name) = true := beq_self_eq_true _
 have hc := equal_tx w3 q13 y13 (ah_names.keeps KW (fun _ _ h => h) (fun _ h => h) (fun _ _ _ h => h)) (bh_names.keeps KW (fun _ _ h => h) (fun _ h => h) (fun _ _ _ h => h))
 unfold txV at *
 go_wp2_with fail
 refine hc.mono ?_
 rintro e w4 ⟨⟨z, rfl, hz⟩, k4⟩
 have KW := KW.trans k4 (fun _ h _ => h)
 have BA := k4.blk BA (fun h => h)
 have BB := k4.blk BB (fun h => h)
 clear hc k4 ae12 be12 ae13 be13 hq_name
 cases z
 ·have hno : Shut (¬ XA = XB) := shut (fun h => by have h2 := hz.2 ((HE.out.1 h).2.2.2.2.2.2.1); cases h2)
  clear HE GCA GCB BA BB hz
  go_wp2_with fail
  go_ret
  exact tells_f hno.out KW
 have E_names := shut (hz.1 rfl)
 clear hz
 obtain ⟨-, -, -, -, -, -, -, ae14⟩ := ValB al_a al_b al_place GCA.out BA
 obtain ⟨-, -, -, -, -, -, -, be14⟩ := ValB bl_a bl_b bl_place GCB.out BB
 have hc := each_opr _ ent_sameOper (fun a _ b _ W cs ds h1 h2 => sameOper_any a b W cs ds h1 h2) w4 q14 y14 (ah_args.keeps KW (fun _ _ h => h) (fun _ h => h) (fun _ _ _ h => h.keeps KW (fun _ _ h => h) (fun _ h => h))) (bh_args.keeps KW (fun _ _ h => h) (fun _ h => h) (fun _ _ _ h => h.keeps KW (fun _ _ h => h) (fun _ h => h)))
 skip
 go_wp2_with fail
 refine hc.mono ?_
 rintro e w5 ⟨⟨z, rfl, hz⟩, k5⟩
 have KW := KW.trans k5 (fun _ h _ => h)
 have BA := k5.blk BA (fun h => h)
 have BB := k5.blk BB (fun h => h)
 clear hc k5 ae14 be14
 cases z
 ·have hno : Shut (¬ XA = XB) := shut (fun h => by have h2 := hz.2 ((HE.out.1 h).2.2.2.2.2.2.2); cases h2)
  clear HE GCA GCB BA BB hz
  go_wp2_with fail
  go_ret
  exact tells_f hno.out KW
 have E_args := shut (hz.1 rfl)
 clear hz
 go_wp2_with fail
 go_ret
 exact tells_t (HE.out.2 ⟨(by first | rfl | trivial), E_a.out, E_b.out, (by first | rfl | trivial), E_place.out, (by first | rfl | trivial), E_names.out, E_args.out⟩) KW
end Go.Proofs.YtjbcagbnagefcaaGreat
namespace Go.Proofs.YtjbcagbnagefcaaGreat
open Go.RowKit
def begC (c : UInt8) : Bool := (decide (97 ≤ c.toNat) && decide (c.toNat ≤ 122)) || ((decide (65 ≤ c.toNat) && decide (c.toNat ≤ 90)) || decide (c.toNat = 95))
def digC (c : UInt8) : Bool := decide (48 ≤ c.toNat) && decide (c.toNat ≤ 57)
def goC (c : UInt8) : Bool := begC c || digC c
def wordsL : List (List UInt8) := [[102, 110], [115, 116, 114, 117, 99, 116], [112, 117, 98], [108, 101, 116], [109, 117, 116], [105, 102], [101, 108, 115, 101], [119, 104, 105, 108, 101], [108, 111, 111, 112], [98, 114, 101, 97, 107], [99, 111, 110, 116, 105, 110, 117, 101],
 [114, 101, 116, 117, 114, 110], [100, 114, 111, 112], [116, 114, 117, 101], [102, 97, 108, 115, 101], [105, 110, 116], [98, 111, 111, 108]]
def isWord (t : List UInt8) : Bool := wordsL.contains t
def runN (l : List UInt8) : Nat := (l.takeWhile goC).length
def lifeOk : List UInt8 → Bool
 | [] => false
 | b :: r => begC b && decide (runN (b :: r) ≤ 32)
theorem tw_len (l : List UInt8) : (l.takeWhile goC).length ≤ l.length := by
 induction l with
 | nil => exact Nat.le_refl _
 | cons c l ih =>
  rw [List.takeWhile_cons]
  split
  ·simp; exact ih
  ·simp
end Go.Proofs.YtjbcagbnagefcaaGreat
namespace Go.Proofs.YtjbcagbnagefcaaGreat
open Go.RowKit
end Go.Proofs.YtjbcagbnagefcaaGreat
namespace Go.Proofs.YtjbcagbnagefcaaGreat
open Go.RowKit
set_option maxHeartbeats 1000000 in
theorem begins_any (w : World) (c : UInt8) : Calls Tryz.prog 84 #[.int .u8 (c.toNat : Int)] w fun e w' => e = .returned (.bool (begC c)) ∧ w' = w := by
 have hc := c.toNat_lt
 go_enter Tryz.func84, Tryz.ntmps84
 by_cases h1 : 97 ≤ c.toNat ∧ c.toNat ≤ 122
 ·have e : begC c = true := by simp [begC, h1]
  have m1 : (97 : Int) ≤ c.toNat := by omega
  have m2 : (c.toNat : Int) ≤ 122 := by omega
  rw [e]
  go_wp2_with fail
  go_ret
  exact ⟨rfl, rfl⟩
 ·by_cases h2 : 65 ≤ c.toNat ∧ c.toNat ≤ 90
  ·have e : begC c = true := by simp [begC, h2]
   have m1 : ¬ (97 : Int) ≤ c.toNat := by omega
   have m2 : (65 : Int) ≤ c.toNat := by omega
   have m3 : (c.toNat : Int) ≤ 90 := by omega
   rw [e]
   go_wp2_with fail
   go_ret
   exact ⟨rfl, rfl⟩
  ·by_cases h3 : c.toNat = 95
   ·have e : begC c = true := by simp [begC, h3]
    have m1 : (c.toNat : Int) = 95 := by omega
    rw [e]
    clear h1 h2
    rw [m1]
    go_wp2_with fail
    go_ret
    exact ⟨rfl, rfl⟩
   ·have e : begC c = false := by simp [begC, h3]; omega
    have m1 : ¬ (c.toNat : Int) = 95 := by omega
    rw [e]
    by_cases m2 : (97 : Int) ≤ c.toNat
    ·have m3 : ¬ (c.toNat : Int) ≤ 122 := by omega
     have m4 : (65 : Int) ≤ c.toNat := by omega
     have m5 : ¬ (c.toNat : Int) ≤ 90 := by omega
     go_wp2_with fail
     go_ret
     exact ⟨rfl, rfl⟩
    ·by_cases m4 : (65 : Int) ≤ c.toNat
     ·have m5 : ¬ (c.toNat : Int) ≤ 90 := by omega
      go_wp2_with fail
      go_ret
      exact ⟨rfl, rfl⟩
     ·go_wp2_with fail
      go_ret
      exact ⟨rfl, rfl⟩
set_option maxHeartbeats 400000 in
theorem goes_any (w : World) (c : UInt8) : Calls Tryz.prog 107 #[.int .u8 (c.toNat : Int)] w fun e w' => e = .returned (.bool (goC c)) ∧ w' = w := by
 have hc := c.toNat_lt
 by_cases h1 : begC c = true
 ·have e : goC c = true := by unfold goC; rw [h1]; rfl
  rw [e]
  go_enter Tryz.func107, Tryz.ntmps107
  go_wp2_with fail
  refine (begins_any w c).mono ?_
  rintro e w' ⟨rfl, rfl⟩
  rw [h1]
  go_wp2_with fail
  go_ret
  exact ⟨rfl, rfl⟩
 ·rw [Bool.not_eq_true] at h1
  have e : goC c = digC c := by unfold goC; rw [h1]; rfl
  by_cases h2 : 48 ≤ c.toNat
  ·have m2 : (48 : Int) ≤ c.toNat := by omega
   by_cases h3 : c.toNat ≤ 57
   ·have m3 : (c.toNat : Int) ≤ 57 := by omega
    rw [e, show digC c = true by simp [digC, h2, h3]]
    go_enter Tryz.func107, Tryz.ntmps107
    go_wp2_with fail
    refine (begins_any w c).mono ?_
    rintro e w' ⟨rfl, rfl⟩
    rw [h1]
    go_wp2_with fail
    go_ret
    exact ⟨rfl, rfl⟩
   ·have m3 : ¬ (c.toNat : Int) ≤ 57 := by omega
    rw [e, show digC c = false by simp [digC, h3]]
    go_enter Tryz.func107, Tryz.ntmps107
    go_wp2_with fail
    refine (begins_any w c).mono ?_
    rintro e w' ⟨rfl, rfl⟩
    rw [h1]
    go_wp2_with fail
    go_ret
    exact ⟨ret_bool (by simp; omega), rfl⟩
  ·have m2 : ¬ (48 : Int) ≤ c.toNat := by omega
   rw [e, show digC c = false by simp [digC, h2]]
   go_enter Tryz.func107, Tryz.ntmps107
   go_wp2_with fail
   refine (begins_any w c).mono ?_
   rintro e w' ⟨rfl, rfl⟩
   rw [h1]
   go_wp2_with fail
   go_ret
   exact ⟨rfl, rfl⟩
theorem str_at (s : List UInt8) {t : Nat} {c : UInt8} (hc : s[t]? = some c) (k : IntKind) (W : World) : (Instr.index 9 (.string ⟨s.toArray⟩) (.int k (t : Int))).run Tryz.prog W = .ok (.int .u8 (c.toNat : Int)) W := by
 obtain ⟨h1, h2⟩ := List.getElem?_eq_some_iff.1 hc
 rw [run_index_string W _ _ _ _ Tryz.underlying9, dif_pos ⟨by omega, by show (t : Int) < s.length; omega⟩]
 subst h2
 rfl
theorem str_cut (s : List UInt8) {i n j : Nat} (hj : i + n = j) (h : j ≤ s.length) (W : World) : (Instr.slice 9 (.string ⟨s.toArray⟩) (some (.int .i64 (i : Int))) (some (.int .i64 (j : Int))) none).run Tryz.prog W = .ok (.string ⟨((s.drop i).take n).toArray⟩) W := by
 subst hj
 rw [run_slice_string W 9 ⟨s.toArray⟩ .i64 .i64 i ((i + n : Nat) : Int) Tryz.underlying9 (by omega) (by omega) (by show ((i + n : Nat) : Int) ≤ s.length; omega), Int.toNat_natCast, Int.toNat_natCast, extract_eq]
theorem str_from (s : List UInt8) {i : Nat} (h : i ≤ s.length) (W : World) : (Instr.slice 9 (.string ⟨s.toArray⟩) (some (.int .i64 (i : Int))) none none).run Tryz.prog W = .ok (.string ⟨(s.drop i).toArray⟩) W := by
 rw [run_slice_string_l W 9 ⟨s.toArray⟩ Tryz.underlying9 .i64 i (by omega) (by show (i : Int) ≤ s.length; omega)]
 have e : ((⟨s.toArray⟩ : ByteArray).size) = i + (s.length - i) := by show s.length = _; omega
 rw [Int.toNat_natCast, e, extract_eq, List.take_of_length_le (by rw [List.length_drop]; omega)]
theorem run_cons {l : List UInt8} {k : Nat} {c : UInt8} (h : l[k]? = some c) (hg : goC c = true) : runN (l.drop k) = runN (l.drop (k + 1)) + 1 := by
 unfold runN
 rw [drop_cons h, List.takeWhile_cons, if_pos hg]
 rfl
theorem run_stop {l : List UInt8} {k : Nat} {c : UInt8} (h : l[k]? = some c) (hg : ¬ goC c = true) : runN (l.drop k) = 0 := by
 unfold runN
 rw [drop_cons h, List.takeWhile_cons, if_neg hg]
 rfl
set_option maxHeartbeats 400000 in
theorem run_any (w : World) (s : List UInt8) (hs : s.length < 9223372036854775808) (i : Nat) (hi : i ≤ s.length) : Calls Tryz.prog 85 #[.string ⟨s.toArray⟩, .int .i64 (i : Int)] w fun e w' => e = .returned (.int .i64 ((i + runN (s.drop i) : Nat) : Int)) ∧ w' = w := by
 have hsz : (ByteArray.mk s.toArray).size = s.length := rfl
 go_enter Tryz.func85, Tryz.ntmps85
 go_wp2_with fail
 go_loopw [1] (fun s1 wx => ∃ k : Nat, s1 = .int .i64 k ∧ k ≤ s.length ∧ Shut (k + runN (s.drop k) = i + runN (s.drop i)) ∧ wx = w) (fun s1 _ => s.length - (intOf s1).toNat)
 case atStart => exact ⟨i, rfl, hi, shut rfl, rfl⟩
 case round =>
  obtain ⟨k, rfl, hk, HR, rfl⟩ := hrel
  by_cases hlt : k < s.length
  ·obtain ⟨c, hc⟩ : ∃ c, s[k]? = some c := ⟨_, List.getElem?_eq_getElem hlt⟩
   have hix := fun kk W => str_at s hc kk W
   have HC := shut hc
   clear hc
   have m1 : (k : Int) < s.length := by omega
   go_wp2_with fail
   refine (goes_any _ c).mono ?_
   rintro e w' ⟨rfl, rfl⟩
   by_cases hg : goC c = true
   ·have HR2 := shut (show k + 1 + runN (s.drop (k + 1)) = i + runN (s.drop i) by rw [← HR.out, run_cons HC.out hg]; omega)
    rw [hg]
    go_wp2_with fail
    go_roundw
    case rel => exact ⟨k + 1, by go_num, by omega, HR2, by first | rfl | trivial⟩
    case measure => simp [intOf]; omega
   ·have HF := shut (show k = i + runN (s.drop i) by rw [← HR.out, run_stop HC.out hg]; rfl)
    rw [Bool.not_eq_true] at hg
    rw [hg]
    go_wp2_with fail
    go_ret
    exact ⟨by rw [← HF.out]; rfl, rfl⟩
  ·have HF := shut (show k = i + runN (s.drop i) by rw [← HR.out, List.drop_of_length_le (by omega : s.length ≤ k)]; rfl)
   go_wp2_with fail
   go_ret
   exact ⟨by rw [← HF.out]; rfl, rfl⟩
set_option maxHeartbeats 4000000 in
theorem word_any (w : World) (s : List UInt8) : Calls Tryz.prog 86 #[.string ⟨s.toArray⟩] w fun e w' => e = .returned (.bool (isWord s)) ∧ w' = w := by
 by_cases h : s ∈ wordsL
 ·have e : isWord s = true := by unfold isWord; rw [List.contains_iff_mem]; exact h
  rw [e]
  simp only [wordsL, List.mem_cons, List.not_mem_nil, or_false] at h
  rcases h with rfl | rfl | rfl | rfl | rfl | rfl | rfl | rfl | rfl | rfl | rfl | rfl | rfl | rfl | rfl | rfl | rfl
  all_goals
   go_enter Tryz.func86, Tryz.ntmps86
   go_wp2_with fail
   go_ret
   exact ⟨rfl, rfl⟩
 ·have e : isWord s = false := by unfold isWord; rw [Bool.eq_false_iff, Ne, List.contains_iff_mem]; exact h
  rw [e]
  simp only [wordsL, List.mem_cons, List.not_mem_nil, or_false, not_or] at h
  obtain ⟨h0, h1, h2, h3, h4, h5, h6, h7, h8, h9, h10, h11, h12, h13, h14, h15, h16⟩ := h
  have n0 : (s == [102, 110]) = false := by simpa using h0
  have n1 : (s == [115, 116, 114, 117, 99, 116]) = false := by simpa using h1
  have n2 : (s == [112, 117, 98]) = false := by simpa using h2
  have n3 : (s == [108, 101, 116]) = false := by simpa using h3
  have n4 : (s == [109, 117, 116]) = false := by simpa using h4
  have n5 : (s == [105, 102]) = false := by simpa using h5
  have n6 : (s == [101, 108, 115, 101]) = false := by simpa using h6
  have n7 : (s == [119, 104, 105, 108, 101]) = false := by simpa using h7
  have n8 : (s == [108, 111, 111, 112]) = false := by simpa using h8
  have n9 : (s == [98, 114, 101, 97, 107]) = false := by simpa using h9
  have n10 : (s == [99, 111, 110, 116, 105, 110, 117, 101]) = false := by simpa using h10
  have n11 : (s == [114, 101, 116, 117, 114, 110]) = false := by simpa using h11
  have n12 : (s == [100, 114, 111, 112]) = false := by simpa using h12
  have n13 : (s == [116, 114, 117, 101]) = false := by simpa using h13
  have n14 : (s == [102, 97, 108, 115, 101]) = false := by simpa using h14
  have n15 : (s == [105, 110, 116]) = false := by simpa using h15
  have n16 : (s == [98, 111, 111, 108]) = false := by simpa using h16
  clear h0 h1 h2 h3 h4 h5 h6 h7 h8 h9 h10 h11 h12 h13 h14 h15 h16 e
  go_enter Tryz.func86, Tryz.ntmps86
  go_wp2_with fail
  go_ret
  exact ⟨rfl, rfl⟩
end Go.Proofs.YtjbcagbnagefcaaGreat
namespace Go.Proofs.YtjbcagbnagefcaaGreat
open Go.RowKit
theorem aggOk_tok (k : Int) (s : ByteArray) (p : Int) : aggOk 3 (.agg #[.int .i64 k, .string s, .int .i64 p]) = true := by simp [aggOk, Value.oneCell']
theorem results_row_tmp {P : Program} {fn : Func} {p u : Tmp} {ty : TypeId} (h : fn.results = #[.cell p ty, .tmp u]) (tmps : Array Value) (w : World) (g : Nat) (cs : Array Value) (ev : Value)
  (hp : tmps.getD p undef = .pointer (some ⟨g, 0, none⟩)) (hu : tmps.getD u undef = ev) (hl : (loadVar ty ⟨g, 0, none⟩).run P w = .ok (.agg cs) w) : (results fn tmps).run P w = .ok (.tuple #[.agg cs, ev]) w := by
 rw [results_cell_tmp h, hp, hu]
 simp [asAddr, hl]
attribute [local go_sem] rowOk_new World.setRow_alloc_new aggOk_tok
theorem runN_le (l : List UInt8) : runN l ≤ l.length := tw_len l
def isName (t : List UInt8) : Bool := decide (t ≠ []) && (decide (t.length ≤ 32) && (lifeOk t && (decide (runN t = t.length) && !isWord t)))
end Go.Proofs.YtjbcagbnagefcaaGreat
namespace Go.Proofs.YtjbcagbnagefcaaGreat
open Go.RowKit
attribute [local go_sem] rowOk_new World.setRow_alloc_new aggOk_tok
set_option maxHeartbeats 1000000 in
theorem lname_any (w : World) (s : List UInt8) (hs : s.length < 9223372036854775808) : Calls Tryz.prog 60 #[.string ⟨s.toArray⟩] w fun e w' => e = .returned (.bool (isName s)) ∧ w' = w := by
 have hsz0 : (ByteArray.mk s.toArray).size = s.length := rfl
 by_cases h0 : s = []
 ·subst h0
  go_enter Tryz.func60, Tryz.ntmps60
  go_wp2_with fail
  go_ret
  exact ⟨rfl, rfl⟩
 ·have hn0 : (s == []) = false := by simpa using h0
  by_cases h1 : s.length ≤ 32
  ·have m1 : (s.length : Int) ≤ 32 := by omega
   obtain ⟨c, r, rfl⟩ : ∃ c r, s = c :: r := by cases s with | nil => exact absurd rfl h0 | cons c r => exact ⟨c, r, rfl⟩
   have hix := fun kk W => str_at (c :: r) (t := 0) (c := c) rfl kk W
   have hra := fun W => run_any W (c :: r) hs 0 (by omega)
   rw [List.drop_zero, Nat.zero_add] at hra
   have hisn : isName (c :: r) = ((begC c && decide (runN (c :: r) ≤ 32)) && (decide (runN (c :: r) = (c :: r).length) && !isWord (c :: r))) := by
    unfold isName
    rw [show decide ((c :: r) ≠ []) = true by simp, show decide ((c :: r).length ≤ 32) = true by simpa using h1]
    rfl
   have hrl := runN_le (c :: r)
   obtain ⟨n, hn⟩ : ∃ n, runN (c :: r) = n := ⟨_, rfl⟩
   obtain ⟨L, hL⟩ : ∃ L, (c :: r).length = L := ⟨_, rfl⟩
   rw [hn] at hra hisn hrl
   rw [hL] at hisn hrl h1 m1 hsz0
   have hw := fun W => word_any W (c :: r)
   have hix0 : ∀ kk W, (Instr.index 9 (.string ⟨(c :: r).toArray⟩) (.int kk 0)).run Tryz.prog W = .ok (.int .u8 (c.toNat : Int)) W := hix
   have hL0 : 0 < L := by rw [← hL]; simp
   have hL1 : (0 : Int) < L := by omega
   rw [hisn]
   obtain ⟨s2, hs2⟩ : ∃ s2, c :: r = s2 := ⟨_, rfl⟩
   rw [hs2] at hix0 hra hw hsz0 hn0 ⊢
   clear hix
   clear hs2 hisn hL hn h0 hs
   by_cases hb : begC c = true
   ·have hn32 : decide (n ≤ 32) = true := decide_eq_true (by omega)
    rw [hb, hn32]
    by_cases hnl : n = L
    ·have m2 : (n : Int) = L := by omega
     rw [show decide (n = L) = true from decide_eq_true hnl]
     subst hnl
     cases hwd : isWord s2
     ·go_enter Tryz.func60, Tryz.ntmps60
      go_wp2_with fail
      refine (begins_any _ c).mono ?_
      rintro e w' ⟨rfl, rfl⟩
      rw [hb]
      go_wp2_with fail
      refine (hra _).mono ?_
      rintro e w' ⟨rfl, rfl⟩
      go_wp2_with fail
      refine (hw _).mono ?_
      rintro e w' ⟨rfl, rfl⟩
      rw [hwd]
      go_wp2_with fail
      go_ret
      exact ⟨rfl, rfl⟩
     ·go_enter Tryz.func60, Tryz.ntmps60
      go_wp2_with fail
      refine (begins_any _ c).mono ?_
      rintro e w' ⟨rfl, rfl⟩
      rw [hb]
      go_wp2_with fail
      refine (hra _).mono ?_
      rintro e w' ⟨rfl, rfl⟩
      go_wp2_with fail
      refine (hw _).mono ?_
      rintro e w' ⟨rfl, rfl⟩
      rw [hwd]
      go_wp2_with fail
      go_ret
      exact ⟨rfl, rfl⟩
    ·have m2 : ¬ (n : Int) = L := by omega
     have m3 : ((n : Int) == (L : Int)) = false := by rw [beq_eq_false_iff_ne]; exact m2
     rw [show decide (n = L) = false from decide_eq_false hnl]
     go_enter Tryz.func60, Tryz.ntmps60
     go_wp2_with fail
     refine (begins_any _ c).mono ?_
     rintro e w' ⟨rfl, rfl⟩
     rw [hb]
     go_wp2_with fail
     refine (hra _).mono ?_
     rintro e w' ⟨rfl, rfl⟩
     go_wp2_with fail
     go_ret
     exact ⟨rfl, rfl⟩
   ·rw [Bool.not_eq_true] at hb
    rw [hb]
    go_enter Tryz.func60, Tryz.ntmps60
    go_wp2_with fail
    refine (begins_any _ c).mono ?_
    rintro e w' ⟨rfl, rfl⟩
    rw [hb]
    go_wp2_with fail
    go_ret
    exact ⟨rfl, rfl⟩
  ·have m1 : ¬ (s.length : Int) ≤ 32 := by omega
   have e : isName s = false := by unfold isName; rw [show decide (s.length ≤ 32) = false from decide_eq_false h1]; simp
   rw [e]
   go_enter Tryz.func60, Tryz.ntmps60
   go_wp2_with fail
   go_ret
   exact ⟨rfl, rfl⟩
end Go.Proofs.YtjbcagbnagefcaaGreat
namespace Go.Proofs.YtjbcagbnagefcaaGreat
open Go.RowKit
attribute [local go_sem] rowOk_new World.setRow_alloc_new aggOk_tok
end Go.Proofs.YtjbcagbnagefcaaGreat
namespace Go.Proofs.YtjbcagbnagefcaaGreat
open Go.RowKit
end Go.Proofs.YtjbcagbnagefcaaGreat
namespace Go.Proofs.YtjbcagbnagefcaaGreat
open Go.RowKit
end Go.Proofs.YtjbcagbnagefcaaGreat
namespace Go.Proofs.YtjbcagbnagefcaaGreat
open Go.RowKit
end Go.Proofs.YtjbcagbnagefcaaGreat
namespace Go.Proofs.YtjbcagbnagefcaaGreat
open Go.RowKit
end Go.Proofs.YtjbcagbnagefcaaGreat
namespace Go.Proofs.YtjbcagbnagefcaaGreat
open Go.RowKit
set_option maxHeartbeats 1000000 in
theorem letter_any (w : World) (c : UInt8) : Calls Tryz.prog 96 #[.int .u8 (c.toNat : Int)] w fun e w' => e = .returned (.bool (begC c)) ∧ w' = w := by
 have hc := c.toNat_lt
 by_cases h1 : 97 ≤ c.toNat ∧ c.toNat ≤ 122
 ·have e : begC c = true := by simp [begC, h1]
  have m1 : (97 : Int) ≤ c.toNat := by omega
  have m2 : (c.toNat : Int) ≤ 122 := by omega
  rw [e]
  go_enter Tryz.func96, Tryz.ntmps96
  go_wp2_with fail
  go_ret
  first | exact ⟨rfl, rfl⟩ | exact ⟨ret_bool (by simp; omega), rfl⟩
 ·by_cases h2 : 65 ≤ c.toNat ∧ c.toNat ≤ 90
  ·have e : begC c = true := by simp [begC, h2]
   have m1 : ¬ (97 : Int) ≤ c.toNat := by omega
   have m2 : (65 : Int) ≤ c.toNat := by omega
   have m3 : (c.toNat : Int) ≤ 90 := by omega
   rw [e]
   go_enter Tryz.func96, Tryz.ntmps96
   go_wp2_with fail
   go_ret
   first | exact ⟨rfl, rfl⟩ | exact ⟨ret_bool (by simp; omega), rfl⟩
  ·have e : begC c = decide (c.toNat = 95) := by
    unfold begC
    rw [show (decide (97 ≤ c.toNat) && decide (c.toNat ≤ 122)) = false by rw [Bool.eq_false_iff]; intro e; simp at e; exact h1 e, show (decide (65 ≤ c.toNat) && decide (c.toNat ≤ 90)) = false by rw [Bool.eq_false_iff]; intro e; simp at e; exact h2 e]
    simp
   have m9 : ((c.toNat : Int) == 95) = decide (c.toNat = 95) := by rw [Bool.eq_iff_iff]; simp; omega
   rw [e]
   obtain ⟨d, hd⟩ : ∃ d, decide (c.toNat = 95) = d := ⟨_, rfl⟩
   rw [hd] at m9 ⊢
   clear hd e
   by_cases m2 : (97 : Int) ≤ c.toNat
   ·have m3 : ¬ (c.toNat : Int) ≤ 122 := by omega
    have m4 : (65 : Int) ≤ c.toNat := by omega
    have m5 : ¬ (c.toNat : Int) ≤ 90 := by omega
    go_enter Tryz.func96, Tryz.ntmps96
    go_wp2_with fail
    go_ret
    exact ⟨rfl, rfl⟩
   ·by_cases m4 : (65 : Int) ≤ c.toNat
    ·have m5 : ¬ (c.toNat : Int) ≤ 90 := by omega
     go_enter Tryz.func96, Tryz.ntmps96
     go_wp2_with fail
     go_ret
     exact ⟨rfl, rfl⟩
    ·go_enter Tryz.func96, Tryz.ntmps96
     go_wp2_with fail
     go_ret
     exact ⟨rfl, rfl⟩
theorem rdigit_any (w : World) (c : UInt8) : Calls Tryz.prog 118 #[.int .u8 (c.toNat : Int)] w fun e w' => e = .returned (.bool (digC c)) ∧ w' = w := by
 have hc := c.toNat_lt
 by_cases h2 : 48 ≤ c.toNat
 ·have m2 : (48 : Int) ≤ c.toNat := by omega
  by_cases h3 : c.toNat ≤ 57
  ·have m3 : (c.toNat : Int) ≤ 57 := by omega
   rw [show digC c = true by simp [digC, h2, h3]]
   go_enter Tryz.func118, Tryz.ntmps118
   go_wp2_with fail
   go_ret
   first | exact ⟨rfl, rfl⟩ | exact ⟨ret_bool (by simp; omega), rfl⟩
  ·have m3 : ¬ (c.toNat : Int) ≤ 57 := by omega
   rw [show digC c = false by simp [digC, h3]]
   go_enter Tryz.func118, Tryz.ntmps118
   go_wp2_with fail
   go_ret
   first | exact ⟨rfl, rfl⟩ | exact ⟨ret_bool (by simp; omega), rfl⟩
 ·have m2 : ¬ (48 : Int) ≤ c.toNat := by omega
  rw [show digC c = false by simp [digC, h2]]
  go_enter Tryz.func118, Tryz.ntmps118
  go_wp2_with fail
  go_ret
  first | exact ⟨rfl, rfl⟩ | exact ⟨ret_bool (by simp; omega), rfl⟩
set_option maxHeartbeats 1000000 in
theorem rrun_any (w : World) (s : List UInt8) (hs : s.length < 9223372036854775808) (i : Nat) (hi : i ≤ s.length) : Calls Tryz.prog 97 #[.string ⟨s.toArray⟩, .int .i64 (i : Int)] w fun e w' => e = .returned (.int .i64 ((i + runN (s.drop i) : Nat) : Int)) ∧ w' = w := by
 have hsz : (ByteArray.mk s.toArray).size = s.length := rfl
 go_enter Tryz.func97, Tryz.ntmps97
 go_wp2_with fail
 go_loopw [1] (fun s1 wx => ∃ k : Nat, s1 = .int .i64 k ∧ k ≤ s.length ∧ Shut (k + runN (s.drop k) = i + runN (s.drop i)) ∧ wx = w) (fun s1 _ => s.length - (intOf s1).toNat)
 case atStart => exact ⟨i, rfl, hi, shut rfl, rfl⟩
 case round =>
  obtain ⟨k, rfl, hk, HR, rfl⟩ := hrel
  by_cases hlt : k < s.length
  ·obtain ⟨c, hc⟩ : ∃ c, s[k]? = some c := ⟨_, List.getElem?_eq_getElem hlt⟩
   have hix := fun kk W => str_at s hc kk W
   have HC := shut hc
   clear hc
   have m1 : (k : Int) < s.length := by omega
   go_wp2_with fail
   refine (letter_any _ c).mono ?_
   rintro e w' ⟨rfl, rfl⟩
   by_cases hb : begC c = true
   ·have hg : goC c = true := by unfold goC; rw [hb]; rfl
    have HR2 := shut (show k + 1 + runN (s.drop (k + 1)) = i + runN (s.drop i) by rw [← HR.out, run_cons HC.out hg]; omega)
    rw [hb]
    go_wp2_with fail
    go_roundw
    case rel => exact ⟨k + 1, by go_num, by omega, HR2, by first | rfl | trivial⟩
    case measure => simp [intOf]; omega
   ·rw [Bool.not_eq_true] at hb
    rw [hb]
    go_wp2_with fail
    refine (rdigit_any _ c).mono ?_
    rintro e w' ⟨rfl, rfl⟩
    by_cases hd : digC c = true
    ·have hg : goC c = true := by unfold goC; rw [hd]; simp
     have HR2 := shut (show k + 1 + runN (s.drop (k + 1)) = i + runN (s.drop i) by rw [← HR.out, run_cons HC.out hg]; omega)
     rw [hd]
     go_wp2_with fail
     go_roundw
     case rel => exact ⟨k + 1, by go_num, by omega, HR2, by first | rfl | trivial⟩
     case measure => simp [intOf]; omega
    ·have hg : ¬ goC c = true := by unfold goC; rw [hb]; simpa using hd
     have HF := shut (show k = i + runN (s.drop i) by rw [← HR.out, run_stop HC.out hg]; rfl)
     rw [Bool.not_eq_true] at hd
     rw [hd]
     go_wp2_with fail
     go_ret
     exact ⟨by rw [← HF.out]; rfl, rfl⟩
  ·have HF := shut (show k = i + runN (s.drop i) by rw [← HR.out, List.drop_of_length_le (by omega : s.length ≤ k)]; rfl)
   go_wp2_with fail
   go_ret
   exact ⟨by rw [← HF.out]; rfl, rfl⟩
def isLife (t : List UInt8) : Bool := decide (t ≠ []) && (decide (t.length ≤ 32) && (lifeOk t && decide (runN t = t.length)))
theorem isName_life (t : List UInt8) : isName t = (isLife t && !isWord t) := by
 unfold isName isLife
 rw [Bool.and_assoc, Bool.and_assoc, Bool.and_assoc]
set_option maxHeartbeats 1000000 in
theorem rlife_any (w : World) (s : List UInt8) (hs : s.length < 9223372036854775808) : Calls Tryz.prog 69 #[.string ⟨s.toArray⟩] w fun e w' => e = .returned (.bool (isLife s)) ∧ w' = w := by
 have hsz0 : (ByteArray.mk s.toArray).size = s.length := rfl
 by_cases h0 : s = []
 ·subst h0
  go_enter Tryz.func69, Tryz.ntmps69
  go_wp2_with fail
  go_ret
  exact ⟨rfl, rfl⟩
 ·by_cases h1 : s.length ≤ 32
  ·have m1 : (s.length : Int) ≤ 32 := by omega
   obtain ⟨c, r, rfl⟩ : ∃ c r, s = c :: r := by cases s with | nil => exact absurd rfl h0 | cons c r => exact ⟨c, r, rfl⟩
   have hix0 : ∀ kk W, (Instr.index 9 (.string ⟨(c :: r).toArray⟩) (.int kk 0)).run Tryz.prog W = .ok (.int .u8 (c.toNat : Int)) W := fun kk W => str_at (c :: r) (t := 0) (c := c) rfl kk W
   have hra := fun W => rrun_any W (c :: r) hs 0 (by omega)
   rw [List.drop_zero, Nat.zero_add] at hra
   have hisn : isLife (c :: r) = ((begC c && decide (runN (c :: r) ≤ 32)) && decide (runN (c :: r) = (c :: r).length)) := by
    unfold isLife
    rw [show decide ((c :: r) ≠ []) = true by simp, show decide ((c :: r).length ≤ 32) = true by simpa using h1]
    rfl
   have hrl := runN_le (c :: r)
   obtain ⟨n, hn⟩ : ∃ n, runN (c :: r) = n := ⟨_, rfl⟩
   obtain ⟨L, hL⟩ : ∃ L, (c :: r).length = L := ⟨_, rfl⟩
   have hL0 : 0 < L := by rw [← hL]; simp
   have hL1 : (1 : Int) ≤ L := by omega
   have hL2 : (0 : Int) < L := by omega
   rw [hn] at hra hisn hrl
   rw [hL] at hisn hrl h1 m1 hsz0
   rw [hisn]
   obtain ⟨s2, hs2⟩ : ∃ s2, c :: r = s2 := ⟨_, rfl⟩
   rw [hs2] at hix0 hra hsz0 ⊢
   clear hs2 hisn hL hn h0 hs
   by_cases hb : begC c = true
   ·have hn32 : decide (n ≤ 32) = true := decide_eq_true (by omega)
    rw [hb, hn32]
    have m3 : ((n : Int) == (L : Int)) = decide (n = L) := by rw [Bool.eq_iff_iff]; simp; omega
    obtain ⟨d, hd⟩ : ∃ d, decide (n = L) = d := ⟨_, rfl⟩
    rw [hd] at m3 ⊢
    clear hd
    go_enter Tryz.func69, Tryz.ntmps69
    go_wp2_with fail
    refine (letter_any _ c).mono ?_
    rintro e w' ⟨rfl, rfl⟩
    rw [hb]
    go_wp2_with fail
    refine (hra _).mono ?_
    rintro e w' ⟨rfl, rfl⟩
    go_wp2_with fail
    go_ret
    exact ⟨rfl, rfl⟩
   ·rw [Bool.not_eq_true] at hb
    rw [hb]
    go_enter Tryz.func69, Tryz.ntmps69
    go_wp2_with fail
    refine (letter_any _ c).mono ?_
    rintro e w' ⟨rfl, rfl⟩
    rw [hb]
    go_wp2_with fail
    go_ret
    exact ⟨rfl, rfl⟩
  ·have m1 : ¬ (s.length : Int) ≤ 32 := by omega
   have e : isLife s = false := by unfold isLife; rw [show decide (s.length ≤ 32) = false from decide_eq_false h1]; simp
   have m2 : (1 : Int) ≤ s.length := by omega
   rw [e]
   go_enter Tryz.func69, Tryz.ntmps69
   go_wp2_with fail
   go_ret
   exact ⟨rfl, rfl⟩
def wordV (l : List UInt8) : Value := .string ⟨l.toArray⟩
theorem words_lit : (wordsL.map wordV).toArray = #[.string ⟨#[102, 110]⟩, .string ⟨#[115, 116, 114, 117, 99, 116]⟩, .string ⟨#[112, 117, 98]⟩, .string ⟨#[108, 101, 116]⟩, .string ⟨#[109, 117, 116]⟩, .string ⟨#[105, 102]⟩, .string ⟨#[101, 108, 115, 101]⟩, .string ⟨#[119, 104, 105, 108, 101]⟩, .string ⟨#[108, 111, 111, 112]⟩, .string ⟨#[98, 114, 101, 97, 107]⟩, .string ⟨#[99, 111, 110, 116, 105, 110, 117, 101]⟩, .string ⟨#[114, 101, 116, 117, 114, 110]⟩, .string ⟨#[100, 114, 111, 112]⟩, .string ⟨#[116, 114, 117, 101]⟩, .string ⟨#[102, 97, 108, 115, 101]⟩, .string ⟨#[105, 110, 116]⟩, .string ⟨#[98, 111, 111, 108]⟩] := rfl
set_option maxRecDepth 100000 in
set_option maxHeartbeats 1000000 in
theorem rword_any (w : World) (s : List UInt8) : Calls Tryz.prog 70 #[.string ⟨s.toArray⟩] w fun e w' => e = .returned (.bool (isWord s)) ∧ Keeps Nothing w w' := by
 go_enter Tryz.func70, Tryz.ntmps70
 go_wp2_with fail
 rw [← words_lit]
 have BL := blk_new w (wordsL.map wordV).toArray 9
 have KW := (Keeps.refl Nothing w).alloc (.cells (wordsL.map wordV).toArray 9)
 generalize w.alloc (.cells (wordsL.map wordV).toArray 9) = W1 at *
 generalize w.heap.size = g at *
 have hcell : ∀ t p, wordsL[t]? = some p → W1.cell? ⟨g, t, none⟩ = some (.string ⟨p.toArray⟩) := fun t p h => blk_cell BL t (by rw [List.getElem?_toArray, List.getElem?_map, h]; rfl)
 have HCELL := shut hcell
 clear hcell BL
 go_loopw [4] (fun s4 wx => ∃ t : Nat, s4 = .int .i64 t ∧ t ≤ 17 ∧ Shut (∀ k, k < t → ∀ p, wordsL[k]? = some p → p ≠ s) ∧ wx = W1) (fun s4 _ => 17 - (intOf s4).toNat)
 case atStart => exact ⟨0, rfl, Nat.zero_le _, shut (fun k hk => by omega), rfl⟩
 case round =>
  obtain ⟨t, rfl, ht, HN, rfl⟩ := hrel
  by_cases hlt : t < 17
  ·obtain ⟨p, hp⟩ : ∃ p, wordsL[t]? = some p := ⟨_, List.getElem?_eq_getElem (show t < wordsL.length from hlt)⟩
   have hc := HCELL.out t p hp
   have HP := shut hp
   have m0 : (0 : Int) ≤ t := by omega
   have m1 : (t : Int) < 17 := by omega
   clear hp
   by_cases he : p = s
   ·have hR1 : isWord s = true := by unfold isWord; rw [List.contains_iff_mem, ← he]; exact List.mem_of_getElem? HP.out
    have hb : (p == s) = true := by simpa using he
    go_wp2_with fail
    go_ret
    exact ⟨by rw [hR1]; rfl, KW⟩
   ·have hb : (p == s) = false := by simpa using he
    have HN2 : Shut (∀ k, k < t + 1 → ∀ p, wordsL[k]? = some p → p ≠ s) := shut (fun k hk x hx => by
     rcases Nat.lt_or_ge k t with h | h
     ·exact HN.out k h x hx
     ·obtain rfl : k = t := by omega
      rw [HP.out] at hx
      obtain rfl := Option.some.inj hx
      exact he)
    go_wp2_with fail
    go_roundw
    case rel => exact ⟨t + 1, by go_num, by omega, HN2, by first | rfl | trivial⟩
    case measure => simp [intOf]; omega
  ·have hR1 : isWord s = false := by
    unfold isWord
    rw [Bool.eq_false_iff, Ne, List.contains_iff_mem]
    intro hm
    obtain ⟨k, hk⟩ := List.getElem?_of_mem hm
    have hk17 : k < 17 := by
     rcases Nat.lt_or_ge k 17 with h | h
     ·exact h
     ·rw [List.getElem?_eq_none (show wordsL.length ≤ k from h)] at hk; cases hk
    exact HN.out k (by omega) _ hk rfl
   go_wp2_with fail
   go_ret
   exact ⟨by rw [hR1]; rfl, KW⟩
set_option maxHeartbeats 1000000 in
theorem rname_any (w : World) (s : List UInt8) (hs : s.length < 9223372036854775808) : Calls Tryz.prog 45 #[.string ⟨s.toArray⟩] w fun e w' => e = .returned (.bool (isName s)) ∧ Keeps Nothing w w' := by
 rw [isName_life]
 cases hl : isLife s with
 | false =>
  go_enter Tryz.func45, Tryz.ntmps45
  go_wp2_with fail
  refine (rlife_any w s hs).mono ?_
  rintro e w1 ⟨rfl, rfl⟩
  rw [hl]
  go_wp2_with fail
  go_ret
  exact ⟨rfl, Keeps.refl _ _⟩
 | true =>
  obtain ⟨R, hR⟩ : ∃ R, isWord s = R := ⟨_, rfl⟩
  have hw := fun W => rword_any W s
  rw [hR] at hw ⊢
  go_enter Tryz.func45, Tryz.ntmps45
  go_wp2_with fail
  refine (rlife_any w s hs).mono ?_
  rintro e w1 ⟨rfl, rfl⟩
  rw [hl]
  go_wp2_with fail
  refine (hw _).mono ?_
  rintro e w2 ⟨rfl, k2⟩
  go_wp2_with fail
  go_ret
  exact ⟨by simp, k2⟩
end Go.Proofs.YtjbcagbnagefcaaGreat
namespace Go.Proofs
open Go.Shelf
def Tryz.lays145_ren : Go.Shelf.Ren := ⟨fun | 145 => 123 | 220 => 130 | 219 => 137 | 217 => 144 | 225 => 145 | 224 => 146 | 267 => 147 | 266 => 151 | 314 => 152 | n => n, fun | 9 => 9 | 4 => 4 | 59 => 180 | 3 => 3 | 5 => 5 | 46 => 154 | 146 => 193 | 51 => 149 | n => n, fun | 1 => 0 | n => n⟩
theorem Tryz.lays145 : Go.Proofs.Lays.n145 Tryz.prog Tryz.lays145_ren := {
 mixed := by kernel_rfl
 f145 := Tryz.func123.trans (congrArg some (by kernel_rfl))
 f217 := Tryz.func144.trans (congrArg some (by kernel_rfl))
 f219 := Tryz.func137.trans (congrArg some (by kernel_rfl))
 f220 := Tryz.func130.trans (congrArg some (by kernel_rfl))
 f224 := Tryz.func146.trans (congrArg some (by kernel_rfl))
 f225 := Tryz.func145.trans (congrArg some (by kernel_rfl))
 f266 := Tryz.func151.trans (congrArg some (by kernel_rfl))
 f267 := Tryz.func147.trans (congrArg some (by kernel_rfl))
 f314 := Tryz.func152.trans (congrArg some (by kernel_rfl))
 t3 := Tryz.underlying3
 a3 := Tryz.isAgg3
 z3 := Tryz.sizeOf3
 v3 := Tryz.zeroValue3
 t4 := Tryz.underlying4
 a4 := Tryz.isAgg4
 z4 := Tryz.sizeOf4
 v4 := Tryz.zeroValue4
 t5 := Tryz.underlying5
 a5 := Tryz.isAgg5
 z5 := Tryz.sizeOf5
 v5 := Tryz.zeroValue5
 t9 := Tryz.underlying9
 a9 := Tryz.isAgg9
 z9 := Tryz.sizeOf9
 v9 := Tryz.zeroValue9
 t46 := Tryz.underlying154
 a46 := Tryz.isAgg154
 z46 := Tryz.sizeOf154
 v46 := Tryz.zeroValue154
 t51 := Tryz.underlying149
 a51 := Tryz.isAgg149
 z51 := Tryz.sizeOf149
 v51 := Tryz.zeroValue149
 t59 := Tryz.underlying180
 a59 := Tryz.isAgg180
 z59 := Tryz.sizeOf180
 v59 := Tryz.zeroValue180
 t146 := Tryz.underlying193
 a146 := Tryz.isAgg193
 z146 := Tryz.sizeOf193
 v146 := Tryz.zeroValue193
 g1 := by kernel_rfl }
open Go.RowKit Go.Lib in
theorem Tryz.strings_Cut (s sep : ByteArray) (m : Int) (w : World) (hs : s.size < 4294967281) (hm : w.cell? ⟨0, 0, none⟩ = some (.int .i64 m)) :
  Calls Tryz.prog 123 #[.string s, .string sep] w fun e w' => e = .returned (.tuple #[.string ⟨(Lib.cut s.data.toList sep.data.toList).1.toArray⟩, .string ⟨(Lib.cut s.data.toList sep.data.toList).2.1.toArray⟩, .bool (Lib.cut s.data.toList sep.data.toList).2.2]) ∧ ∃ n, w' = w.drewN n := Any.strings_Cut Tryz.lays145 s sep m w hs hm
end Go.Proofs
namespace Go.Proofs.YtjbcagbnagefcaaGreat
open Go.RowKit
attribute [local go_sem ↓] exec_mid_ty exec_store_ty exec_mid_pl exec_store_pl exec_mid_opr exec_store_opr exec_mid_val exec_store_val exec_mid_st exec_store_st exec_mid_fld exec_store_fld exec_mid_str exec_store_str exec_mid_lif exec_store_lif exec_mid_fun exec_store_fun exec_mid_cr exec_store_cr
attribute [local go_sem] rowOk_new World.setRow_alloc_new
def MaxV (w : World) : Prop := ∃ m : Int, w.cell? ⟨0, 0, none⟩ = some (.int .i64 m)
theorem MaxV.keeps {w w' : World} (h : MaxV w) (k : Keeps Nothing w w') : MaxV w' := by
 obtain ⟨m, h⟩ := h
 exact ⟨m, k.cell h (fun h => h)⟩
theorem word_life : ∀ t ∈ wordsL, isLife t = true := by decide
theorem life_or (s : List UInt8) : (isName s || isWord s) = isLife s := by
 rw [isName_life]
 by_cases h : isWord s = true
 ·have h2 : isLife s = true := word_life s (by unfold isWord at h; exact List.elem_iff.1 (by simpa using h))
  rw [h, h2]
  rfl
 ·rw [Bool.not_eq_true] at h
  rw [h]
  simp
set_option maxHeartbeats 1000000 in
theorem tlife_any (w : World) (s : List UInt8) (hs : s.length ≤ bigN) : Calls Tryz.prog 110 #[.string ⟨s.toArray⟩] w fun e w' => e = .returned (.bool (isLife s)) ∧ w' = w := by
 have h1 := lname_any w s (by unfold bigN at hs; omega)
 have h2 := word_any w s
 have h3 := life_or s
 obtain ⟨a, ha⟩ : ∃ a, isName s = a := ⟨_, rfl⟩
 obtain ⟨b, hb⟩ : ∃ b, isWord s = b := ⟨_, rfl⟩
 rw [ha] at h1 h3
 rw [hb] at h2 h3
 have H3 := shut h3
 clear h3 ha hb
 go_enter Tryz.func110, Tryz.ntmps110
 go_wp2_with fail
 refine h1.mono ?_
 rintro e w1 ⟨rfl, rfl⟩
 clear h1
 cases a with
 | true =>
  go_wp2_with fail
  go_ret
  exact ⟨by rw [← H3.out]; rfl, rfl⟩
 | false =>
  go_wp2_with fail
  refine h2.mono ?_
  rintro e w2 ⟨rfl, rfl⟩
  go_wp2_with fail
  go_ret
  exact ⟨by rw [← H3.out]; rfl, rfl⟩
def LivesP (l : List (List UInt8)) : Prop := (∀ s ∈ l, isLife s = true) ∧ l.length ≤ 64
theorem all_take {α : Type} {l : List α} {P : α → Prop} {t : Nat} {a : α} (ha : l[t]? = some a) (h : ∀ s ∈ l.take t, P s) (hp : P a) : ∀ s ∈ l.take (t + 1), P s := by
 rw [List.take_add_one, ha]
 intro s hs
 rcases List.mem_append.1 hs with hs | hs
 ·exact h s hs
 ·obtain rfl : s = a := by simpa using hs
  exact hp
theorem all_of_take {α : Type} {l : List α} {P : α → Prop} {n : Nat} (hn : l.length = n) (h : ∀ s ∈ l.take n, P s) : ∀ s ∈ l, P s := by
 rwa [List.take_of_length_le (Nat.le_of_eq hn)] at h
set_option maxRecDepth 100000 in
set_option maxHeartbeats 2000000 in
theorem lives_any (w : World) {S : Nat → Prop} {ao : Option Addr} {l : List (List UInt8)} (c : Nat) (h : SlIs S w 1 TxIs ao l) : Calls Tryz.prog 108 #[.slice ao l.length c] w (Tells w (LivesP l)) := by
 have hl := h.1
 unfold bigN at hl
 have HX := shut h
 clear h
 obtain ⟨n, hn⟩ : ∃ n, l.length = n := ⟨_, rfl⟩
 rw [hn] at hl ⊢
 have HN := shut hn
 clear hn
 go_enter Tryz.func108, Tryz.ntmps108
 go_wp2_with fail
 go_loopw [4, 7] (fun s4 s7 wx => ∃ t : Nat, s7 = .int .i64 t ∧ t ≤ n ∧ Keeps Nothing w wx ∧ Shut (∀ s ∈ l.take t, isLife s = true)) (fun _ s7 _ => n - (intOf s7).toNat)
 case atStart => exact ⟨0, rfl, Nat.zero_le _, Keeps.refl _ _, shut (by simp)⟩
 case round =>
  obtain ⟨t, rfl, ht, K, HT⟩ := hrel
  by_cases hlt : t < n
  ·obtain ⟨a, ha⟩ : ∃ a, l[t]? = some a := ⟨_, List.getElem?_eq_getElem (by rw [HN.out]; exact hlt)⟩
   obtain ⟨g1, o1, rfl, e1, hal⟩ := tx_cell (HX.out.keeps K (fun _ _ h => h) (fun _ h => h) (fun _ _ _ h => h)) ha
   have hc := fun W => tlife_any W a hal
   have HA := shut ha
   clear ha hal
   have m0 : (0 : Int) ≤ t := by omega
   have m1 : (t : Int) < n := by omega
   obtain ⟨z, hz⟩ : ∃ z, isLife a = z := ⟨_, rfl⟩
   rw [hz] at hc
   have HZ := shut hz
   clear hz
   go_wp2_with fail
   refine (hc _).mono ?_
   rintro e w1 ⟨rfl, rfl⟩
   clear hc e1
   cases z with
   | true =>
    have HT2 := shut (all_take HA.out HT.out HZ.out)
    clear HZ
    go_wp2_with fail
    go_roundw
    case rel => exact ⟨t + 1, by go_num, by omega, K, HT2⟩
    case measure => simp [intOf]; omega
   | false =>
    have hno : Shut (¬ LivesP l) := shut (fun h => by have h2 := h.1 a (List.mem_of_getElem? HA.out); rw [HZ.out] at h2; cases h2)
    clear HZ
    go_wp2_with fail
    go_ret
    exact tells_f hno.out K
  ·obtain rfl : t = n := by omega
   have m1 : ¬ (t : Int) < t := by omega
   have HALL := shut (all_of_take HN.out HT.out)
   by_cases h64 : t ≤ 64
   ·have m2 : (t : Int) ≤ 64 := by omega
    go_wp2_with fail
    go_ret
    exact tells_t ⟨HALL.out, by rw [HN.out]; exact h64⟩ K
   ·have m2 : ¬ (t : Int) ≤ 64 := by omega
    have hno : Shut (¬ LivesP l) := shut (fun h => h64 (by rw [← HN.out]; exact h.2))
    clear HALL
    go_wp2_with fail
    go_ret
    exact tells_f hno.out K
def DoubleP (s : List UInt8) : Prop := isName (Lib.cut s [58, 58]).1 = true ∧ ((Lib.cut s [58, 58]).2.2 = true → isName (Lib.cut s [58, 58]).2.1 = true)
theorem cut_len (s p : List UInt8) : (Lib.cut s p).1.length ≤ s.length ∧ (Lib.cut s p).2.1.length ≤ s.length := by
 unfold Lib.cut
 split
 ·simp only [List.length_take, List.length_drop]; omega
 ·exact ⟨Nat.le_refl _, Nat.zero_le _⟩
set_option maxHeartbeats 1000000 in
theorem double_any (w : World) (hM : MaxV w) (s : List UInt8) (hs : s.length ≤ bigN) : Calls Tryz.prog 121 #[.string ⟨s.toArray⟩] w (Tells w (DoubleP s)) := by
 obtain ⟨m, hm⟩ := hM
 have hcl := cut_len s [58, 58]
 have hcut := Tryz.strings_Cut ⟨s.toArray⟩ ⟨#[58, 58]⟩ m w (by show s.toArray.size < _; rw [List.size_toArray]; unfold bigN at hs; omega) hm
 have hP : DoubleP s ↔ isName (Lib.cut s [58, 58]).1 = true ∧ ((Lib.cut s [58, 58]).2.2 = true → isName (Lib.cut s [58, 58]).2.1 = true) := Iff.rfl
 simp only [] at hcut
 obtain ⟨⟨A, B, C⟩, hc⟩ : ∃ x, Lib.cut s [58, 58] = x := ⟨_, rfl⟩
 rw [hc] at hcut hP hcl
 simp only at hcut hP hcl
 have HP := shut hP
 clear hP hc hm
 have h1 := fun W => lname_any W A (by unfold bigN at hs; omega)
 have h2 := fun W => lname_any W B (by unfold bigN at hs; omega)
 obtain ⟨a, ha⟩ : ∃ a, isName A = a := ⟨_, rfl⟩
 obtain ⟨b, hb⟩ : ∃ b, isName B = b := ⟨_, rfl⟩
 rw [ha] at h1 HP
 rw [hb] at h2 HP
 clear ha hb
 go_enter Tryz.func121, Tryz.ntmps121
 go_wp2_with fail
 refine hcut.mono ?_
 rintro e w1 ⟨rfl, q, rfl⟩
 have K : Keeps Nothing w (w.drewN q) := (Keeps.refl Nothing w).drewN q
 clear hcut
 generalize w.drewN q = w1 at *
 go_wp2_with fail
 refine (h1 _).mono ?_
 rintro e w2 ⟨rfl, rfl⟩
 clear h1
 cases a with
 | false =>
  have hno : Shut (¬ DoubleP s) := shut (fun h => by have h2 := (HP.out.1 h).1; cases h2)
  clear HP
  go_wp2_with fail
  go_ret
  exact tells_f hno.out K
 | true =>
  cases C with
  | false =>
   have hyes : Shut (DoubleP s) := shut (HP.out.2 ⟨rfl, fun h => by cases h⟩)
   clear HP
   go_wp2_with fail
   go_ret
   exact tells_t hyes.out K
  | true =>
   have hz : Shut (b = true ↔ DoubleP s) := shut ⟨fun h => HP.out.2 ⟨rfl, fun _ => h⟩, fun h => (HP.out.1 h).2 rfl⟩
   clear HP
   go_wp2_with fail
   refine (h2 _).mono ?_
   rintro e w3 ⟨rfl, rfl⟩
   go_wp2_with fail
   go_ret
   exact tells_z hz.out K
end Go.Proofs.YtjbcagbnagefcaaGreat
namespace Go.Proofs.YtjbcagbnagefcaaGreat
open Go.RowKit
attribute [local go_sem ↓] exec_mid_ty exec_store_ty exec_mid_pl exec_store_pl exec_mid_opr exec_store_opr exec_mid_val exec_store_val exec_mid_st exec_store_st exec_mid_fld exec_store_fld exec_mid_str exec_store_str exec_mid_lif exec_store_lif exec_mid_fun exec_store_fun exec_mid_cr exec_store_cr
attribute [local go_sem] rowOk_new World.setRow_alloc_new
def PlP (p : PlD) : Prop := (∀ s ∈ p.path, s = [42] ∨ isName s = true) ∧ isName p.name = true ∧ p.path.length ≤ 64
set_option maxRecDepth 100000 in
set_option maxHeartbeats 2000000 in
theorem place_any {S : Nat → Prop} (a : PlD) (w : World) (cs : List Value) (ha : PlIs S w a cs) : Calls Tryz.prog 125 #[.agg cs.toArray] w (Tells w (PlP a)) := by
 obtain ⟨a_name, a_path⟩ := a
 have HP : Shut (PlP ⟨a_name, a_path⟩ ↔ (∀ s ∈ a_path, s = [42] ∨ isName s = true) ∧ isName a_name = true ∧ a_path.length ≤ 64) := shut Iff.rfl
 obtain ⟨X, hX⟩ : ∃ X, X = (⟨a_name, a_path⟩ : PlD) := ⟨_, rfl⟩
 rw [← hX] at HP ⊢
 clear hX
 have ag1 := agg_ok ha.len ha.one
 obtain ⟨p1, q1, hcs, ah_name, ah_path⟩ := ha
 have HCA := shut hcs
 clear hcs
 simp only at ah_name ah_path HCA
 obtain ⟨CA, hCA⟩ : ∃ C, C = cs.toArray := ⟨_, rfl⟩
 rw [← hCA] at ag1 ⊢
 rw [HCA.out] at hCA
 have GCA := shut hCA
 clear hCA HCA
 have KW : Keeps Nothing w (w.alloc (.cells CA 114)) := (Keeps.refl Nothing w).alloc _
 have BA := blk_new w CA 114
 go_enter Tryz.func125, Tryz.ntmps125
 go_upto_region 1 with fail
 clear ag1
 generalize w.heap.size = ga at *
 generalize w.alloc (.cells CA 114) = wb at *
 obtain ⟨n, hn⟩ : ∃ n, a_path.length = n := ⟨_, rfl⟩
 have hnb : n ≤ bigN := by rw [← hn]; exact ah_path.1
 unfold bigN at hnb
 rw [hn] at GCA HP
 have HN := shut hn
 clear hn
 obtain ⟨-, ae1⟩ := PlB  GCA.out BA
 go_wp2_with fail
 clear ae1
 go_loopw [4, 8] (fun s4 s8 wx => ∃ t : Nat, s8 = .int .i64 t ∧ t ≤ n ∧ Keeps Nothing wb wx ∧ Shut (∀ s ∈ a_path.take t, s = [42] ∨ isName s = true)) (fun _ s8 _ => n - (intOf s8).toNat)
 case atStart => exact ⟨0, rfl, Nat.zero_le _, Keeps.refl _ _, shut (by simp)⟩
 case round =>
  obtain ⟨t, rfl, ht, KL, HT⟩ := hrel
  have BA := KL.blk BA (fun h => h)
  have KW := KW.trans KL (fun _ h _ => h)
  by_cases hlt : t < n
  ·obtain ⟨a, ha⟩ : ∃ a, a_path[t]? = some a := ⟨_, List.getElem?_eq_getElem (by rw [HN.out]; exact hlt)⟩
   obtain ⟨g1, o1, rfl, e1, hal⟩ := tx_cell (ah_path.keeps KW (fun _ _ h => h) (fun _ h => h) (fun _ _ _ h => h)) ha
   have hc := fun W => lname_any W a (by unfold bigN at hal; omega)
   have HA := shut ha
   clear ha hal
   have m0 : (0 : Int) ≤ t := by omega
   have m1 : (t : Int) < n := by omega
   obtain ⟨z, hz⟩ : ∃ z, isName a = z := ⟨_, rfl⟩
   rw [hz] at hc
   have HZ := shut hz
   clear hz
   by_cases hst : a = [42]
   ·subst hst
    have HT2 := shut (all_take HA.out HT.out (.inl rfl))
    have hq : (([42] : List UInt8) == [42]) = true := rfl
    clear HZ hc
    go_wp2_with fail
    go_roundw
    case rel => exact ⟨t + 1, by go_num, by omega, KL, HT2⟩
    case measure => simp [intOf]; omega
   ·have hq : (a == [42]) = false := by rw [beq_eq_false_iff_ne]; exact hst
    have HS := shut hst
    clear hst
    go_wp2_with fail
    refine (hc _).mono ?_
    rintro e w1 ⟨rfl, rfl⟩
    clear hc e1
    cases z with
    | true =>
     have HT2 := shut (all_take HA.out HT.out (.inr HZ.out))
     clear HZ
     go_wp2_with fail
     go_roundw
     case rel => exact ⟨t + 1, by go_num, by omega, KL, HT2⟩
     case measure => simp [intOf]; omega
    | false =>
     have hno : Shut (¬ PlP X) := shut (fun h => by
      rcases (HP.out.1 h).1 a (List.mem_of_getElem? HA.out) with h2 | h2
      ·exact HS.out h2
      ·rw [HZ.out] at h2; cases h2)
     clear HZ HP
     go_wp2_with fail
     go_ret
     exact tells_f hno.out KW
  ·obtain rfl : t = n := by omega
   have m1 : ¬ (t : Int) < t := by omega
   have HALL := shut (all_of_take HN.out HT.out)
   have hc := fun W => lname_any W a_name (by unfold bigN at ah_name; omega)
   obtain ⟨z, hz⟩ : ∃ z, isName a_name = z := ⟨_, rfl⟩
   rw [hz] at hc HP
   clear hz
   obtain ⟨ae0, ae1⟩ := PlB  GCA.out BA
   unfold txV at *
   go_wp2_with fail
   refine (hc _).mono ?_
   rintro e w1 ⟨rfl, rfl⟩
   clear hc
   cases z with
   | false =>
    have hno : Shut (¬ PlP X) := shut (fun h => by have h2 := (HP.out.1 h).2.1; cases h2)
    clear HP HALL
    go_wp2_with fail
    go_ret
    exact tells_f hno.out KW
   | true =>
    have hz : Shut (decide ((t : Int) ≤ 64) = true ↔ PlP X) := shut (by
     rw [decide_eq_true_iff, HP.out]
     exact ⟨fun h => ⟨HALL.out, by first | rfl | trivial, by omega⟩, fun h => by have := h.2.2; omega⟩)
    clear HP HALL
    go_wp2_with fail
    go_ret
    exact tells_z hz.out KW
set_option maxRecDepth 100000 in
set_option maxHeartbeats 2000000 in
theorem nothing_any {S : Nat → Prop} (a : TyD) (w : World) (cs : List Value) (ha : TyIs S w a cs) : Calls Tryz.prog 111 #[.agg cs.toArray] w (Tells w (a.name = [] ∧ a.lives = [] ∧ a.elem = [])) := by
 obtain ⟨a_kind, a_name, a_lives, a_elem⟩ := a
 have ag1 := agg_ok ha.len ha.one
 rw [tyIs_iff] at ha
 obtain ⟨p2, q2, p3, q3, hcs, ah_name, ah_lives, ah_elem⟩ := ha
 have HCA := shut hcs
 clear hcs
 simp only [TyD.kind, TyD.name, TyD.lives, TyD.elem] at ah_name ah_lives ah_elem HCA
 obtain ⟨CA, hCA⟩ : ∃ C, C = cs.toArray := ⟨_, rfl⟩
 rw [← hCA] at ag1 ⊢
 rw [HCA.out] at hCA
 have GCA := shut hCA
 clear hCA HCA
 have KW : Keeps Nothing w (w.alloc (.cells CA 53)) := (Keeps.refl Nothing w).alloc _
 have BA := blk_new w CA 53
 go_enter Tryz.func111, Tryz.ntmps111
 go_upto_region 1 with fail
 clear ag1
 generalize w.heap.size = ga at *
 generalize w.alloc (.cells CA 53) = wb at *
 simp only [TyD.name, TyD.lives, TyD.elem]
 obtain ⟨-, ae1, ae2, ae3⟩ := TyB  GCA.out BA
 unfold txV at *
 by_cases h1 : a_name = []
 rotate_left
 ·have hq : (a_name == []) = false := by rw [beq_eq_false_iff_ne]; exact h1
  have HN := shut h1
  clear h1
  go_wp2_with fail
  go_ret
  refine tells_f ?_ KW
  rintro ⟨h, _, _⟩
  exact HN.out h
 subst h1
 have hq : (([] : List UInt8) == []) = true := rfl
 by_cases h2 : a_lives = []
 rotate_left
 ·have hl : ¬ (a_lives.length : Int) = 0 := by have := List.length_pos_iff.2 h2; omega
  have hlb : ((a_lives.length : Int) == 0) = false := by rw [beq_eq_false_iff_ne]; exact hl
  have HN := shut h2
  clear h2
  go_wp2_with fail
  go_ret
  refine tells_f ?_ KW
  rintro ⟨_, h, _⟩
  exact HN.out h
 subst h2
 by_cases h3 : a_elem = []
 rotate_left
 ·have hl : ¬ (a_elem.length : Int) = 0 := by have := List.length_pos_iff.2 h3; omega
  have hlb : ((a_elem.length : Int) == 0) = false := by rw [beq_eq_false_iff_ne]; exact hl
  have HN := shut h3
  clear h3
  go_wp2_with fail
  go_ret
  refine tells_f ?_ KW
  rintro ⟨_, _, h⟩
  exact HN.out h
 subst h3
 go_wp2_with fail
 go_ret
 exact tells_t ⟨rfl, rfl, rfl⟩ KW
mutual
def TyP : TyD → Int → Prop
 | .mk k n lv el, d => d ≤ 64 ∧ ((k = 3 ∧ DoubleP n ∧ LivesP lv ∧ el = []) ∨ ((k = 4 ∨ k = 5) ∧ n = [] ∧ lv.length ≤ 1 ∧ LivesP lv ∧ TysP el (d + 1)) ∨ ((k = 1 ∨ k = 2) ∧ n = [] ∧ lv = [] ∧ el = []))
def TysP : List TyD → Int → Prop
 | [], _ => False
 | t :: r, d => r = [] ∧ TyP t d
end
set_option maxRecDepth 100000 in
set_option maxHeartbeats 4000000 in
theorem kind_any {S : Nat → Prop} : ∀ (a : TyD) (w : World) (cs : List Value) (d : Int), MaxV w → 0 ≤ d → d ≤ 1000 → TyIs S w a cs → Calls Tryz.prog 112 #[.agg cs.toArray, .int .i64 d] w (Tells w (TyP a d)) := by
 refine TyD.ind ?_
 intro a_kind a_name a_lives a_elem ih w cs d hM hd0 hd1 ha
 have IH := shut ih
 clear ih
 have HI := shut ha
 have HP : Shut (TyP (.mk a_kind a_name a_lives a_elem) d ↔ d ≤ 64 ∧ ((a_kind = 3 ∧ DoubleP a_name ∧ LivesP a_lives ∧ a_elem = []) ∨ ((a_kind = 4 ∨ a_kind = 5) ∧ a_name = [] ∧ a_lives.length ≤ 1 ∧ LivesP a_lives ∧ TysP a_elem (d + 1)) ∨ ((a_kind = 1 ∨ a_kind = 2) ∧ a_name = [] ∧ a_lives = [] ∧ a_elem = []))) := shut (by unfold TyP; exact Iff.rfl)
 have HM := shut hM
 clear hM
 obtain ⟨X, hX⟩ : ∃ X, X = TyP (.mk a_kind a_name a_lives a_elem) d := ⟨_, rfl⟩
 rw [← hX] at HP ⊢
 clear hX
 have ag1 := agg_ok ha.len ha.one
 rw [tyIs_iff] at ha
 obtain ⟨p2, q2, p3, q3, hcs, ah_name, ah_lives, ah_elem⟩ := ha
 have HCA := shut hcs
 clear hcs
 simp only [TyD.kind, TyD.name, TyD.lives, TyD.elem] at ah_name ah_lives ah_elem HCA
 obtain ⟨CA, hCA⟩ : ∃ C, C = cs.toArray := ⟨_, rfl⟩
 rw [← hCA] at ag1 ⊢
 have HCS := shut hCA
 rw [HCA.out] at hCA
 have GCA := shut hCA
 clear hCA HCA
 have KW : Keeps Nothing w (w.alloc (.cells CA 53)) := (Keeps.refl Nothing w).alloc _
 have BA := blk_new w CA 53
 go_enter Tryz.func112, Tryz.ntmps112
 go_upto_region 1 with fail
 clear ag1
 generalize w.heap.size = ga at *
 generalize w.alloc (.cells CA 53) = wb at *
 by_cases hdeep : d ≤ 64
 rotate_left
 ·have m1 : 64 < d := by omega
  have hno : Shut (¬ X) := shut (fun h => hdeep (HP.out.1 h).1)
  clear HP
  go_wp2_with fail
  go_ret
  exact tells_f hno.out KW
 have m1 : ¬ 64 < d := by omega
 by_cases k3 : a_kind = 3
 ·subst k3
  have HQ : Shut (X ↔ DoubleP a_name ∧ LivesP a_lives ∧ a_elem = []) := shut (HP.out.trans (by simp [hdeep]))
  clear HP
  obtain ⟨ae0, ae1, -, -⟩ := TyB  GCA.out BA
  unfold txV at *
  have hc := double_any wb (HM.out.keeps KW) a_name ah_name
  go_wp2_with fail
  refine hc.mono ?_
  rintro e w1 ⟨⟨z, rfl, hz⟩, k1⟩
  have KW := KW.trans k1 (fun _ h _ => h)
  have BA := k1.blk BA (fun h => h)
  clear hc k1 ae0 ae1
  cases z with
  | false =>
   have hno : Shut (¬ X) := shut (fun h => by have h2 := hz.2 (HQ.out.1 h).1; cases h2)
   clear HQ hz GCA BA
   go_wp2_with fail
   go_ret
   exact tells_f hno.out KW
  | true =>
   have H1 := shut (hz.1 rfl)
   clear hz
   obtain ⟨-, -, ae2, -⟩ := TyB  GCA.out BA
   have hc := lives_any w1 q2 (ah_lives.keeps KW (fun _ _ h => h) (fun _ h => h) (fun _ _ _ h => h))
   go_wp2_with fail
   refine hc.mono ?_
   rintro e w2 ⟨⟨z, rfl, hz⟩, k2⟩
   have KW := KW.trans k2 (fun _ h _ => h)
   have BA := k2.blk BA (fun h => h)
   clear hc k2 ae2
   cases z with
   | false =>
    have hno : Shut (¬ X) := shut (fun h => by have h2 := hz.2 (HQ.out.1 h).2.1; cases h2)
    clear HQ hz GCA BA
    go_wp2_with fail
    go_ret
    exact tells_f hno.out KW
   | true =>
    have H2 := shut (hz.1 rfl)
    clear hz
    obtain ⟨-, -, -, ae3⟩ := TyB  GCA.out BA
    by_cases he : a_elem = []
    ·subst he
     have hy : Shut X := shut (HQ.out.2 ⟨H1.out, H2.out, rfl⟩)
     clear HQ H1 H2
     go_wp2_with fail
     go_ret
     exact tells_t hy.out KW
    ·have hl : ¬ (a_elem.length : Int) = 0 := by have := List.length_pos_iff.2 he; omega
     have hlb : ((a_elem.length : Int) == 0) = false := by rw [beq_eq_false_iff_ne]; exact hl
     have hno : Shut (¬ X) := shut (fun h => he (HQ.out.1 h).2.2)
     clear HQ H1 H2 he
     go_wp2_with fail
     go_ret
     exact tells_f hno.out KW
 by_cases k45 : a_kind = 4 ∨ a_kind = 5
 ·have HQ : Shut (X ↔ a_name = [] ∧ a_lives.length ≤ 1 ∧ LivesP a_lives ∧ TysP a_elem (d + 1)) := shut (HP.out.trans (by
   constructor
   ·rintro ⟨_, h | h | h⟩
    ·exact absurd h.1 k3
    ·exact h.2
    ·omega
   ·intro h
    exact ⟨hdeep, .inr (.inl ⟨k45, h⟩)⟩))
  clear HP
  have wd : IntKind.i64.wrap (d + 1) = d + 1 := by rw [IntKind.wrap_i64]; omega
  rcases k45 with rfl | rfl
  all_goals
   obtain ⟨ae0, ae1, ae2, -⟩ := TyB  GCA.out BA
   unfold txV at *
   by_cases h1 : a_name = []
   rotate_left
   ·have hq : (a_name == []) = false := by rw [beq_eq_false_iff_ne]; exact h1
    have hno : Shut (¬ X) := shut (fun h => h1 (HQ.out.1 h).1)
    clear HQ h1
    go_wp2_with fail
    go_ret
    exact tells_f hno.out KW
   subst h1
   have hq : (([] : List UInt8) == []) = true := rfl
   by_cases h2 : a_lives.length ≤ 1
   rotate_left
   ·have hl : ¬ (a_lives.length : Int) ≤ 1 := by omega
    have hno : Shut (¬ X) := shut (fun h => h2 (HQ.out.1 h).2.1)
    clear HQ h2
    go_wp2_with fail
    go_ret
    exact tells_f hno.out KW
   have hl : (a_lives.length : Int) ≤ 1 := by omega
   have hc := lives_any wb q2 (ah_lives.keeps KW (fun _ _ h => h) (fun _ h => h) (fun _ _ _ h => h))
   go_wp2_with fail
   refine hc.mono ?_
   rintro e w1 ⟨⟨z, rfl, hz⟩, k1⟩
   have KW := KW.trans k1 (fun _ h _ => h)
   have BA := k1.blk BA (fun h => h)
   clear hc k1 ae0 ae1 ae2
   cases z with
   | false =>
    have hno : Shut (¬ X) := shut (fun h => by have h3 := hz.2 (HQ.out.1 h).2.2.1; cases h3)
    clear HQ hz GCA BA
    go_wp2_with fail
    go_ret
    exact tells_f hno.out KW
   | true =>
    have H1 := shut (hz.1 rfl)
    clear hz
    obtain ⟨-, -, -, ae3⟩ := TyB  GCA.out BA
    by_cases he : a_elem.length = 1
    rotate_left
    ·have hle : ¬ (a_elem.length : Int) = 1 := by omega
     have hno : Shut (¬ X) := shut (fun h => by
      have h4 := (HQ.out.1 h).2.2.2
      cases a_elem with
      | nil => unfold TysP at h4; exact h4
      | cons t r => unfold TysP at h4; obtain ⟨rfl, _⟩ := h4; exact he rfl)
     clear HQ H1 he
     go_wp2_with fail
     go_ret
     exact tells_f hno.out KW
    obtain ⟨t, rfl⟩ : ∃ t, a_elem = [t] := by
     cases a_elem with
     | nil => cases he
     | cons t r =>
      cases r with
      | nil => exact ⟨t, rfl⟩
      | cons _ _ => simp at he
    have HT : Shut (TysP [t] (d + 1) ↔ TyP t (d + 1)) := shut (by unfold TysP; simp)
    obtain ⟨g1, o1, rfl, -, cs1, l1, r1, i1⟩ := (ah_elem.keeps KW (fun _ _ h => h) (fun _ h => h) (fun _ _ _ h => h.keeps KW (fun _ _ h => h) (fun _ h => h))).get (j := 0) (d := t) rfl
    rw [Nat.zero_mul, Nat.add_zero] at r1
    obtain ⟨f1, f2⟩ := sub_of r1 l1
    have hc := IH.out t (by simp) w1 cs1 (d + 1) (HM.out.keeps KW) (by omega) (by omega) i1
    generalize cs1.toArray = C1 at *
    go_wp2_with fail
    refine hc.mono ?_
    rintro e w2 ⟨⟨z, rfl, hz⟩, k2⟩
    have hz2 : Shut (z = true ↔ X) := shut (by
     rw [HQ.out, HT.out]
     exact ⟨fun h => ⟨by first | rfl | trivial, h2, H1.out, hz.1 h⟩, fun h => hz.2 h.2.2.2⟩)
    clear hc hz HQ HT H1 f1 f2 r1 i1
    go_wp2_with fail
    go_ret
    exact tells_z hz2.out (KW.trans k2 (fun _ h _ => h))
 by_cases k12 : a_kind = 1 ∨ a_kind = 2
 ·have HQ : Shut (X ↔ a_name = [] ∧ a_lives = [] ∧ a_elem = []) := shut (HP.out.trans (by
   constructor
   ·rintro ⟨_, h | h | h⟩
    ·exact absurd h.1 k3
    ·exact absurd h.1 k45
    ·exact h.2
   ·intro h
    exact ⟨hdeep, .inr (.inr ⟨k12, h⟩)⟩))
  clear HP
  have hcn := nothing_any _ wb cs (HI.out.keeps KW (fun _ _ h => h) (fun _ h => h))
  obtain ⟨y1, y2⟩ := tblk_mid BA (n := 4) (by rw [GCA.out]; rfl)
  rw [show cs.toArray = CA from HCS.out.symm] at hcn
  rcases k12 with rfl | rfl
  all_goals
   obtain ⟨ae0, -, -, -⟩ := TyB  GCA.out BA
   go_wp2_with fail
   refine hcn.mono ?_
   rintro e w1 ⟨⟨z, rfl, hz⟩, k1⟩
   have hz2 : Shut (z = true ↔ X) := shut (hz.trans HQ.out.symm)
   clear hcn hz HQ y1 y2
   go_wp2_with fail
   go_ret
   exact tells_z hz2.out (KW.trans k1 (fun _ h _ => h))
 have hno : Shut (¬ X) := shut (fun h => by
  obtain ⟨_, h2⟩ := HP.out.1 h
  rcases h2 with h2 | h2 | h2
  ·exact k3 h2.1
  ·exact k45 h2.1
  ·exact k12 h2.1)
 clear HP
 have n1 : ¬ a_kind = 1 := fun h => k12 (.inl h)
 have n2 : ¬ a_kind = 2 := fun h => k12 (.inr h)
 have n4 : ¬ a_kind = 4 := fun h => k45 (.inl h)
 have n5 : ¬ a_kind = 5 := fun h => k45 (.inr h)
 clear k45 k12
 obtain ⟨ae0, -, -, -⟩ := TyB  GCA.out BA
 go_wp2_with fail
 go_ret
 exact tells_f hno.out KW
end Go.Proofs.YtjbcagbnagefcaaGreat
namespace Go.Proofs.YtjbcagbnagefcaaGreat
open Go.RowKit
attribute [local go_sem ↓] exec_mid_ty exec_store_ty exec_mid_pl exec_store_pl exec_mid_opr exec_store_opr exec_mid_val exec_store_val exec_mid_st exec_store_st exec_mid_fld exec_store_fld exec_mid_str exec_store_str exec_mid_lif exec_store_lif exec_mid_fun exec_store_fun exec_mid_cr exec_store_cr
attribute [local go_sem] rowOk_new World.setRow_alloc_new
def FldP (mt : Bool) (f : FldD) : Prop := (f.mu = true → mt = true) ∧ isName f.name = true ∧ TyP f.ty 1
def FldsP (l : List FldD) (mt : Bool) : Prop := (∀ f ∈ l, FldP mt f) ∧ l.length ≤ 64
set_option maxRecDepth 100000 in
set_option maxHeartbeats 4000000 in
theorem fields_any (w : World) (hM : MaxV w) {S : Nat → Prop} {ao : Option Addr} {l : List FldD} (c : Nat) (mt : Bool) (h : SlIs S w 6 (FldIs S w) ao l) : Calls Tryz.prog 109 #[.slice ao l.length c, .bool mt] w (Tells w (FldsP l mt)) := by
 have hl := h.1
 unfold bigN at hl
 have HX := shut h
 have HM := shut hM
 clear h hM
 obtain ⟨n, hn⟩ : ∃ n, l.length = n := ⟨_, rfl⟩
 rw [hn] at hl ⊢
 have HN := shut hn
 clear hn
 go_enter Tryz.func109, Tryz.ntmps109
 go_wp2_with fail
 go_loopw [6, 9] (fun s6 s9 wx => ∃ t : Nat, s9 = .int .i64 t ∧ t ≤ n ∧ Keeps Nothing w wx ∧ Shut (∀ f ∈ l.take t, FldP mt f)) (fun _ s9 _ => n - (intOf s9).toNat)
 case atStart => exact ⟨0, rfl, Nat.zero_le _, Keeps.refl _ _, shut (by simp)⟩
 case round =>
  obtain ⟨t, rfl, ht, KL, HT⟩ := hrel
  by_cases hlt : t < n
  ·obtain ⟨d, hd⟩ : ∃ d, l[t]? = some d := ⟨_, List.getElem?_eq_getElem (by rw [HN.out]; exact hlt)⟩
   obtain ⟨g1, o1, rfl, -, cs, l1, r1, ha⟩ := (HX.out.keeps KL (fun _ _ h => h) (fun _ h => h) (fun _ _ _ h => h.keeps KL (fun _ _ h => h) (fun _ h => h))).get hd
   have HD := shut hd
   clear hd
   have m0 : (0 : Int) ≤ t := by omega
   have m1 : (t : Int) < n := by omega
   have ag1 := agg_ok l1 ha.one
   obtain ⟨CA, hCA⟩ : ∃ C, C = cs.toArray := ⟨_, rfl⟩
   obtain ⟨hk, ho⟩ := sub_of r1 l1
   rw [← hCA] at ag1 ho
   have HCA := shut hCA
   clear hCA r1
   go_upto_region 4 with fail
   have ka : Keeps Nothing wr (wr.alloc (.cells CA 73)) := (Keeps.refl Nothing wr).alloc _
   have BA := blk_new wr CA 73
   have KW := KL.trans ka (fun _ h _ => h)
   have ha := ha.keeps ka (fun _ _ h => h) (fun _ h => h)
   clear hk ho ag1 ka
   generalize wr.heap.size = ga at *
   generalize wr.alloc (.cells CA 73) = wb at *
   obtain ⟨a_mu, a_name, a_ty⟩ := d
   obtain ⟨s2, hcs, ah_name, ah_ty⟩ := ha
   rw [hcs] at HCA
   simp only at ah_name ah_ty HCA
   have GCA := HCA
   clear HCA hcs
   have al_ty := ah_ty.len
   have HP : Shut (FldP mt ⟨a_mu, a_name, a_ty⟩ ↔ (a_mu = true → mt = true) ∧ isName a_name = true ∧ TyP a_ty 1) := shut Iff.rfl
   obtain ⟨X, hX⟩ : ∃ X, X = (⟨a_mu, a_name, a_ty⟩ : FldD) := ⟨_, rfl⟩
   rw [← hX] at HP HD
   clear hX
   have hout : Shut (¬ FldP mt X → ¬ FldsP l mt) := shut (fun h h2 => h (h2.1 X (List.mem_of_getElem? HD.out)))
   have h1 := lname_any wb a_name (by unfold bigN at ah_name; omega)
   obtain ⟨z1, hz1⟩ : ∃ z, isName a_name = z := ⟨_, rfl⟩
   rw [hz1] at h1 HP
   clear hz1
   obtain ⟨ae0, ae1, -⟩ := FldB al_ty GCA.out BA
   unfold txV at *
   by_cases hmu : a_mu = true ∧ mt = false
   ·obtain ⟨rfl, rfl⟩ := hmu
    have hno := shut (hout.out (fun h => by have h2 := (HP.out.1 h).1 rfl; cases h2))
    clear HP hout h1
    go_wp2_with fail
    go_ret
    exact tells_f hno.out KW
   have hmu2 : Shut (a_mu = true → mt = true) := shut (fun h => by cases mt with | true => rfl | false => exact absurd ⟨h, rfl⟩ hmu)
   have hcs : (a_mu = false) ∨ (a_mu = true ∧ mt = true) := by cases a_mu with | false => exact .inl rfl | true => exact .inr ⟨rfl, hmu2.out rfl⟩
   clear hmu
   have hM1 := HM.out.keeps KW
   rcases hcs with rfl | ⟨rfl, rfl⟩
   all_goals
    go_wp2_with fail
    refine h1.mono ?_
    rintro e w1 ⟨rfl, rfl⟩
    clear h1 ae0 ae1
    cases z1 with
    | false =>
     have hno := shut (hout.out (fun h => by have h2 := (HP.out.1 h).2.1; cases h2))
     clear HP hout hmu2
     go_wp2_with fail
     go_ret
     exact tells_f hno.out KW
    | true =>
     obtain ⟨-, -, ⟨ae2, af2⟩⟩ := FldB al_ty GCA.out BA
     have hc := kind_any a_ty w1 s2 1 hM1 (by omega) (by omega) ah_ty
     go_wp2_with fail
     refine hc.mono ?_
     rintro e w2 ⟨⟨z, rfl, hz⟩, k2⟩
     have KW := KW.trans k2 (fun _ h _ => h)
     have BA := k2.blk BA (fun h => h)
     clear hc k2 ae2 af2
     cases z with
     | false =>
      have hno := shut (hout.out (fun h => by have h2 := hz.2 (HP.out.1 h).2.2; cases h2))
      clear HP hout hz hmu2
      go_wp2_with fail
      go_ret
      exact tells_f hno.out KW
     | true =>
      have HT2 := shut (all_take HD.out HT.out (HP.out.2 ⟨hmu2.out, (by first | rfl | trivial), hz.1 rfl⟩))
      clear HP hout hz hmu2
      go_wp2_with fail
      go_roundw
      case rel => exact ⟨t + 1, by go_num, by omega, KW, HT2⟩
      case measure => simp [intOf]; omega
  ·obtain rfl : t = n := by omega
   have m1 : ¬ (t : Int) < t := by omega
   have HALL := shut (all_of_take HN.out HT.out)
   by_cases h64 : t ≤ 64
   ·have m2 : (t : Int) ≤ 64 := by omega
    go_wp2_with fail
    go_ret
    exact tells_t ⟨HALL.out, by rw [HN.out]; exact h64⟩ KL
   ·have m2 : ¬ (t : Int) ≤ 64 := by omega
    have hno : Shut (¬ FldsP l mt) := shut (fun h => h64 (by rw [← HN.out]; exact h.2))
    clear HALL
    go_wp2_with fail
    go_ret
    exact tells_f hno.out KL
def StrP (s : StrD) : Prop := isName s.name = true ∧ LivesP s.lives ∧ FldsP s.fields false
set_option maxRecDepth 100000 in
set_option maxHeartbeats 4000000 in
theorem strukt_any {S : Nat → Prop} (a : StrD) (w : World) (hM : MaxV w) (cs : List Value) (ha : StrIs S w a cs) : Calls Tryz.prog 87 #[.agg cs.toArray] w (Tells w (StrP a)) := by
 obtain ⟨a_pub, a_name, a_lives, a_fields, a_pos⟩ := a
 have HP : Shut (StrP ⟨a_pub, a_name, a_lives, a_fields, a_pos⟩ ↔ isName a_name = true ∧ LivesP a_lives ∧ FldsP a_fields false) := shut Iff.rfl
 obtain ⟨X, hX⟩ : ∃ X, X = StrP ⟨a_pub, a_name, a_lives, a_fields, a_pos⟩ := ⟨_, rfl⟩
 rw [← hX] at HP ⊢
 clear hX
 have HM := shut hM
 clear hM
 have ag1 := agg_ok ha.len ha.one
 obtain ⟨p2, q2, p3, q3, hcs, ah_name, ah_lives, ah_fields⟩ := ha
 have HCA := shut hcs
 clear hcs
 simp only at ah_name ah_lives ah_fields HCA
 obtain ⟨CA, hCA⟩ : ∃ C, C = cs.toArray := ⟨_, rfl⟩
 rw [← hCA] at ag1 ⊢
 rw [HCA.out] at hCA
 have GCA := shut hCA
 clear hCA HCA
 have KW : Keeps Nothing w (w.alloc (.cells CA 49)) := (Keeps.refl Nothing w).alloc _
 have BA := blk_new w CA 49
 go_enter Tryz.func87, Tryz.ntmps87
 go_upto_region 1 with fail
 clear ag1
 generalize w.heap.size = ga at *
 generalize w.alloc (.cells CA 49) = wb at *
 have h1 := lname_any wb a_name (by unfold bigN at ah_name; omega)
 obtain ⟨z1, hz1⟩ : ∃ z, isName a_name = z := ⟨_, rfl⟩
 rw [hz1] at h1 HP
 clear hz1
 obtain ⟨-, ae1, -, -, -⟩ := StrB  GCA.out BA
 unfold txV at *
 go_wp2_with fail
 refine h1.mono ?_
 rintro e w1 ⟨rfl, rfl⟩
 clear h1 ae1
 cases z1 with
 | false =>
  have hno : Shut (¬ X) := shut (fun h => by have h2 := (HP.out.1 h).1; cases h2)
  clear HP
  go_wp2_with fail
  go_ret
  exact tells_f hno.out KW
 | true =>
  obtain ⟨-, -, ae2, -, -⟩ := StrB  GCA.out BA
  have hc := lives_any w1 q2 (ah_lives.keeps KW (fun _ _ h => h) (fun _ h => h) (fun _ _ _ h => h))
  go_wp2_with fail
  refine hc.mono ?_
  rintro e w2 ⟨⟨z, rfl, hz⟩, k2⟩
  have KW := KW.trans k2 (fun _ h _ => h)
  have BA := k2.blk BA (fun h => h)
  clear hc k2 ae2
  cases z with
  | false =>
   have hno : Shut (¬ X) := shut (fun h => by have h2 := hz.2 (HP.out.1 h).2.1; cases h2)
   clear HP hz
   go_wp2_with fail
   go_ret
   exact tells_f hno.out KW
  | true =>
   have H1 := shut (hz.1 rfl)
   clear hz
   obtain ⟨-, -, -, ae3, -⟩ := StrB  GCA.out BA
   have hc := fields_any w2 (HM.out.keeps KW) q3 false (ah_fields.keeps KW (fun _ _ h => h) (fun _ h => h) (fun _ _ _ h => h.keeps KW (fun _ _ h => h) (fun _ h => h)))
   go_wp2_with fail
   refine hc.mono ?_
   rintro e w3 ⟨⟨z, rfl, hz⟩, k3⟩
   have KW := KW.trans k3 (fun _ h _ => h)
   have BA := k3.blk BA (fun h => h)
   clear hc k3 ae3
   have hz2 : Shut (z = true ↔ X) := shut (by rw [HP.out]; exact ⟨fun h => ⟨by first | rfl | trivial, H1.out, hz.1 h⟩, fun h => hz.2 h.2.2⟩)
   clear HP hz H1
   go_wp2_with fail
   go_ret
   exact tells_z hz2.out KW
def zeroPl : PlD := ⟨[], []⟩
theorem zeroPl_is (S : Nat → Prop) (w : World) : PlIs S w zeroPl [.string ⟨#[]⟩, .slice none 0 0] := ⟨none, 0, rfl, Nat.zero_le _, slIs_nil _ _ _ _ _⟩
def OprP (o : OprD) : Prop := (o.kind = 1 ∧ o.place = zeroPl ∧ 0 ≤ o.n ∧ o.n ≤ 2147483647) ∨ (o.kind = 2 ∧ o.place = zeroPl ∧ (o.n = 0 ∨ o.n = 1)) ∨ (o.kind = 3 ∧ o.n = 0 ∧ PlP o.place)
set_option maxRecDepth 100000 in
set_option maxHeartbeats 4000000 in
theorem oper_any {S : Nat → Prop} (a : OprD) (w : World) (cs : List Value) (ha : OprIs S w a cs) : Calls Tryz.prog 127 #[.agg cs.toArray] w (Tells w (OprP a)) := by
 obtain ⟨a_kind, a_n, a_place⟩ := a
 have HP : Shut (OprP ⟨a_kind, a_n, a_place⟩ ↔ (a_kind = 1 ∧ a_place = zeroPl ∧ 0 ≤ a_n ∧ a_n ≤ 2147483647) ∨ (a_kind = 2 ∧ a_place = zeroPl ∧ (a_n = 0 ∨ a_n = 1)) ∨ (a_kind = 3 ∧ a_n = 0 ∧ PlP a_place)) := shut Iff.rfl
 obtain ⟨X, hX⟩ : ∃ X, X = OprP ⟨a_kind, a_n, a_place⟩ := ⟨_, rfl⟩
 rw [← hX] at HP ⊢
 clear hX
 have ag1 := agg_ok ha.len ha.one
 obtain ⟨s2, hcs, ah_place⟩ := ha
 have HCA := shut hcs
 clear hcs
 simp only at ah_place HCA
 obtain ⟨CA, hCA⟩ : ∃ C, C = cs.toArray := ⟨_, rfl⟩
 rw [← hCA] at ag1 ⊢
 rw [HCA.out] at hCA
 have GCA := shut hCA
 clear hCA HCA
 have al_place := ah_place.len
 have KW : Keeps Nothing w (w.alloc (.cells CA 116)) := (Keeps.refl Nothing w).alloc _
 have BA := blk_new w CA 116
 go_enter Tryz.func127, Tryz.ntmps127
 go_upto_region 1 with fail
 clear ag1
 generalize w.heap.size = ga at *
 generalize w.alloc (.cells CA 116) = wb at *
 obtain ⟨-, -, ⟨ae2, af2⟩⟩ := OprB al_place GCA.out BA
 have hc0 := samePlace_any a_place zeroPl wb s2 _ (ah_place.keeps KW (fun _ _ h => h) (fun _ h => h)) (zeroPl_is S wb)
 have hc : Calls Tryz.prog 133 #[.agg s2.toArray, .agg #[.string ⟨#[]⟩, .slice none 0 0]] wb (Tells wb (a_place = zeroPl)) := hc0
 clear hc0
 generalize hsp : s2.toArray = sp at *
 go_wp2_with fail
 refine hc.mono ?_
 rintro e w1 ⟨⟨zn, rfl, hzn⟩, k1⟩
 have KW := KW.trans k1 (fun _ h _ => h)
 have BA := k1.blk BA (fun h => h)
 clear hc k1 ae2 af2
 by_cases k1 : a_kind = 1
 ·subst k1
  have HQ : Shut (X ↔ zn = true ∧ 0 ≤ a_n ∧ a_n ≤ 2147483647) := shut (by rw [HP.out, hzn]; simp)
  clear HP hzn
  obtain ⟨ae0, ae1, -⟩ := OprB al_place GCA.out BA
  cases zn with
  | false =>
   have hno : Shut (¬ X) := shut (fun h => by have h2 := (HQ.out.1 h).1; cases h2)
   clear HQ
   go_wp2_with fail
   go_ret
   exact tells_f hno.out KW
  | true =>
   by_cases h0 : 0 ≤ a_n
   ·have hz : Shut (decide (a_n ≤ 2147483647) = true ↔ X) := shut (by rw [HQ.out, decide_eq_true_iff]; exact ⟨fun h => ⟨rfl, h0, h⟩, fun h => h.2.2⟩)
    clear HQ
    go_wp2_with fail
    go_ret
    exact tells_z hz.out KW
   ·have hno : Shut (¬ X) := shut (fun h => h0 (HQ.out.1 h).2.1)
    clear HQ
    go_wp2_with fail
    go_ret
    exact tells_f hno.out KW
 by_cases k2 : a_kind = 2
 ·subst k2
  have HQ : Shut (X ↔ zn = true ∧ (a_n = 0 ∨ a_n = 1)) := shut (by rw [HP.out, hzn]; simp)
  clear HP hzn
  obtain ⟨ae0, ae1, -⟩ := OprB al_place GCA.out BA
  cases zn with
  | false =>
   have hno : Shut (¬ X) := shut (fun h => by have h2 := (HQ.out.1 h).1; cases h2)
   clear HQ
   go_wp2_with fail
   go_ret
   exact tells_f hno.out KW
  | true =>
   by_cases h0 : a_n = 0
   ·subst h0
    have hy : Shut X := shut (HQ.out.2 ⟨rfl, .inl rfl⟩)
    clear HQ
    go_wp2_with fail
    go_ret
    exact tells_t hy.out KW
   ·by_cases h1 : a_n = 1
    ·subst h1
     have hy : Shut X := shut (HQ.out.2 ⟨rfl, .inr rfl⟩)
     clear HQ
     go_wp2_with fail
     go_ret
     exact tells_t hy.out KW
    ·have hno : Shut (¬ X) := shut (fun h => by rcases (HQ.out.1 h).2 with h2 | h2; exact h0 h2; exact h1 h2)
     have hb0 : (a_n == 0) = false := by rw [beq_eq_false_iff_ne]; exact h0
     have hb1 : (a_n == 1) = false := by rw [beq_eq_false_iff_ne]; exact h1
     clear HQ
     go_wp2_with fail
     go_ret
     exact tells_f hno.out KW
 by_cases k3 : a_kind = 3
 ·subst k3
  have HQ : Shut (X ↔ a_n = 0 ∧ PlP a_place) := shut (by rw [HP.out]; simp)
  clear HP hzn
  obtain ⟨ae0, ae1, ⟨ae2, af2⟩⟩ := OprB al_place GCA.out BA
  rw [hsp] at af2
  by_cases h0 : a_n = 0
  ·subst h0
   have hc := place_any a_place w1 s2 (ah_place.keeps KW (fun _ _ h => h) (fun _ h => h))
   rw [hsp] at hc
   go_wp2_with fail
   refine hc.mono ?_
   rintro e w2 ⟨⟨z, rfl, hz⟩, k2⟩
   have hz2 : Shut (z = true ↔ X) := shut (by rw [HQ.out, ← hz]; simp)
   clear hc hz HQ ae2 af2
   go_wp2_with fail
   go_ret
   exact tells_z hz2.out (KW.trans k2 (fun _ h _ => h))
  ·have hno : Shut (¬ X) := shut (fun h => h0 (HQ.out.1 h).1)
   have hb0 : (a_n == 0) = false := by rw [beq_eq_false_iff_ne]; exact h0
   clear HQ
   go_wp2_with fail
   go_ret
   exact tells_f hno.out KW
 have hno : Shut (¬ X) := shut (fun h => by
  rcases HP.out.1 h with h2 | h2 | h2
  ·exact k1 h2.1
  ·exact k2 h2.1
  ·exact k3 h2.1)
 clear HP hzn
 obtain ⟨ae0, -, -⟩ := OprB al_place GCA.out BA
 go_wp2_with fail
 go_ret
 exact tells_f hno.out KW
end Go.Proofs.YtjbcagbnagefcaaGreat
namespace Go.Proofs.YtjbcagbnagefcaaGreat
open Go.RowKit
attribute [local go_sem ↓] exec_mid_ty exec_store_ty exec_mid_pl exec_store_pl exec_mid_opr exec_store_opr exec_mid_val exec_store_val exec_mid_st exec_store_st exec_mid_fld exec_store_fld exec_mid_str exec_store_str exec_mid_lif exec_store_lif exec_mid_fun exec_store_fun exec_mid_cr exec_store_cr
attribute [local go_sem] rowOk_new World.setRow_alloc_new
theorem ent_oprs1 : Entered 139 := entered_of Tryz.func139 (by kernel_rfl) (by kernel_rfl)
set_option maxRecDepth 100000 in
set_option maxHeartbeats 4000000 in
theorem noper_any {S : Nat → Prop} (a : OprD) (w : World) (cs : List Value) (ha : OprIs S w a cs) : Calls Tryz.prog 139 #[.agg cs.toArray] w (Tells w (¬ OprP a)) := by
 have ag1 := agg_ok ha.len ha.one
 have hl : cs.toArray.size = 4 := by simpa using ha.len
 have KW : Keeps Nothing w (w.alloc (.cells cs.toArray 116)) := (Keeps.refl Nothing w).alloc _
 have BA := blk_new w cs.toArray 116
 have hb := ha.keeps KW (fun _ _ h => h) (fun _ h => h)
 have hc := oper_any a _ cs hb
 clear ha hb
 generalize cs.toArray = C at *
 go_enter Tryz.func139, Tryz.ntmps139
 go_upto_region 1 with fail
 generalize w.heap.size = ga at *
 generalize w.alloc (.cells C 116) = wb at *
 obtain ⟨y1, y2⟩ := tblk_mid BA hl
 go_wp2_with fail
 refine hc.mono ?_
 rintro e w1 ⟨⟨z, rfl, hz⟩, k1⟩
 have KW := KW.trans k1 (fun _ h _ => h)
 have HZ : Shut ((!z) = true ↔ ¬ OprP a) := shut (by rw [← hz]; cases z <;> simp)
 clear hc hz y1 y2
 go_wp2_with fail
 go_ret
 exact tells_z HZ.out KW
set_option maxRecDepth 100000 in
set_option maxHeartbeats 4000000 in
theorem index_opr (f : FuncId) (hcf : Entered f) {S : Nat → Prop} {l : List OprD} {p : OprD → Prop} (hf : ∀ a ∈ l, ∀ (W : World) (cs : List Value), OprIs S W a cs → Calls Tryz.prog f #[.agg cs.toArray] W (Tells W (p a)))
  (w : World) {ao : Option Addr} (c : Nat) (h : SlIs S w 4 (OprIs S w) ao l) :
  Calls Tryz.prog 148 #[.slice ao l.length c, .func (.func f) #[] #[]] w fun e w' => (∃ i : Int, e = .returned (.int .i64 i) ∧ (0 ≤ i ↔ ∃ a ∈ l, p a)) ∧ Keeps Nothing w w' := by
 have hlx := h.1
 unfold bigN at hlx
 have HX := shut h
 have HF := shut hf
 clear h hf
 obtain ⟨n, hn⟩ : ∃ n, l.length = n := ⟨_, rfl⟩
 rw [hn] at hlx ⊢
 have HN := shut hn
 clear hn
 go_enter Tryz.func148, Tryz.ntmps148
 go_wp2_with fail
 go_loopw [5, 8] (fun s5 s8 wx => ∃ t : Nat, s8 = .int .i64 t ∧ t ≤ n ∧ Keeps Nothing w wx ∧ Shut (∀ a ∈ l.take t, ¬ p a)) (fun _ s8 _ => n - (intOf s8).toNat)
 case atStart => exact ⟨0, rfl, Nat.zero_le _, Keeps.refl _ _, shut (by simp)⟩
 case round =>
  obtain ⟨t, rfl, ht, K, HT⟩ := hrel
  by_cases hlt : t < n
  ·obtain ⟨a, ha⟩ : ∃ a, l[t]? = some a := ⟨_, List.getElem?_eq_getElem (by rw [HN.out]; exact hlt)⟩
   have HA := shut ha
   obtain ⟨g1, o1, rfl, -, cs, l1, r1, i1⟩ := (HX.out.keeps K (fun _ _ h => h) (fun _ h => h) (fun _ _ _ h => h.keeps K (fun _ _ h => h) (fun _ h => h))).get ha
   have ag1 := agg_ok l1 i1.one
   have hcm := List.mem_of_getElem? ha
   clear ha
   have m0 : (0 : Int) ≤ t := by omega
   have m1 : (t : Int) < n := by omega
   have hk := midOk_range r1
   have ho := midOf_range r1
   rw [l1] at hk ho
   obtain ⟨C, hC⟩ : ∃ C, C = cs.toArray := ⟨_, rfl⟩
   rw [← hC] at ag1 ho
   have hcall := HF.out a hcm wr cs i1
   rw [← hC] at hcall
   clear hC r1 i1
   have hcf2 := hcf #[.agg C] wr
   go_wp2_with fail
   clear hcf2
   refine hcall.mono ?_
   rintro e w3 ⟨⟨z, rfl, hzz⟩, k3⟩
   have KD := K.trans k3 (fun _ h _ => h)
   clear hcall K k3 hk ho ag1
   have HZ := shut hzz
   clear hzz
   cases z with
   | true =>
    have HY : Shut (∃ a ∈ l, p a) := shut ⟨a, hcm, HZ.out.1 rfl⟩
    clear HZ
    go_wp2_with fail
    go_ret
    exact ⟨⟨(t : Int), rfl, ⟨fun _ => HY.out, fun _ => m0⟩⟩, KD⟩
   | false =>
    have HT2 := shut (all_take (P := fun a => ¬ p a) HA.out HT.out (fun h => by have h2 := HZ.out.2 h; cases h2))
    clear HZ
    go_wp2_with fail
    go_roundw
    case rel => exact ⟨t + 1, by go_num, by omega, KD, HT2⟩
    case measure => simp [intOf]; omega
  ·obtain rfl : t = n := by omega
   have m1 : ¬ (t : Int) < t := by omega
   have HALL := shut (all_of_take (P := fun a => ¬ p a) HN.out HT.out)
   go_wp2_with fail
   go_ret
   exact ⟨⟨-1, rfl, ⟨fun h => absurd h (by omega), fun ⟨a, h1, h2⟩ => absurd h2 (HALL.out a h1)⟩⟩, K⟩
set_option maxRecDepth 100000 in
set_option maxHeartbeats 4000000 in
theorem contains_opr (f : FuncId) (hcf : Entered f) {S : Nat → Prop} {l : List OprD} {p : OprD → Prop} (hf : ∀ a ∈ l, ∀ (W : World) (cs : List Value), OprIs S W a cs → Calls Tryz.prog f #[.agg cs.toArray] W (Tells W (p a)))
  (w : World) {ao : Option Addr} (c : Nat) (h : SlIs S w 4 (OprIs S w) ao l) :
  Calls Tryz.prog 138 #[.slice ao l.length c, .func (.func f) #[] #[]] w (Tells w (∃ a ∈ l, p a)) := by
 have hc := index_opr f hcf hf w c h
 clear h hf
 go_enter Tryz.func138, Tryz.ntmps138
 go_wp2_with fail
 refine hc.mono ?_
 rintro e w1 ⟨⟨i, rfl, hi⟩, k1⟩
 have HI : Shut (0 ≤ i ↔ ∃ a ∈ l, p a) := shut hi
 clear hc hi
 go_wp2_with fail
 go_ret
 exact tells_z (by rw [← HI.out, decide_eq_true_iff]) k1
def OprsP (l : List OprD) : Prop := (∀ o ∈ l, OprP o) ∧ l.length ≤ 64
set_option maxRecDepth 100000 in
set_option maxHeartbeats 4000000 in
theorem opers_any (w : World) {S : Nat → Prop} {ao : Option Addr} {l : List OprD} (c : Nat) (h : SlIs S w 4 (OprIs S w) ao l) : Calls Tryz.prog 131 #[.slice ao l.length c] w (Tells w (OprsP l)) := by
 have hl := h.1
 unfold bigN at hl
 have hc := contains_opr 139 ent_oprs1 (fun a _ W cs hw => noper_any a W cs hw) w c h
 have HP : Shut (OprsP l ↔ (¬ ∃ a ∈ l, ¬ OprP a) ∧ l.length ≤ 64) := shut (by
  unfold OprsP
  exact ⟨fun h => ⟨fun ⟨a, h1, h2⟩ => h2 (h.1 a h1), h.2⟩, fun h => ⟨fun a h1 => Classical.byContradiction (fun h2 => h.1 ⟨a, h1, h2⟩), h.2⟩⟩)
 obtain ⟨X, hX⟩ : ∃ X, X = OprsP l := ⟨_, rfl⟩
 rw [← hX] at HP ⊢
 clear hX h
 obtain ⟨n, hn⟩ : ∃ n, l.length = n := ⟨_, rfl⟩
 rw [hn] at hl hc HP ⊢
 clear hn
 go_enter Tryz.func131, Tryz.ntmps131
 by_cases h64 : n ≤ 64
 ·have m1 : (n : Int) ≤ 64 := by omega
  go_wp2_with fail
  refine hc.mono ?_
  rintro e w1 ⟨⟨z, rfl, hz⟩, k1⟩
  have HZ : Shut ((!z) = true ↔ X) := shut (by rw [HP.out, ← hz]; cases z <;> simp [h64])
  clear hc hz HP
  go_wp2_with fail
  go_ret
  exact tells_z HZ.out k1
 ·have m1 : ¬ (n : Int) ≤ 64 := by omega
  have hno : Shut (¬ X) := shut (fun h => h64 (HP.out.1 h).2)
  clear hc HP
  go_wp2_with fail
  go_ret
  exact tells_f hno.out (Keeps.refl _ _)
end Go.Proofs.YtjbcagbnagefcaaGreat
namespace Go.Proofs.YtjbcagbnagefcaaGreat
open Go.RowKit
def midSet (w : World) (g o : Nat) (H : Array Value) : World := w.setRow g ((rowOf w g).toList.take o ++ H.toList ++ (rowOf w g).toList.drop (o + H.size)).toArray
def midSetV (w : World) (x : Value) (H : Array Value) : World := match x with | .pointer (some ⟨g, o, none⟩) => midSet w g o H | _ => w
def midFit (w : World) (g o n : Nat) : Bool := match w.heap[g]? with | some (.cells cs _ fz) => decide (fz = (0, 0)) && decide (o + n ≤ cs.size) | _ => false
def midFitV (w : World) (n : Nat) (x : Value) : Bool := match x with | .pointer (some ⟨g, o, none⟩) => midFit w g o n | _ => false
theorem midSetV_ptr (w : World) (g o : Nat) (H : Array Value) : midSetV w (.pointer (some ⟨g, o, none⟩)) H = midSet w g o H := rfl
theorem midFitV_ptr (w : World) (g o n : Nat) : midFitV w n (.pointer (some ⟨g, o, none⟩)) = midFit w g o n := rfl
theorem midFit_drew (w : World) (g o n : Nat) : midFit w.drew g o n = midFit w g o n := rfl
theorem midFit_drewN (w : World) (g o n k : Nat) : midFit (w.drewN k) g o n = midFit w g o n := rfl
attribute [go_sem] midSetV_ptr midFitV_ptr midFit_drew midFit_drewN
theorem midFit_blk {w : World} {g : Nat} {cs : Array Value} {t : TypeId} (h : Blk w g cs t) {o n : Nat} (hs : o + n ≤ cs.size) : midFit w g o n = true := by
 unfold midFit
 rw [show w.heap[g]? = some (.cells cs t (0, 0)) from h]
 simp [hs]
def midCs (cs H : Array Value) (o : Nat) : Array Value := (cs.toList.take o ++ H.toList ++ cs.toList.drop (o + H.size)).toArray
theorem blk_midSet {w : World} {g : Nat} {cs : Array Value} {t : TypeId} (h : Blk w g cs t) (o : Nat) (H : Array Value) : Blk (midSet w g o H) g (midCs cs H o) t := by
 unfold midSet midCs
 rw [rowOf_blk h]
 exact blk_setRow h
theorem midSet_keeps {S : Nat → Prop} {a b : World} (h : Keeps S a b) {g : Nat} (hg : g < a.heap.size → S g) (o : Nat) (H : Array Value) : Keeps S a (midSet b g o H) := h.setRow hg _
theorem exec_store_mid {P : Program} (ty : TypeId) (n : Nat) (hi : (P.info? ty).map (·.size) = some n)
  (ρ : Operand → Value) (dst : Option Tmp) (x y : Operand) (ty' : TypeId) (pos : String) (af : Array Edge) (gd : Option (Nat × Bool)) (w : World) (h : midFitV w n (ρ x) = true) (hy : aggOk n (ρ y) = true) :
  (execOp ρ ⟨dst, .store ty x y, ty', pos, af, gd⟩).run P w = .ok .skip (midSetV w (ρ x) (aggOf (ρ y))) := by
 unfold midFitV at h
 split at h
 ·rename_i g o hx
  unfold aggOk at hy
  split at hy
  ·rename_i cs hyv
   simp only [Bool.and_eq_true, beq_iff_eq] at hy
   unfold midFit at h
   split at h
   ·rename_i cur t fz hb
    simp only [Bool.and_eq_true, decide_eq_true_eq] at h
    obtain ⟨rfl, hs⟩ := h
    have hst := run_storeCells_at (P := P) g o t cs.toList 0 cur w hb (by simp; omega) (fun v hv => (Array.all_eq_true_iff_forall_mem.1 hy.2) v (by simpa using hv))
    have hsv : (storeVar ty ⟨g, o, none⟩ (.agg cs)).run P w = .ok () (midSet w g o cs) := by
     obtain ⟨i, hi1, hi2⟩ := Option.map_eq_some_iff.1 hi
     unfold midSet
     rw [rowOf_blk hb]
     simp only [Nat.add_zero, Array.length_toList] at hst
     simp [storeVar, sizeOf, typeInfo, hi1, hi2, hy.1, Value.cells, hst]
    unfold execOp
    simp only [hx, hyv, Instr.storeAt, Instr.sureAddr, Sem.run_bind, Sem.run_pure, Result.andThen_ok, hsv, midSetV, aggOf]
   ·cases h
  ·cases hy
 ·cases h
end Go.Proofs.YtjbcagbnagefcaaGreat
