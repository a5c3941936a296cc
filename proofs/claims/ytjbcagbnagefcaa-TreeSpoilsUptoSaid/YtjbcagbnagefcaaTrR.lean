/- Rows that are built element by element, and which blocks their parts lie in. Trees without places, in plain words and in memory. -/
import Derived.Test.YtjbcagbnagefcaaTree2
import Derived.Test.YtjbcagbnagefcaaOwnC
import Derived.Test.YtjbcagbnagefcaaRowR
import Derived.Test.YtjbcagbnagefcaaMixU
namespace Go.Proofs.Ytjbcagbnagefcaa
open Go.RowKit

/-- A block of statements. -/
def stB (w : World) (b : Nat) : Prop := ∃ cs : Array Value, Blk w b cs 46
theorem stB_keeps {T : Nat → Prop} {w w' : World} {b : Nat} (K : Keeps T w w') (hT : ¬ T b) (hb : b < w.heap.size) : stB w' b ↔ stB w b := by
  unfold stB Blk
  rw [K.block b hb hT]
/-- New since N. -/
def NewA (N : Nat) (w : World) (b : Nat) : Prop := N ≤ b ∧ b < w.heap.size
/-- New since N, and none of statements. -/
def NewB (N : Nat) (w : World) (b : Nat) : Prop := N ≤ b ∧ b < w.heap.size ∧ ¬ stB w b
/-- A set of blocks that lasts as long as they do. -/
structure SetOk (Z : World → Nat → Prop) : Prop where
  lt : ∀ w b, Z w b → b < w.heap.size
  keep : ∀ (T : Nat → Prop) (w w' : World) (b : Nat), Keeps T w w' → ¬ T b → Z w b → Z w' b
theorem newA_ok (N : Nat) : SetOk (NewA N) := ⟨fun _ _ h => h.2, fun _ _ _ _ K _ h => ⟨h.1, Nat.lt_of_lt_of_le h.2 K.size⟩⟩
theorem newB_ok (N : Nat) : SetOk (NewB N) := ⟨fun _ _ h => h.2.1, fun _ _ _ _ K hT h => ⟨h.1, Nat.lt_of_lt_of_le h.2.1 K.size, fun q => h.2.2 ((stB_keeps K hT h.2.1).1 q)⟩⟩
/-- A way to lie that lasts as long as its blocks do. -/
structure LayOk {α : Type} (k : Nat) (P : (Nat → Prop) → World → α → List Value → Prop) : Prop where
  len : ∀ S w d cs, P S w d cs → cs.length = k
  one : ∀ S w d cs, P S w d cs → ∀ u ∈ cs, u.oneCell' = true
  keep : ∀ (S S' T : Nat → Prop) (w w' : World) (d : α) (cs : List Value), P S w d cs → Keeps T w w' → (∀ b, S b → ¬ T b) → (∀ b, S b → S' b) → P S' w' d cs
theorem tyOk : LayOk 4 TyIs := ⟨fun _ _ _ _ h => h.len, fun _ _ _ _ h => h.one, fun _ _ _ _ _ _ _ h => h.keeps⟩
theorem oprOk : LayOk 4 OprIs := ⟨fun _ _ _ _ h => h.len, fun _ _ _ _ h => h.one, fun _ _ _ _ _ _ _ h => h.keeps⟩
theorem fldOk : LayOk 6 FldIs := ⟨fun _ _ _ _ h => h.len, fun _ _ _ _ h => h.one, fun _ _ _ _ _ _ _ h => h.keeps⟩
theorem lifOk : LayOk 2 LifIs := ⟨fun _ _ _ _ h => h.len, fun _ _ _ _ h => h.one, fun _ _ _ _ _ _ _ h => h.keeps⟩
theorem strOk : LayOk 5 StrIs := ⟨fun _ _ _ _ h => h.len, fun _ _ _ _ h => h.one, fun _ _ _ _ _ _ _ h => h.keeps⟩
theorem stOk : LayOk 32 StIs := ⟨fun _ _ _ _ h => h.len, fun _ _ _ _ h => h.one, fun _ _ _ _ _ _ _ h => h.keeps⟩
theorem funOk : LayOk 10 FunIs := ⟨fun _ _ _ _ h => h.len, fun _ _ _ _ h => h.one, fun _ _ _ _ _ _ _ h => h.keeps⟩

/-- The blocks of Z, but for a row's own. -/
def InB (Z : World → Nat → Prop) (w : World) (ao : Option Addr) (b : Nat) : Prop := Z w b ∧ ¬ blockOf ao = some b
/-- A row of one's own that is built; its elements' parts lie in blocks of Z. -/
structure OutR {α : Type} (Z : World → Nat → Prop) (e : TypeId) (k : Nat) (P : (Nat → Prop) → World → α → List Value → Prop) (M : Nat) (w : World) (ao : Option Addr) (cap : Nat) (out : List α) : Prop where
  row : ∃ L : List (List Value), OwnC w e k ao cap L ∧ L.length = out.length ∧ ∀ (j : Nat) (d : α), out[j]? = some d → ∃ cs, L[j]? = some cs ∧ P (InB Z w ao) w d cs
  new : ∀ g, blockOf ao = some g → M ≤ g
section
variable {α : Type} {Z : World → Nat → Prop} {e : TypeId} {k : Nat} {P : (Nat → Prop) → World → α → List Value → Prop} {M : Nat} {w w' : World} {ao : Option Addr} {cap : Nat} {out : List α}
theorem outR_nil (Z : World → Nat → Prop) (e : TypeId) (k : Nat) (P : (Nat → Prop) → World → α → List Value → Prop) (M : Nat) (w : World) : OutR Z e k P M w none 0 [] :=
  ⟨⟨[], ownC_nil _ _ _, rfl, fun j d hd => by simp at hd⟩, fun g hg => by cases hg⟩
theorem OutR.lt (h : OutR Z e k P M w ao cap out) {g : Nat} (hg : blockOf ao = some g) : g < w.heap.size := by
  obtain ⟨L, o, _, _⟩ := h.row
  exact o.lt hg
theorem OutR.blk {g : Nat} (h : OutR Z e k P M w (some ⟨g, 0, none⟩) cap out) : ∃ cur : Array Value, Blk w g cur e := by
  obtain ⟨L, o, _, _⟩ := h.row
  exact o.blk
theorem OutR.head (h : OutR Z e k P M w ao cap out) (hne : out ≠ []) : ∃ g, ao = some ⟨g, 0, none⟩ := by
  obtain ⟨L, o, hl, _⟩ := h.row
  exact o.head (fun q => hne (List.eq_nil_of_length_eq_zero (by rw [← hl, q]; rfl)))
theorem OutR.ne {p : Nat} {cs : Array Value} {t : TypeId} (h : OutR Z e k P M w ao cap out) (hp : Blk w p cs t) (hne : e ≠ t) : blockOf ao ≠ some p := by
  obtain ⟨L, o, _, _⟩ := h.row
  exact o.ne hp hne
theorem OutR.capb (h : OutR Z e k P M w ao cap out) : out.length ≤ cap ∧ cap ≤ maxLen := by
  obtain ⟨L, o, hl, _⟩ := h.row
  rw [← hl]
  exact o.cap
theorem OutR.keeps {T : Nat → Prop} (h : OutR Z e k P M w ao cap out) (hZ : SetOk Z) (hP : LayOk k P) (K : Keeps T w w') (hT : ∀ b, Z w b → ¬ T b) (hA : ∀ g, blockOf ao = some g → ¬ T g) : OutR Z e k P M w' ao cap out := by
  obtain ⟨L, o, hl, he⟩ := h.row
  refine ⟨⟨L, o.keeps K hA, hl, fun j d hd => ?_⟩, h.new⟩
  obtain ⟨cs, e1, e2⟩ := he j d hd
  exact ⟨cs, e1, hP.keep _ _ _ _ _ _ _ e2 K (fun b hb => hT b hb.1) (fun b hb => ⟨hZ.keep _ _ _ _ K (hT b hb.1) hb.1, hb.2⟩)⟩
theorem OutR.keepsN (h : OutR Z e k P M w ao cap out) (hZ : SetOk Z) (hP : LayOk k P) (K : Keeps Nothing w w') : OutR Z e k P M w' ao cap out := h.keeps hZ hP K (fun _ _ h => h) (fun _ _ h => h)
/-- As a slice that is read. -/
theorem OutR.sl {S : Nat → Prop} (h : OutR Z e k P M w ao cap out) (hP : LayOk k P) (hZS : ∀ b, Z w b → S b) (hA : ∀ g, blockOf ao = some g → S g) (hb : out.length ≤ bigN) : SlIs S w k (P S w) ao out := by
  obtain ⟨L, o, hl, he⟩ := h.row
  refine ⟨hb, ?_⟩
  by_cases h0 : out = []
  · exact .inl h0
  · obtain ⟨g, rfl⟩ := h.head h0
    refine .inr ⟨g, 0, rfl, hA g rfl, rowIs_mk fun j d hd => ?_⟩
    obtain ⟨cs, e1, e2⟩ := he j d hd
    refine ⟨cs, hP.len _ _ _ _ e2, ?_, hP.keep _ _ _ _ _ _ _ e2 (Keeps.refl Nothing w) (fun _ _ h => h) (fun b hb => hZS b hb.1)⟩
    rw [Nat.zero_add]
    refine o.range (fun x hx => ?_) e1
    obtain ⟨i, hi⟩ := List.mem_iff_getElem?.1 hx
    have hlt := (List.getElem?_eq_some_iff.1 hi).1
    obtain ⟨cs', f1, f2⟩ := he i _ (List.getElem?_eq_getElem (by omega))
    rw [hi] at f1
    obtain rfl := Option.some.inj f1
    exact hP.len _ _ _ _ f2
theorem info_app {Pr : Program} {e : TypeId} {k b : Nat} (h : (Pr.info? e).map (fun i => (i.zero.map (fun z => z.cells.size), i.size, i.bytes)) = some (some k, k, b)) : ∃ i z, Pr.info? e = some i ∧ i.zero = some z ∧ i.size = k ∧ i.bytes = b ∧ z.cells.size = k := by
  cases hi : Pr.info? e with
  | none => rw [hi] at h; cases h
  | some i =>
    rw [hi] at h
    simp only [Option.map_some, Option.some.injEq, Prod.mk.injEq] at h
    cases hz : i.zero with
    | none => rw [hz] at h; cases h.1
    | some z =>
      rw [hz] at h
      simp only [Option.map_some, Option.some.injEq] at h
      exact ⟨i, z, rfl, hz, h.2.1, h.2.2, h.1⟩
/-- append of one element out of a box. -/
theorem wpList_appD {Pr : Program} (w : World) {ops : Array Oper} {rest : List Oper} {o : Oper} {a : Act} {Q : Exit → Act → World → Prop} (hgd : o.guard = none) (s x : Operand) (t : TypeId)
    (ho : o.op = .call { callee := .builtin .append, args := #[s, x], argTypes := #[t, t] }) {b : Nat} (ht : Pr.underlying t = some (.slice e)) (hinfo : (Pr.info? e).map (fun i => (i.zero.map (fun z => z.cells.size), i.size, i.bytes)) = some (some k, k, b)) (hb64 : b ≤ 1000)
    (hZ : SetOk Z) (hP : LayOk k P) (n : Nat) (hn : out.length = n) (hsv : a.eval s = .slice ao n cap) (hown : OutR Z e k P M w ao cap out) (hM : M ≤ w.heap.size) (g : Nat) (C : Array Value) (l : List Value) (d : α) (hC : C = l.toArray)
    (hx : a.eval x = .slice (some ⟨g, 0, none⟩) 1 1) (hg : Blk w g C e) (hel : P (InB Z w ao) w d l) (hb : n ≤ 1000000000)
    (h : ∀ ao' cap' w', OutR Z e k P M w' ao' cap' (out ++ [d]) → Keeps (fun i => blockOf ao = some i) w w' → Moved w.heap.size ao ao' → wpList Pr ops Q rest (a.put o.dst (.slice ao' (n + 1) cap')) w') : wpList Pr ops Q (o :: rest) a w := by
  obtain ⟨i, z, hi, hz, hsize, hby, hzs⟩ := info_app hinfo
  obtain ⟨L, ow, hl, he⟩ := hown.row
  refine wpList_appC w hgd s x t ho e i z k b ht hi hz hsize hby hzs hb64 ao cap L n (by rw [hl, hn]) hsv ow g C l hC (hP.len _ _ _ _ hel) (hP.one _ _ _ _ hel) hx hg hb fun ao' cap' w' h1 h2 h3 => ?_
  have hin : ∀ b, InB Z w ao b → InB Z w' ao' b := fun b hb => by
    refine ⟨hZ.keep _ _ _ _ h2 hb.2 hb.1, fun q => ?_⟩
    rcases h3 with h3 | ⟨g', h3, hg'⟩
    · exact hb.2 (by rw [← h3]; exact q)
    · rw [h3] at q
      obtain rfl := Option.some.inj q
      have := hZ.lt _ _ hb.1
      omega
  refine h ao' cap' w' ⟨⟨L ++ [l], h1, by simp [hl], fun j d' hd => ?_⟩, fun g' hg' => ?_⟩ h2 h3
  · by_cases hj : j < out.length
    · rw [List.getElem?_append_left hj] at hd
      obtain ⟨cs, e1, e2⟩ := he j d' hd
      exact ⟨cs, by rw [List.getElem?_append_left (by rw [hl]; exact hj)]; exact e1, hP.keep _ _ _ _ _ _ _ e2 h2 (fun b hb => hb.2) hin⟩
    · have hj2 : j = out.length := by
        have := (List.getElem?_eq_some_iff.1 hd).1
        simp at this
        omega
      subst hj2
      rw [List.getElem?_concat_length] at hd
      obtain rfl := Option.some.inj hd
      exact ⟨l, by rw [← hl, List.getElem?_concat_length], hP.keep _ _ _ _ _ _ _ hel h2 (fun b hb => hb.2) hin⟩
  · rcases h3 with h3 | ⟨g'', h3, hb⟩
    · exact hown.new g' (by rw [← h3]; exact hg')
    · rw [h3] at hg'
      obtain rfl := Option.some.inj hg'
      omega
end
theorem iaTy : (Try.prog.info? 33).map (fun i => (i.zero.map (fun z => z.cells.size), i.size, i.bytes)) = some (some 4, 4, 72) := by kernel_rfl
theorem iaFld : (Try.prog.info? 50).map (fun i => (i.zero.map (fun z => z.cells.size), i.size, i.bytes)) = some (some 6, 6, 96) := by kernel_rfl
theorem iaLif : (Try.prog.info? 75).map (fun i => (i.zero.map (fun z => z.cells.size), i.size, i.bytes)) = some (some 2, 2, 40) := by kernel_rfl
theorem iaOpr : (Try.prog.info? 41).map (fun i => (i.zero.map (fun z => z.cells.size), i.size, i.bytes)) = some (some 4, 4, 56) := by kernel_rfl
theorem iaSt : (Try.prog.info? 46).map (fun i => (i.zero.map (fun z => z.cells.size), i.size, i.bytes)) = some (some 32, 32, 496) := by kernel_rfl
theorem iaStr : (Try.prog.info? 48).map (fun i => (i.zero.map (fun z => z.cells.size), i.size, i.bytes)) = some (some 5, 5, 80) := by kernel_rfl
theorem iaFun : (Try.prog.info? 36).map (fun i => (i.zero.map (fun z => z.cells.size), i.size, i.bytes)) = some (some 10, 10, 176) := by kernel_rfl

end Go.Proofs.Ytjbcagbnagefcaa

namespace Go.Proofs.Ytjbcagbnagefcaa
open Go.RowKit

mutual
/-- A statement without its places. -/
def bareS : StD → StD
  | .mk x_kind _ x_mu x_name x_ty x_has x_place x_val x_cond x_thn x_els => .mk x_kind 0 x_mu x_name x_ty x_has x_place x_val x_cond (bareL x_thn) (bareL x_els)
def bareL : List StD → List StD
  | [] => []
  | s :: r => bareS s :: bareL r
end
def bareStr (s : StrD) : StrD := ⟨s.pub, s.name, s.lives, s.fields, 0⟩
def bareF (f : FunD) : FunD := ⟨f.pub, f.name, f.lives, f.params, f.result, bareL f.body, 0⟩
def bareC (c : CrD) : CrD := ⟨c.structs.map bareStr, c.funcs.map bareF⟩
theorem bareL_map : ∀ l : List StD, bareL l = l.map bareS
  | [] => by simp only [bareL, List.map_nil]
  | s :: r => by simp only [bareL, List.map_cons, bareL_map r]
theorem bareL_len (l : List StD) : (bareL l).length = l.length := by rw [bareL_map, List.length_map]
theorem bareL_take (l : List StD) (n : Nat) : bareL (l.take n) = (bareL l).take n := by rw [bareL_map, bareL_map, List.map_take]
mutual
theorem bareS_twice : ∀ s : StD, bareS (bareS s) = bareS s
  | .mk x_kind _ x_mu x_name x_ty x_has x_place x_val x_cond x_thn x_els => by
    simp only [bareS, bareL_twice x_thn, bareL_twice x_els]
theorem bareL_twice : ∀ l : List StD, bareL (bareL l) = bareL l
  | [] => by simp only [bareL]
  | s :: r => by simp only [bareL, bareS_twice s, bareL_twice r]
end

/-- Blocks of S that hold no statements; that hold statements. -/
def offB (S : Nat → Prop) (w : World) (b : Nat) : Prop := S b ∧ b < w.heap.size ∧ ¬ stB w b
def onB (S : Nat → Prop) (w : World) (b : Nat) : Prop := S b ∧ stB w b
mutual
/-- A statement whose parts lie apart from statements. -/
def St2 (S : Nat → Prop) (w : World) : StD → List Value → Prop
  | .mk x_kind x_pos x_mu x_name x_ty x_has x_place x_val x_cond x_thn x_els, cs => ∃ (s4 : List Value) (s9 : List Value) (s11 : List Value) (s26 : List Value) (a30 : Option Addr) (c30 : Nat) (a31 : Option Addr) (c31 : Nat), cs = [.int .i64 x_kind, .int .i64 x_pos, .bool x_mu, txV x_name] ++ s4 ++ [.bool x_has] ++ s9 ++ s11 ++ s26 ++ [.slice a30 (x_thn).length c30, .slice a31 (x_els).length c31] ∧ (x_name).length ≤ bigN ∧ TyIs (offB S w) w (x_ty) s4 ∧ PlIs (offB S w) w (x_place) s9 ∧ ValIs (offB S w) w (x_val) s11 ∧ OprIs (offB S w) w (x_cond) s26 ∧ ((x_thn).length ≤ bigN ∧ ((x_thn) = [] ∨ ∃ b, a30 = some ⟨b, 0, none⟩ ∧ onB S w b ∧ Sts2 S w (x_thn) b 0)) ∧ ((x_els).length ≤ bigN ∧ ((x_els) = [] ∨ ∃ b, a31 = some ⟨b, 0, none⟩ ∧ onB S w b ∧ Sts2 S w (x_els) b 0))
def Sts2 (S : Nat → Prop) (w : World) : List StD → Nat → Nat → Prop
  | [], _, _ => True
  | d :: r, b, o => (∃ cs, cs.length = 32 ∧ w.rangeAt b o cs ∧ St2 S w d cs) ∧ Sts2 S w r b (o + 32)
end
theorem Sts2_row (S : Nat → Prop) (w : World) : ∀ (l : List StD) (b o : Nat), Sts2 S w l b o ↔ rowIs w 32 (St2 S w) l b o
  | [], _, _ => by unfold Sts2 rowIs; exact Iff.rfl
  | d :: r, b, o => by
    unfold Sts2 rowIs
    rw [Sts2_row S w r b (o + 32)]
/-- A slice of such statements, in a block of statements, from its beginning. -/
def Sl2 (S : Nat → Prop) (w : World) (ao : Option Addr) (l : List StD) : Prop := l.length ≤ bigN ∧ (l = [] ∨ ∃ b, ao = some ⟨b, 0, none⟩ ∧ onB S w b ∧ rowIs w 32 (St2 S w) l b 0)
theorem st2_iff (S : Nat → Prop) (w : World) (d : StD) (cs : List Value) : St2 S w d cs ↔ ∃ (s4 : List Value) (s9 : List Value) (s11 : List Value) (s26 : List Value) (a30 : Option Addr) (c30 : Nat) (a31 : Option Addr) (c31 : Nat), cs = [.int .i64 d.kind, .int .i64 d.pos, .bool d.mu, txV d.name] ++ s4 ++ [.bool d.has] ++ s9 ++ s11 ++ s26 ++ [.slice a30 (d.thn).length c30, .slice a31 (d.els).length c31] ∧ (d.name).length ≤ bigN ∧ TyIs (offB S w) w (d.ty) s4 ∧ PlIs (offB S w) w (d.place) s9 ∧ ValIs (offB S w) w (d.val) s11 ∧ OprIs (offB S w) w (d.cond) s26 ∧ Sl2 S w a30 (d.thn) ∧ Sl2 S w a31 (d.els) := by
  cases d
  unfold St2
  simp only [Sts2_row]
  exact Iff.rfl
theorem offB_keeps {S S' T : Nat → Prop} {w w' : World} (K : Keeps T w w') (hT : ∀ b, S b → ¬ T b) (hS : ∀ b, S b → S' b) : ∀ b, offB S w b → offB S' w' b := fun b h =>
  ⟨hS b h.1, Nat.lt_of_lt_of_le h.2.1 K.size, fun q => h.2.2 ((stB_keeps K (hT b h.1) h.2.1).1 q)⟩
theorem stB_lt {w : World} {b : Nat} (h : stB w b) : b < w.heap.size := by
  obtain ⟨cs, hc⟩ := h
  exact lt_of_block hc
theorem onB_keeps {S S' T : Nat → Prop} {w w' : World} (K : Keeps T w w') (hT : ∀ b, S b → ¬ T b) (hS : ∀ b, S b → S' b) : ∀ b, onB S w b → onB S' w' b := fun b h =>
  ⟨hS b h.1, (stB_keeps K (hT b h.1) (stB_lt h.2)).2 h.2⟩
theorem Sl2.keepsQ {S S' T : Nat → Prop} {w w' : World} {ao : Option Addr} {l : List StD} (h : Sl2 S w ao l) (K : Keeps T w w') (hT : ∀ b, S b → ¬ T b) (hS : ∀ b, S b → S' b) (hq : ∀ d ∈ l, ∀ cs, St2 S w d cs → St2 S' w' d cs) : Sl2 S' w' ao l := by
  refine ⟨h.1, ?_⟩
  rcases h.2 with h | ⟨b, h1, h2, h3⟩
  · exact .inl h
  · exact .inr ⟨b, h1, onB_keeps K hT hS b h2, rowIs_keeps h3 K (hT b h2.1) hq⟩
theorem St2.keeps {S S' T : Nat → Prop} {w w' : World} {d : StD} {cs : List Value} (h : St2 S w d cs) (K : Keeps T w w') (hT : ∀ b, S b → ¬ T b) (hS : ∀ b, S b → S' b) : St2 S' w' d cs := by
  refine StD.ind (P := fun d => ∀ cs, St2 S w d cs → St2 S' w' d cs) ?_ d cs h
  clear h cs d
  intro x_kind x_pos x_mu x_name x_ty x_has x_place x_val x_cond x_thn x_els ih_thn ih_els cs h
  rw [st2_iff] at h ⊢
  obtain ⟨s4, s9, s11, s26, a30, c30, a31, c31, rfl, h0, h1, h2, h3, h4, h5, h6⟩ := h
  have hT' : ∀ b, offB S w b → ¬ T b := fun b h => hT b h.1
  have hS' := offB_keeps K hT hS
  exact ⟨s4, s9, s11, s26, a30, c30, a31, c31, rfl, h0, h1.keeps K hT' hS', h2.keeps K hT' hS', h3.keeps K hT' hS', h4.keeps K hT' hS', h5.keepsQ K hT hS (fun e he cs hc => ih_thn e he cs hc), h6.keepsQ K hT hS (fun e he cs hc => ih_els e he cs hc)⟩
theorem Sl2.keeps {S S' T : Nat → Prop} {w w' : World} {ao : Option Addr} {l : List StD} (h : Sl2 S w ao l) (K : Keeps T w w') (hT : ∀ b, S b → ¬ T b) (hS : ∀ b, S b → S' b) : Sl2 S' w' ao l := h.keepsQ K hT hS (fun _ _ _ h => h.keeps K hT hS)
theorem St2.st {S : Nat → Prop} {w : World} {d : StD} {cs : List Value} (h : St2 S w d cs) : StIs S w d cs := by
  refine StD.ind (P := fun d => ∀ cs, St2 S w d cs → StIs S w d cs) ?_ d cs h
  clear h cs d
  intro x_kind x_pos x_mu x_name x_ty x_has x_place x_val x_cond x_thn x_els ih_thn ih_els cs h
  rw [st2_iff] at h
  rw [stIs_iff]
  obtain ⟨s4, s9, s11, s26, a30, c30, a31, c31, rfl, h0, h1, h2, h3, h4, h5, h6⟩ := h
  have K : Keeps Nothing w w := Keeps.refl _ _
  have hS : ∀ b, offB S w b → S b := fun b h => h.1
  have sl : ∀ (ao : Option Addr) (l : List StD), (∀ e ∈ l, ∀ cs, St2 S w e cs → StIs S w e cs) → Sl2 S w ao l → SlIs S w 32 (StIs S w) ao l := by
    intro ao l ih h
    refine ⟨h.1, ?_⟩
    rcases h.2 with h | ⟨b, e1, e2, e3⟩
    · exact .inl h
    · exact .inr ⟨b, 0, e1, e2.1, rowIs_keeps e3 K (fun h => h) ih⟩
  exact ⟨s4, s9, s11, s26, a30, c30, a31, c31, rfl, h0, h1.keeps K (fun _ _ h => h) hS, h2.keeps K (fun _ _ h => h) hS, h3.keeps K (fun _ _ h => h) hS, h4.keeps K (fun _ _ h => h) hS, sl _ _ ih_thn h5, sl _ _ ih_els h6⟩
theorem Sl2.sl {S : Nat → Prop} {w : World} {ao : Option Addr} {l : List StD} (h : Sl2 S w ao l) : SlIs S w 32 (StIs S w) ao l := by
  refine ⟨h.1, ?_⟩
  rcases h.2 with h | ⟨b, e1, e2, e3⟩
  · exact .inl h
  · exact .inr ⟨b, 0, e1, e2.1, rowIs_keeps e3 (Keeps.refl Nothing w) (fun h => h) (fun _ _ _ h => h.st)⟩
theorem St2.len {S : Nat → Prop} {w : World} {d : StD} {cs : List Value} (h : St2 S w d cs) : cs.length = 32 := h.st.len
theorem St2.one {S : Nat → Prop} {w : World} {d : StD} {cs : List Value} (h : St2 S w d cs) : ∀ u ∈ cs, u.oneCell' = true := h.st.one
theorem st2Ok : LayOk 32 St2 := ⟨fun _ _ _ _ h => h.len, fun _ _ _ _ h => h.one, fun _ _ _ _ _ _ _ h => h.keeps⟩
theorem Sl2.get {S : Nat → Prop} {w : World} {ao : Option Addr} {l : List StD} (h : Sl2 S w ao l) {j : Nat} {d : StD} (hd : l[j]? = some d) : ∃ b, ao = some ⟨b, 0, none⟩ ∧ onB S w b ∧ ∃ cs, cs.length = 32 ∧ w.rangeAt b (j * 32) cs ∧ St2 S w d cs := by
  rcases h.2 with rfl | ⟨b, h1, h2, h3⟩
  · cases hd
  · obtain ⟨cs, e1, e2, e3⟩ := rowIs_get h3 hd
    rw [Nat.zero_add] at e2
    exact ⟨b, h1, h2, cs, e1, e2, e3⟩
theorem OutR.sl2 {Z : World → Nat → Prop} {M : Nat} {w : World} {ao : Option Addr} {cap : Nat} {out : List StD} {S : Nat → Prop} (h : OutR Z 46 32 St2 M w ao cap out) (hZS : ∀ b, Z w b → S b) (hA : ∀ g, blockOf ao = some g → S g) (hb : out.length ≤ bigN) : Sl2 S w ao out := by
  obtain ⟨L, o, hl, he⟩ := h.row
  refine ⟨hb, ?_⟩
  by_cases h0 : out = []
  · exact .inl h0
  · obtain ⟨g, rfl⟩ := h.head h0
    obtain ⟨cur, hc⟩ := h.blk
    refine .inr ⟨g, rfl, ⟨hA g rfl, cur, hc⟩, rowIs_mk fun j d hd => ?_⟩
    obtain ⟨cs, e1, e2⟩ := he j d hd
    refine ⟨cs, e2.len, ?_, e2.keeps (Keeps.refl Nothing w) (fun _ _ h => h) (fun b hb => hZS b hb.1)⟩
    rw [Nat.zero_add]
    refine o.range (fun x hx => ?_) e1
    obtain ⟨i, hi⟩ := List.mem_iff_getElem?.1 hx
    have hlt := (List.getElem?_eq_some_iff.1 hi).1
    obtain ⟨cs', f1, f2⟩ := he i _ (List.getElem?_eq_getElem (by omega))
    rw [hi] at f1
    obtain rfl := Option.some.inj f1
    exact f2.len

/-! ### places that turn to 0 -/
/-- Nothing but places of statements in blocks from N on has turned, to 0. -/
structure Zr (N : Nat) (w w' : World) : Prop where
  os : w'.os = w.os
  tape : w'.tape = w.tape
  output : w'.output = w.output
  size : w'.heap.size = w.heap.size
  off : ∀ b, ¬ (N ≤ b ∧ stB w b) → w'.heap[b]? = w.heap[b]?
  on : ∀ (b : Nat) (cur : Array Value), Blk w b cur 46 → ∃ cur' : Array Value, Blk w' b cur' 46 ∧ ∀ j, cur'[j]? = cur[j]? ∨ (j % 32 = 1 ∧ cur'[j]? = some (.int .i64 0))
theorem Zr.refl (N : Nat) (w : World) : Zr N w w := ⟨rfl, rfl, rfl, rfl, fun _ _ => rfl, fun _ cur h => ⟨cur, h, fun _ => .inl rfl⟩⟩
theorem Zr.st {N : Nat} {w w' : World} (h : Zr N w w') {b : Nat} : stB w' b ↔ stB w b := by
  constructor
  · rintro ⟨cs, hc⟩
    by_cases hn : N ≤ b ∧ stB w b
    · exact hn.2
    · exact ⟨cs, by have := h.off b hn; unfold Blk at hc ⊢; rw [← this]; exact hc⟩
  · rintro ⟨cs, hc⟩
    obtain ⟨c', h1, _⟩ := h.on b cs hc
    exact ⟨c', h1⟩
theorem Zr.trans {N : Nat} {a b c : World} (h : Zr N a b) (k : Zr N b c) : Zr N a c := by
  refine ⟨k.os.trans h.os, k.tape.trans h.tape, k.output.trans h.output, k.size.trans h.size, fun i hi => (k.off i (fun q => hi ⟨q.1, h.st.1 q.2⟩)).trans (h.off i hi), fun i cur hc => ?_⟩
  obtain ⟨c1, e1, e2⟩ := h.on i cur hc
  obtain ⟨c2, e3, e4⟩ := k.on i c1 e1
  refine ⟨c2, e3, fun j => ?_⟩
  rcases e4 j with q | q
  · rcases e2 j with r | r
    · exact .inl (q.trans r)
    · exact .inr ⟨r.1, q.trans r.2⟩
  · exact .inr q
theorem Zr.keeps {N : Nat} {w w' : World} (h : Zr N w w') : Keeps (fun b => N ≤ b ∧ stB w b) w w' := ⟨h.os, h.tape, h.output, Nat.le_of_eq h.size.symm, fun k _ hn => h.off k hn⟩
/-- One place turns to 0. -/
theorem Zr.set {N : Nat} {w : World} {b j : Nat} (hN : N ≤ b) (hb : stB w b) : Zr N w (w.setCell ⟨b, j * 32 + 1, none⟩ (.int .i64 0)) := by
  have K : Keeps (fun i => i = b) w (w.setCell ⟨b, j * 32 + 1, none⟩ (.int .i64 0)) := (Keeps.refl (fun i => i = b) w).setCell (p := ⟨b, j * 32 + 1, none⟩) (fun _ => rfl) _
  have hsz : (w.setCell ⟨b, j * 32 + 1, none⟩ (.int .i64 0)).heap.size = w.heap.size := by simp [World.setCell]
  refine ⟨K.os, K.tape, K.output, hsz, fun i hi => ?_, fun i cur hc => ?_⟩
  · by_cases hlt : i < w.heap.size
    · exact K.block i hlt (fun q => hi (by have q' : i = b := q; subst q'; exact ⟨hN, hb⟩))
    · rw [Array.getElem?_eq_none (by omega), Array.getElem?_eq_none (by omega)]
  · by_cases hib : i = b
    · subst hib
      refine ⟨_, blk_set hc (j * 32 + 1) (.int .i64 0), fun t => ?_⟩
      rw [Array.getElem?_setIfInBounds]
      by_cases ht : j * 32 + 1 = t
      · rw [if_pos ht]
        by_cases hlt : j * 32 + 1 < cur.size
        · rw [if_pos (by omega)]
          exact .inr ⟨by omega, rfl⟩
        · rw [if_neg (by omega), Array.getElem?_eq_none (by omega)]
          exact .inl rfl
      · rw [if_neg ht]
        exact .inl rfl
    · exact ⟨cur, K.blk hc hib, fun j => .inl rfl⟩
theorem Zr.range {N : Nat} {w w' : World} (h : Zr N w w') {b j : Nat} (hb : stB w b) {cs : List Value} (hl : cs.length = 32) (hr : w.rangeAt b (j * 32) cs) : w'.rangeAt b (j * 32) cs ∨ w'.rangeAt b (j * 32) (cs.set 1 (.int .i64 0)) := by
  obtain ⟨cur, hc⟩ := hb
  obtain ⟨c', h1, h2⟩ := h.on b cur hc
  have hcur : ∀ t v, cs[t]? = some v → cur[j * 32 + t]? = some v := fun t v ht => blk_inv hc (hr t v ht)
  have hother : ∀ t v, cs[t]? = some v → t ≠ 1 → c'[j * 32 + t]? = some v := fun t v ht hne => by
    have htl := (List.getElem?_eq_some_iff.1 ht).1
    rcases h2 (j * 32 + t) with q | ⟨q, _⟩
    · rw [q]; exact hcur t v ht
    · omega
  rcases h2 (j * 32 + 1) with q | ⟨_, q⟩
  · refine .inl fun t v ht => blk_cell h1 _ ?_
    by_cases ht1 : t = 1
    · subst ht1; rw [q]; exact hcur 1 v ht
    · exact hother t v ht ht1
  · refine .inr fun t v ht => blk_cell h1 _ ?_
    rw [List.getElem?_set] at ht
    by_cases ht1 : 1 = t
    · rw [if_pos ht1, if_pos (by omega)] at ht
      rw [← ht1, q]
      exact ht
    · rw [if_neg ht1] at ht
      exact hother t v ht (fun q => ht1 q.symm)

section
variable {N : Nat} {w w' : World}
def ZrS (N : Nat) (w w' : World) (e : StD) : Prop := ∀ cs, St2 (N ≤ ·) w e cs → ∀ cs', (cs' = cs ∨ cs' = cs.set 1 (.int .i64 0)) → ∃ e', St2 (N ≤ ·) w' e' cs' ∧ bareS e' = bareS e ∧ (bareS e = e → e' = e)
theorem zr_row (h : Zr N w w') : ∀ (l : List StD), (∀ e ∈ l, ZrS N w w' e) → ∀ (b j : Nat), stB w b → rowIs w 32 (St2 (N ≤ ·) w) l b (j * 32) → ∃ l', rowIs w' 32 (St2 (N ≤ ·) w') l' b (j * 32) ∧ bareL l' = bareL l ∧ (∀ (t : Nat) (e : StD), l[t]? = some e → bareS e = e → l'[t]? = some e)
  | [], _, b, j, _, _ => ⟨[], trivial, rfl, fun t e he => by simp at he⟩
  | e :: r, ih, b, j, hb, hr => by
    obtain ⟨⟨cs, h1, h2, h3⟩, h4⟩ := hr
    rw [show j * 32 + 32 = (j + 1) * 32 by omega] at h4
    obtain ⟨r', i1, i2, i3⟩ := zr_row h r (fun x hx => ih x (List.mem_cons_of_mem _ hx)) b (j + 1) hb h4
    have key : ∃ cs', (cs' = cs ∨ cs' = cs.set 1 (.int .i64 0)) ∧ cs'.length = 32 ∧ w'.rangeAt b (j * 32) cs' := by
      rcases h.range hb h1 h2 with q | q
      · exact ⟨cs, .inl rfl, h1, q⟩
      · exact ⟨_, .inr rfl, by rw [List.length_set]; exact h1, q⟩
    obtain ⟨cs', k1, k2, k3⟩ := key
    obtain ⟨e', m1, m2, m3⟩ := ih e (by simp) cs h3 cs' k1
    refine ⟨e' :: r', ⟨⟨cs', k2, k3, m1⟩, by rw [show j * 32 + 32 = (j + 1) * 32 by omega]; exact i1⟩, by simp only [bareL, m2, i2], fun t x hx hbx => ?_⟩
    cases t with
    | zero =>
      simp at hx
      subst hx
      simp [m3 hbx]
    | succ t =>
      simp at hx ⊢
      exact i3 t x hx hbx
theorem all_bare {l l' : List StD} (h1 : bareL l' = bareL l) (h : ∀ (t : Nat) (e : StD), l[t]? = some e → bareS e = e → l'[t]? = some e) (hb : bareL l = l) : l' = l := by
  apply List.ext_getElem?
  intro t
  rcases Nat.lt_or_ge t l.length with q | q
  · have hs : bareS l[t] = l[t] := by
      have e1 : (bareL l)[t]? = l[t]? := by rw [hb]
      rw [bareL_map, List.getElem?_map, List.getElem?_eq_getElem q] at e1
      exact Option.some.inj e1
    rw [List.getElem?_eq_getElem q]
    exact h t _ (List.getElem?_eq_getElem q) hs
  · have e1 : l'.length = l.length := by rw [← bareL_len l', h1, bareL_len]
    rw [List.getElem?_eq_none (by omega), List.getElem?_eq_none q]
theorem zr_sl {N : Nat} {w w' : World} (h : Zr N w w') {ao : Option Addr} {l : List StD} (ih : ∀ e ∈ l, ZrS N w w' e) (hs : Sl2 (N ≤ ·) w ao l) : ∃ l', Sl2 (N ≤ ·) w' ao l' ∧ bareL l' = bareL l ∧ (∀ (t : Nat) (e : StD), l[t]? = some e → bareS e = e → l'[t]? = some e) := by
  rcases hs.2 with rfl | ⟨b, h1, h2, h3⟩
  · exact ⟨[], ⟨Nat.zero_le _, .inl rfl⟩, rfl, fun t e he => by simp at he⟩
  · obtain ⟨l', i1, i2, i3⟩ := zr_row h l ih b 0 h2.2 (by rw [Nat.zero_mul]; exact h3)
    rw [Nat.zero_mul] at i1
    refine ⟨l', ⟨?_, .inr ⟨b, h1, ⟨h2.1, h.st.2 h2.2⟩, i1⟩⟩, i2, i3⟩
    rw [← bareL_len l', i2, bareL_len]
    exact hs.1
theorem zr_st (h : Zr N w w') : ∀ e, ZrS N w w' e := by
  refine StD.ind ?_
  intro x_kind x_pos x_mu x_name x_ty x_has x_place x_val x_cond x_thn x_els ih_thn ih_els cs hc cs' hcs
  rw [st2_iff] at hc
  obtain ⟨s4, s9, s11, s26, a30, c30, a31, c31, rfl, h0, h1, h2, h3, h4, h5, h6⟩ := hc
  simp only [StD.kind, StD.pos, StD.mu, StD.name, StD.ty, StD.has, StD.place, StD.val, StD.cond, StD.thn, StD.els] at hcs h0 h1 h2 h3 h4 h5 h6
  obtain ⟨t', t1, t2, t3⟩ := zr_sl h ih_thn h5
  obtain ⟨u', u1, u2, u3⟩ := zr_sl h ih_els h6
  have K := h.keeps
  have hT : ∀ b, offB (N ≤ ·) w b → ¬ (N ≤ b ∧ stB w b) := fun b hb q => hb.2.2 q.2
  have hS : ∀ b, offB (N ≤ ·) w b → offB (N ≤ ·) w' b := fun b hb => ⟨hb.1, by rw [h.size]; exact hb.2.1, fun q => hb.2.2 (h.st.1 q)⟩
  have tl : t'.length = x_thn.length := by rw [← bareL_len t', t2, bareL_len]
  have ul : u'.length = x_els.length := by rw [← bareL_len u', u2, bareL_len]
  have mk : ∀ p : Int, St2 (N ≤ ·) w' (.mk x_kind p x_mu x_name x_ty x_has x_place x_val x_cond t' u') ([.int .i64 x_kind, .int .i64 p, .bool x_mu, txV x_name] ++ s4 ++ [.bool x_has] ++ s9 ++ s11 ++ s26 ++ [.slice a30 x_thn.length c30, .slice a31 x_els.length c31]) := fun p => by
    rw [st2_iff]
    exact ⟨s4, s9, s11, s26, a30, c30, a31, c31, by simp only [StD.kind, StD.pos, StD.mu, StD.name, StD.has, StD.thn, StD.els, tl, ul], h0, h1.keeps K hT hS, h2.keeps K hT hS, h3.keeps K hT hS, h4.keeps K hT hS, t1, u1⟩
  have eq : ∀ p : Int, (p = x_pos ∨ p = 0) → bareS (.mk x_kind x_pos x_mu x_name x_ty x_has x_place x_val x_cond x_thn x_els) = .mk x_kind x_pos x_mu x_name x_ty x_has x_place x_val x_cond x_thn x_els → (StD.mk x_kind p x_mu x_name x_ty x_has x_place x_val x_cond t' u') = .mk x_kind x_pos x_mu x_name x_ty x_has x_place x_val x_cond x_thn x_els := by
    intro p hp he
    simp only [bareS, StD.mk.injEq, true_and] at he
    obtain ⟨e1, e2, e3⟩ := he
    rw [all_bare t2 t3 e2, all_bare u2 u3 e3]
    have : p = x_pos := by rcases hp with hp | hp <;> omega
    rw [this]
  rcases hcs with rfl | rfl
  · exact ⟨_, mk x_pos, by simp only [bareS, t2, u2], eq x_pos (.inl rfl)⟩
  · exact ⟨_, mk 0, by simp only [bareS, t2, u2], eq 0 (.inr rfl)⟩
/-- Statements while places turn: the same but for places; what has none stays. -/
theorem Zr.sl {N : Nat} {w w' : World} (h : Zr N w w') {ao : Option Addr} {l : List StD} (hs : Sl2 (N ≤ ·) w ao l) : ∃ l', Sl2 (N ≤ ·) w' ao l' ∧ bareL l' = bareL l ∧ (∀ (t : Nat) (e : StD), l[t]? = some e → bareS e = e → l'[t]? = some e) := zr_sl h (fun e _ => zr_st h e) hs
end

end Go.Proofs.Ytjbcagbnagefcaa
