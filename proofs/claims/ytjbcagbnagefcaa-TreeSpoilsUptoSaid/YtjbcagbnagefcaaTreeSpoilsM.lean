/- Rows put together out of rows. What spoils a crate. What is told of a few. The arguments' opening: what a reading of bounded bulk reads, as data. A region that draws its order, by a plan in parts: a part's orders meet again behind it. A region that draws its order, by a plan with groups: the operations of a group may come up in any order that the region allows; what holds behind each part of them is said once for each such part. A region that draws its order, walked in ONE order; behind the last operations (which all others wait for) nothing is asked of the world. One operation at a frame that is not looked into. usufructlaw7.TreeSpoils: a crate that may be, with one thing spoilt, may not be; where what it reads is of bulk at most 1048576. -/
import Derived.Test.YtjbcagbnagefcaaTrR
import Derived.Test.YtjbcagbnagefcaaTrB
import Derived.Test.YtjbcagbnagefcaaTree27
import Derived.Test.YtjbcagbnagefcaaTrC
import Derived.Test.YtjbcagbnagefcaaTree5
import Derived.Test.YtjbcagbnagefcaaTree6
import Derived.Test.YtjbcagbnagefcaaRows
import Derived.Test.YtjbcagbnagefcaaTree19
import Derived.ProofKit
import Derived.OpenShut
import Derived.Deep.Slices
import Derived.Test.YtjbcagbnagefcaaMixT
import Derived.Test.YtjbcagbnagefcaaTrD
import Derived.ShutString
import Derived.ChangeOld
import Derived.Below
import Derived.JoinedCond
import Derived.HandedShaped
import Derived.Shelf.Vars
namespace Go.Proofs.Ytjbcagbnagefcaa
open Go.RowKit

theorem rng_join {w : World} {g o : Nat} {xs ys : List Value} (h1 : w.rangeAt g o xs) (h2 : w.rangeAt g (o + xs.length) ys) : w.rangeAt g o (xs ++ ys) := fun j v hj => by
  by_cases hlt : j < xs.length
  · rw [List.getElem?_append_left hlt] at hj
    exact h1 j v hj
  · rw [List.getElem?_append_right (by omega)] at hj
    have := h2 _ v hj
    rwa [show o + xs.length + (j - xs.length) = o + j by omega] at this
theorem rows_flat {α : Type} {w : World} {k : Nat} {P : α → List Value → Prop} : ∀ {l : List α} {b o : Nat}, rowIs w k P l b o → ∃ L : List (List Value), L.length = l.length ∧ (∀ x ∈ L, x.length = k) ∧ w.rangeAt b o L.flatten ∧ ∀ (j : Nat) (d : α), l[j]? = some d → ∃ cs, L[j]? = some cs ∧ P d cs
  | [], _, _, _ => ⟨[], rfl, (by intro x hx; simp at hx), (by intro j v hj; simp at hj), (by intro j d hd; simp at hd)⟩
  | x :: r, b, o, h => by
    obtain ⟨⟨cs, h1, h2, h3⟩, h4⟩ := h
    obtain ⟨L, q1, q2, q3, q4⟩ := rows_flat h4
    refine ⟨cs :: L, by simp [q1], fun y hy => ?_, ?_, fun j d hd => ?_⟩
    · rcases List.mem_cons.1 hy with rfl | hy
      · exact h1
      · exact q2 y hy
    · rw [List.flatten_cons]
      exact rng_join h2 (by rw [h1]; exact q3)
    · cases j with
      | zero =>
        obtain rfl : x = d := by simpa using hd
        exact ⟨cs, rfl, h3⟩
      | succ j =>
        obtain ⟨c, e1, e2⟩ := q4 j d (by simpa using hd)
        exact ⟨c, by simpa using e1, e2⟩
theorem flat_len {k : Nat} : ∀ {L : List (List Value)}, (∀ x ∈ L, x.length = k) → L.flatten.length = L.length * k
  | [], _ => by simp
  | x :: r, h => by
    rw [List.flatten_cons, List.length_append, h x (by simp), flat_len (fun y hy => h y (List.mem_cons_of_mem _ hy)), List.length_cons, Nat.succ_mul]
    omega
section
variable {α : Type} {Z : World → Nat → Prop} {e : TypeId} {k : Nat} {P : (Nat → Prop) → World → α → List Value → Prop} {M g : Nat} {w w' : World} {ao : Option Addr} {cap : Nat} {out : List α}
/-- A slice as what an append reads. -/
theorem sl_src {Pg : Program} {t e' : TypeId} {S S' : Nat → Prop} {bo : Option Addr} {l : List α} (hP : LayOk k P) (ht : Pg.underlying t = some (.slice e')) (h : SlIs S' w k (P S w) bo l) (c : Nat) : ∃ L : List (List Value), L.length = l.length ∧ Src Pg k t (.slice bo l.length c) l.length L.flatten w ∧ ∀ (j : Nat) (d : α), l[j]? = some d → ∃ cs, L[j]? = some cs ∧ P S w d cs := by
  by_cases h0 : l = []
  · subst h0
    refine ⟨[], rfl, ?_, fun j d hd => by simp at hd⟩
    cases bo with
    | none => exact Src.ofNil _ ht c
    | some a => exact Src.ofSlice _ ht a 0 c [] (by simp) (fun j u hj => by simp at hj) (fun u hu => by cases hu)
  · rcases h.2 with q | ⟨b, o, rfl, _, hr⟩
    · exact absurd q h0
    · obtain ⟨L, q1, q2, q3, q4⟩ := rows_flat hr
      refine ⟨L, q1, Src.ofSlice _ ht ⟨b, o, none⟩ l.length c _ (by rw [flat_len q2, q1]) (fun j u hj => ?_) (fun u hu => ?_), q4⟩
      · rw [Addr.add_lit]
        exact q3 j u hj
      · obtain ⟨x, hx, hux⟩ := List.mem_flatten.1 hu
        obtain ⟨i, hi⟩ := List.mem_iff_getElem?.1 hx
        have hlt := (List.getElem?_eq_some_iff.1 hi).1
        obtain ⟨cs, e1, e2⟩ := q4 i _ (List.getElem?_eq_getElem (by omega))
        rw [hi] at e1
        obtain rfl := Option.some.inj e1
        exact hP.one _ _ _ _ e2 u hux
/-- append of a whole slice. -/
theorem wpList_appM {Pr : Program} (w : World) {ops : Array Oper} {rest : List Oper} {o : Oper} {a : Act} {Q : Exit → Act → World → Prop} (hgd : o.guard = none) (s x : Operand) (t : TypeId)
    (ho : o.op = .call { callee := .builtin .append, args := #[s, x], argTypes := #[t, t] }) {b : Nat} (ht : Pr.underlying t = some (.slice e)) (hinfo : (Pr.info? e).map (fun i => (i.zero.map (fun z => z.cells.size), i.size, i.bytes)) = some (some k, k, b)) (hb64 : b ≤ 1000)
    (hZ : SetOk Z) (hP : LayOk k P) (n m r : Nat) (hr : n + m = r) (hn : out.length = n) {l : List α} (hm : l.length = m) (hsv : a.eval s = .slice ao n cap) (hown : OutR Z e k P M w ao cap out) (hM : M ≤ w.heap.size) (bo : Option Addr) (bc : Nat)
    (hx : a.eval x = .slice bo m bc) {S' : Nat → Prop} (hel : SlIs S' w k (P (InB Z w ao) w) bo l) (hb : r ≤ 1000000000)
    (h : ∀ ao' cap' w', OutR Z e k P M w' ao' cap' (out ++ l) → Keeps (fun i => blockOf ao = some i) w w' → Moved w.heap.size ao ao' → wpList Pr ops Q rest (a.put o.dst (.slice ao' r cap')) w') : wpList Pr ops Q (o :: rest) a w := by
  subst hn hm
  subst hr
  obtain ⟨i, z, hi, hz, hsize, hby, hzs⟩ := info_app hinfo
  obtain ⟨L, ow, hl, he⟩ := hown.row
  obtain ⟨N, n1, n2, n3⟩ := sl_src (Pg := Pr) hP ht hel bc
  have ow' : w.ownsRow 0 e k (.slice ao out.length cap) out.length L.flatten := by have := ow; unfold OwnC at this; rwa [hl] at this
  refine wpList_append_src w hgd s x t t ho e i z k b ht hi hz hsize hby hzs ao out.length cap L.flatten hsv ow' _ l.length N.flatten hx n2
    (by unfold maxLen; omega) (Nat.le_trans (Nat.mul_le_mul_left _ hb64) (by omega)) fun ao' cap' w' h1 h2 h3 => ?_
  have K : Keeps (fun i => blockOf ao = some i) w w' := (Keeps.refl _ _).grown h2 (fun k hk _ => hk)
  have hin : ∀ b, InB Z w ao b → InB Z w' ao' b := fun b hb => by
    refine ⟨hZ.keep _ _ _ _ K hb.2 hb.1, fun q => ?_⟩
    rcases h3 with h3 | ⟨g', h3, hg'⟩
    · exact hb.2 (by rw [← h3]; exact q)
    · rw [h3] at q
      obtain rfl := Option.some.inj q
      have := hZ.lt _ _ hb.1
      omega
  refine h ao' cap' w' ⟨⟨L ++ N, ?_, by simp [hl, n1], fun j d hd => ?_⟩, fun g' hg' => ?_⟩ K h3
  · unfold OwnC
    rw [List.length_append, hl, n1, List.flatten_append]
    exact h1
  · by_cases hj : j < out.length
    · rw [List.getElem?_append_left hj] at hd
      obtain ⟨cs, e1, e2⟩ := he j d hd
      exact ⟨cs, by rw [List.getElem?_append_left (by rw [hl]; exact hj)]; exact e1, hP.keep _ _ _ _ _ _ _ e2 K (fun b hb => hb.2) hin⟩
    · rw [List.getElem?_append_right (by omega)] at hd
      obtain ⟨cs, e1, e2⟩ := n3 _ d hd
      exact ⟨cs, by rw [List.getElem?_append_right (by omega), hl]; exact e1, hP.keep _ _ _ _ _ _ _ e2 K (fun b hb => hb.2) hin⟩
  · rcases h3 with h3 | ⟨g'', h3, hb⟩
    · exact hown.new g' (by rw [← h3]; exact hg')
    · rw [h3] at hg'
      obtain rfl := Option.some.inj hg'
      omega
/-- A literal without elements. -/
theorem outR_none (hb : Blk w g #[] e) (hg : M ≤ g) : OutR Z e k P M w (some ⟨g, 0, none⟩) 0 [] :=
  ⟨⟨[], ⟨by simp, .inr ⟨g, 0, #[], rfl, Nat.zero_le _, hb, Nat.le_refl _, Nat.zero_le _, by simp, by simp⟩⟩, rfl, fun j d hd => by simp at hd⟩, fun g' hg' => by obtain rfl := Option.some.inj hg'; exact hg⟩
/-- A literal of one element. -/
theorem outR_one {C : Array Value} {cs : List Value} {d : α} (hC : C = cs.toArray) (hP : LayOk k P) (hb : Blk w g C e) (hg : M ≤ g) (hd : P (InB Z w (some ⟨g, 0, none⟩)) w d cs) : OutR Z e k P M w (some ⟨g, 0, none⟩) 1 [d] := by
  have hl := hP.len _ _ _ _ hd
  refine ⟨⟨[cs], ⟨by simp [hl], .inr ⟨g, 1, C, rfl, Nat.zero_le _, hb, Nat.le_refl _, by unfold maxLen; omega, by rw [hC]; simp [hl], ?_⟩⟩, rfl, fun j d' hd' => ?_⟩, fun g' hg' => by obtain rfl := Option.some.inj hg'; exact hg⟩
  · subst hC
    simp [hl.symm]
  · cases j with
    | zero =>
      obtain rfl : d = d' := by simpa using hd'
      exact ⟨cs, rfl, hd⟩
    | succ j => simp at hd'
/-- A box as a slice of one. -/
theorem slIs_one {S : Nat → Prop} {C : Array Value} {cs : List Value} {d : α} {Q : α → List Value → Prop} (hC : C = cs.toArray) (hl : cs.length = k) (hb : Blk w g C e) (hS : S g) (hd : Q d cs) : SlIs S w k Q (some ⟨g, 0, none⟩) [d] :=
  ⟨by simp [bigN], .inr ⟨g, 0, rfl, hS, ⟨cs, hl, by subst hC; exact rangeAt_blk hb, hd⟩, trivial⟩⟩
theorem SlIs.tail {S : Nat → Prop} {b o : Nat} {d : α} {l : List α} {Q : α → List Value → Prop} (h : SlIs S w k Q (some ⟨b, o, none⟩) (d :: l)) : SlIs S w k Q (some ⟨b, o + k, none⟩) l := by
  have hl := h.1
  rw [List.length_cons] at hl
  refine ⟨by omega, ?_⟩
  rcases h.2 with q | ⟨b', o', e1, e2, e3⟩
  · cases q
  · simp only [Option.some.injEq, Addr.mk.injEq, and_true] at e1
    obtain ⟨rfl, rfl⟩ := e1
    exact .inr ⟨b, o + k, rfl, e2, e3.2⟩
end
/-- Blocks of S that are there. -/
def Zc (S : Nat → Prop) (w : World) (b : Nat) : Prop := S b ∧ b < w.heap.size
theorem zc_ok (S : Nat → Prop) : SetOk (Zc S) := ⟨fun _ _ h => h.2, fun _ _ _ _ K _ h => ⟨h.1, Nat.lt_of_lt_of_le h.2 K.size⟩⟩

section
variable {α β : Type} {S : Nat → Prop} {e e2 : TypeId} {k k2 : Nat} {P : (Nat → Prop) → World → α → List Value → Prop} {P2 : (Nat → Prop) → World → β → List Value → Prop} {N : Nat} {w w' : World} {ao a2 : Option Addr} {cap cap2 : Nat} {out : List α} {out2 : List β}
theorem OutR.ne2 (h : OutR (Zc S) e k P N w ao cap out) (h2 : OutR (Zc S) e2 k2 P2 N w a2 cap2 out2) (hne : e ≠ e2) : ∀ g, blockOf a2 = some g → blockOf ao ≠ some g := fun g hg => by
  obtain ⟨L, o, _, _⟩ := h2.row
  rcases o.shape with rfl | ⟨g', rfl⟩
  · cases hg
  · obtain rfl := Option.some.inj hg
    obtain ⟨cur, hc⟩ := o.blk
    exact h.ne hc hne
/-- A row beside another one that grows. -/
theorem OutR.beside (h2 : OutR (Zc S) e2 k2 P2 N w a2 cap2 out2) (hP2 : LayOk k2 P2) (h : OutR (Zc S) e k P N w ao cap out) (hne : e ≠ e2) (hS : ∀ b, S b → b < N) (K : Keeps (fun i => blockOf ao = some i) w w') : OutR (Zc S) e2 k2 P2 N w' a2 cap2 out2 :=
  h2.keeps (zc_ok S) hP2 K (fun b hb q => by have := h.new b q; have := hS b hb.1; omega) (fun g hg => h.ne2 h2 hne g hg)
theorem OutR.blkBeside {g : Nat} {C : Array Value} (hb : Blk w g C e2) (h : OutR (Zc S) e k P N w ao cap out) (hne : e ≠ e2) (K : Keeps (fun i => blockOf ao = some i) w w') : Blk w' g C e2 := K.blk hb (h.ne hb hne)
theorem OutR.blkBeside0 {g h0 : Nat} {C : Array Value} (hb : Blk w g C e) (h : OutR (Zc S) e k P N w (some ⟨h0, 0, none⟩) 0 out) (hC : C.size ≠ 0) (K : Keeps (fun i => blockOf (some ⟨h0, 0, none⟩) = some i) w w') : Blk w' g C e := K.blk hb (fun q => by
  obtain rfl : h0 = g := Option.some.inj q
  obtain ⟨L, o, _, _⟩ := h.row
  rcases o.2 with ⟨hv, _⟩ | ⟨g', cap', cur, hv, _, hg, h1, h2, h3, _⟩
  · simp at hv
  · simp only [Value.slice.injEq, Option.some.injEq, Addr.mk.injEq, and_true] at hv
    obtain ⟨rfl, _, rfl⟩ := hv
    rw [Nat.zero_mul] at h3
    have h9 : some (Obj.cells C e) = some (Obj.cells cur e) := Eq.trans (show w.heap[h0]? = some (Obj.cells C e) from hb).symm hg
    obtain rfl : C = cur := by simpa using h9
    exact hC h3)
theorem OutR.on (h : OutR (Zc S) e k P N w ao cap out) {w0 : World} (K0 : Keeps Nothing w0 w) (hN : w0.heap.size = N) (K : Keeps (fun i => blockOf ao = some i) w w') : Keeps Nothing w0 w' :=
  K0.trans K (fun b hb hlt => by have := h.new b hb; omega)
theorem inb_el {d : α} {cs : List Value} (hP : LayOk k P) (h : P S w d cs) (K : Keeps Nothing w w') (hS : ∀ b, S b → b < w.heap.size) (hN : ∀ g, blockOf ao = some g → w.heap.size ≤ g) : P (InB (Zc S) w' ao) w' d cs :=
  hP.keep _ _ _ _ _ _ _ h K (fun _ _ h => h) (fun b hb => ⟨⟨hb, Nat.lt_of_lt_of_le (hS b hb) K.size⟩, fun q => by have := hN b q; have := hS b hb; omega⟩)
theorem inb_sl {l : List α} {bo : Option Addr} (hP : LayOk k P) (h : SlIs S w k (P S w) bo l) (K : Keeps Nothing w w') (hS : ∀ b, S b → b < w.heap.size) (hN : ∀ g, blockOf ao = some g → w.heap.size ≤ g) : SlIs S w' k (P (InB (Zc S) w' ao) w') bo l :=
  h.keeps K (fun _ _ h => h) (fun _ h => h) (fun _ _ _ h => inb_el hP h K hS hN)
end

/-! ### what spoils -/
/-- Whatever stands beside them, a crate with this struct, this function and this statement behind its others may not be. -/
def Spoilt (f : FunD) (s : StD) (x : StrD) : Prop := ∀ (A : List StrD) (B : List StD) (R : List FunD), ¬ CrP ⟨A ++ [x], ⟨f.pub, f.name, f.lives, f.params, f.result, B ++ [s], f.pos⟩ :: R⟩
def okSt (k : Int) (nm : List UInt8) (n : Int) : StD := .mk k 0 false nm zeroTy true zeroPl ⟨1, ⟨1, n, zeroPl⟩, zeroOpr, 0, zeroPl, [], [], []⟩ zeroOpr [] []
theorem spoilt_name (f : FunD) (s : StD) (x : StrD) (h : isName f.name = false) : Spoilt f s x := fun A B R hc => by
  have := (hc.2.2 _ (List.mem_cons_self ..)).2.1
  rw [h] at this
  cases this
theorem spoilt_fields (f : FunD) (s : StD) (x : StrD) (h : ∃ d ∈ x.fields, d.mu = true) : Spoilt f s x := fun A B R hc => by
  obtain ⟨d, hd, hm⟩ := h
  have h1 := (hc.2.1 x (by simp)).2.2.1 d hd
  have := h1.1 hm
  cases this
theorem spoilt_params (f : FunD) (s : StD) (x : StrD) (h : ∃ d ∈ f.params, ¬ TyP d.ty 1) : Spoilt f s x := fun A B R hc => by
  obtain ⟨d, hd, hm⟩ := h
  have h1 := (hc.2.2 _ (List.mem_cons_self ..)).2.2.2.1.1 d hd
  exact hm h1.2.2
theorem spoilt_stmt (f : FunD) (s : StD) (x : StrD) (h : ¬ StP s 1) : Spoilt f s x := fun A B R hc => by
  have h1 := (hc.2.2 _ (List.mem_cons_self ..)).2.2.2.2.2.1
  rw [blP_iff] at h1
  exact h (h1.2 s (by simp))
theorem not_kind (nm : List UInt8) (n : Int) : ¬ StP (okSt 12 nm n) 1 := by
  unfold okSt StP
  simp
theorem st10 (nm : List UInt8) (n : Int) : StP (okSt 10 nm n) 1 ↔ VldP (okSt 10 nm n) ∧ optD (okSt 10 nm n) (.mk 0 0 false nm zeroTy true zeroPl ⟨1, ⟨1, n, zeroPl⟩, zeroOpr, 0, zeroPl, [], [], []⟩ zeroOpr [] []) = zeroSt := by
  unfold okSt StP
  simp
theorem not_named : ¬ StP (okSt 10 [97] 0) 1 := fun h => by
  have h2 := ((st10 _ _).1 h).2
  unfold optD okSt zeroSt at h2
  simp [StD.has, StD.kind, StD.pos, StD.mu, StD.name, StD.ty, StD.place, StD.cond, StD.thn, StD.els] at h2
theorem not_great (nm : List UInt8) : ¬ StP (okSt 10 nm 2147483648) 1 := fun h => by
  have h2 : ValP ⟨1, ⟨1, 2147483648, zeroPl⟩, zeroOpr, 0, zeroPl, [], [], []⟩ := ((st10 _ _).1 h).1 rfl
  unfold ValP at h2
  simp only [show ¬ ((1 : Int) = 2) by decide, show ¬ ((1 : Int) = 3) by decide, show ¬ ((1 : Int) = 7) by decide, show ¬ ((1 : Int) = 6) by decide, show ¬ ((1 : Int) = 5) by decide, or_self, false_and, false_or, true_or, true_and] at h2
  have h3 := h2.1
  unfold OprP at h3
  simp only at h3
  omega
theorem not_while : isName [119, 104, 105, 108, 101] = false := by decide
theorem not_ref : ¬ TyP (.mk 4 [] [] []) 1 := by
  unfold TyP
  simp [TysP]

def okC (k : Int) (nm : List UInt8) (n : Int) : List Value := [.int .i64 k, .int .i64 0, .bool false, txV nm] ++ tyC ++ [.bool true] ++ plC ++ ([.int .i64 1] ++ ([.int .i64 1, .int .i64 n] ++ plC) ++ oprC ++ [.int .i64 0] ++ plC ++ [.string ⟨#[]⟩, .slice none 0 0, .slice none 0 0]) ++ oprC ++ [.slice none 0 0, .slice none 0 0]
theorem okSt_is (S : Nat → Prop) (w : World) (k : Int) (nm : List UInt8) (n : Int) (hn : nm.length ≤ bigN) : StIs S w (okSt k nm n) (okC k nm n) := by
  unfold okSt
  rw [stIs_iff]
  exact ⟨tyC, plC, _, oprC, none, 0, none, 0, rfl, hn, zeroTy_is S w, zeroPl_is S w, ⟨_, oprC, plC, none, 0, none, 0, rfl, ⟨plC, rfl, zeroPl_is S w⟩, zeroOpr_is S w, zeroPl_is S w, Nat.zero_le _, slIs_nil _ _ _ _ _, slIs_nil _ _ _ _ _⟩, zeroOpr_is S w, slIs_nil _ _ _ _ _, slIs_nil _ _ _ _ _⟩
/-- The field a, of a kind. -/
def fldA (mu : Bool) (k : Int) : FldD := ⟨mu, [97], .mk k [] [] []⟩
def fldC (mu : Bool) (k : Int) : List Value := [.bool mu, .string ⟨#[97]⟩, .int .i64 k, .string ⟨#[]⟩, .slice none 0 0, .slice none 0 0]
theorem fldA_is (S : Nat → Prop) (w : World) (mu : Bool) (k : Int) : FldIs S w (fldA mu k) (fldC mu k) := by
  refine ⟨[.int .i64 k, .string ⟨#[]⟩, .slice none 0 0, .slice none 0 0], rfl, (by show ([97] : List UInt8).length ≤ bigN; decide), ?_⟩
  show TyIs S w (.mk k [] [] []) _
  rw [tyIs_iff]
  exact ⟨none, 0, none, 0, rfl, Nat.zero_le _, slIs_nil _ _ _ _ _, slIs_nil _ _ _ _ _⟩
def strQ (l : List FldD) : StrD := ⟨false, [113], [], l, 0⟩
theorem strQ_is {S : Nat → Prop} {w : World} {ao : Option Addr} {l : List FldD} {n c : Nat} (hn : l.length = n) (h : SlIs S w 6 (FldIs S w) ao l) : StrIs S w (strQ l) [.bool false, .string ⟨#[113]⟩, .slice none 0 0, .slice ao n c, .int .i64 0] := by
  subst hn
  exact ⟨none, 0, ao, c, rfl, (by show ([113] : List UInt8).length ≤ bigN; decide), slIs_nil _ _ _ _ _, h⟩
theorem fun_named {S : Nat → Prop} {w : World} {f : FunD} {cs : List Value} (h : FunIs S w f cs) (nm : List UInt8) (hn : nm.length ≤ bigN) : FunIs S w ⟨f.pub, nm, f.lives, f.params, f.result, f.body, f.pos⟩ (cs.set 1 (txV nm)) := by
  obtain ⟨a2, c2, a3, c3, s4, a8, c8, rfl, h0, h1, h2, h3, h4⟩ := h
  exact ⟨a2, c2, a3, c3, s4, a8, c8, rfl, hn, h1, h2, h3, h4⟩
theorem fun_params {S : Nat → Prop} {w : World} {f : FunD} {cs : List Value} (h : FunIs S w f cs) {l : List FldD} {ao : Option Addr} {n c : Nat} (hn : l.length = n) (hl : SlIs S w 6 (FldIs S w) ao l) : FunIs S w ⟨f.pub, f.name, f.lives, l, f.result, f.body, f.pos⟩ (cs.set 3 (.slice ao n c)) := by
  subst hn
  obtain ⟨a2, c2, a3, c3, s4, a8, c8, rfl, h0, h1, h2, h3, h4⟩ := h
  exact ⟨a2, c2, ao, c, s4, a8, c8, rfl, h0, h1, hl, h3, h4⟩
theorem fun_body {S : Nat → Prop} {w : World} {f : FunD} {cs : List Value} (h : FunIs S w f cs) {l : List StD} {ao : Option Addr} {n c : Nat} (hn : l.length = n) (hl : SlIs S w 32 (StIs S w) ao l) : FunIs S w ⟨f.pub, f.name, f.lives, f.params, f.result, l, f.pos⟩ (cs.set 8 (.slice ao n c)) := by
  subst hn
  obtain ⟨a2, c2, a3, c3, s4, a8, c8, rfl, h0, h1, h2, h3, h4⟩ := h
  have h5 := h3.len
  match s4, h5 with
  | [p, q, r, t], _ => exact ⟨a2, c2, a3, c3, [p, q, r, t], ao, c, rfl, h0, h1, h2, h3, hl⟩
/-- The boxes ahead of the spoiling. -/
structure SpI (S : Nat → Prop) (g5 g6 g7 : Nat) (f : FunD) (w : World) : Prop where
  n1 : g5 < g6
  n2 : g6 < g7
  fn : ∃ cF : List Value, Blk w g5 cF.toArray 36 ∧ FunIs S w f cF
  st : Blk w g6 (okC 10 [] 0).toArray 46
  sx : Blk w g7 #[.bool false, .string ⟨#[113]⟩, .slice none 0 0, .slice none 0 0, .int .i64 0] 48
  off : ∀ b, S b → b < g5
/-- Parts of S, and parts that are new. -/
def SW (S : Nat → Prop) (g7 : Nat) (w : World) (b : Nat) : Prop := S b ∨ (g7 < b ∧ b < w.heap.size)
/-- The boxes behind it. -/
def SpW (S : Nat → Prop) (g5 g6 g7 : Nat) (body : List StD) (w : World) : Prop := ∃ (f : FunD) (s : StD) (x : StrD) (cF cS cX : List Value), f.body = body ∧ Blk w g5 cF.toArray 36 ∧ Blk w g6 cS.toArray 46 ∧ Blk w g7 cX.toArray 48 ∧ FunIs (SW S g7 w) w f cF ∧ StIs (SW S g7 w) w s cS ∧ StrIs (SW S g7 w) w x cX ∧ Spoilt f s x
theorem set_list {cs : List Value} (j : Nat) (v : Value) : cs.toArray.setIfInBounds j v = (cs.set j v).toArray := by simp
theorem SpI.keeps {S : Nat → Prop} {g5 g6 g7 : Nat} {f : FunD} {w w' : World} (h : SpI S g5 g6 g7 f w) (K : Keeps Nothing w w') : SpI S g5 g6 g7 f w' := by
  obtain ⟨cF, h1, h2⟩ := h.fn
  exact ⟨h.n1, h.n2, ⟨cF, K.blk h1 (fun h => h), h2.keeps K (fun _ _ h => h) (fun _ h => h)⟩, K.blk h.st (fun h => h), K.blk h.sx (fun h => h), h.off⟩
section
variable {S : Nat → Prop} {g5 g6 g7 : Nat} {f : FunD} {w : World}
theorem sw_of : ∀ b, S b → SW S g7 w b := fun _ hb => .inl hb
theorem setK (b j : Nat) (w : World) (v : Value) : Keeps (fun i => i = b) w (w.setCell ⟨b, j, none⟩ v) := (Keeps.refl (fun i => i = b) w).setCell (p := ⟨b, j, none⟩) (fun _ => rfl) _
theorem SpI.way0 (h : SpI S g5 g6 g7 f w) : SpW S g5 g6 g7 f.body (w.setCell ⟨g5, 1, none⟩ (.string ⟨#[119, 104, 105, 108, 101]⟩)) := by
  obtain ⟨cF, b1, i1⟩ := h.fn
  have K := setK g5 1 w (.string ⟨#[119, 104, 105, 108, 101]⟩)
  have e1 := h.n1
  have e2 := h.n2
  refine ⟨⟨f.pub, [119, 104, 105, 108, 101], f.lives, f.params, f.result, f.body, f.pos⟩, okSt 10 [] 0, strQ [], cF.set 1 (txV [119, 104, 105, 108, 101]), _, [.bool false, .string ⟨#[113]⟩, .slice none 0 0, .slice none 0 0, .int .i64 0], rfl, ?_, K.blk h.st (fun q => by omega), K.blk h.sx (fun q => by omega), fun_named (i1.keeps K (fun b hb q => by have := h.off b hb; omega) sw_of) _ (by decide), okSt_is _ _ _ _ _ (by decide), strQ_is rfl (slIs_nil _ _ _ _ _), spoilt_name _ _ _ not_while⟩
  rw [← set_list]
  exact blk_set b1 1 _
theorem SpI.way1 {C : Array Value} (h : SpI S g5 g6 g7 f w) (hg : g7 < w.heap.size) (hC : C = (fldC true 1).toArray) : SpW S g5 g6 g7 f.body ((w.setCell ⟨g7, 3, none⟩ (.slice (some ⟨w.heap.size, 0, none⟩) 1 1)).alloc (.cells C 50)) ∧ Keeps (fun b => g5 ≤ b) w ((w.setCell ⟨g7, 3, none⟩ (.slice (some ⟨w.heap.size, 0, none⟩) 1 1)).alloc (.cells C 50)) := by
  obtain ⟨cF, b1, i1⟩ := h.fn
  have e1 := h.n1
  have e2 := h.n2
  have K : Keeps (fun i => i = g7) w ((w.setCell ⟨g7, 3, none⟩ (.slice (some ⟨w.heap.size, 0, none⟩) 1 1)).alloc (.cells C 50)) := (setK g7 3 w (.slice (some ⟨w.heap.size, 0, none⟩) 1 1)).alloc _
  have hb := blk_new (w.setCell ⟨g7, 3, none⟩ (.slice (some ⟨w.heap.size, 0, none⟩) 1 1)) C 50
  rw [World.size_setCell] at hb
  have hlt := lt_of_block hb
  refine ⟨⟨f, okSt 10 [] 0, strQ [fldA true 1], cF, _, [.bool false, .string ⟨#[113]⟩, .slice none 0 0, .slice (some ⟨w.heap.size, 0, none⟩) 1 1, .int .i64 0], rfl, K.blk b1 (fun q => by omega), K.blk h.st (fun q => by omega), blk_alloc (blk_set h.sx 3 _) _, i1.keeps K (fun b hb q => by have := h.off b hb; omega) sw_of, okSt_is _ _ _ _ _ (by decide), strQ_is rfl (slIs_one hC rfl hb (.inr ⟨hg, hlt⟩) (fldA_is _ _ _ _)), spoilt_fields _ _ _ ⟨fldA true 1, by simp [strQ], rfl⟩⟩, K.mono (fun b hb _ => by have hb' : b = g7 := hb; omega)⟩
theorem SpI.wayS (h : SpI S g5 g6 g7 f w) (j : Nat) (v : Value) (k : Int) (nm : List UInt8) (n : Int) (hn : nm.length ≤ bigN) (hc : (okC 10 [] 0).set j v = okC k nm n) (hp : ¬ StP (okSt k nm n) 1) : SpW S g5 g6 g7 f.body (w.setCell ⟨g6, j, none⟩ v) := by
  obtain ⟨cF, b1, i1⟩ := h.fn
  have K := setK g6 j w v
  have e1 := h.n1
  have e2 := h.n2
  refine ⟨f, okSt k nm n, strQ [], cF, _, [.bool false, .string ⟨#[113]⟩, .slice none 0 0, .slice none 0 0, .int .i64 0], rfl, K.blk b1 (fun q => by omega), ?_, K.blk h.sx (fun q => by omega), i1.keeps K (fun b hb q => by have := h.off b hb; omega) sw_of, okSt_is _ _ _ _ _ hn, strQ_is rfl (slIs_nil _ _ _ _ _), spoilt_stmt _ _ _ hp⟩
  rw [← hc, ← set_list]
  exact blk_set h.st j v
theorem SpI.way4 {ao : Option Addr} {cap n N : Nat} (h : SpI S g5 g6 g7 f w) (hN : g7 < N) (ho : OutR (Zc S) 50 6 FldIs N w ao cap (f.params ++ [fldA false 4])) (hn : f.params.length + 1 = n) (hb : n ≤ bigN) : SpW S g5 g6 g7 f.body (w.setCell ⟨g5, 3, none⟩ (.slice ao n cap)) := by
  obtain ⟨cF, b1, i1⟩ := h.fn
  have K := setK g5 3 w (.slice ao n cap)
  have e1 := h.n1
  have e2 := h.n2
  have o1 := ho.keeps (zc_ok S) fldOk K (fun b hb q => by have := h.off b hb.1; omega) (fun g hg q => by have := ho.new g hg; omega)
  have o2 := o1.sl (S := SW S g7 (w.setCell ⟨g5, 3, none⟩ (.slice ao n cap))) fldOk (fun b hb => .inl hb.1) (fun g hg => .inr ⟨by have := o1.new g hg; omega, o1.lt hg⟩) (by simp; omega)
  refine ⟨⟨f.pub, f.name, f.lives, f.params ++ [fldA false 4], f.result, f.body, f.pos⟩, okSt 10 [] 0, strQ [], cF.set 3 (.slice ao n cap), _, [.bool false, .string ⟨#[113]⟩, .slice none 0 0, .slice none 0 0, .int .i64 0], rfl, ?_, K.blk h.st (fun q => by omega), K.blk h.sx (fun q => by omega), fun_params (i1.keeps K (fun b hb q => by have := h.off b hb; omega) sw_of) (by simp; omega) o2, okSt_is _ _ _ _ _ (by decide), strQ_is rfl (slIs_nil _ _ _ _ _), spoilt_params _ _ _ ⟨fldA false 4, by simp, not_ref⟩⟩
  rw [← set_list]
  exact blk_set b1 3 _
end

/-! ### literals -/
theorem wpList_v {P : Program} {ops : Array Oper} {rest : List Oper} {o : Oper} {a : Act} {w : World} {Q : Exit → Act → World → Prop} (hgd : o.guard = none) (v : Value) (hv : (execOp a.eval o).run P w = .ok (.value v) w) (h : wpList P ops Q rest (a.put o.dst v) w) : wpList P ops Q (o :: rest) a w := by
  refine wpList_plain hgd fun K hK => ?_
  unfold Oper.wp
  rw [hv]
  exact hK _ _ h
theorem exec_build_eq (ρ : Operand → Value) (dst : Option Tmp) (t : TypeId) (parts : Array (Nat × Operand)) (ty' : TypeId) (pos : String) (af : Array Edge) (gd : Option (Nat × Bool)) : execOp ρ ⟨dst, .build t parts, ty', pos, af, gd⟩ = (do pure (.value (← Instr.build t (parts.map fun (i, x) => (i, ρ x))))) := rfl
section
variable {ops : Array Oper} {rest : List Oper} {a : Act} {w : World} {Q : Exit → Act → World → Prop} {dst : Option Tmp} {ty' : TypeId} {pos : String} {af : Array Edge}
theorem wpList_bO (h : wpList Try.prog ops Q rest (a.put dst (.agg #[.int .i64 1, .int .i64 0, .string ⟨#[]⟩, .slice none 0 0])) w) : wpList Try.prog ops Q (⟨dst, .build 41 #[(0, .const (.int .i64 1))], ty', pos, af, none⟩ :: rest) a w := wpList_v rfl _ (by kernel_rfl) h
theorem wpList_bV {n : Nat} (hn : a.eval (.tmp n) = .agg #[.int .i64 1, .int .i64 0, .string ⟨#[]⟩, .slice none 0 0]) (h : wpList Try.prog ops Q rest (a.put dst (.agg #[.int .i64 1, .int .i64 1, .int .i64 0, .string ⟨#[]⟩, .slice none 0 0, .int .i64 0, .int .i64 0, .string ⟨#[]⟩, .slice none 0 0, .int .i64 0, .string ⟨#[]⟩, .slice none 0 0, .string ⟨#[]⟩, .slice none 0 0, .slice none 0 0])) w) : wpList Try.prog ops Q (⟨dst, .build 44 #[(0, .const (.int .i64 1)), (1, .tmp n)], ty', pos, af, none⟩ :: rest) a w := by
  refine wpList_v rfl (.agg #[.int .i64 1, .int .i64 1, .int .i64 0, .string ⟨#[]⟩, .slice none 0 0, .int .i64 0, .int .i64 0, .string ⟨#[]⟩, .slice none 0 0, .int .i64 0, .string ⟨#[]⟩, .slice none 0 0, .string ⟨#[]⟩, .slice none 0 0, .slice none 0 0]) ?_ h
  rw [exec_build_eq, show (#[(0, .const (.int .i64 1)), (1, .tmp n)] : Array (Nat × Operand)).map (fun (i, x) => (i, a.eval x)) = #[(0, .int .i64 1), (1, a.eval (.tmp n))] from (by simp only [List.map_toArray, List.map_cons, List.map_nil]; rfl), hn]
  kernel_rfl
theorem wpList_bS {C : Array Value} (hC : C = (okC 10 [] 0).toArray) {n : Nat} (hn : a.eval (.tmp n) = .agg #[.int .i64 1, .int .i64 1, .int .i64 0, .string ⟨#[]⟩, .slice none 0 0, .int .i64 0, .int .i64 0, .string ⟨#[]⟩, .slice none 0 0, .int .i64 0, .string ⟨#[]⟩, .slice none 0 0, .string ⟨#[]⟩, .slice none 0 0, .slice none 0 0]) (h : wpList Try.prog ops Q rest (a.put dst (.agg C)) w) : wpList Try.prog ops Q (⟨dst, .build 46 #[(0, .const (.int .i64 10)), (5, .const (.bool true)), (7, .tmp n)], ty', pos, af, none⟩ :: rest) a w := by
  subst hC
  refine wpList_v rfl (.agg (okC 10 [] 0).toArray) ?_ h
  rw [exec_build_eq, show (#[(0, .const (.int .i64 10)), (5, .const (.bool true)), (7, .tmp n)] : Array (Nat × Operand)).map (fun (i, x) => (i, a.eval x)) = #[(0, .int .i64 10), (5, .bool true), (7, a.eval (.tmp n))] from (by simp only [List.map_toArray, List.map_cons, List.map_nil]; rfl), hn]
  kernel_rfl
theorem wpList_bX {C : Array Value} (hC : C = #[.bool false, .string ⟨#[113]⟩, .slice none 0 0, .slice none 0 0, .int .i64 0]) (h : wpList Try.prog ops Q rest (a.put dst (.agg C)) w) : wpList Try.prog ops Q (⟨dst, .build 48 #[(1, .const (.string ⟨#[113]⟩))], ty', pos, af, none⟩ :: rest) a w := by
  subst hC
  exact wpList_v rfl _ (by kernel_rfl) h
theorem wpList_bT1 (h : wpList Try.prog ops Q rest (a.put dst (.agg #[.int .i64 1, .string ⟨#[]⟩, .slice none 0 0, .slice none 0 0])) w) : wpList Try.prog ops Q (⟨dst, .build 33 #[(0, .const (.int .i64 1))], ty', pos, af, none⟩ :: rest) a w := wpList_v rfl _ (by kernel_rfl) h
theorem wpList_bT4 (h : wpList Try.prog ops Q rest (a.put dst (.agg #[.int .i64 4, .string ⟨#[]⟩, .slice none 0 0, .slice none 0 0])) w) : wpList Try.prog ops Q (⟨dst, .build 33 #[(0, .const (.int .i64 4))], ty', pos, af, none⟩ :: rest) a w := wpList_v rfl _ (by kernel_rfl) h
theorem wpList_bF1 {C : Array Value} (hC : C = (fldC true 1).toArray) {n : Nat} (hn : a.eval (.tmp n) = .agg #[.int .i64 1, .string ⟨#[]⟩, .slice none 0 0, .slice none 0 0]) (h : wpList Try.prog ops Q rest (a.put dst (.agg C)) w) : wpList Try.prog ops Q (⟨dst, .build 50 #[(0, .const (.bool true)), (1, .const (.string ⟨#[97]⟩)), (2, .tmp n)], ty', pos, af, none⟩ :: rest) a w := by
  subst hC
  refine wpList_v rfl (.agg (fldC true 1).toArray) ?_ h
  rw [exec_build_eq, show (#[(0, .const (.bool true)), (1, .const (.string ⟨#[97]⟩)), (2, .tmp n)] : Array (Nat × Operand)).map (fun (i, x) => (i, a.eval x)) = #[(0, .bool true), (1, .string ⟨#[97]⟩), (2, a.eval (.tmp n))] from (by simp only [List.map_toArray, List.map_cons, List.map_nil]; rfl), hn]
  kernel_rfl
theorem wpList_bF4 {C : Array Value} (hC : C = (fldC false 4).toArray) {n : Nat} (hn : a.eval (.tmp n) = .agg #[.int .i64 4, .string ⟨#[]⟩, .slice none 0 0, .slice none 0 0]) (h : wpList Try.prog ops Q rest (a.put dst (.agg C)) w) : wpList Try.prog ops Q (⟨dst, .build 50 #[(1, .const (.string ⟨#[97]⟩)), (2, .tmp n)], ty', pos, af, none⟩ :: rest) a w := by
  subst hC
  refine wpList_v rfl (.agg (fldC false 4).toArray) ?_ h
  rw [exec_build_eq, show (#[(1, .const (.string ⟨#[97]⟩)), (2, .tmp n)] : Array (Nat × Operand)).map (fun (i, x) => (i, a.eval x)) = #[(1, .string ⟨#[97]⟩), (2, a.eval (.tmp n))] from (by simp only [List.map_toArray, List.map_cons, List.map_nil]; rfl), hn]
  kernel_rfl
end

/-- The function's body with one statement more. -/
theorem body_next {Sx : Nat → Prop} {N g5 n : Nat} {w V : World} {f : FunD} {s : StD} {cF : List Value} {a6 : Option Addr} {c6 : Nat} (hS : ∀ b, Sx b → b < N ∧ b ≠ g5) (hg : g5 < N) (bF : Blk w g5 cF.toArray 36) (iF : FunIs Sx w f cF) (K : Keeps Nothing w V) (O : OutR (Zc Sx) 46 32 StIs N V a6 c6 (f.body ++ [s])) (hn : f.body.length + 1 = n) (hb : n ≤ bigN) :
    Blk (V.setCell ⟨g5, 8, none⟩ (.slice a6 n c6)) g5 (cF.set 8 (.slice a6 n c6)).toArray 36 ∧ FunIs (fun b => Sx b ∨ (N ≤ b ∧ b < V.heap.size)) (V.setCell ⟨g5, 8, none⟩ (.slice a6 n c6)) ⟨f.pub, f.name, f.lives, f.params, f.result, f.body ++ [s], f.pos⟩ (cF.set 8 (.slice a6 n c6)) := by
  have k := setK g5 8 V (.slice a6 n c6)
  have o1 := O.keeps (zc_ok Sx) stOk k (fun b hb q => (hS b hb.1).2 q) (fun g hg' q => by have := O.new g hg'; have q' : g = g5 := q; omega)
  have o2 := o1.sl (S := fun b => Sx b ∨ (N ≤ b ∧ b < V.heap.size)) stOk (fun b hb => .inl hb.1) (fun g hg' => .inr ⟨O.new g hg', O.lt hg'⟩) (by simp; omega)
  have i1 := (iF.keeps (S' := Sx) K (fun _ _ h => h) (fun _ h => h)).keeps (S' := fun b => Sx b ∨ (N ≤ b ∧ b < V.heap.size)) k (fun b hb q => (hS b hb).2 q) (fun b hb => .inl hb)
  refine ⟨?_, fun_body i1 (by simp; omega) o2⟩
  rw [← set_list]
  exact blk_set (K.blk bF (fun h => h)) 8 _
set_option maxRecDepth 100000 in
/-- A crate's row of functions is as long as its slice may be. -/
theorem crate_cap {W : World} {base : Nat} {cs : Array Value} {a : Option Addr} {n c : Nat} (h : Value.okWide Try.prog W .any base 25 (.agg cs)) (hv : cs[1]? = some (.slice a n c)) : n ≤ c := by
  simp only [Value.okWide, Try.underlying25] at h
  obtain ⟨cs', e, _, ts, hts, _, hall⟩ := h
  obtain rfl : cs = cs' := by simpa using e
  obtain ⟨u, hu, ho⟩ := hall 1 _ hv
  have ht : Try.prog.cellTypes Try.prog.depth 25 = some [22, 23] := by kernel_rfl
  rw [ht] at hts
  obtain rfl := Option.some.inj hts
  obtain rfl : 23 = u := by simpa using hu
  simp only [Cell.okWide, Cell.ok, Try.underlying23] at ho
  cases a with
  | none =>
    revert ho
    cases n with
    | zero => intro _; omega
    | succ n => intro ho; exact ho.elim
  | some a => exact ho.1
theorem exec_buildC {ops : Array Oper} {rest : List Oper} {a : Act} {w : World} {Q : Exit → Act → World → Prop} {dst : Option Tmp} {ty' : TypeId} {pos : String} {af : Array Edge} {n m : Nat} {a1 a2 : Option Addr} {n1 n2 c1 c2 : Nat} (h1 : a.eval (.tmp n) = .slice a1 n1 c1) (h2 : a.eval (.tmp m) = .slice a2 n2 c2) (h : wpList Try.prog ops Q rest (a.put dst (.agg #[.slice a1 n1 c1, .slice a2 n2 c2])) w) : wpList Try.prog ops Q (⟨dst, .build 25 #[(0, .tmp n), (1, .tmp m)], ty', pos, af, none⟩ :: rest) a w := by
  refine wpList_v rfl (.agg #[.slice a1 n1 c1, .slice a2 n2 c2]) ?_ h
  rw [exec_build_eq, show (#[(0, .tmp n), (1, .tmp m)] : Array (Nat × Operand)).map (fun (i, x) => (i, a.eval x)) = #[(0, a.eval (.tmp n)), (1, a.eval (.tmp m))] from (by simp only [List.map_toArray, List.map_cons, List.map_nil]), h1, h2]
  kernel_rfl

end Go.Proofs.Ytjbcagbnagefcaa

namespace Go.Proofs.Ytjbcagbnagefcaa
open Go.RowKit

attribute [local go_sem ↓] exec_mid_ty exec_store_ty exec_mid_pl exec_store_pl exec_mid_opr exec_store_opr exec_mid_val exec_store_val exec_mid_st exec_store_st exec_mid_fld exec_store_fld exec_mid_str exec_store_str exec_mid_lif exec_store_lif exec_mid_fun exec_store_fun exec_mid_cr exec_store_cr
attribute [local go_sem] rowOk_new World.setRow_alloc_new

theorem build_ty9 (ρ : Operand → Value) (dst : Option Tmp) (ty' : TypeId) (pos : String) (af : Array Edge) (gd : Option (Nat × Bool)) (w : World) :
    (execOp ρ ⟨dst, .build 33 #[], ty', pos, af, gd⟩).run Try.prog w = .ok (.value (.agg #[.int .i64 0, .string ⟨#[]⟩, .slice none 0 0, .slice none 0 0])) w := by
  kernel_rfl

end Go.Proofs.Ytjbcagbnagefcaa

namespace Go.Proofs.Ytjbcagbnagefcaa
open Go.RowKit

def letD : StD := .mk 1 0 true [120] (.mk 1 [] [] []) false zeroPl zeroVal zeroOpr [] []
def badD : StD := .mk 1 0 true [120] zeroTy false zeroPl zeroVal zeroOpr [] []
def parD : FldD := ⟨false, [112], .mk 2 [] [] []⟩
def funD (s : StD) : FunD := ⟨false, [102], [], [parD], zeroTy, [s], 0⟩
theorem let_is (S : Nat → Prop) (w : World) : StIs S w letD [.int .i64 1, .int .i64 0, .bool true, .string ⟨#[120]⟩, .int .i64 1, .string ⟨#[]⟩, .slice none 0 0, .slice none 0 0, .bool false, .string ⟨#[]⟩, .slice none 0 0, .int .i64 0, .int .i64 0, .int .i64 0, .string ⟨#[]⟩, .slice none 0 0, .int .i64 0, .int .i64 0, .string ⟨#[]⟩, .slice none 0 0, .int .i64 0, .string ⟨#[]⟩, .slice none 0 0, .string ⟨#[]⟩, .slice none 0 0, .slice none 0 0, .int .i64 0, .int .i64 0, .string ⟨#[]⟩, .slice none 0 0, .slice none 0 0, .slice none 0 0] := by
  rw [stIs_iff]
  refine ⟨[.int .i64 1, .string ⟨#[]⟩, .slice none 0 0, .slice none 0 0], plC, valC, oprC, none, 0, none, 0, rfl, by decide, ?_, zeroPl_is S w, zeroVal_is S w, zeroOpr_is S w, slIs_nil _ _ _ _ _, slIs_nil _ _ _ _ _⟩
  show TyIs S w (.mk 1 [] [] []) _
  rw [tyIs_iff]
  exact ⟨none, 0, none, 0, rfl, Nat.zero_le _, slIs_nil _ _ _ _ _, slIs_nil _ _ _ _ _⟩
theorem bad_is (S : Nat → Prop) (w : World) : StIs S w badD [.int .i64 1, .int .i64 0, .bool true, .string ⟨#[120]⟩, .int .i64 0, .string ⟨#[]⟩, .slice none 0 0, .slice none 0 0, .bool false, .string ⟨#[]⟩, .slice none 0 0, .int .i64 0, .int .i64 0, .int .i64 0, .string ⟨#[]⟩, .slice none 0 0, .int .i64 0, .int .i64 0, .string ⟨#[]⟩, .slice none 0 0, .int .i64 0, .string ⟨#[]⟩, .slice none 0 0, .string ⟨#[]⟩, .slice none 0 0, .slice none 0 0, .int .i64 0, .int .i64 0, .string ⟨#[]⟩, .slice none 0 0, .slice none 0 0, .slice none 0 0] := by
  rw [stIs_iff]
  exact ⟨tyC, plC, valC, oprC, none, 0, none, 0, rfl, by decide, zeroTy_is S w, zeroPl_is S w, zeroVal_is S w, zeroOpr_is S w, slIs_nil _ _ _ _ _, slIs_nil _ _ _ _ _⟩
theorem par_is (S : Nat → Prop) (w : World) : FldIs S w parD [.bool false, .string ⟨#[112]⟩, .int .i64 2, .string ⟨#[]⟩, .slice none 0 0, .slice none 0 0] := by
  refine ⟨[.int .i64 2, .string ⟨#[]⟩, .slice none 0 0, .slice none 0 0], rfl, by decide, ?_⟩
  show TyIs S w (.mk 2 [] [] []) _
  rw [tyIs_iff]
  exact ⟨none, 0, none, 0, rfl, Nat.zero_le _, slIs_nil _ _ _ _ _, slIs_nil _ _ _ _ _⟩
/-- A row of one, in a block of its own. -/
theorem one_row {α : Type} {S : Nat → Prop} {w : World} {k : Nat} {P : α → List Value → Prop} {a : α} {cs : List Value} {b : Nat} {t : TypeId} (hb : Blk w b cs.toArray t) (hS : S b) (hl : cs.length = k) (hp : P a cs) : SlIs S w k P (some ⟨b, 0, none⟩) [a] :=
  ⟨by unfold bigN; simp, .inr ⟨b, 0, rfl, hS, ⟨cs, hl, rangeAt_blk hb, hp⟩, trivial⟩⟩
theorem fun_is {S : Nat → Prop} {w : World} {s : StD} {cs : List Value} {gp gs : Nat} {t1 t2 : TypeId} (bp : Blk w gp #[.bool false, .string ⟨#[112]⟩, .int .i64 2, .string ⟨#[]⟩, .slice none 0 0, .slice none 0 0] t1) (bs : Blk w gs cs.toArray t2) (hs : StIs S w s cs) (h1 : S gp) (h2 : S gs) : FunIs S w (funD s) [.bool false, .string ⟨#[102]⟩, .slice none 0 0, .slice (some ⟨gp, 0, none⟩) 1 1, .int .i64 0, .string ⟨#[]⟩, .slice none 0 0, .slice none 0 0, .slice (some ⟨gs, 0, none⟩) 1 1, .int .i64 0] := by
  refine ⟨none, 0, some ⟨gp, 0, none⟩, 1, tyC, some ⟨gs, 0, none⟩, 1, rfl, (by show ([102] : List UInt8).length ≤ bigN; decide), slIs_nil _ _ _ _ _, ?_, zeroTy_is S w, ?_⟩
  · exact one_row (cs := [.bool false, .string ⟨#[112]⟩, .int .i64 2, .string ⟨#[]⟩, .slice none 0 0, .slice none 0 0]) bp h1 rfl (par_is S w)
  · exact one_row bs h2 hs.len hs
theorem name_f : isName [102] = true := by decide
theorem name_p : isName [112] = true := by decide
theorem name_x : isName [120] = true := by decide
theorem ty_int (d : Int) (h : d ≤ 64) (k : Int) (hk : k = 1 ∨ k = 2) : TyP (.mk k [] [] []) d := by
  unfold TyP
  exact ⟨h, .inr (.inr ⟨hk, rfl, rfl, rfl⟩)⟩
theorem ty_zero (d : Int) : ¬ TyP zeroTy d := by
  unfold zeroTy TyP
  simp
theorem let_p : StP letD 1 := by
  unfold letD StP
  refine .inl ⟨rfl, name_x, ty_int 1 (by decide) 1 (.inl rfl), ?_, rfl⟩
  intro h
  cases h
theorem bad_p : ¬ StP badD 1 := by
  unfold badD StP
  simp [ty_zero]
theorem cr0_p : CrP ⟨[], []⟩ := ⟨by decide, (fun s h => by cases h), (fun s h => by cases h)⟩
theorem crf_p : CrP ⟨[], [funD letD]⟩ := by
  refine ⟨by decide, (fun s h => by cases h), fun f hf => ?_⟩
  obtain rfl : f = funD letD := by simpa using hf
  refine ⟨(fun l h => by cases h), name_f, by decide, ⟨fun f hf => ?_, by decide⟩, .inl ⟨rfl, rfl, rfl, rfl⟩, ?_, ?_⟩
  · obtain rfl : f = parD := by simpa [funD] using hf
    exact ⟨(fun h => by cases h), name_p, ty_int 1 (by decide) 2 (.inr rfl)⟩
  · rw [blP_iff]
    refine ⟨by decide, fun e he => ?_⟩
    obtain rfl : e = letD := by simpa [funD] using he
    exact let_p
  · show IntKind.i64.wrap ((cntL [letD] : Nat) : Int) ≤ 2000
    have : cntL [letD] = 1 := by simp [cntL, cntS, letD]
    rw [this, IntKind.wrap_i64]
    decide
theorem crg_p : ¬ CrP ⟨[], [funD badD]⟩ := by
  intro h
  have h2 := (h.2.2 (funD badD) (by simp)).2.2.2.2.2.1
  rw [blP_iff] at h2
  exact bad_p (h2.2 badD (by simp [funD]))
theorem cnt_let : cntL [letD] = 1 := by simp [cntL, cntS, letD]
theorem nm_f : nmD (funD letD) = [[112], [120]] := by simp [nmD, funD, parD, ltL, ltS, letD]

end Go.Proofs.Ytjbcagbnagefcaa

namespace Go.Proofs.Ytjbcagbnagefcaa
open Go.RowKit

attribute [local go_sem ↓] exec_mid_ty exec_store_ty exec_mid_pl exec_store_pl exec_mid_opr exec_store_opr exec_mid_val exec_store_val exec_mid_st exec_store_st exec_mid_fld exec_store_fld exec_mid_str exec_store_str exec_mid_lif exec_store_lif exec_mid_fun exec_store_fun exec_mid_cr exec_store_cr
attribute [local go_sem] rowOk_new World.setRow_alloc_new

attribute [local go_sem ↓] exec_into_pl exec_into_opr exec_into_ty exec_into_val build_valS build_st build_ty9
def ToldPost (w : World) (e : Ending) (w' : World) : Prop := e = .returned (.bool true) ∧ Keeps Nothing w w'
theorem rowR_sl {w : World} {e : TypeId} {ao : Option Addr} {cap : Nat} {l : List (List UInt8)} (h : RowR w e ao cap (l.map txV)) (hl : l.length ≤ bigN) (hx : ∀ x ∈ l, x.length ≤ bigN) : SlIs (fun _ => True) w 1 TxIs ao l := by
  refine ⟨hl, ?_⟩
  by_cases hn : l = []
  · exact .inl hn
  · obtain ⟨g, o, rfl⟩ := h.head (by simpa using hn)
    refine .inr ⟨g, o, rfl, trivial, rowIs_mk fun j d hd => ⟨[txV d], rfl, ?_, rfl, hx d (List.mem_of_getElem? hd)⟩⟩
    intro i v hi
    have hj := h.cell (j := j) (v := txV d) (by simp [hd])
    cases i with
    | zero =>
      obtain rfl : txV d = v := by simpa using hi
      rw [Nat.mul_one, Nat.add_zero]
      exact hj
    | succ i => simp at hi
theorem midCs_bad : midCs #[.int .i64 1, .int .i64 0, .bool true, .string ⟨#[120]⟩, .int .i64 1, .string ⟨#[]⟩, .slice none 0 0, .slice none 0 0, .bool false, .string ⟨#[]⟩, .slice none 0 0, .int .i64 0, .int .i64 0, .int .i64 0, .string ⟨#[]⟩, .slice none 0 0, .int .i64 0, .int .i64 0, .string ⟨#[]⟩, .slice none 0 0, .int .i64 0, .string ⟨#[]⟩, .slice none 0 0, .string ⟨#[]⟩, .slice none 0 0, .slice none 0 0, .int .i64 0, .int .i64 0, .string ⟨#[]⟩, .slice none 0 0, .slice none 0 0, .slice none 0 0] #[.int .i64 0, .string ⟨#[]⟩, .slice none 0 0, .slice none 0 0] 4 = #[.int .i64 1, .int .i64 0, .bool true, .string ⟨#[120]⟩, .int .i64 0, .string ⟨#[]⟩, .slice none 0 0, .slice none 0 0, .bool false, .string ⟨#[]⟩, .slice none 0 0, .int .i64 0, .int .i64 0, .int .i64 0, .string ⟨#[]⟩, .slice none 0 0, .int .i64 0, .int .i64 0, .string ⟨#[]⟩, .slice none 0 0, .int .i64 0, .string ⟨#[]⟩, .slice none 0 0, .string ⟨#[]⟩, .slice none 0 0, .slice none 0 0, .int .i64 0, .int .i64 0, .string ⟨#[]⟩, .slice none 0 0, .slice none 0 0, .slice none 0 0] := by rfl

set_option maxRecDepth 100000 in
set_option linter.unusedSimpArgs false in
set_option maxHeartbeats 8000000 in
theorem told7_any (w : World) (hM : MaxV w) : Calls Try.prog 8 #[] w (ToldPost w) := by
  have HM := shut hM
  clear hM
  go_enter Try.func8, Try.ntmps8
  have g1 : aggOk 32 (.agg #[.int .i64 1, .int .i64 0, .bool true, .string ⟨#[120]⟩, .int .i64 1, .string ⟨#[]⟩, .slice none 0 0, .slice none 0 0, .bool false, .string ⟨#[]⟩, .slice none 0 0, .int .i64 0, .int .i64 0, .int .i64 0, .string ⟨#[]⟩, .slice none 0 0, .int .i64 0, .int .i64 0, .string ⟨#[]⟩, .slice none 0 0, .int .i64 0, .string ⟨#[]⟩, .slice none 0 0, .string ⟨#[]⟩, .slice none 0 0, .slice none 0 0, .int .i64 0, .int .i64 0, .string ⟨#[]⟩, .slice none 0 0, .slice none 0 0, .slice none 0 0]) = true := by kernel_rfl
  go_upto_region 2 with fail
  have BA := blk_new w #[.int .i64 1, .int .i64 0, .bool true, .string ⟨#[120]⟩, .int .i64 1, .string ⟨#[]⟩, .slice none 0 0, .slice none 0 0, .bool false, .string ⟨#[]⟩, .slice none 0 0, .int .i64 0, .int .i64 0, .int .i64 0, .string ⟨#[]⟩, .slice none 0 0, .int .i64 0, .int .i64 0, .string ⟨#[]⟩, .slice none 0 0, .int .i64 0, .string ⟨#[]⟩, .slice none 0 0, .string ⟨#[]⟩, .slice none 0 0, .slice none 0 0, .int .i64 0, .int .i64 0, .string ⟨#[]⟩, .slice none 0 0, .slice none 0 0, .slice none 0 0] 46
  have K : Keeps Nothing w (w.alloc (.cells #[.int .i64 1, .int .i64 0, .bool true, .string ⟨#[120]⟩, .int .i64 1, .string ⟨#[]⟩, .slice none 0 0, .slice none 0 0, .bool false, .string ⟨#[]⟩, .slice none 0 0, .int .i64 0, .int .i64 0, .int .i64 0, .string ⟨#[]⟩, .slice none 0 0, .int .i64 0, .int .i64 0, .string ⟨#[]⟩, .slice none 0 0, .int .i64 0, .string ⟨#[]⟩, .slice none 0 0, .string ⟨#[]⟩, .slice none 0 0, .slice none 0 0, .int .i64 0, .int .i64 0, .string ⟨#[]⟩, .slice none 0 0, .slice none 0 0, .slice none 0 0] 46)) := (Keeps.refl Nothing w).alloc _
  generalize w.heap.size = ga at *
  generalize w.alloc (.cells #[.int .i64 1, .int .i64 0, .bool true, .string ⟨#[120]⟩, .int .i64 1, .string ⟨#[]⟩, .slice none 0 0, .slice none 0 0, .bool false, .string ⟨#[]⟩, .slice none 0 0, .int .i64 0, .int .i64 0, .int .i64 0, .string ⟨#[]⟩, .slice none 0 0, .int .i64 0, .int .i64 0, .string ⟨#[]⟩, .slice none 0 0, .int .i64 0, .string ⟨#[]⟩, .slice none 0 0, .string ⟨#[]⟩, .slice none 0 0, .slice none 0 0, .int .i64 0, .int .i64 0, .string ⟨#[]⟩, .slice none 0 0, .slice none 0 0, .slice none 0 0] 46) = wa at *
  have hlt := lt_of_block BA
  obtain ⟨y1, y2⟩ := tblk_mid BA (n := 32) rfl
  go_upto_region 3 with fail
  clear y1 y2
  have BB := blk_new wa #[.int .i64 1, .int .i64 0, .bool true, .string ⟨#[120]⟩, .int .i64 1, .string ⟨#[]⟩, .slice none 0 0, .slice none 0 0, .bool false, .string ⟨#[]⟩, .slice none 0 0, .int .i64 0, .int .i64 0, .int .i64 0, .string ⟨#[]⟩, .slice none 0 0, .int .i64 0, .int .i64 0, .string ⟨#[]⟩, .slice none 0 0, .int .i64 0, .string ⟨#[]⟩, .slice none 0 0, .string ⟨#[]⟩, .slice none 0 0, .slice none 0 0, .int .i64 0, .int .i64 0, .string ⟨#[]⟩, .slice none 0 0, .slice none 0 0, .slice none 0 0] 46
  have KS := shut K.size
  have BA := blk_alloc BA (.cells #[.int .i64 1, .int .i64 0, .bool true, .string ⟨#[120]⟩, .int .i64 1, .string ⟨#[]⟩, .slice none 0 0, .slice none 0 0, .bool false, .string ⟨#[]⟩, .slice none 0 0, .int .i64 0, .int .i64 0, .int .i64 0, .string ⟨#[]⟩, .slice none 0 0, .int .i64 0, .int .i64 0, .string ⟨#[]⟩, .slice none 0 0, .int .i64 0, .string ⟨#[]⟩, .slice none 0 0, .string ⟨#[]⟩, .slice none 0 0, .slice none 0 0, .int .i64 0, .int .i64 0, .string ⟨#[]⟩, .slice none 0 0, .slice none 0 0, .slice none 0 0] 46)
  have K := K.alloc (.cells #[.int .i64 1, .int .i64 0, .bool true, .string ⟨#[120]⟩, .int .i64 1, .string ⟨#[]⟩, .slice none 0 0, .slice none 0 0, .bool false, .string ⟨#[]⟩, .slice none 0 0, .int .i64 0, .int .i64 0, .int .i64 0, .string ⟨#[]⟩, .slice none 0 0, .int .i64 0, .int .i64 0, .string ⟨#[]⟩, .slice none 0 0, .int .i64 0, .string ⟨#[]⟩, .slice none 0 0, .string ⟨#[]⟩, .slice none 0 0, .slice none 0 0, .int .i64 0, .int .i64 0, .string ⟨#[]⟩, .slice none 0 0, .slice none 0 0, .slice none 0 0] 46)
  generalize hgb : wa.heap.size = gb at *
  have HGB := shut hgb
  have KS : Shut (w.heap.size ≤ gb) := shut (by have := KS.out; omega)
  clear hgb
  generalize hwb : wa.alloc (.cells #[.int .i64 1, .int .i64 0, .bool true, .string ⟨#[120]⟩, .int .i64 1, .string ⟨#[]⟩, .slice none 0 0, .slice none 0 0, .bool false, .string ⟨#[]⟩, .slice none 0 0, .int .i64 0, .int .i64 0, .int .i64 0, .string ⟨#[]⟩, .slice none 0 0, .int .i64 0, .int .i64 0, .string ⟨#[]⟩, .slice none 0 0, .int .i64 0, .string ⟨#[]⟩, .slice none 0 0, .string ⟨#[]⟩, .slice none 0 0, .slice none 0 0, .int .i64 0, .int .i64 0, .string ⟨#[]⟩, .slice none 0 0, .slice none 0 0, .slice none 0 0] 46) = wb at *
  have hsb : Shut (wb.heap.size = gb + 1) := shut (by rw [← hwb, World.size_alloc, HGB.out])
  clear hwb
  have hne : Shut (ga < gb) := shut hlt
  have hf := midFit_blk BB (o := 4) (n := 4) (by decide)
  have g2 : aggOk 4 (.agg #[.int .i64 0, .string ⟨#[]⟩, .slice none 0 0, .slice none 0 0]) = true := by kernel_rfl
  go_upto_region 4 with fail
  clear hf
  have BC := blk_midSet BB 4 #[.int .i64 0, .string ⟨#[]⟩, .slice none 0 0, .slice none 0 0]
  rw [midCs_bad] at BC
  have BA : Blk (midSet wb gb 4 #[.int .i64 0, .string ⟨#[]⟩, .slice none 0 0, .slice none 0 0]) ga #[.int .i64 1, .int .i64 0, .bool true, .string ⟨#[120]⟩, .int .i64 1, .string ⟨#[]⟩, .slice none 0 0, .slice none 0 0, .bool false, .string ⟨#[]⟩, .slice none 0 0, .int .i64 0, .int .i64 0, .int .i64 0, .string ⟨#[]⟩, .slice none 0 0, .int .i64 0, .int .i64 0, .string ⟨#[]⟩, .slice none 0 0, .int .i64 0, .string ⟨#[]⟩, .slice none 0 0, .string ⟨#[]⟩, .slice none 0 0, .slice none 0 0, .int .i64 0, .int .i64 0, .string ⟨#[]⟩, .slice none 0 0, .slice none 0 0, .slice none 0 0] 46 := blk_setRow_other BA (Nat.ne_of_lt hne.out)
  have K : Keeps Nothing w (midSet wb gb 4 #[.int .i64 0, .string ⟨#[]⟩, .slice none 0 0, .slice none 0 0]) := midSet_keeps K (fun h => by have h1 := KS.out; omega) 4 #[.int .i64 0, .string ⟨#[]⟩, .slice none 0 0, .slice none 0 0]
  clear BB g2 hsb
  generalize midSet wb gb 4 #[.int .i64 0, .string ⟨#[]⟩, .slice none 0 0, .slice none 0 0] = wc at *
  have gF : ∀ gp gs, aggOk 10 (.agg #[.bool false, .string ⟨#[102]⟩, .slice none 0 0, .slice (some ⟨gp, 0, none⟩) 1 1, .int .i64 0, .string ⟨#[]⟩, .slice none 0 0, .slice none 0 0, .slice (some ⟨gs, 0, none⟩) 1 1, .int .i64 0]) = true := fun gp gs => by kernel_rfl
  have gF := gF wc.heap.size (wc.heap.size + 1)
  have BA := blk_alloc BA (.cells #[.bool false, .string ⟨#[112]⟩, .int .i64 2, .string ⟨#[]⟩, .slice none 0 0, .slice none 0 0] 50)
  obtain ⟨y1, y2⟩ := tblk_mid BA (n := 32) rfl
  go_upto_region 5 with fail
  clear y1 y2 gF
  have BA := blk_alloc (blk_alloc BA (.cells #[.int .i64 1, .int .i64 0, .bool true, .string ⟨#[120]⟩, .int .i64 1, .string ⟨#[]⟩, .slice none 0 0, .slice none 0 0, .bool false, .string ⟨#[]⟩, .slice none 0 0, .int .i64 0, .int .i64 0, .int .i64 0, .string ⟨#[]⟩, .slice none 0 0, .int .i64 0, .int .i64 0, .string ⟨#[]⟩, .slice none 0 0, .int .i64 0, .string ⟨#[]⟩, .slice none 0 0, .string ⟨#[]⟩, .slice none 0 0, .slice none 0 0, .int .i64 0, .int .i64 0, .string ⟨#[]⟩, .slice none 0 0, .slice none 0 0, .slice none 0 0] 46)) (.cells #[.bool false, .string ⟨#[102]⟩, .slice none 0 0, .slice (some ⟨wc.heap.size, 0, none⟩) 1 1, .int .i64 0, .string ⟨#[]⟩, .slice none 0 0, .slice none 0 0, .slice (some ⟨wc.heap.size + 1, 0, none⟩) 1 1, .int .i64 0] 36)
  have BC := blk_alloc (blk_alloc (blk_alloc BC (.cells #[.bool false, .string ⟨#[112]⟩, .int .i64 2, .string ⟨#[]⟩, .slice none 0 0, .slice none 0 0] 50)) (.cells #[.int .i64 1, .int .i64 0, .bool true, .string ⟨#[120]⟩, .int .i64 1, .string ⟨#[]⟩, .slice none 0 0, .slice none 0 0, .bool false, .string ⟨#[]⟩, .slice none 0 0, .int .i64 0, .int .i64 0, .int .i64 0, .string ⟨#[]⟩, .slice none 0 0, .int .i64 0, .int .i64 0, .string ⟨#[]⟩, .slice none 0 0, .int .i64 0, .string ⟨#[]⟩, .slice none 0 0, .string ⟨#[]⟩, .slice none 0 0, .slice none 0 0, .int .i64 0, .int .i64 0, .string ⟨#[]⟩, .slice none 0 0, .slice none 0 0, .slice none 0 0] 46)) (.cells #[.bool false, .string ⟨#[102]⟩, .slice none 0 0, .slice (some ⟨wc.heap.size, 0, none⟩) 1 1, .int .i64 0, .string ⟨#[]⟩, .slice none 0 0, .slice none 0 0, .slice (some ⟨wc.heap.size + 1, 0, none⟩) 1 1, .int .i64 0] 36)
  have BP := blk_alloc (blk_alloc (blk_new wc #[.bool false, .string ⟨#[112]⟩, .int .i64 2, .string ⟨#[]⟩, .slice none 0 0, .slice none 0 0] 50) (.cells #[.int .i64 1, .int .i64 0, .bool true, .string ⟨#[120]⟩, .int .i64 1, .string ⟨#[]⟩, .slice none 0 0, .slice none 0 0, .bool false, .string ⟨#[]⟩, .slice none 0 0, .int .i64 0, .int .i64 0, .int .i64 0, .string ⟨#[]⟩, .slice none 0 0, .int .i64 0, .int .i64 0, .string ⟨#[]⟩, .slice none 0 0, .int .i64 0, .string ⟨#[]⟩, .slice none 0 0, .string ⟨#[]⟩, .slice none 0 0, .slice none 0 0, .int .i64 0, .int .i64 0, .string ⟨#[]⟩, .slice none 0 0, .slice none 0 0, .slice none 0 0] 46)) (.cells #[.bool false, .string ⟨#[102]⟩, .slice none 0 0, .slice (some ⟨wc.heap.size, 0, none⟩) 1 1, .int .i64 0, .string ⟨#[]⟩, .slice none 0 0, .slice none 0 0, .slice (some ⟨wc.heap.size + 1, 0, none⟩) 1 1, .int .i64 0] 36)
  have BS := blk_alloc (blk_new (wc.alloc (.cells #[.bool false, .string ⟨#[112]⟩, .int .i64 2, .string ⟨#[]⟩, .slice none 0 0, .slice none 0 0] 50)) #[.int .i64 1, .int .i64 0, .bool true, .string ⟨#[120]⟩, .int .i64 1, .string ⟨#[]⟩, .slice none 0 0, .slice none 0 0, .bool false, .string ⟨#[]⟩, .slice none 0 0, .int .i64 0, .int .i64 0, .int .i64 0, .string ⟨#[]⟩, .slice none 0 0, .int .i64 0, .int .i64 0, .string ⟨#[]⟩, .slice none 0 0, .int .i64 0, .string ⟨#[]⟩, .slice none 0 0, .string ⟨#[]⟩, .slice none 0 0, .slice none 0 0, .int .i64 0, .int .i64 0, .string ⟨#[]⟩, .slice none 0 0, .slice none 0 0, .slice none 0 0] 46) (.cells #[.bool false, .string ⟨#[102]⟩, .slice none 0 0, .slice (some ⟨wc.heap.size, 0, none⟩) 1 1, .int .i64 0, .string ⟨#[]⟩, .slice none 0 0, .slice none 0 0, .slice (some ⟨wc.heap.size + 1, 0, none⟩) 1 1, .int .i64 0] 36)
  have BF := blk_new ((wc.alloc (.cells #[.bool false, .string ⟨#[112]⟩, .int .i64 2, .string ⟨#[]⟩, .slice none 0 0, .slice none 0 0] 50)).alloc (.cells #[.int .i64 1, .int .i64 0, .bool true, .string ⟨#[120]⟩, .int .i64 1, .string ⟨#[]⟩, .slice none 0 0, .slice none 0 0, .bool false, .string ⟨#[]⟩, .slice none 0 0, .int .i64 0, .int .i64 0, .int .i64 0, .string ⟨#[]⟩, .slice none 0 0, .int .i64 0, .int .i64 0, .string ⟨#[]⟩, .slice none 0 0, .int .i64 0, .string ⟨#[]⟩, .slice none 0 0, .string ⟨#[]⟩, .slice none 0 0, .slice none 0 0, .int .i64 0, .int .i64 0, .string ⟨#[]⟩, .slice none 0 0, .slice none 0 0, .slice none 0 0] 46)) #[.bool false, .string ⟨#[102]⟩, .slice none 0 0, .slice (some ⟨wc.heap.size, 0, none⟩) 1 1, .int .i64 0, .string ⟨#[]⟩, .slice none 0 0, .slice none 0 0, .slice (some ⟨wc.heap.size + 1, 0, none⟩) 1 1, .int .i64 0] 36
  rw [World.size_alloc] at BS
  rw [World.size_alloc, World.size_alloc] at BF
  have K := ((K.alloc (.cells #[.bool false, .string ⟨#[112]⟩, .int .i64 2, .string ⟨#[]⟩, .slice none 0 0, .slice none 0 0] 50)).alloc (.cells #[.int .i64 1, .int .i64 0, .bool true, .string ⟨#[120]⟩, .int .i64 1, .string ⟨#[]⟩, .slice none 0 0, .slice none 0 0, .bool false, .string ⟨#[]⟩, .slice none 0 0, .int .i64 0, .int .i64 0, .int .i64 0, .string ⟨#[]⟩, .slice none 0 0, .int .i64 0, .int .i64 0, .string ⟨#[]⟩, .slice none 0 0, .int .i64 0, .string ⟨#[]⟩, .slice none 0 0, .string ⟨#[]⟩, .slice none 0 0, .slice none 0 0, .int .i64 0, .int .i64 0, .string ⟨#[]⟩, .slice none 0 0, .slice none 0 0, .slice none 0 0] 46)).alloc (.cells #[.bool false, .string ⟨#[102]⟩, .slice none 0 0, .slice (some ⟨wc.heap.size, 0, none⟩) 1 1, .int .i64 0, .string ⟨#[]⟩, .slice none 0 0, .slice none 0 0, .slice (some ⟨wc.heap.size + 1, 0, none⟩) 1 1, .int .i64 0] 36)
  clear KS HGB hne hlt
  generalize hgf : wc.heap.size + 1 + 1 = gf at *
  generalize hgs : wc.heap.size + 1 = gs at *
  generalize hgp : wc.heap.size = gp at *
  clear hgf hgs hgp
  generalize ((wc.alloc (.cells #[.bool false, .string ⟨#[112]⟩, .int .i64 2, .string ⟨#[]⟩, .slice none 0 0, .slice none 0 0] 50)).alloc (.cells #[.int .i64 1, .int .i64 0, .bool true, .string ⟨#[120]⟩, .int .i64 1, .string ⟨#[]⟩, .slice none 0 0, .slice none 0 0, .bool false, .string ⟨#[]⟩, .slice none 0 0, .int .i64 0, .int .i64 0, .int .i64 0, .string ⟨#[]⟩, .slice none 0 0, .int .i64 0, .int .i64 0, .string ⟨#[]⟩, .slice none 0 0, .int .i64 0, .string ⟨#[]⟩, .slice none 0 0, .string ⟨#[]⟩, .slice none 0 0, .slice none 0 0, .int .i64 0, .int .i64 0, .string ⟨#[]⟩, .slice none 0 0, .slice none 0 0, .slice none 0 0] 46)).alloc (.cells #[.bool false, .string ⟨#[102]⟩, .slice none 0 0, .slice (some ⟨gp, 0, none⟩) 1 1, .int .i64 0, .string ⟨#[]⟩, .slice none 0 0, .slice none 0 0, .slice (some ⟨gs, 0, none⟩) 1 1, .int .i64 0] 36) = wd at *
  have gF : aggOk 10 (.agg #[.bool false, .string ⟨#[102]⟩, .slice none 0 0, .slice (some ⟨gp, 0, none⟩) 1 1, .int .i64 0, .string ⟨#[]⟩, .slice none 0 0, .slice none 0 0, .slice (some ⟨gs, 0, none⟩) 1 1, .int .i64 0]) = true := by kernel_rfl
  obtain ⟨y1, y2⟩ := tblk_mid BF (n := 10) rfl
  go_upto_region 6 with fail
  clear y1 y2 gF
  have k1 : Keeps Nothing wd (wd.alloc (.cells #[.bool false, .string ⟨#[102]⟩, .slice none 0 0, .slice (some ⟨gp, 0, none⟩) 1 1, .int .i64 0, .string ⟨#[]⟩, .slice none 0 0, .slice none 0 0, .slice (some ⟨gs, 0, none⟩) 1 1, .int .i64 0] 36)) := (Keeps.refl Nothing wd).alloc _
  have HPG := shut (lt_of_block BP)
  have HSG := shut (lt_of_block BS)
  have HFG := shut (lt_of_block BF)
  have BG := blk_new wd #[.bool false, .string ⟨#[102]⟩, .slice none 0 0, .slice (some ⟨gp, 0, none⟩) 1 1, .int .i64 0, .string ⟨#[]⟩, .slice none 0 0, .slice none 0 0, .slice (some ⟨gs, 0, none⟩) 1 1, .int .i64 0] 36
  have BA := k1.blk BA (fun h => h)
  have BC := k1.blk BC (fun h => h)
  have BP := k1.blk BP (fun h => h)
  have BS := k1.blk BS (fun h => h)
  have BF := k1.blk BF (fun h => h)
  have hgg := K.size
  have hfg := lt_of_block BF
  have K := K.trans k1 (fun _ h _ => h)
  clear k1
  generalize hgg2 : wd.heap.size = gg at *
  generalize hwe : wd.alloc (.cells #[.bool false, .string ⟨#[102]⟩, .slice none 0 0, .slice (some ⟨gp, 0, none⟩) 1 1, .int .i64 0, .string ⟨#[]⟩, .slice none 0 0, .slice none 0 0, .slice (some ⟨gs, 0, none⟩) 1 1, .int .i64 0] 36) = we at *
  have hse : Shut (we.heap.size = gg + 1) := shut (by rw [← hwe, World.size_alloc, hgg2])
  clear hwe hgg2
  have HG := shut hgg
  clear hgg hfg
  have k2 : Keeps Nothing we (we.alloc (.cells #[.int .i64 1, .int .i64 0, .bool true, .string ⟨#[120]⟩, .int .i64 0, .string ⟨#[]⟩, .slice none 0 0, .slice none 0 0, .bool false, .string ⟨#[]⟩, .slice none 0 0, .int .i64 0, .int .i64 0, .int .i64 0, .string ⟨#[]⟩, .slice none 0 0, .int .i64 0, .int .i64 0, .string ⟨#[]⟩, .slice none 0 0, .int .i64 0, .string ⟨#[]⟩, .slice none 0 0, .string ⟨#[]⟩, .slice none 0 0, .slice none 0 0, .int .i64 0, .int .i64 0, .string ⟨#[]⟩, .slice none 0 0, .slice none 0 0, .slice none 0 0] 46)) := (Keeps.refl Nothing we).alloc _
  have BG2 := k2.blk BG (fun h => h)
  have hcell := blk_cell BG2 8 (v := .slice (some ⟨gs, 0, none⟩) 1 1) rfl
  have hfree := blk_free BG2 8
  obtain ⟨y1, y2⟩ := tblk_mid BC (n := 32) rfl
  go_upto_region 7 with fail
  any_goals try (rename_i hfz; simp [hfree] at hfz; done)
  clear y1 y2 hcell hfree g1
  have hhg : we.heap.size ≠ gg := by have := hse.out; omega
  have BH := blk_other (blk_new we #[.int .i64 1, .int .i64 0, .bool true, .string ⟨#[120]⟩, .int .i64 0, .string ⟨#[]⟩, .slice none 0 0, .slice none 0 0, .bool false, .string ⟨#[]⟩, .slice none 0 0, .int .i64 0, .int .i64 0, .int .i64 0, .string ⟨#[]⟩, .slice none 0 0, .int .i64 0, .int .i64 0, .string ⟨#[]⟩, .slice none 0 0, .int .i64 0, .string ⟨#[]⟩, .slice none 0 0, .string ⟨#[]⟩, .slice none 0 0, .slice none 0 0, .int .i64 0, .int .i64 0, .string ⟨#[]⟩, .slice none 0 0, .slice none 0 0, .slice none 0 0] 46) ⟨gg, 8, none⟩ hhg (.slice (some ⟨we.heap.size, 0, none⟩) 1 1)
  have BG : Blk ((we.alloc (.cells #[.int .i64 1, .int .i64 0, .bool true, .string ⟨#[120]⟩, .int .i64 0, .string ⟨#[]⟩, .slice none 0 0, .slice none 0 0, .bool false, .string ⟨#[]⟩, .slice none 0 0, .int .i64 0, .int .i64 0, .int .i64 0, .string ⟨#[]⟩, .slice none 0 0, .int .i64 0, .int .i64 0, .string ⟨#[]⟩, .slice none 0 0, .int .i64 0, .string ⟨#[]⟩, .slice none 0 0, .string ⟨#[]⟩, .slice none 0 0, .slice none 0 0, .int .i64 0, .int .i64 0, .string ⟨#[]⟩, .slice none 0 0, .slice none 0 0, .slice none 0 0] 46)).setCell ⟨gg, 8, none⟩ (.slice (some ⟨we.heap.size, 0, none⟩) 1 1)) gg #[.bool false, .string ⟨#[102]⟩, .slice none 0 0, .slice (some ⟨gp, 0, none⟩) 1 1, .int .i64 0, .string ⟨#[]⟩, .slice none 0 0, .slice none 0 0, .slice (some ⟨we.heap.size, 0, none⟩) 1 1, .int .i64 0] 36 := blk_set BG2 8 _
  have BP := blk_other (k2.blk BP (fun h => h)) ⟨gg, 8, none⟩ (Nat.ne_of_lt HPG.out) (.slice (some ⟨we.heap.size, 0, none⟩) 1 1)
  have BS := blk_other (k2.blk BS (fun h => h)) ⟨gg, 8, none⟩ (Nat.ne_of_lt HSG.out) (.slice (some ⟨we.heap.size, 0, none⟩) 1 1)
  have BF := blk_other (k2.blk BF (fun h => h)) ⟨gg, 8, none⟩ (Nat.ne_of_lt HFG.out) (.slice (some ⟨we.heap.size, 0, none⟩) 1 1)
  have K := (K.trans k2 (fun _ h _ => h)).setCell (p := ⟨gg, 8, none⟩) (fun h => absurd (show gg < w.heap.size from h) (Nat.not_lt.2 HG.out)) (.slice (some ⟨we.heap.size, 0, none⟩) 1 1)
  clear k2 hhg BG2 BA BC hse HPG HSG HFG HG
  generalize ((we.alloc (.cells #[.int .i64 1, .int .i64 0, .bool true, .string ⟨#[120]⟩, .int .i64 0, .string ⟨#[]⟩, .slice none 0 0, .slice none 0 0, .bool false, .string ⟨#[]⟩, .slice none 0 0, .int .i64 0, .int .i64 0, .int .i64 0, .string ⟨#[]⟩, .slice none 0 0, .int .i64 0, .int .i64 0, .string ⟨#[]⟩, .slice none 0 0, .int .i64 0, .string ⟨#[]⟩, .slice none 0 0, .string ⟨#[]⟩, .slice none 0 0, .slice none 0 0, .int .i64 0, .int .i64 0, .string ⟨#[]⟩, .slice none 0 0, .slice none 0 0, .slice none 0 0] 46)).setCell ⟨gg, 8, none⟩ (.slice (some ⟨we.heap.size, 0, none⟩) 1 1)) = wf at *
  generalize we.heap.size = gb at *
  have hc := may_any (S := fun _ => True) ⟨[], []⟩ wf (HM.out.keeps K) [.slice none 0 0, .slice none 0 0] ⟨none, 0, none, 0, rfl, slIs_nil _ _ _ _ _, slIs_nil _ _ _ _ _⟩
  go_wp2_with fail
  refine hc.mono ?_
  rintro e w1 ⟨⟨z, rfl, hz⟩, k1⟩
  obtain rfl : z = true := hz.2 cr0_p
  have K := K.trans k1 (fun _ h _ => h)
  have BP := k1.blk BP (fun h => h)
  have BS := k1.blk BS (fun h => h)
  have BF := k1.blk BF (fun h => h)
  have BG := k1.blk BG (fun h => h)
  have BH := k1.blk BH (fun h => h)
  clear hc hz k1
  try dsimp only
  have k2 : Keeps Nothing w1 (w1.alloc (.cells #[.bool false, .string ⟨#[102]⟩, .slice none 0 0, .slice (some ⟨gp, 0, none⟩) 1 1, .int .i64 0, .string ⟨#[]⟩, .slice none 0 0, .slice none 0 0, .slice (some ⟨gs, 0, none⟩) 1 1, .int .i64 0] 36)) := (Keeps.refl Nothing w1).alloc _
  have BX := blk_new w1 #[.bool false, .string ⟨#[102]⟩, .slice none 0 0, .slice (some ⟨gp, 0, none⟩) 1 1, .int .i64 0, .string ⟨#[]⟩, .slice none 0 0, .slice none 0 0, .slice (some ⟨gs, 0, none⟩) 1 1, .int .i64 0] 36
  have hc := may_any (S := fun _ => True) ⟨[], [funD letD]⟩ _ (HM.out.keeps (K.trans k2 (fun _ h _ => h))) [.slice none 0 0, .slice (some ⟨w1.heap.size, 0, none⟩) 1 1] ⟨none, 0, some ⟨w1.heap.size, 0, none⟩, 1, rfl, slIs_nil _ _ _ _ _, one_row (cs := [.bool false, .string ⟨#[102]⟩, .slice none 0 0, .slice (some ⟨gp, 0, none⟩) 1 1, .int .i64 0, .string ⟨#[]⟩, .slice none 0 0, .slice none 0 0, .slice (some ⟨gs, 0, none⟩) 1 1, .int .i64 0]) BX trivial rfl (fun_is (k2.blk BP (fun h => h)) (cs := [.int .i64 1, .int .i64 0, .bool true, .string ⟨#[120]⟩, .int .i64 1, .string ⟨#[]⟩, .slice none 0 0, .slice none 0 0, .bool false, .string ⟨#[]⟩, .slice none 0 0, .int .i64 0, .int .i64 0, .int .i64 0, .string ⟨#[]⟩, .slice none 0 0, .int .i64 0, .int .i64 0, .string ⟨#[]⟩, .slice none 0 0, .int .i64 0, .string ⟨#[]⟩, .slice none 0 0, .string ⟨#[]⟩, .slice none 0 0, .slice none 0 0, .int .i64 0, .int .i64 0, .string ⟨#[]⟩, .slice none 0 0, .slice none 0 0, .slice none 0 0]) (k2.blk BS (fun h => h)) (let_is _ _) trivial trivial)⟩
  obtain ⟨y1, y2⟩ := tblk_mid BF (n := 10) rfl
  clear BX
  go_wp2_with fail
  refine hc.mono ?_
  rintro e w2 ⟨⟨z, rfl, hz⟩, k3⟩
  obtain rfl : z = true := hz.2 crf_p
  have k1 := k2.trans k3 (fun _ h _ => h)
  have K := K.trans k1 (fun _ h _ => h)
  have BP := k1.blk BP (fun h => h)
  have BS := k1.blk BS (fun h => h)
  have BF := k1.blk BF (fun h => h)
  have BG := k1.blk BG (fun h => h)
  have BH := k1.blk BH (fun h => h)
  clear hc hz k1 k2 k3 y1 y2
  try dsimp only
  have k2 : Keeps Nothing w2 (w2.alloc (.cells #[.bool false, .string ⟨#[102]⟩, .slice none 0 0, .slice (some ⟨gp, 0, none⟩) 1 1, .int .i64 0, .string ⟨#[]⟩, .slice none 0 0, .slice none 0 0, .slice (some ⟨gb, 0, none⟩) 1 1, .int .i64 0] 36)) := (Keeps.refl Nothing w2).alloc _
  have BX := blk_new w2 #[.bool false, .string ⟨#[102]⟩, .slice none 0 0, .slice (some ⟨gp, 0, none⟩) 1 1, .int .i64 0, .string ⟨#[]⟩, .slice none 0 0, .slice none 0 0, .slice (some ⟨gb, 0, none⟩) 1 1, .int .i64 0] 36
  have hc := may_any (S := fun _ => True) ⟨[], [funD badD]⟩ _ (HM.out.keeps (K.trans k2 (fun _ h _ => h))) [.slice none 0 0, .slice (some ⟨w2.heap.size, 0, none⟩) 1 1] ⟨none, 0, some ⟨w2.heap.size, 0, none⟩, 1, rfl, slIs_nil _ _ _ _ _, one_row (cs := [.bool false, .string ⟨#[102]⟩, .slice none 0 0, .slice (some ⟨gp, 0, none⟩) 1 1, .int .i64 0, .string ⟨#[]⟩, .slice none 0 0, .slice none 0 0, .slice (some ⟨gb, 0, none⟩) 1 1, .int .i64 0]) BX trivial rfl (fun_is (k2.blk BP (fun h => h)) (cs := [.int .i64 1, .int .i64 0, .bool true, .string ⟨#[120]⟩, .int .i64 0, .string ⟨#[]⟩, .slice none 0 0, .slice none 0 0, .bool false, .string ⟨#[]⟩, .slice none 0 0, .int .i64 0, .int .i64 0, .int .i64 0, .string ⟨#[]⟩, .slice none 0 0, .int .i64 0, .int .i64 0, .string ⟨#[]⟩, .slice none 0 0, .int .i64 0, .string ⟨#[]⟩, .slice none 0 0, .string ⟨#[]⟩, .slice none 0 0, .slice none 0 0, .int .i64 0, .int .i64 0, .string ⟨#[]⟩, .slice none 0 0, .slice none 0 0, .slice none 0 0]) (k2.blk BH (fun h => h)) (bad_is _ _) trivial trivial)⟩
  obtain ⟨y1, y2⟩ := tblk_mid BG (n := 10) rfl
  clear BX
  go_wp2_with fail
  refine hc.mono ?_
  rintro e w3 ⟨⟨z, rfl, hz⟩, k3⟩
  obtain rfl : z = false := by cases z with | false => rfl | true => exact absurd (hz.1 rfl) crg_p
  have k1 := k2.trans k3 (fun _ h _ => h)
  have K := K.trans k1 (fun _ h _ => h)
  have BP := k1.blk BP (fun h => h)
  have BS := k1.blk BS (fun h => h)
  have BF := k1.blk BF (fun h => h)
  have BG := k1.blk BG (fun h => h)
  have BH := k1.blk BH (fun h => h)
  clear hc hz k1 k2 k3 y1 y2 BG BH
  try dsimp only
  have k2 : Keeps Nothing w3 (w3.alloc (.cells #[] 48)) := (Keeps.refl Nothing w3).alloc _
  have hc := same_any (S := fun _ => True) (S' := fun _ => True) ⟨[], []⟩ ⟨[], []⟩ (w3.alloc (.cells #[] 48)) [.slice none 0 0, .slice none 0 0] [.slice (some ⟨w3.heap.size, 0, none⟩) 0 0, .slice none 0 0] ⟨none, 0, none, 0, rfl, slIs_nil _ _ _ _ _, slIs_nil _ _ _ _ _⟩ ⟨some ⟨w3.heap.size, 0, none⟩, 0, none, 0, rfl, slIs_nil _ _ _ _ _, slIs_nil _ _ _ _ _⟩
  go_wp2_with fail
  refine hc.mono ?_
  rintro e w4 ⟨⟨z, rfl, hz⟩, k3⟩
  obtain rfl : z = true := hz.2 (by first | rfl | trivial)
  have k1 := k2.trans k3 (fun _ h _ => h)
  have K := K.trans k1 (fun _ h _ => h)
  have BP := k1.blk BP (fun h => h)
  have BS := k1.blk BS (fun h => h)
  have BF := k1.blk BF (fun h => h)
  clear hc hz k1 k2 k3
  try dsimp only
  have ef := blk_cell BF 8 (v := .slice (some ⟨gs, 0, none⟩) 1 1) rfl
  have hc := count_any (S := fun _ => True) [letD] w4 (some ⟨gs, 0, none⟩) 1 (one_row (cs := [.int .i64 1, .int .i64 0, .bool true, .string ⟨#[120]⟩, .int .i64 1, .string ⟨#[]⟩, .slice none 0 0, .slice none 0 0, .bool false, .string ⟨#[]⟩, .slice none 0 0, .int .i64 0, .int .i64 0, .int .i64 0, .string ⟨#[]⟩, .slice none 0 0, .int .i64 0, .int .i64 0, .string ⟨#[]⟩, .slice none 0 0, .int .i64 0, .string ⟨#[]⟩, .slice none 0 0, .string ⟨#[]⟩, .slice none 0 0, .slice none 0 0, .int .i64 0, .int .i64 0, .string ⟨#[]⟩, .slice none 0 0, .slice none 0 0, .slice none 0 0]) BS trivial rfl (let_is _ _))
  go_wp2_with fail
  refine hc.mono ?_
  rintro e w5 ⟨⟨z, rfl, hz⟩, k1⟩
  obtain rfl : z = 1 := by rw [hz.out, cnt_let, IntKind.wrap_i64]; decide
  have K := K.trans k1 (fun _ h _ => h)
  have BP := k1.blk BP (fun h => h)
  have BS := k1.blk BS (fun h => h)
  have BF := k1.blk BF (fun h => h)
  clear hc hz k1 ef
  try dsimp only
  have hc := names_any (funD letD) w5 [.bool false, .string ⟨#[102]⟩, .slice none 0 0, .slice (some ⟨gp, 0, none⟩) 1 1, .int .i64 0, .string ⟨#[]⟩, .slice none 0 0, .slice none 0 0, .slice (some ⟨gs, 0, none⟩) 1 1, .int .i64 0] (fun_is BP (cs := [.int .i64 1, .int .i64 0, .bool true, .string ⟨#[120]⟩, .int .i64 1, .string ⟨#[]⟩, .slice none 0 0, .slice none 0 0, .bool false, .string ⟨#[]⟩, .slice none 0 0, .int .i64 0, .int .i64 0, .int .i64 0, .string ⟨#[]⟩, .slice none 0 0, .int .i64 0, .int .i64 0, .string ⟨#[]⟩, .slice none 0 0, .int .i64 0, .string ⟨#[]⟩, .slice none 0 0, .string ⟨#[]⟩, .slice none 0 0, .slice none 0 0, .int .i64 0, .int .i64 0, .string ⟨#[]⟩, .slice none 0 0, .slice none 0 0, .slice none 0 0]) BS (let_is _ _) (lt_of_block BP) (lt_of_block BS)) (by show 1 + cntL [letD] ≤ _; rw [cnt_let]; decide)
  rw [nm_f] at hc
  obtain ⟨y1, y2⟩ := tblk_mid BF (n := 10) rfl
  go_wp2_with fail
  refine hc.mono ?_
  rintro e w6 ⟨aR, cR, rfl, RR, k1, -⟩
  have K := K.trans k1 (fun _ h _ => h)
  clear hc k1 y1 y2 BP BS BF
  try dsimp only
  have k2 : Keeps Nothing w6 (w6.alloc (.cells #[.string ⟨#[112]⟩, .string ⟨#[120]⟩] 9)) := (Keeps.refl Nothing w6).alloc _
  have BX := blk_new w6 #[.string ⟨#[112]⟩, .string ⟨#[120]⟩] 9
  have hs : SlIs (fun _ => True) (w6.alloc (.cells #[.string ⟨#[112]⟩, .string ⟨#[120]⟩] 9)) 1 TxIs (some ⟨w6.heap.size, 0, none⟩) [[112], [120]] := ⟨by decide, .inr ⟨_, 0, rfl, trivial, ⟨[txV [112]], rfl, (fun j v hj => by cases j with | zero => (obtain rfl := Option.some.inj hj; exact blk_cell BX 0 rfl) | succ j => cases hj), rfl, by decide⟩, ⟨[txV [120]], rfl, (fun j v hj => by cases j with | zero => (obtain rfl := Option.some.inj hj; exact blk_cell BX 1 rfl) | succ j => cases hj), rfl, by decide⟩, trivial⟩⟩
  have hc := rtexts_any (w6.alloc (.cells #[.string ⟨#[112]⟩, .string ⟨#[120]⟩] 9)) cR 2 (rowR_sl (RR.keepsN k2) (by decide) (by decide)) hs
  clear BX hs
  go_wp2_with fail
  refine hc.mono ?_
  rintro e w7 ⟨⟨z, rfl, hz⟩, k3⟩
  obtain rfl : z = true := hz.2 (by first | rfl | trivial)
  have K := (K.trans k2 (fun _ h _ => h)).trans k3 (fun _ h _ => h)
  clear hc hz k2 k3
  try dsimp only
  go_wp2_with fail
  go_ret
  exact ⟨rfl, K⟩

end Go.Proofs.Ytjbcagbnagefcaa

namespace Go.Proofs.Ytjbcagbnagefcaa
open Go.RowKit Go.ChangeShapes Go.WideShapes

theorem cntL_map : ∀ l : List StD, cntL l = (l.map (fun d => 1 + cntS d)).sum
  | [] => by simp [cntL]
  | s :: r => by simp only [cntL, List.map_cons, List.sum_cons, cntL_map r]
theorem list_of {α : Type} {R : Nat → α → Prop} : ∀ n, (∀ i, i < n → ∃ d, R i d) → ∃ l : List α, l.length = n ∧ ∀ i d, l[i]? = some d → R i d
  | 0, _ => ⟨[], rfl, fun i d h => by simp at h⟩
  | n + 1, h => by
    obtain ⟨l, hl, hr⟩ := list_of n (fun i hi => h i (by omega))
    obtain ⟨d, hd⟩ := h n (by omega)
    refine ⟨l ++ [d], by simp [hl], fun i e he => ?_⟩
    by_cases hi : i < n
    · rw [List.getElem?_append_left (by omega)] at he
      exact hr i e he
    · rw [List.getElem?_append_right (by omega), hl] at he
      have : i - n = 0 := by
        have := (List.getElem?_eq_some_iff.1 he).1
        simp at this
        omega
      rw [this] at he
      obtain rfl : d = e := by simpa using he
      obtain rfl : i = n := by omega
      exact hd
theorem cut_at (cs : List Value) (o k : Nat) : cs.drop o = (cs.drop o).take k ++ cs.drop (o + k) := by
  rw [← List.drop_drop, List.take_append_drop]
section
variable {H : Type} {enc : TypeId × Value → H} {w : World} {base : Nat} {spare : Nat → Bool} {held : Bool}
theorem bulk_one {H : Type} (d : DataW H) : 1 ≤ Rows.uptoBulk d := by
  cases d with
  | lit l => cases l <;> simp [Rows.uptoBulk]
  | nil => simp [Rows.uptoBulk]
  | ptr d => simp [Rows.uptoBulk]
  | slice elems spare => simp [Rows.uptoBulk]
  | agg parts => simp [Rows.uptoBulk]
  | iface t d => simp [Rows.uptoBulk]
  | map entries => simp [Rows.uptoBulk]
  | held h => simp [Rows.uptoBulk]
theorem bulk_sum {α H : Type} {m : α → Nat} : ∀ (l : List α) (ys : List (DataW H × List MemPlace)), l.length = ys.length → (∀ (i : Nat) (d : α), l[i]? = some d → ∃ y : DataW H × List MemPlace, ys[i]? = some y ∧ m d ≤ Rows.uptoBulk y.1) → (l.map m).sum ≤ Rows.uptoBulkAll (ys.map (·.1)) ∧ l.length ≤ Rows.uptoBulkAll (ys.map (·.1))
  | [], ys, _, _ => by simp
  | d :: r, [], h, _ => by simp at h
  | d :: r, y :: ys, h, hm => by
    obtain ⟨y', e, h0⟩ := hm 0 d rfl
    obtain rfl : y = y' := by simpa using e
    have ih := bulk_sum r ys (by simpa using h) (fun i d hd => by simpa using hm (i + 1) d (by simpa using hd))
    have := bulk_one y.1
    simp only [List.map_cons, List.sum_cons, Rows.uptoBulkAll, List.length_cons]
    omega
theorem bulk_part {H : Type} : ∀ (l : List (DataW H × List MemPlace)) (i : Nat) (y : DataW H × List MemPlace), l[i]? = some y → Rows.uptoBulk y.1 ≤ Rows.uptoBulkAll (l.map (·.1))
  | [], i, y, h => by simp at h
  | x :: r, 0, y, h => by
    obtain rfl : x = y := by simpa using h
    simp only [List.map_cons, Rows.uptoBulkAll]; omega
  | x :: r, i + 1, y, h => by
    have := bulk_part r i y (by simpa using h)
    simp only [List.map_cons, Rows.uptoBulkAll]; omega
theorem trod_tx {fuel : Nat} {cs : List Value} {x : DataW H × List MemPlace} (h : DataW.trod enc Try.prog w base spare held fuel 9 cs = some x) (hb : Rows.uptoBulk x.1 ≤ bigN) : ∃ s : List UInt8, cs = [txV s] ∧ s.length ≤ bigN := by
  obtain ⟨s, rfl, rfl, _⟩ := DataW.trod_string Try.underlying9 h
  refine ⟨s.data.toList, rfl, ?_⟩
  simp only [Rows.uptoBulk] at hb
  omega
/-- A slice that was read: its elements as data. -/
theorem trod_sl {α : Type} {t e : TypeId} {k fuel : Nat} {cs : List Value} {x : DataW H × List MemPlace} {P : α → List Value → Prop} {m : α → Nat} (ht : Try.prog.underlying t = some (.slice e)) (hk : Try.prog.cellsOf e = k) (hk0 : 0 < k)
    (h : DataW.trod enc Try.prog w base spare held fuel t cs = some x) (hb : Rows.uptoBulk x.1 ≤ bigN)
    (he : ∀ n, n < fuel → ∀ (cs : List Value) (y : DataW H × List MemPlace), DataW.trod enc Try.prog w base spare held n e cs = some y → Rows.uptoBulk y.1 ≤ bigN → ∃ d, P d cs ∧ m d ≤ Rows.uptoBulk y.1) :
    ∃ (ao : Option Addr) (c : Nat) (l : List α), cs = [.slice ao l.length c] ∧ SlIs (· < w.heap.size) w k P ao l ∧ (l.map m).sum + 1 ≤ Rows.uptoBulk x.1 ∧ l.length + 1 ≤ Rows.uptoBulk x.1 := by
  rcases DataW.trod_slice ht h with ⟨rfl, rfl⟩ | ⟨a, len, cap, elems, rest, n, hfu, rfl, rfl, hbs, hlc, hcm, hlen, hel, _, _⟩
  · exact ⟨none, 0, [], rfl, slIs_nil _ _ _ _ _, by simp [Rows.uptoBulk], by simp [Rows.uptoBulk]⟩
  · simp only [Rows.uptoBulk] at hb
    obtain ⟨l, hl, hr⟩ := list_of (R := fun i d => ∃ y cs', elems[i]? = some y ∧ w.cells? base (a.add (i * k)) k = some cs' ∧ P d cs' ∧ m d ≤ Rows.uptoBulk y.1) len (fun i hi => by
      have h1 := hel i hi
      obtain ⟨y, hy⟩ : ∃ y, elems[i]? = some y := ⟨_, List.getElem?_eq_getElem (by omega)⟩
      rw [hy, hk] at h1
      obtain ⟨cs', hc, ht'⟩ := Option.bind_eq_some_iff.1 h1
      have h2 := bulk_part elems i y hy
      obtain ⟨d, hd, hm⟩ := he n (by omega) cs' y ht' (by omega)
      exact ⟨d, y, cs', hy, hc, hd, hm⟩)
    have hs := bulk_sum (m := m) l elems (by omega) (fun i d hd => by
      obtain ⟨y, cs', h1, _, _, h4⟩ := hr i d hd
      exact ⟨y, h1, h4⟩)
    refine ⟨some a, cap, l, by rw [hl], ⟨by omega, ?_⟩, by simp only [Rows.uptoBulk]; omega, by simp only [Rows.uptoBulk]; omega⟩
    by_cases hn : l = []
    · exact .inl hn
    · right
      obtain ⟨d0, hd0⟩ : ∃ d, l[0]? = some d := ⟨_, List.getElem?_eq_getElem (List.length_pos_iff.2 hn)⟩
      obtain ⟨y, cs', _, hc, _, _⟩ := hr 0 d0 hd0
      obtain ⟨_, hlen0, hcell⟩ := World.cells?_some hc
      have hsp : a.spot = none := by
        obtain ⟨v0, hv0⟩ : ∃ v, cs'[0]? = some v := ⟨_, List.getElem?_eq_getElem (by omega)⟩
        have h1 : w.cell? ((a.add (0 * k)).add 0) = some v0 := by rw [hcell 0 (by omega)]; exact hv0
        have hs0 := World.cell?_spot h1
        rw [Deep.add_add] at hs0
        unfold Addr.add at hs0
        simpa using hs0
      obtain ⟨b, o, sp⟩ := a
      simp only at hsp
      subst hsp
      have hrow : ∀ j d, l[j]? = some d → ∃ cs, cs.length = k ∧ w.rangeAt b (o + j * k) cs ∧ P d cs := by
        intro j d hd
        obtain ⟨y, cs', _, hc, hp, _⟩ := hr j d hd
        obtain ⟨_, hlen', hcell'⟩ := World.cells?_some hc
        refine ⟨cs', hlen', fun i v hi => ?_, hp⟩
        have hik : i < k := by have := (List.getElem?_eq_some_iff.1 hi).1; omega
        have h1 := hcell' i hik
        rw [Deep.add_add, Addr.add_lit] at h1
        rw [Nat.add_assoc, h1]
        exact hi
      refine ⟨b, o, rfl, ?_, rowIs_mk hrow⟩
      obtain ⟨cs2, hl2, hr2, _⟩ := hrow 0 d0 hd0
      obtain ⟨v0, hv0⟩ : ∃ v, cs2[0]? = some v := ⟨_, List.getElem?_eq_getElem (by omega)⟩
      exact block_lt_of_cell (hr2 0 v0 hv0)
theorem cells_Pl : Try.prog.cellsOf 39 = 2 := by kernel_rfl
theorem cells_Opr : Try.prog.cellsOf 41 = 4 := by kernel_rfl
theorem cells_Val : Try.prog.cellsOf 44 = 15 := by kernel_rfl
theorem cells_Ty : Try.prog.cellsOf 33 = 4 := by kernel_rfl
theorem cells_St : Try.prog.cellsOf 46 = 32 := by kernel_rfl
theorem cells_Fld : Try.prog.cellsOf 50 = 6 := by kernel_rfl
theorem cells_Str : Try.prog.cellsOf 48 = 5 := by kernel_rfl
theorem cells_Lif : Try.prog.cellsOf 75 = 2 := by kernel_rfl
theorem cells_Fun : Try.prog.cellsOf 36 = 10 := by kernel_rfl
theorem cells_Cr : Try.prog.cellsOf 25 = 2 := by kernel_rfl
theorem cells_int : Try.prog.cellsOf 3 = 1 := by kernel_rfl
theorem cells_bool : Try.prog.cellsOf 4 = 1 := by kernel_rfl
theorem cells_str : Try.prog.cellsOf 9 = 1 := by kernel_rfl
theorem cells_sTx : Try.prog.cellsOf 30 = 1 := by kernel_rfl
theorem cells_sOpr : Try.prog.cellsOf 42 = 1 := by kernel_rfl
theorem cells_sTy : Try.prog.cellsOf 31 = 1 := by kernel_rfl
theorem cells_sSt : Try.prog.cellsOf 34 = 1 := by kernel_rfl
theorem cells_sFld : Try.prog.cellsOf 29 = 1 := by kernel_rfl
theorem cells_sStr : Try.prog.cellsOf 22 = 1 := by kernel_rfl
theorem cells_sLif : Try.prog.cellsOf 28 = 1 := by kernel_rfl
theorem cells_sFun : Try.prog.cellsOf 23 = 1 := by kernel_rfl
set_option linter.unusedSimpArgs false in
theorem trod_Pl (fuel : Nat) (cs : List Value) (x : DataW H × List MemPlace) (h : DataW.trod enc Try.prog w base spare held fuel 39 cs = some x) (hb : Rows.uptoBulk x.1 ≤ bigN) : ∃ d : PlD, PlIs (· < w.heap.size) w d cs := by
  obtain ⟨xs, n, hfu, rfl, hl, hlen, hf⟩ := DataW.trod_struct Try.underlying39 h
  rw [cells_Pl] at hl
  obtain ⟨y0, y1, rfl⟩ : ∃ y0 y1, xs = [y0, y1] := by
    match xs, hlen with
    | [y0, y1], _ => exact ⟨y0, y1, rfl⟩
  simp only [List.map_cons, List.map_nil, Rows.uptoBulk, Rows.uptoBulkAll] at hb
  have f0 : DataW.trod enc Try.prog w base spare held n 9 ((cs.drop 0).take 1) = some y0 := by have h := hf 0 _ rfl; exact (cells_str ▸ h : _)
  have f1 : DataW.trod enc Try.prog w base spare held n 30 ((cs.drop 1).take 1) = some y1 := by have h := hf 1 _ rfl; exact (cells_sTx ▸ h : _)
  have hcut : cs = (cs.drop 0).take 1 ++ ((cs.drop 1).take 1 ++ ([])) := by
    have d0 := List.drop_zero (l := cs)
    have c0 := cut_at cs 0 1
    have c1 := cut_at cs 1 1
    have ce : cs.drop 2 = [] := List.drop_eq_nil_of_le (by omega)
    simp only [Nat.zero_add, Nat.reduceAdd] at c0 c1
    exact d0.symm.trans (c0.trans (congrArg (fun r => (cs.drop 0).take 1 ++ r) (c1.trans (congrArg (fun r => (cs.drop 1).take 1 ++ r) ce))))
  generalize (cs.drop 0).take 1 = p0 at *
  generalize (cs.drop 1).take 1 = p1 at *
  obtain ⟨v0, rfl, hv0⟩ := trod_tx f0 (by omega)
  obtain ⟨a1, c1, v1, rfl, hv1, hm1, hn1⟩ := trod_sl (P := TxIs) (m := (fun _ => 0)) Try.underlying30 cells_str (by decide) f1 (by omega) (fun n _ cs y hy hb => by obtain ⟨s, e, hs⟩ := trod_tx hy hb; exact ⟨s, ⟨e, hs⟩, Nat.zero_le _⟩)
  have hcs : cs = [txV v0, .slice a1 v1.length c1] := by rw [hcut]; simp
  exact ⟨⟨v0, v1⟩, ⟨a1, c1, hcs, hv0, hv1⟩⟩
set_option linter.unusedSimpArgs false in
theorem trod_Opr (fuel : Nat) (cs : List Value) (x : DataW H × List MemPlace) (h : DataW.trod enc Try.prog w base spare held fuel 41 cs = some x) (hb : Rows.uptoBulk x.1 ≤ bigN) : ∃ d : OprD, OprIs (· < w.heap.size) w d cs := by
  obtain ⟨xs, n, hfu, rfl, hl, hlen, hf⟩ := DataW.trod_struct Try.underlying41 h
  rw [cells_Opr] at hl
  obtain ⟨y0, y1, y2, rfl⟩ : ∃ y0 y1 y2, xs = [y0, y1, y2] := by
    match xs, hlen with
    | [y0, y1, y2], _ => exact ⟨y0, y1, y2, rfl⟩
  simp only [List.map_cons, List.map_nil, Rows.uptoBulk, Rows.uptoBulkAll] at hb
  have f0 : DataW.trod enc Try.prog w base spare held n 3 ((cs.drop 0).take 1) = some y0 := by have h := hf 0 _ rfl; exact (cells_int ▸ h : _)
  have f1 : DataW.trod enc Try.prog w base spare held n 3 ((cs.drop 1).take 1) = some y1 := by have h := hf 1 _ rfl; exact (cells_int ▸ h : _)
  have f2 : DataW.trod enc Try.prog w base spare held n 39 ((cs.drop 2).take 2) = some y2 := by have h := hf 2 _ rfl; exact (cells_Pl ▸ h : _)
  have hcut : cs = (cs.drop 0).take 1 ++ ((cs.drop 1).take 1 ++ ((cs.drop 2).take 2 ++ ([]))) := by
    have d0 := List.drop_zero (l := cs)
    have c0 := cut_at cs 0 1
    have c1 := cut_at cs 1 1
    have c2 := cut_at cs 2 2
    have ce : cs.drop 4 = [] := List.drop_eq_nil_of_le (by omega)
    simp only [Nat.zero_add, Nat.reduceAdd] at c0 c1 c2
    exact d0.symm.trans (c0.trans (congrArg (fun r => (cs.drop 0).take 1 ++ r) (c1.trans (congrArg (fun r => (cs.drop 1).take 1 ++ r) (c2.trans (congrArg (fun r => (cs.drop 2).take 2 ++ r) ce))))))
  generalize (cs.drop 0).take 1 = p0 at *
  generalize (cs.drop 1).take 1 = p1 at *
  generalize (cs.drop 2).take 2 = p2 at *
  obtain ⟨v0, rfl, _, _⟩ := DataW.trod_int Try.underlying3 f0
  obtain ⟨v1, rfl, _, _⟩ := DataW.trod_int Try.underlying3 f1
  obtain ⟨v2, hv2⟩ := trod_Pl n p2 y2 f2 (by omega)
  have hcs : cs = [.int .i64 v0, .int .i64 v1] ++ p2 := by rw [hcut]; simp
  exact ⟨⟨v0, v1, v2⟩, ⟨p2, hcs, hv2⟩⟩
set_option linter.unusedSimpArgs false in
theorem trod_Val (fuel : Nat) (cs : List Value) (x : DataW H × List MemPlace) (h : DataW.trod enc Try.prog w base spare held fuel 44 cs = some x) (hb : Rows.uptoBulk x.1 ≤ bigN) : ∃ d : ValD, ValIs (· < w.heap.size) w d cs := by
  obtain ⟨xs, n, hfu, rfl, hl, hlen, hf⟩ := DataW.trod_struct Try.underlying44 h
  rw [cells_Val] at hl
  obtain ⟨y0, y1, y2, y3, y4, y5, y6, y7, rfl⟩ : ∃ y0 y1 y2 y3 y4 y5 y6 y7, xs = [y0, y1, y2, y3, y4, y5, y6, y7] := by
    match xs, hlen with
    | [y0, y1, y2, y3, y4, y5, y6, y7], _ => exact ⟨y0, y1, y2, y3, y4, y5, y6, y7, rfl⟩
  simp only [List.map_cons, List.map_nil, Rows.uptoBulk, Rows.uptoBulkAll] at hb
  have f0 : DataW.trod enc Try.prog w base spare held n 3 ((cs.drop 0).take 1) = some y0 := by have h := hf 0 _ rfl; exact (cells_int ▸ h : _)
  have f1 : DataW.trod enc Try.prog w base spare held n 41 ((cs.drop 1).take 4) = some y1 := by have h := hf 1 _ rfl; exact (cells_Opr ▸ h : _)
  have f2 : DataW.trod enc Try.prog w base spare held n 41 ((cs.drop 5).take 4) = some y2 := by have h := hf 2 _ rfl; exact (cells_Opr ▸ h : _)
  have f3 : DataW.trod enc Try.prog w base spare held n 3 ((cs.drop 9).take 1) = some y3 := by have h := hf 3 _ rfl; exact (cells_int ▸ h : _)
  have f4 : DataW.trod enc Try.prog w base spare held n 39 ((cs.drop 10).take 2) = some y4 := by have h := hf 4 _ rfl; exact (cells_Pl ▸ h : _)
  have f5 : DataW.trod enc Try.prog w base spare held n 9 ((cs.drop 12).take 1) = some y5 := by have h := hf 5 _ rfl; exact (cells_str ▸ h : _)
  have f6 : DataW.trod enc Try.prog w base spare held n 30 ((cs.drop 13).take 1) = some y6 := by have h := hf 6 _ rfl; exact (cells_sTx ▸ h : _)
  have f7 : DataW.trod enc Try.prog w base spare held n 42 ((cs.drop 14).take 1) = some y7 := by have h := hf 7 _ rfl; exact (cells_sOpr ▸ h : _)
  have hcut : cs = (cs.drop 0).take 1 ++ ((cs.drop 1).take 4 ++ ((cs.drop 5).take 4 ++ ((cs.drop 9).take 1 ++ ((cs.drop 10).take 2 ++ ((cs.drop 12).take 1 ++ ((cs.drop 13).take 1 ++ ((cs.drop 14).take 1 ++ ([])))))))) := by
    have d0 := List.drop_zero (l := cs)
    have c0 := cut_at cs 0 1
    have c1 := cut_at cs 1 4
    have c2 := cut_at cs 5 4
    have c3 := cut_at cs 9 1
    have c4 := cut_at cs 10 2
    have c5 := cut_at cs 12 1
    have c6 := cut_at cs 13 1
    have c7 := cut_at cs 14 1
    have ce : cs.drop 15 = [] := List.drop_eq_nil_of_le (by omega)
    simp only [Nat.zero_add, Nat.reduceAdd] at c0 c1 c2 c3 c4 c5 c6 c7
    exact d0.symm.trans (c0.trans (congrArg (fun r => (cs.drop 0).take 1 ++ r) (c1.trans (congrArg (fun r => (cs.drop 1).take 4 ++ r) (c2.trans (congrArg (fun r => (cs.drop 5).take 4 ++ r) (c3.trans (congrArg (fun r => (cs.drop 9).take 1 ++ r) (c4.trans (congrArg (fun r => (cs.drop 10).take 2 ++ r) (c5.trans (congrArg (fun r => (cs.drop 12).take 1 ++ r) (c6.trans (congrArg (fun r => (cs.drop 13).take 1 ++ r) (c7.trans (congrArg (fun r => (cs.drop 14).take 1 ++ r) ce))))))))))))))))
  generalize (cs.drop 0).take 1 = p0 at *
  generalize (cs.drop 1).take 4 = p1 at *
  generalize (cs.drop 5).take 4 = p2 at *
  generalize (cs.drop 9).take 1 = p3 at *
  generalize (cs.drop 10).take 2 = p4 at *
  generalize (cs.drop 12).take 1 = p5 at *
  generalize (cs.drop 13).take 1 = p6 at *
  generalize (cs.drop 14).take 1 = p7 at *
  obtain ⟨v0, rfl, _, _⟩ := DataW.trod_int Try.underlying3 f0
  obtain ⟨v1, hv1⟩ := trod_Opr n p1 y1 f1 (by omega)
  obtain ⟨v2, hv2⟩ := trod_Opr n p2 y2 f2 (by omega)
  obtain ⟨v3, rfl, _, _⟩ := DataW.trod_int Try.underlying3 f3
  obtain ⟨v4, hv4⟩ := trod_Pl n p4 y4 f4 (by omega)
  obtain ⟨v5, rfl, hv5⟩ := trod_tx f5 (by omega)
  obtain ⟨a6, c6, v6, rfl, hv6, hm6, hn6⟩ := trod_sl (P := TxIs) (m := (fun _ => 0)) Try.underlying30 cells_str (by decide) f6 (by omega) (fun n _ cs y hy hb => by obtain ⟨s, e, hs⟩ := trod_tx hy hb; exact ⟨s, ⟨e, hs⟩, Nat.zero_le _⟩)
  obtain ⟨a7, c7, v7, rfl, hv7, hm7, hn7⟩ := trod_sl (P := (OprIs (· < w.heap.size) w)) (m := (fun _ => 0)) Try.underlying42 cells_Opr (by decide) f7 (by omega) (fun n2 _ cs y hy hb => by obtain ⟨d, hd⟩ := trod_Opr n2 cs y hy hb; exact ⟨d, hd, Nat.zero_le _⟩)
  have hcs : cs = [.int .i64 v0] ++ p1 ++ p2 ++ [.int .i64 v3] ++ p4 ++ [txV v5, .slice a6 v6.length c6, .slice a7 v7.length c7] := by rw [hcut]; simp
  exact ⟨⟨v0, v1, v2, v3, v4, v5, v6, v7⟩, ⟨p1, p2, p4, a6, c6, a7, c7, hcs, hv1, hv2, hv4, hv5, hv6, hv7⟩⟩
set_option linter.unusedSimpArgs false in
theorem trod_Ty : ∀ (fuel : Nat) (cs : List Value) (x : DataW H × List MemPlace), DataW.trod enc Try.prog w base spare held fuel 33 cs = some x → Rows.uptoBulk x.1 ≤ bigN → ∃ d : TyD, TyIs (· < w.heap.size) w d cs := by
  intro fuel
  induction fuel using Nat.strongRecOn with
  | _ fuel ih =>
  intro cs x h hb
  obtain ⟨xs, n, hfu, rfl, hl, hlen, hf⟩ := DataW.trod_struct Try.underlying33 h
  rw [cells_Ty] at hl
  obtain ⟨y0, y1, y2, y3, rfl⟩ : ∃ y0 y1 y2 y3, xs = [y0, y1, y2, y3] := by
    match xs, hlen with
    | [y0, y1, y2, y3], _ => exact ⟨y0, y1, y2, y3, rfl⟩
  simp only [List.map_cons, List.map_nil, Rows.uptoBulk, Rows.uptoBulkAll] at hb
  have f0 : DataW.trod enc Try.prog w base spare held n 3 ((cs.drop 0).take 1) = some y0 := by have h := hf 0 _ rfl; exact (cells_int ▸ h : _)
  have f1 : DataW.trod enc Try.prog w base spare held n 9 ((cs.drop 1).take 1) = some y1 := by have h := hf 1 _ rfl; exact (cells_str ▸ h : _)
  have f2 : DataW.trod enc Try.prog w base spare held n 30 ((cs.drop 2).take 1) = some y2 := by have h := hf 2 _ rfl; exact (cells_sTx ▸ h : _)
  have f3 : DataW.trod enc Try.prog w base spare held n 31 ((cs.drop 3).take 1) = some y3 := by have h := hf 3 _ rfl; exact (cells_sTy ▸ h : _)
  have hcut : cs = (cs.drop 0).take 1 ++ ((cs.drop 1).take 1 ++ ((cs.drop 2).take 1 ++ ((cs.drop 3).take 1 ++ ([])))) := by
    have d0 := List.drop_zero (l := cs)
    have c0 := cut_at cs 0 1
    have c1 := cut_at cs 1 1
    have c2 := cut_at cs 2 1
    have c3 := cut_at cs 3 1
    have ce : cs.drop 4 = [] := List.drop_eq_nil_of_le (by omega)
    simp only [Nat.zero_add, Nat.reduceAdd] at c0 c1 c2 c3
    exact d0.symm.trans (c0.trans (congrArg (fun r => (cs.drop 0).take 1 ++ r) (c1.trans (congrArg (fun r => (cs.drop 1).take 1 ++ r) (c2.trans (congrArg (fun r => (cs.drop 2).take 1 ++ r) (c3.trans (congrArg (fun r => (cs.drop 3).take 1 ++ r) ce))))))))
  generalize (cs.drop 0).take 1 = p0 at *
  generalize (cs.drop 1).take 1 = p1 at *
  generalize (cs.drop 2).take 1 = p2 at *
  generalize (cs.drop 3).take 1 = p3 at *
  obtain ⟨v0, rfl, _, _⟩ := DataW.trod_int Try.underlying3 f0
  obtain ⟨v1, rfl, hv1⟩ := trod_tx f1 (by omega)
  obtain ⟨a2, c2, v2, rfl, hv2, hm2, hn2⟩ := trod_sl (P := TxIs) (m := (fun _ => 0)) Try.underlying30 cells_str (by decide) f2 (by omega) (fun n _ cs y hy hb => by obtain ⟨s, e, hs⟩ := trod_tx hy hb; exact ⟨s, ⟨e, hs⟩, Nat.zero_le _⟩)
  obtain ⟨a3, c3, v3, rfl, hv3, hm3, hn3⟩ := trod_sl (P := (TyIs (· < w.heap.size) w)) (m := (fun _ => 0)) Try.underlying31 cells_Ty (by decide) f3 (by omega) (fun n2 hn cs y hy hb => by obtain ⟨d, hd⟩ := ih n2 (by omega) cs y hy hb; exact ⟨d, hd, Nat.zero_le _⟩)
  have hcs : cs = [.int .i64 v0, txV v1, .slice a2 v2.length c2, .slice a3 v3.length c3] := by rw [hcut]; simp
  refine ⟨.mk v0 v1 v2 v3, ?_⟩
  rw [tyIs_iff]
  exact ⟨a2, c2, a3, c3, hcs, hv1, hv2, hv3⟩
set_option linter.unusedSimpArgs false in
theorem trod_St : ∀ (fuel : Nat) (cs : List Value) (x : DataW H × List MemPlace), DataW.trod enc Try.prog w base spare held fuel 46 cs = some x → Rows.uptoBulk x.1 ≤ bigN → ∃ d : StD, StIs (· < w.heap.size) w d cs ∧ 1 + cntS d ≤ Rows.uptoBulk x.1 := by
  intro fuel
  induction fuel using Nat.strongRecOn with
  | _ fuel ih =>
  intro cs x h hb
  obtain ⟨xs, n, hfu, rfl, hl, hlen, hf⟩ := DataW.trod_struct Try.underlying46 h
  rw [cells_St] at hl
  obtain ⟨y0, y1, y2, y3, y4, y5, y6, y7, y8, y9, y10, rfl⟩ : ∃ y0 y1 y2 y3 y4 y5 y6 y7 y8 y9 y10, xs = [y0, y1, y2, y3, y4, y5, y6, y7, y8, y9, y10] := by
    match xs, hlen with
    | [y0, y1, y2, y3, y4, y5, y6, y7, y8, y9, y10], _ => exact ⟨y0, y1, y2, y3, y4, y5, y6, y7, y8, y9, y10, rfl⟩
  simp only [List.map_cons, List.map_nil, Rows.uptoBulk, Rows.uptoBulkAll] at hb ⊢
  have f0 : DataW.trod enc Try.prog w base spare held n 3 ((cs.drop 0).take 1) = some y0 := by have h := hf 0 _ rfl; exact (cells_int ▸ h : _)
  have f1 : DataW.trod enc Try.prog w base spare held n 3 ((cs.drop 1).take 1) = some y1 := by have h := hf 1 _ rfl; exact (cells_int ▸ h : _)
  have f2 : DataW.trod enc Try.prog w base spare held n 4 ((cs.drop 2).take 1) = some y2 := by have h := hf 2 _ rfl; exact (cells_bool ▸ h : _)
  have f3 : DataW.trod enc Try.prog w base spare held n 9 ((cs.drop 3).take 1) = some y3 := by have h := hf 3 _ rfl; exact (cells_str ▸ h : _)
  have f4 : DataW.trod enc Try.prog w base spare held n 33 ((cs.drop 4).take 4) = some y4 := by have h := hf 4 _ rfl; exact (cells_Ty ▸ h : _)
  have f5 : DataW.trod enc Try.prog w base spare held n 4 ((cs.drop 8).take 1) = some y5 := by have h := hf 5 _ rfl; exact (cells_bool ▸ h : _)
  have f6 : DataW.trod enc Try.prog w base spare held n 39 ((cs.drop 9).take 2) = some y6 := by have h := hf 6 _ rfl; exact (cells_Pl ▸ h : _)
  have f7 : DataW.trod enc Try.prog w base spare held n 44 ((cs.drop 11).take 15) = some y7 := by have h := hf 7 _ rfl; exact (cells_Val ▸ h : _)
  have f8 : DataW.trod enc Try.prog w base spare held n 41 ((cs.drop 26).take 4) = some y8 := by have h := hf 8 _ rfl; exact (cells_Opr ▸ h : _)
  have f9 : DataW.trod enc Try.prog w base spare held n 34 ((cs.drop 30).take 1) = some y9 := by have h := hf 9 _ rfl; exact (cells_sSt ▸ h : _)
  have f10 : DataW.trod enc Try.prog w base spare held n 34 ((cs.drop 31).take 1) = some y10 := by have h := hf 10 _ rfl; exact (cells_sSt ▸ h : _)
  have hcut : cs = (cs.drop 0).take 1 ++ ((cs.drop 1).take 1 ++ ((cs.drop 2).take 1 ++ ((cs.drop 3).take 1 ++ ((cs.drop 4).take 4 ++ ((cs.drop 8).take 1 ++ ((cs.drop 9).take 2 ++ ((cs.drop 11).take 15 ++ ((cs.drop 26).take 4 ++ ((cs.drop 30).take 1 ++ ((cs.drop 31).take 1 ++ ([]))))))))))) := by
    have d0 := List.drop_zero (l := cs)
    have c0 := cut_at cs 0 1
    have c1 := cut_at cs 1 1
    have c2 := cut_at cs 2 1
    have c3 := cut_at cs 3 1
    have c4 := cut_at cs 4 4
    have c5 := cut_at cs 8 1
    have c6 := cut_at cs 9 2
    have c7 := cut_at cs 11 15
    have c8 := cut_at cs 26 4
    have c9 := cut_at cs 30 1
    have c10 := cut_at cs 31 1
    have ce : cs.drop 32 = [] := List.drop_eq_nil_of_le (by omega)
    simp only [Nat.zero_add, Nat.reduceAdd] at c0 c1 c2 c3 c4 c5 c6 c7 c8 c9 c10
    exact d0.symm.trans (c0.trans (congrArg (fun r => (cs.drop 0).take 1 ++ r) (c1.trans (congrArg (fun r => (cs.drop 1).take 1 ++ r) (c2.trans (congrArg (fun r => (cs.drop 2).take 1 ++ r) (c3.trans (congrArg (fun r => (cs.drop 3).take 1 ++ r) (c4.trans (congrArg (fun r => (cs.drop 4).take 4 ++ r) (c5.trans (congrArg (fun r => (cs.drop 8).take 1 ++ r) (c6.trans (congrArg (fun r => (cs.drop 9).take 2 ++ r) (c7.trans (congrArg (fun r => (cs.drop 11).take 15 ++ r) (c8.trans (congrArg (fun r => (cs.drop 26).take 4 ++ r) (c9.trans (congrArg (fun r => (cs.drop 30).take 1 ++ r) (c10.trans (congrArg (fun r => (cs.drop 31).take 1 ++ r) ce))))))))))))))))))))))
  generalize (cs.drop 0).take 1 = p0 at *
  generalize (cs.drop 1).take 1 = p1 at *
  generalize (cs.drop 2).take 1 = p2 at *
  generalize (cs.drop 3).take 1 = p3 at *
  generalize (cs.drop 4).take 4 = p4 at *
  generalize (cs.drop 8).take 1 = p5 at *
  generalize (cs.drop 9).take 2 = p6 at *
  generalize (cs.drop 11).take 15 = p7 at *
  generalize (cs.drop 26).take 4 = p8 at *
  generalize (cs.drop 30).take 1 = p9 at *
  generalize (cs.drop 31).take 1 = p10 at *
  obtain ⟨v0, rfl, _, _⟩ := DataW.trod_int Try.underlying3 f0
  obtain ⟨v1, rfl, _, _⟩ := DataW.trod_int Try.underlying3 f1
  obtain ⟨v2, rfl, _⟩ := DataW.trod_bool Try.underlying4 f2
  obtain ⟨v3, rfl, hv3⟩ := trod_tx f3 (by omega)
  obtain ⟨v4, hv4⟩ := trod_Ty n p4 y4 f4 (by omega)
  obtain ⟨v5, rfl, _⟩ := DataW.trod_bool Try.underlying4 f5
  obtain ⟨v6, hv6⟩ := trod_Pl n p6 y6 f6 (by omega)
  obtain ⟨v7, hv7⟩ := trod_Val n p7 y7 f7 (by omega)
  obtain ⟨v8, hv8⟩ := trod_Opr n p8 y8 f8 (by omega)
  obtain ⟨a9, c9, v9, rfl, hv9, hm9, hn9⟩ := trod_sl (P := (StIs (· < w.heap.size) w)) (m := (fun d => 1 + cntS d)) Try.underlying34 cells_St (by decide) f9 (by omega) (fun n2 hn cs y hy hb => by obtain ⟨d, hd, hm⟩ := ih n2 (by omega) cs y hy hb; exact ⟨d, hd, hm⟩)
  obtain ⟨a10, c10, v10, rfl, hv10, hm10, hn10⟩ := trod_sl (P := (StIs (· < w.heap.size) w)) (m := (fun d => 1 + cntS d)) Try.underlying34 cells_St (by decide) f10 (by omega) (fun n2 hn cs y hy hb => by obtain ⟨d, hd, hm⟩ := ih n2 (by omega) cs y hy hb; exact ⟨d, hd, hm⟩)
  have hcs : cs = [.int .i64 v0, .int .i64 v1, .bool v2, txV v3] ++ p4 ++ [.bool v5] ++ p6 ++ p7 ++ p8 ++ [.slice a9 v9.length c9, .slice a10 v10.length c10] := by rw [hcut]; simp
  refine ⟨.mk v0 v1 v2 v3 v4 v5 v6 v7 v8 v9 v10, ?_, ?_⟩
  · rw [stIs_iff]
    exact ⟨p4, p6, p7, p8, a9, c9, a10, c10, hcs, hv3, hv4, hv6, hv7, hv8, hv9, hv10⟩
  · rw [cntS_mk]
    simp only [StD.thn, StD.els, cntL_map]
    omega
set_option linter.unusedSimpArgs false in
theorem trod_Fld (fuel : Nat) (cs : List Value) (x : DataW H × List MemPlace) (h : DataW.trod enc Try.prog w base spare held fuel 50 cs = some x) (hb : Rows.uptoBulk x.1 ≤ bigN) : ∃ d : FldD, FldIs (· < w.heap.size) w d cs := by
  obtain ⟨xs, n, hfu, rfl, hl, hlen, hf⟩ := DataW.trod_struct Try.underlying50 h
  rw [cells_Fld] at hl
  obtain ⟨y0, y1, y2, rfl⟩ : ∃ y0 y1 y2, xs = [y0, y1, y2] := by
    match xs, hlen with
    | [y0, y1, y2], _ => exact ⟨y0, y1, y2, rfl⟩
  simp only [List.map_cons, List.map_nil, Rows.uptoBulk, Rows.uptoBulkAll] at hb
  have f0 : DataW.trod enc Try.prog w base spare held n 4 ((cs.drop 0).take 1) = some y0 := by have h := hf 0 _ rfl; exact (cells_bool ▸ h : _)
  have f1 : DataW.trod enc Try.prog w base spare held n 9 ((cs.drop 1).take 1) = some y1 := by have h := hf 1 _ rfl; exact (cells_str ▸ h : _)
  have f2 : DataW.trod enc Try.prog w base spare held n 33 ((cs.drop 2).take 4) = some y2 := by have h := hf 2 _ rfl; exact (cells_Ty ▸ h : _)
  have hcut : cs = (cs.drop 0).take 1 ++ ((cs.drop 1).take 1 ++ ((cs.drop 2).take 4 ++ ([]))) := by
    have d0 := List.drop_zero (l := cs)
    have c0 := cut_at cs 0 1
    have c1 := cut_at cs 1 1
    have c2 := cut_at cs 2 4
    have ce : cs.drop 6 = [] := List.drop_eq_nil_of_le (by omega)
    simp only [Nat.zero_add, Nat.reduceAdd] at c0 c1 c2
    exact d0.symm.trans (c0.trans (congrArg (fun r => (cs.drop 0).take 1 ++ r) (c1.trans (congrArg (fun r => (cs.drop 1).take 1 ++ r) (c2.trans (congrArg (fun r => (cs.drop 2).take 4 ++ r) ce))))))
  generalize (cs.drop 0).take 1 = p0 at *
  generalize (cs.drop 1).take 1 = p1 at *
  generalize (cs.drop 2).take 4 = p2 at *
  obtain ⟨v0, rfl, _⟩ := DataW.trod_bool Try.underlying4 f0
  obtain ⟨v1, rfl, hv1⟩ := trod_tx f1 (by omega)
  obtain ⟨v2, hv2⟩ := trod_Ty n p2 y2 f2 (by omega)
  have hcs : cs = [.bool v0, txV v1] ++ p2 := by rw [hcut]; simp
  exact ⟨⟨v0, v1, v2⟩, ⟨p2, hcs, hv1, hv2⟩⟩
set_option linter.unusedSimpArgs false in
theorem trod_Str (fuel : Nat) (cs : List Value) (x : DataW H × List MemPlace) (h : DataW.trod enc Try.prog w base spare held fuel 48 cs = some x) (hb : Rows.uptoBulk x.1 ≤ bigN) : ∃ d : StrD, StrIs (· < w.heap.size) w d cs := by
  obtain ⟨xs, n, hfu, rfl, hl, hlen, hf⟩ := DataW.trod_struct Try.underlying48 h
  rw [cells_Str] at hl
  obtain ⟨y0, y1, y2, y3, y4, rfl⟩ : ∃ y0 y1 y2 y3 y4, xs = [y0, y1, y2, y3, y4] := by
    match xs, hlen with
    | [y0, y1, y2, y3, y4], _ => exact ⟨y0, y1, y2, y3, y4, rfl⟩
  simp only [List.map_cons, List.map_nil, Rows.uptoBulk, Rows.uptoBulkAll] at hb
  have f0 : DataW.trod enc Try.prog w base spare held n 4 ((cs.drop 0).take 1) = some y0 := by have h := hf 0 _ rfl; exact (cells_bool ▸ h : _)
  have f1 : DataW.trod enc Try.prog w base spare held n 9 ((cs.drop 1).take 1) = some y1 := by have h := hf 1 _ rfl; exact (cells_str ▸ h : _)
  have f2 : DataW.trod enc Try.prog w base spare held n 30 ((cs.drop 2).take 1) = some y2 := by have h := hf 2 _ rfl; exact (cells_sTx ▸ h : _)
  have f3 : DataW.trod enc Try.prog w base spare held n 29 ((cs.drop 3).take 1) = some y3 := by have h := hf 3 _ rfl; exact (cells_sFld ▸ h : _)
  have f4 : DataW.trod enc Try.prog w base spare held n 3 ((cs.drop 4).take 1) = some y4 := by have h := hf 4 _ rfl; exact (cells_int ▸ h : _)
  have hcut : cs = (cs.drop 0).take 1 ++ ((cs.drop 1).take 1 ++ ((cs.drop 2).take 1 ++ ((cs.drop 3).take 1 ++ ((cs.drop 4).take 1 ++ ([]))))) := by
    have d0 := List.drop_zero (l := cs)
    have c0 := cut_at cs 0 1
    have c1 := cut_at cs 1 1
    have c2 := cut_at cs 2 1
    have c3 := cut_at cs 3 1
    have c4 := cut_at cs 4 1
    have ce : cs.drop 5 = [] := List.drop_eq_nil_of_le (by omega)
    simp only [Nat.zero_add, Nat.reduceAdd] at c0 c1 c2 c3 c4
    exact d0.symm.trans (c0.trans (congrArg (fun r => (cs.drop 0).take 1 ++ r) (c1.trans (congrArg (fun r => (cs.drop 1).take 1 ++ r) (c2.trans (congrArg (fun r => (cs.drop 2).take 1 ++ r) (c3.trans (congrArg (fun r => (cs.drop 3).take 1 ++ r) (c4.trans (congrArg (fun r => (cs.drop 4).take 1 ++ r) ce))))))))))
  generalize (cs.drop 0).take 1 = p0 at *
  generalize (cs.drop 1).take 1 = p1 at *
  generalize (cs.drop 2).take 1 = p2 at *
  generalize (cs.drop 3).take 1 = p3 at *
  generalize (cs.drop 4).take 1 = p4 at *
  obtain ⟨v0, rfl, _⟩ := DataW.trod_bool Try.underlying4 f0
  obtain ⟨v1, rfl, hv1⟩ := trod_tx f1 (by omega)
  obtain ⟨a2, c2, v2, rfl, hv2, hm2, hn2⟩ := trod_sl (P := TxIs) (m := (fun _ => 0)) Try.underlying30 cells_str (by decide) f2 (by omega) (fun n _ cs y hy hb => by obtain ⟨s, e, hs⟩ := trod_tx hy hb; exact ⟨s, ⟨e, hs⟩, Nat.zero_le _⟩)
  obtain ⟨a3, c3, v3, rfl, hv3, hm3, hn3⟩ := trod_sl (P := (FldIs (· < w.heap.size) w)) (m := (fun _ => 0)) Try.underlying29 cells_Fld (by decide) f3 (by omega) (fun n2 _ cs y hy hb => by obtain ⟨d, hd⟩ := trod_Fld n2 cs y hy hb; exact ⟨d, hd, Nat.zero_le _⟩)
  obtain ⟨v4, rfl, _, _⟩ := DataW.trod_int Try.underlying3 f4
  have hcs : cs = [.bool v0, txV v1, .slice a2 v2.length c2, .slice a3 v3.length c3, .int .i64 v4] := by rw [hcut]; simp
  exact ⟨⟨v0, v1, v2, v3, v4⟩, ⟨a2, c2, a3, c3, hcs, hv1, hv2, hv3⟩⟩
set_option linter.unusedSimpArgs false in
theorem trod_Lif (fuel : Nat) (cs : List Value) (x : DataW H × List MemPlace) (h : DataW.trod enc Try.prog w base spare held fuel 75 cs = some x) (hb : Rows.uptoBulk x.1 ≤ bigN) : ∃ d : LifD, LifIs (· < w.heap.size) w d cs := by
  obtain ⟨xs, n, hfu, rfl, hl, hlen, hf⟩ := DataW.trod_struct Try.underlying75 h
  rw [cells_Lif] at hl
  obtain ⟨y0, y1, rfl⟩ : ∃ y0 y1, xs = [y0, y1] := by
    match xs, hlen with
    | [y0, y1], _ => exact ⟨y0, y1, rfl⟩
  simp only [List.map_cons, List.map_nil, Rows.uptoBulk, Rows.uptoBulkAll] at hb
  have f0 : DataW.trod enc Try.prog w base spare held n 9 ((cs.drop 0).take 1) = some y0 := by have h := hf 0 _ rfl; exact (cells_str ▸ h : _)
  have f1 : DataW.trod enc Try.prog w base spare held n 30 ((cs.drop 1).take 1) = some y1 := by have h := hf 1 _ rfl; exact (cells_sTx ▸ h : _)
  have hcut : cs = (cs.drop 0).take 1 ++ ((cs.drop 1).take 1 ++ ([])) := by
    have d0 := List.drop_zero (l := cs)
    have c0 := cut_at cs 0 1
    have c1 := cut_at cs 1 1
    have ce : cs.drop 2 = [] := List.drop_eq_nil_of_le (by omega)
    simp only [Nat.zero_add, Nat.reduceAdd] at c0 c1
    exact d0.symm.trans (c0.trans (congrArg (fun r => (cs.drop 0).take 1 ++ r) (c1.trans (congrArg (fun r => (cs.drop 1).take 1 ++ r) ce))))
  generalize (cs.drop 0).take 1 = p0 at *
  generalize (cs.drop 1).take 1 = p1 at *
  obtain ⟨v0, rfl, hv0⟩ := trod_tx f0 (by omega)
  obtain ⟨a1, c1, v1, rfl, hv1, hm1, hn1⟩ := trod_sl (P := TxIs) (m := (fun _ => 0)) Try.underlying30 cells_str (by decide) f1 (by omega) (fun n _ cs y hy hb => by obtain ⟨s, e, hs⟩ := trod_tx hy hb; exact ⟨s, ⟨e, hs⟩, Nat.zero_le _⟩)
  have hcs : cs = [txV v0, .slice a1 v1.length c1] := by rw [hcut]; simp
  exact ⟨⟨v0, v1⟩, ⟨a1, c1, hcs, hv0, hv1⟩⟩
set_option linter.unusedSimpArgs false in
theorem trod_Fun (fuel : Nat) (cs : List Value) (x : DataW H × List MemPlace) (h : DataW.trod enc Try.prog w base spare held fuel 36 cs = some x) (hb : Rows.uptoBulk x.1 ≤ bigN) : ∃ d : FunD, FunIs (· < w.heap.size) w d cs ∧ d.params.length + cntL d.body ≤ Rows.uptoBulk x.1 := by
  obtain ⟨xs, n, hfu, rfl, hl, hlen, hf⟩ := DataW.trod_struct Try.underlying36 h
  rw [cells_Fun] at hl
  obtain ⟨y0, y1, y2, y3, y4, y5, y6, rfl⟩ : ∃ y0 y1 y2 y3 y4 y5 y6, xs = [y0, y1, y2, y3, y4, y5, y6] := by
    match xs, hlen with
    | [y0, y1, y2, y3, y4, y5, y6], _ => exact ⟨y0, y1, y2, y3, y4, y5, y6, rfl⟩
  simp only [List.map_cons, List.map_nil, Rows.uptoBulk, Rows.uptoBulkAll] at hb ⊢
  have f0 : DataW.trod enc Try.prog w base spare held n 4 ((cs.drop 0).take 1) = some y0 := by have h := hf 0 _ rfl; exact (cells_bool ▸ h : _)
  have f1 : DataW.trod enc Try.prog w base spare held n 9 ((cs.drop 1).take 1) = some y1 := by have h := hf 1 _ rfl; exact (cells_str ▸ h : _)
  have f2 : DataW.trod enc Try.prog w base spare held n 28 ((cs.drop 2).take 1) = some y2 := by have h := hf 2 _ rfl; exact (cells_sLif ▸ h : _)
  have f3 : DataW.trod enc Try.prog w base spare held n 29 ((cs.drop 3).take 1) = some y3 := by have h := hf 3 _ rfl; exact (cells_sFld ▸ h : _)
  have f4 : DataW.trod enc Try.prog w base spare held n 33 ((cs.drop 4).take 4) = some y4 := by have h := hf 4 _ rfl; exact (cells_Ty ▸ h : _)
  have f5 : DataW.trod enc Try.prog w base spare held n 34 ((cs.drop 8).take 1) = some y5 := by have h := hf 5 _ rfl; exact (cells_sSt ▸ h : _)
  have f6 : DataW.trod enc Try.prog w base spare held n 3 ((cs.drop 9).take 1) = some y6 := by have h := hf 6 _ rfl; exact (cells_int ▸ h : _)
  have hcut : cs = (cs.drop 0).take 1 ++ ((cs.drop 1).take 1 ++ ((cs.drop 2).take 1 ++ ((cs.drop 3).take 1 ++ ((cs.drop 4).take 4 ++ ((cs.drop 8).take 1 ++ ((cs.drop 9).take 1 ++ ([]))))))) := by
    have d0 := List.drop_zero (l := cs)
    have c0 := cut_at cs 0 1
    have c1 := cut_at cs 1 1
    have c2 := cut_at cs 2 1
    have c3 := cut_at cs 3 1
    have c4 := cut_at cs 4 4
    have c5 := cut_at cs 8 1
    have c6 := cut_at cs 9 1
    have ce : cs.drop 10 = [] := List.drop_eq_nil_of_le (by omega)
    simp only [Nat.zero_add, Nat.reduceAdd] at c0 c1 c2 c3 c4 c5 c6
    exact d0.symm.trans (c0.trans (congrArg (fun r => (cs.drop 0).take 1 ++ r) (c1.trans (congrArg (fun r => (cs.drop 1).take 1 ++ r) (c2.trans (congrArg (fun r => (cs.drop 2).take 1 ++ r) (c3.trans (congrArg (fun r => (cs.drop 3).take 1 ++ r) (c4.trans (congrArg (fun r => (cs.drop 4).take 4 ++ r) (c5.trans (congrArg (fun r => (cs.drop 8).take 1 ++ r) (c6.trans (congrArg (fun r => (cs.drop 9).take 1 ++ r) ce))))))))))))))
  generalize (cs.drop 0).take 1 = p0 at *
  generalize (cs.drop 1).take 1 = p1 at *
  generalize (cs.drop 2).take 1 = p2 at *
  generalize (cs.drop 3).take 1 = p3 at *
  generalize (cs.drop 4).take 4 = p4 at *
  generalize (cs.drop 8).take 1 = p5 at *
  generalize (cs.drop 9).take 1 = p6 at *
  obtain ⟨v0, rfl, _⟩ := DataW.trod_bool Try.underlying4 f0
  obtain ⟨v1, rfl, hv1⟩ := trod_tx f1 (by omega)
  obtain ⟨a2, c2, v2, rfl, hv2, hm2, hn2⟩ := trod_sl (P := (LifIs (· < w.heap.size) w)) (m := (fun _ => 0)) Try.underlying28 cells_Lif (by decide) f2 (by omega) (fun n2 _ cs y hy hb => by obtain ⟨d, hd⟩ := trod_Lif n2 cs y hy hb; exact ⟨d, hd, Nat.zero_le _⟩)
  obtain ⟨a3, c3, v3, rfl, hv3, hm3, hn3⟩ := trod_sl (P := (FldIs (· < w.heap.size) w)) (m := (fun _ => 0)) Try.underlying29 cells_Fld (by decide) f3 (by omega) (fun n2 _ cs y hy hb => by obtain ⟨d, hd⟩ := trod_Fld n2 cs y hy hb; exact ⟨d, hd, Nat.zero_le _⟩)
  obtain ⟨v4, hv4⟩ := trod_Ty n p4 y4 f4 (by omega)
  obtain ⟨a5, c5, v5, rfl, hv5, hm5, hn5⟩ := trod_sl (P := (StIs (· < w.heap.size) w)) (m := (fun d => 1 + cntS d)) Try.underlying34 cells_St (by decide) f5 (by omega) (fun n2 _ cs y hy hb => trod_St n2 cs y hy hb)
  obtain ⟨v6, rfl, _, _⟩ := DataW.trod_int Try.underlying3 f6
  have hcs : cs = [.bool v0, txV v1, .slice a2 v2.length c2, .slice a3 v3.length c3] ++ p4 ++ [.slice a5 v5.length c5, .int .i64 v6] := by rw [hcut]; simp
  refine ⟨⟨v0, v1, v2, v3, v4, v5, v6⟩, ⟨a2, c2, a3, c3, p4, a5, c5, hcs, hv1, hv2, hv3, hv4, hv5⟩, ?_⟩
  simp only [cntL_map]
  omega
set_option linter.unusedSimpArgs false in
theorem trod_Cr (fuel : Nat) (cs : List Value) (x : DataW H × List MemPlace) (h : DataW.trod enc Try.prog w base spare held fuel 25 cs = some x) (hb : Rows.uptoBulk x.1 ≤ bigN) : ∃ d : CrD, CrIs (· < w.heap.size) w d cs := by
  obtain ⟨xs, n, hfu, rfl, hl, hlen, hf⟩ := DataW.trod_struct Try.underlying25 h
  rw [cells_Cr] at hl
  obtain ⟨y0, y1, rfl⟩ : ∃ y0 y1, xs = [y0, y1] := by
    match xs, hlen with
    | [y0, y1], _ => exact ⟨y0, y1, rfl⟩
  simp only [List.map_cons, List.map_nil, Rows.uptoBulk, Rows.uptoBulkAll] at hb
  have f0 : DataW.trod enc Try.prog w base spare held n 22 ((cs.drop 0).take 1) = some y0 := by have h := hf 0 _ rfl; exact (cells_sStr ▸ h : _)
  have f1 : DataW.trod enc Try.prog w base spare held n 23 ((cs.drop 1).take 1) = some y1 := by have h := hf 1 _ rfl; exact (cells_sFun ▸ h : _)
  have hcut : cs = (cs.drop 0).take 1 ++ ((cs.drop 1).take 1 ++ ([])) := by
    have d0 := List.drop_zero (l := cs)
    have c0 := cut_at cs 0 1
    have c1 := cut_at cs 1 1
    have ce : cs.drop 2 = [] := List.drop_eq_nil_of_le (by omega)
    simp only [Nat.zero_add, Nat.reduceAdd] at c0 c1
    exact d0.symm.trans (c0.trans (congrArg (fun r => (cs.drop 0).take 1 ++ r) (c1.trans (congrArg (fun r => (cs.drop 1).take 1 ++ r) ce))))
  generalize (cs.drop 0).take 1 = p0 at *
  generalize (cs.drop 1).take 1 = p1 at *
  obtain ⟨a0, c0, v0, rfl, hv0, hm0, hn0⟩ := trod_sl (P := (StrIs (· < w.heap.size) w)) (m := (fun _ => 0)) Try.underlying22 cells_Str (by decide) f0 (by omega) (fun n2 _ cs y hy hb => by obtain ⟨d, hd⟩ := trod_Str n2 cs y hy hb; exact ⟨d, hd, Nat.zero_le _⟩)
  obtain ⟨a1, c1, v1, rfl, hv1, hm1, hn1⟩ := trod_sl (P := (FunIs (· < w.heap.size) w)) (m := (fun _ => 0)) Try.underlying23 cells_Fun (by decide) f1 (by omega) (fun n2 _ cs y hy hb => by obtain ⟨d, hd, _⟩ := trod_Fun n2 cs y hy hb; exact ⟨d, hd, Nat.zero_le _⟩)
  have hcs : cs = [.slice a0 v0.length c0, .slice a1 v1.length c1] := by rw [hcut]; simp
  exact ⟨⟨v0, v1⟩, ⟨a0, c0, a1, c1, hcs, hv0, hv1⟩⟩
end

end Go.Proofs.Ytjbcagbnagefcaa

namespace Go.Proofs.Ytjbcagbnagefcaa
open Go Go.RowKit

inductive PlanJ (α : Type) where
  | done : PlanJ α
  | take : α → PlanJ α → PlanJ α
  | one : α → PlanJ α → PlanJ α
  | two : α → α → PlanJ α → PlanJ α → PlanJ α
  | join : PlanJ α → PlanJ α → PlanJ α
def PlanJ.map {α β : Type} (f : α → β) : PlanJ α → PlanJ β
  | .done => .done
  | .take i r => .take (f i) (r.map f)
  | .one i r => .one (f i) (r.map f)
  | .two i j r s => .two (f i) (f j) (r.map f) (s.map f)
  | .join p r => .join (p.map f) (r.map f)
abbrev ItemJ := PlanJ (Bool × Oper)
def itemsJ (ops : List Oper) (k : Nat) (p : PlanJ Nat) : ItemJ := p.map fun i => (i == k, ops.getD i default)
/-- How many operations; none: the ways differ. -/
def PlanJ.count : PlanJ Nat → Option Nat
  | .done => some 0
  | .take _ r => r.count.map (· + 1)
  | .one _ r => r.count.map (· + 1)
  | .two _ _ r s => match r.count, s.count with | some a, some b => if a = b then some (a + 1) else none | _, _ => none
  | .join p r => match p.count, r.count with | some a, some b => some (a + b) | _, _ => none

section
variable {P : Program} {Q : Exit → Act → World → Prop} {S : World → Prop}

def wpMixJ (P : Program) (ops : Array Oper) (S : World → Prop) (Q : Exit → Act → World → Prop) : ItemJ → (Act → World → Prop) → Act → World → Prop
  | .done, K, a, w => K a w
  | .take o r, K, a, w => if Region.wanted o.2 (yielded ops a.tmps) = true then ∃ v, (∀ W, S W → (execOp a.eval o.2).run P W = .ok (.value v) W) ∧ wpMixJ P ops S Q r K (a.put o.2.dst v) w else wpMixJ P ops S Q r K (a.put o.2.dst undef) w
  | .one o r, K, a, w => wpList P ops (Exit.then (fun a' w' => (o.1 = true ∨ S w') ∧ wpMixJ P ops S Q r K a' w') (noP Q)) [o.2] a w
  | .two o u r s, K, a, w => wpList P ops (Exit.then (fun a' w' => (o.1 = true ∨ S w') ∧ wpMixJ P ops S Q r K a' w') (noP Q)) [o.2] a w ∧ wpList P ops (Exit.then (fun a' w' => (u.1 = true ∨ S w') ∧ wpMixJ P ops S Q s K a' w') (noP Q)) [u.2] a w
  | .join p r, K, a, w => wpMixJ P ops S Q p (fun a' w' => wpMixJ P ops S Q r K a' w') a w

/-- The plan is right from here; what has come up at its end. -/
def mixJ (ops : Array Oper) (k : Nat) : Bool → PlanJ Nat → Array Bool → Option (Array Bool)
  | _, .done, listed => some listed
  | z, .take i r, listed => if (decide (i < ops.size) && (Region.ready .any ops listed).contains i && Region.free .any ops listed i && waitsB ops k i) = true then mixJ ops k z r (listed.setIfInBounds i true) else none
  | z, .one i r, listed => if (decide (i < ops.size) && decide (Region.ready .any ops listed = [i]) && (!(i == k) || (z && decide (r.count = some 0)))) = true then mixJ ops k z r (listed.setIfInBounds i true) else none
  | z, .two i j r s, listed => if (decide (i < ops.size) && decide (j < ops.size) && decide (Region.ready .any ops listed = [i, j]) && !(i == k) && !(j == k)) = true then
      match mixJ ops k z r (listed.setIfInBounds i true), mixJ ops k z s (listed.setIfInBounds j true) with
      | some a, some b => if a = b then some a else none
      | _, _ => none
    else none
  | z, .join p r, listed => match mixJ ops k false p listed with | some l => mixJ ops k z r l | none => none

theorem noP_normal {a : Act} {w : World} (h : Q .normal a w) : noP Q .normal a w := h
theorem wpList_monoJ {ops : Array Oper} {o : Oper} {a : Act} {w : World} {K K' : Act → World → Prop} {R : Exit → Act → World → Prop} (hK : ∀ a w, K a w → K' a w) (h : wpList P ops (Exit.then K (noP R)) [o] a w) : wpList P ops (Exit.then K' (noP R)) [o] a w := by
  unfold wpList at h ⊢
  by_cases hw : Region.wanted o (yielded ops a.tmps) = true
  · rw [if_pos hw] at h ⊢
    rcases h with h | ⟨h1, h2⟩
    · refine .inl (oper_wp_mono (fun a w h => ?_) (fun c a w h => h) (fun h => ?_) h)
      · unfold wpList at h ⊢
        exact hK _ _ h
      · obtain ⟨a, w, h⟩ := h; exact ⟨a, w, h⟩
    · obtain ⟨a, w, h⟩ := h2
      exact .inr ⟨h1, a, w, h⟩
  · rw [if_neg hw] at h ⊢
    unfold wpList at h ⊢
    exact hK _ _ h
theorem wpMixJ_mono {ops : Array Oper} : ∀ (p : ItemJ) {K K' : Act → World → Prop} (a : Act) (w : World), (∀ a w, K a w → K' a w) → wpMixJ P ops S Q p K a w → wpMixJ P ops S Q p K' a w := by
  intro p
  induction p with
  | done => intro K K' a w hK h; exact hK _ _ h
  | take o r ih =>
    intro K K' a w hK h
    unfold wpMixJ at h ⊢
    split
    · rename_i hw
      rw [if_pos hw] at h
      obtain ⟨v, h1, h2⟩ := h
      exact ⟨v, h1, ih _ _ hK h2⟩
    · rename_i hw
      rw [if_neg hw] at h
      exact ih _ _ hK h
  | one o r ih =>
    intro K K' a w hK h
    unfold wpMixJ at h ⊢
    exact wpList_monoJ (fun a w q => ⟨q.1, ih _ _ hK q.2⟩) h
  | two o u r s ih1 ih2 =>
    intro K K' a w hK h
    unfold wpMixJ at h ⊢
    exact ⟨wpList_monoJ (fun a w q => ⟨q.1, ih1 _ _ hK q.2⟩) h.1, wpList_monoJ (fun a w q => ⟨q.1, ih2 _ _ hK q.2⟩) h.2⟩
  | join p r ih1 ih2 =>
    intro K K' a w hK h
    unfold wpMixJ at h ⊢
    exact ih1 _ _ (fun a w q => ih2 _ _ hK q) h

theorem oneJ_sound {l : List Oper} {k i n : Nat} {listed : Array Bool} {a : Act} {w : World} {K : Act → World → Prop} (hk : l.toArray[i]? = some (l.getD i default))
    (ih : ∀ a w, S w ∨ i = k → K a w → wpTo P l.toArray (noP Q) S k n (listed.setIfInBounds i true) a w)
    (h : wpList P l.toArray (Exit.then (fun a' w' => ((i == k) = true ∨ S w') ∧ K a' w') (noP Q)) [l.getD i default] a w) :
    wpOp P l.toArray (noP Q) i (fun a' w' => (i = k ∨ S w') ∧ wpTo P l.toArray (noP Q) S k n (listed.setIfInBounds i true) a' w') a w := by
  have fin : ∀ a w, ((i == k) = true ∨ S w) ∧ K a w → (i = k ∨ S w) ∧ wpTo P l.toArray (noP Q) S k n (listed.setIfInBounds i true) a w := fun a w q => by
    rcases q.1 with h1 | h1
    · exact ⟨.inl (by simpa using h1), ih a w (.inr (by simpa using h1)) q.2⟩
    · exact ⟨.inr h1, ih a w (.inl h1) q.2⟩
  unfold wpOp
  simp only [hk]
  unfold wpList at h
  by_cases hw : Region.wanted (l.getD i default) (yielded l.toArray a.tmps) = true
  · rw [if_pos hw] at h ⊢
    rcases h with h | ⟨h1, h2⟩
    · refine .inl (oper_wp_mono (fun a w h => ?_) (fun c a w h => h) (fun h => ?_) h)
      · unfold wpList at h
        exact fin a w h
      · obtain ⟨a, w, h⟩ := h; exact ⟨a, w, h⟩
    · obtain ⟨a, w, h⟩ := h2
      exact .inr ⟨h1, a, w, h⟩
  · rw [if_neg hw] at h ⊢
    unfold wpList at h
    exact fin _ _ h

theorem mixJ_sound (l : List Oper) (k : Nat) (hs : Region.noSelect l.toArray = true) : ∀ (plan : PlanJ Nat) (z : Bool) (n m : Nat) (listed fin : Array Bool) (a : Act) (w : World) (K : Act → World → Prop), (z = true → m = 0) → plan.count = some n → mixJ l.toArray k z plan listed = some fin →
    (S w ∨ (n = 0 ∧ m = 0)) → (∀ a w, (S w ∨ m = 0) → K a w → wpTo P l.toArray (noP Q) S k m fin a w) → wpMixJ P l.toArray S Q (itemsJ l k plan) K a w → wpTo P l.toArray (noP Q) S k (n + m) listed a w := by
  have hget : ∀ i, i < l.toArray.size → l.toArray[i]? = some (l.getD i default) := fun i hi => by
    have hlt' : i < l.length := by simpa using hi
    simp [List.getD, hlt']
  intro plan
  induction plan with
  | done =>
    intro z n m listed fin a w K hz hn hB hS hK h
    obtain rfl : 0 = n := by simpa [PlanJ.count] using hn
    simp only [mixJ, Option.some.injEq] at hB
    subst hB
    rw [Nat.zero_add]
    exact hK a w (hS.imp id (fun h => h.2)) h
  | take i r ih =>
    intro z n m listed fin a w K hz hn hB hS hK h
    simp only [PlanJ.count, Option.map_eq_some_iff] at hn
    obtain ⟨n', hn', rfl⟩ := hn
    unfold mixJ at hB
    split at hB
    · rename_i hc
      simp only [Bool.and_eq_true, decide_eq_true_eq] at hc
      obtain ⟨⟨⟨hlt, hr⟩, hf⟩, hwt⟩ := hc
      have hS' : S w := hS.resolve_right (by omega)
      have hk := hget i hlt
      have hr' : i ∈ Region.ready .any l.toArray listed := by simpa using hr
      have hik : i ≠ k := fun e => waits_spec hwt hr' (e ▸ hr')
      rw [show n' + 1 + m = (n' + m) + 1 by omega]
      unfold itemsJ PlanJ.map wpMixJ at h
      simp only at h
      by_cases hw : Region.wanted (l.getD i default) (yielded l.toArray a.tmps) = true
      · rw [if_pos hw] at h
        obtain ⟨v, hv, hnn⟩ := h
        exact to_first hk hwt hik (Region.noSelect_spec hs) (fun c a w h => h) _ listed a w (Region.free_spec hk hf) hr' (.inl ⟨hw, hv⟩) hS' (ih z n' m _ fin _ _ K hz hn' hB (.inl hS') hK hnn)
      · rw [if_neg hw] at h
        exact to_first (v := undef) hk hwt hik (Region.noSelect_spec hs) (fun c a w h => h) _ listed a w (Region.free_spec hk hf) hr' (.inr ⟨by simpa using hw, rfl⟩) hS' (ih z n' m _ fin _ _ K hz hn' hB (.inl hS') hK h)
    · cases hB
  | one i r ih =>
    intro z n m listed fin a w K hz hn hB hS hK h
    simp only [PlanJ.count, Option.map_eq_some_iff] at hn
    obtain ⟨n', hn', rfl⟩ := hn
    unfold mixJ at hB
    split at hB
    · rename_i hc
      simp only [Bool.and_eq_true, decide_eq_true_eq] at hc
      obtain ⟨⟨hlt, hr⟩, hlast⟩ := hc
      rw [show n' + 1 + m = (n' + m) + 1 by omega]
      unfold itemsJ PlanJ.map wpMixJ at h
      refine ⟨fun h0 => (by rw [hr] at h0; cases h0), fun j hj => ?_⟩
      rw [hr, List.mem_singleton] at hj
      subst hj
      refine oneJ_sound (hget j hlt) (fun a w hq hm => ih z n' m _ fin _ _ K hz hn' hB ?_ hK hm) h
      rcases hq with hq | hq
      · exact .inl hq
      · rw [hq] at hlast
        simp at hlast
        have hn0 := hlast.2
        rw [hn'] at hn0
        exact .inr ⟨Option.some.inj hn0, hz hlast.1⟩
    · cases hB
  | two i j r s ih1 ih2 =>
    intro z n m listed fin a w K hz hn hB hS hK h
    unfold mixJ at hB
    split at hB
    · rename_i hc
      simp only [Bool.and_eq_true, decide_eq_true_eq, Bool.not_eq_true', beq_eq_false_iff_ne] at hc
      obtain ⟨⟨⟨⟨hlt, hlt2⟩, hr⟩, hik⟩, hjk⟩ := hc
      unfold PlanJ.count at hn
      split at hn
      · rename_i n1 n2 h1 h2
        split at hn
        · rename_i he
          subst he
          obtain rfl := Option.some.inj hn
          split at hB
          · rename_i f1 f2 hf1 hf2
            split at hB
            · rename_i hfe
              subst hfe
              obtain rfl := Option.some.inj hB
              rw [show n1 + 1 + m = (n1 + m) + 1 by omega]
              unfold itemsJ PlanJ.map wpMixJ at h
              refine ⟨fun h0 => (by rw [hr] at h0; cases h0), fun x hx => ?_⟩
              rw [hr] at hx
              simp only [List.mem_cons, List.not_mem_nil, or_false] at hx
              rcases hx with rfl | rfl
              · exact oneJ_sound (hget _ hlt) (fun a w hq hm => ih1 z n1 m _ _ _ _ K hz h1 hf1 (.inl (hq.resolve_right hik)) hK hm) h.1
              · exact oneJ_sound (hget _ hlt2) (fun a w hq hm => ih2 z n1 m _ _ _ _ K hz h2 hf2 (.inl (hq.resolve_right hjk)) hK hm) h.2
            · cases hB
          · cases hB
        · cases hn
      · cases hn
    · cases hB
  | join p r ih1 ih2 =>
    intro z n m listed fin a w K hz hn hB hS hK h
    unfold mixJ at hB
    split at hB
    · rename_i l1 hl1
      unfold PlanJ.count at hn
      split at hn
      · rename_i n1 n2 h1 h2
        obtain rfl := Option.some.inj hn
        unfold itemsJ PlanJ.map wpMixJ at h
        rw [Nat.add_assoc]
        refine ih1 false n1 (n2 + m) listed l1 a w _ (fun e => by cases e) h1 hl1 ?_ (fun a w hq hm => ih2 z n2 m l1 fin a w K hz h2 hB ?_ hK hm) h
        · rcases hS with hS | ⟨q1, q2⟩
          · exact .inl hS
          · exact .inr ⟨by omega, by omega⟩
        · rcases hq with hq | hq
          · exact .inl hq
          · exact .inr ⟨by omega, by omega⟩
      · cases hn
    · cases hB

/-- The beginning. -/
theorem wp_region_mixJ {id : Nat} {a : Act} {w : World} {l : List Oper} (S : World → Prop) (k : Nat) (plan : PlanJ Nat) (hm : P.follows .mixedOrders = true)
    (hB : (Region.noSelect l.toArray && decide (plan.count = some l.toArray.size) && (match mixJ l.toArray k true plan (Array.replicate l.toArray.size false) with | some f => (Region.ready .any l.toArray f).isEmpty | none => false)) = true) (hS : S w.drew)
    (h : wpMixJ P l.toArray S Q (itemsJ l k plan) (fun a w => Q .normal a w) a w.drew) : (Code.region id l.toArray true).wp P Q a w := by
  simp only [Bool.and_eq_true, decide_eq_true_eq] at hB
  obtain ⟨⟨hs, hl⟩, hB⟩ := hB
  split at hB
  · rename_i f hf
    have H := mixJ_sound (P := P) (Q := Q) (S := S) l k hs plan true l.toArray.size 0 _ f a w.drew _ (fun _ => rfl) hl hf (.inl hS) (fun a w _ hq => ⟨by simpa using hB, noP_normal hq⟩) h
    exact wp_mono (wp_region_any hm (wpAny_to _ _ _ _ H)) noP_le
  · cases hB

theorem wpMixJ_done {ops : Array Oper} {K : Act → World → Prop} {a : Act} {w : World} (h : K a w) : wpMixJ P ops S Q .done K a w := h
theorem wpMixJ_free {ops : Array Oper} {C : Act → World → Prop} {a : Act} {w : World} {b : Bool} {o : Oper} {r : ItemJ}
    (h : ∀ K : Act → Prop, (∀ a, wpMixJ P ops S Q r C a w → K a) → if Region.wanted o (yielded ops a.tmps) = true then ∃ v, (∀ W, (execOp a.eval o).run P W = .ok (.value v) W) ∧ K (a.put o.dst v) else K (a.put o.dst undef)) : wpMixJ P ops S Q (.take (b, o) r) C a w := by
  have h2 := h (fun a => wpMixJ P ops S Q r C a w) (fun _ h => h)
  unfold wpMixJ
  by_cases hw : Region.wanted o (yielded ops a.tmps) = true
  · rw [if_pos hw] at h2 ⊢
    obtain ⟨v, hv, hn⟩ := h2
    exact ⟨v, fun W _ => hv W, hn⟩
  · rw [if_neg hw] at h2 ⊢
    exact h2
theorem wpMixJ_yield {ops : Array Oper} {C : Act → World → Prop} {a : Act} {w : World} {b : Bool} {o : Oper} {r : ItemJ} {v : Value} (hr : ∀ W, S W → (execOp a.eval o).run P W = .ok (.value v) W)
    (h : ∀ K : Act → Prop, (∀ a, wpMixJ P ops S Q r C a w → K a) → if Region.wanted o (yielded ops a.tmps) = true then K (a.put o.dst v) else K (a.put o.dst undef)) : wpMixJ P ops S Q (.take (b, o) r) C a w := by
  have h2 := h (fun a => wpMixJ P ops S Q r C a w) (fun _ h => h)
  unfold wpMixJ
  by_cases hw : Region.wanted o (yielded ops a.tmps) = true
  · rw [if_pos hw] at h2 ⊢
    exact ⟨v, hr, h2⟩
  · rw [if_neg hw] at h2 ⊢
    exact h2
theorem wpMixJ_one {ops : Array Oper} {C : Act → World → Prop} {a : Act} {w : World} {b : Bool} {o : Oper} {r : ItemJ}
    (h : ∀ K : Act → World → Prop, (∀ a w, b = true ∨ S w → wpMixJ P ops S Q r C a w → K a w) → wpList P ops (Exit.then K (noP Q)) [o] a w) : wpMixJ P ops S Q (.one (b, o) r) C a w := by
  unfold wpMixJ
  exact h (fun a w => (b = true ∨ S w) ∧ wpMixJ P ops S Q r C a w) (fun a w h1 h2 => ⟨h1, h2⟩)
theorem wpMixJ_two {ops : Array Oper} {C : Act → World → Prop} {a : Act} {w : World} {b d : Bool} {o u : Oper} {r s : ItemJ}
    (h1 : ∀ K : Act → World → Prop, (∀ a w, b = true ∨ S w → wpMixJ P ops S Q r C a w → K a w) → wpList P ops (Exit.then K (noP Q)) [o] a w)
    (h2 : ∀ K : Act → World → Prop, (∀ a w, d = true ∨ S w → wpMixJ P ops S Q s C a w → K a w) → wpList P ops (Exit.then K (noP Q)) [u] a w) : wpMixJ P ops S Q (.two (b, o) (d, u) r s) C a w := by
  unfold wpMixJ
  exact ⟨h1 (fun a w => (b = true ∨ S w) ∧ wpMixJ P ops S Q r C a w) (fun a w h1 h2 => ⟨h1, h2⟩), h2 (fun a w => (d = true ∨ S w) ∧ wpMixJ P ops S Q s C a w) (fun a w h1 h2 => ⟨h1, h2⟩)⟩
/-- What the ways of a part have in common. -/
theorem wpMixJ_join {ops : Array Oper} {C : Act → World → Prop} {a : Act} {w : World} {p r : ItemJ} (J : Act → Act → World → Prop) (h1 : wpMixJ P ops S Q p (J a) a w) (h2 : ∀ a' w', J a a' w' → wpMixJ P ops S Q r C a' w') : wpMixJ P ops S Q (.join p r) C a w := by
  unfold wpMixJ
  exact wpMixJ_mono p _ _ (h2) h1
end

end Go.Proofs.Ytjbcagbnagefcaa

namespace Go.Proofs.Ytjbcagbnagefcaa
open Go Go.RowKit

inductive PlanG (α : Type) where
  | done : PlanG α
  | take : α → PlanG α → PlanG α
  | one : α → PlanG α → PlanG α
  | grp : List α → List (List (Nat × Nat)) → PlanG α → PlanG α
def PlanG.map {α β : Type} (f : α → β) : PlanG α → PlanG β
  | .done => .done
  | .take i r => .take (f i) (r.map f)
  | .one i r => .one (f i) (r.map f)
  | .grp l e r => .grp (l.map f) e (r.map f)
abbrev ItemG := PlanG (Bool × Oper)
def itemsG (ops : List Oper) (k : Nat) (p : PlanG Nat) : ItemG := p.map fun i => (i == k, ops.getD i default)
def PlanG.count : PlanG Nat → Nat
  | .done => 0
  | .take _ r => r.count + 1
  | .one _ r => r.count + 1
  | .grp _ e r => e.length + r.count

def everyL {α : Type} : List α → (α → Prop) → Prop
  | [], _ => True
  | x :: r, p => p x ∧ everyL r p
theorem everyL_mem {α : Type} {p : α → Prop} : ∀ (l : List α), everyL l p → ∀ x ∈ l, p x := by
  intro l
  induction l with
  | nil => intro _ x hx; cases hx
  | cons y r ih =>
    intro h x hx
    rcases List.mem_cons.1 hx with rfl | hx
    · exact h.1
    · exact ih h.2 x hx

section
variable {P : Program} {Q : Exit → Act → World → Prop} {S : World → Prop}

def wpMixG (P : Program) (ops : Array Oper) (S : World → Prop) (Q : Exit → Act → World → Prop) : ItemG → (Act → World → Prop) → Act → World → Prop
  | .done, K, a, w => K a w
  | .take o r, K, a, w => if Region.wanted o.2 (yielded ops a.tmps) = true then ∃ v, (∀ W, S W → (execOp a.eval o.2).run P W = .ok (.value v) W) ∧ wpMixG P ops S Q r K (a.put o.2.dst v) w else wpMixG P ops S Q r K (a.put o.2.dst undef) w
  | .one o r, K, a, w => wpList P ops (Exit.then (fun a' w' => (o.1 = true ∨ S w') ∧ wpMixG P ops S Q r K a' w') (noP Q)) [o.2] a w
  | .grp l e r, K, a, w => ∃ I : Nat → Act → World → Prop, I 0 a w ∧ (∀ s ∈ e.flatten, ∀ a' w', S w' → I s.1 a' w' → wpList P ops (Exit.then (fun a' w' => S w' ∧ I (s.1 ||| 2 ^ s.2) a' w') (noP Q)) [(l.getD s.2 default).2] a' w') ∧
      ∀ a' w', S w' → I (2 ^ l.length - 1) a' w' → wpMixG P ops S Q r K a' w'

/-- What has come up where the operations of a part have. -/
def partly (l : List Nat) (listed : Array Bool) (m : Nat) : Array Bool := (List.range l.length).foldl (fun s p => if m.testBit p then s.setIfInBounds (l.getD p 0) true else s) listed
def headHas (e : List (List (Nat × Nat))) (full m : Nat) : Bool := match e with
  | [] => m == full
  | lv :: _ => lv.any fun s => s.1 == m
def grpB (ops : Array Oper) (k : Nat) (l : List Nat) (listed : Array Bool) : List (List (Nat × Nat)) → Bool
  | [] => true
  | lv :: rest => lv.all (fun s => decide (s.2 < l.length) && decide (l.getD s.2 0 < ops.size) && !(l.getD s.2 0 == k) && decide ((partly l listed s.1).setIfInBounds (l.getD s.2 0) true = partly l listed (s.1 ||| 2 ^ s.2)) && headHas rest (2 ^ l.length - 1) (s.1 ||| 2 ^ s.2)
      && !(Region.ready .any ops (partly l listed s.1)).isEmpty && (Region.ready .any ops (partly l listed s.1)).all fun i => lv.any fun t => t.1 == s.1 && l.getD t.2 0 == i) && grpB ops k l listed rest
/-- The last operation does not come up beside i; or none is the last. -/
def aloneB (ops : Array Oper) (k i : Nat) : Bool := waitsB ops k i || decide (ops.size ≤ k)
def mixG (ops : Array Oper) (k : Nat) : PlanG Nat → Array Bool → Bool
  | .done, listed => (Region.ready .any ops listed).isEmpty
  | .take i r, listed => decide (i < ops.size) && (Region.ready .any ops listed).contains i && Region.free .any ops listed i && aloneB ops k i && mixG ops k r (listed.setIfInBounds i true)
  | .one i r, listed => decide (i < ops.size) && decide (Region.ready .any ops listed = [i]) && (!(i == k) || decide (r.count = 0)) && mixG ops k r (listed.setIfInBounds i true)
  | .grp l e r, listed => !e.isEmpty && headHas e (2 ^ l.length - 1) 0 && grpB ops k l listed e && mixG ops k r (partly l listed (2 ^ l.length - 1))

theorem partly_zero (l : List Nat) (listed : Array Bool) : partly l listed 0 = listed := by
  unfold partly
  generalize List.range l.length = r
  induction r with
  | nil => rfl
  | cons p r ih => rw [List.foldl_cons]; simpa using ih

theorem alone_spec {ops : Array Oper} {k i : Nat} (h : aloneB ops k i = true) {listed : Array Bool} (hi : i ∈ Region.ready .any ops listed) : k ∉ Region.ready .any ops listed := by
  unfold aloneB at h
  rw [Bool.or_eq_true] at h
  rcases h with h | h
  · exact waits_spec h hi
  · intro hk
    obtain ⟨_, o, ho, _⟩ := mem_ready.1 hk
    have h2 : ops.size ≤ k := by simpa using h
    rw [Array.getElem?_eq_none h2] at ho
    cases ho
theorem to_firstG {ops : Array Oper} {k i : Nat} {oi : Oper} {v : Value} (hi : ops[i]? = some oi) (hk : aloneB ops k i = true) (hsel : ∀ (j : Nat) (o : Oper) cs b, ops[j]? = some o → o.op ≠ .select cs b)
    (hQ : ∀ c a w, Q (.panic c) (a.put oi.dst v) w → Q (.panic c) a w) : ∀ (n : Nat) (listed : Array Bool) (a : Act) (w : World),
    (∀ j oj, ops[j]? = some oj → j ≠ i → listed.getD j true = false → (∀ e ∈ oj.after, Region.binds .any e = true → e.on ≠ i) → oi.apart ops oj = true) →
    i ∈ Region.ready .any ops listed → YieldsIf P ops S oi v a → S w → wpTo P ops Q S k n (listed.setIfInBounds i true) (a.put oi.dst v) w → wpTo P ops Q S k (n + 1) listed a w := by
  intro n
  induction n with
  | zero =>
    intro listed a w _ hr hy hS H
    constructor
    · intro h; rw [h] at hr; cases hr
    · intro j hj
      by_cases e : j = i
      · subst e
        exact hy.wpOp hi hS ⟨.inr hS, H⟩
      · have h2 := ready_mono hj e
        rw [H.1] at h2
        cases h2
  | succ n ih =>
    intro listed a w hfree hr hy hS H
    constructor
    · intro h; rw [h] at hr; cases hr
    · intro j hj
      by_cases e : j = i
      · subst e
        exact hy.wpOp hi hS ⟨.inr hS, H⟩
      · have hjk : j ≠ k := fun e2 => by subst e2; exact alone_spec hk hr hj
        obtain ⟨hju, oj, hoj, hall⟩ := mem_ready.1 hj
        have hnot : ∀ d ∈ oj.after, Region.binds .any d = true → d.on ≠ i := by
          intro d hd hb hdi
          have q1 := hall d hd hb
          have q0 := (mem_ready.1 hr).1
          rw [hdi] at q1
          by_cases hlt : i < listed.size
          · simp [hlt] at q0 q1
            rw [q0] at q1
            cases q1
          · simp [Array.getElem?_eq_none (Nat.le_of_not_lt hlt)] at q1
        have step := wpOp_putIf hoj (hfree j oj hoj e hju hnot) (fun cs b => hsel i oi cs b hi) (fun cs b => hsel j oj cs b hoj) hQ hy (H.2 j (ready_mono hj e))
        refine wpOp_mono (fun a' w' q => ?_) step
        have hS' : S w' := q.2.1.resolve_left hjk
        refine ⟨.inr hS', ih (listed.setIfInBounds j true) a' w' (fun m om hm hmi hun hno => ?_) (ready_mono hr (Ne.symm e)) q.1 hS' ?_⟩
        · refine hfree m om hm hmi ?_ hno
          by_cases ejm : j = m
          · subst ejm; exact hju
          · rw [getD_set_ne true ejm] at hun; exact hun
        · rw [Array.setIfInBounds_comm _ _ e]
          exact q.2.2

theorem grpB_lt {ops : Array Oper} {k : Nat} {l : List Nat} {listed : Array Bool} : ∀ (e : List (List (Nat × Nat))), grpB ops k l listed e = true → ∀ s ∈ e.flatten, s.2 < l.length := by
  intro e
  induction e with
  | nil => intro _ s hs; cases hs
  | cons lv rest ih =>
    intro h s hs
    simp only [grpB, Bool.and_eq_true, List.all_eq_true, decide_eq_true_eq] at h
    simp only [List.flatten_cons, List.mem_append] at hs
    rcases hs with hs | hs
    · exact (h.1 s hs).1.1.1.1.1.1
    · exact ih h.2 s hs

theorem grp_sound (l : List Oper) (k : Nat) (ids : List Nat) (listed : Array Bool) (I : Nat → Act → World → Prop) (n : Nat) :
    ∀ (e : List (List (Nat × Nat))), grpB l.toArray k ids listed e = true →
    (∀ s ∈ e.flatten, ∀ a' w', S w' → I s.1 a' w' → wpList P l.toArray (Exit.then (fun a' w' => S w' ∧ I (s.1 ||| 2 ^ s.2) a' w') (noP Q)) [l.getD (ids.getD s.2 0) default] a' w') →
    (∀ a' w', S w' → I (2 ^ ids.length - 1) a' w' → wpTo P l.toArray (noP Q) S k n (partly ids listed (2 ^ ids.length - 1)) a' w') →
    ∀ m a w, headHas e (2 ^ ids.length - 1) m = true → S w → I m a w → wpTo P l.toArray (noP Q) S k (e.length + n) (partly ids listed m) a w := by
  intro e
  induction e with
  | nil =>
    intro hB hs hf m a w hm hS hI
    obtain rfl : m = 2 ^ ids.length - 1 := by simpa [headHas] using hm
    simpa using hf a w hS hI
  | cons lv rest ih =>
    intro hB hs hf m a w hm hS hI
    simp only [grpB, Bool.and_eq_true, List.all_eq_true, decide_eq_true_eq, Bool.not_eq_true', beq_eq_false_iff_ne] at hB
    obtain ⟨hlv, hrest⟩ := hB
    simp only [headHas, List.any_eq_true, beq_iff_eq] at hm
    obtain ⟨s0, hs0, rfl⟩ := hm
    rw [show (lv :: rest).length + n = (rest.length + n) + 1 by simp; omega]
    obtain ⟨⟨_, hne⟩, hall⟩ := hlv s0 hs0
    refine ⟨fun h0 => (by rw [h0] at hne; cases hne), fun i hi => ?_⟩
    have ht := hall i (by simpa using hi)
    simp only [List.any_eq_true, Bool.and_eq_true, beq_iff_eq] at ht
    obtain ⟨t, htl, hte, hti⟩ := ht
    obtain ⟨⟨⟨⟨⟨⟨h1, h2⟩, h3⟩, h4⟩, h5⟩, _⟩, _⟩ := hlv t htl
    rw [hti] at h2 h3 h4
    rw [hte] at h4 h5
    have hk : l.toArray[i]? = some (l.getD i default) := by
      have hlt' : i < l.length := by simpa using h2
      simp [List.getD, hlt']
    have hstep := hs t (by simp only [List.flatten_cons, List.mem_append]; exact .inl htl) a w hS (by rw [hte]; exact hI)
    rw [hti, hte] at hstep
    refine oneJ_sound (K := fun a' w' => S w' ∧ I (s0.1 ||| 2 ^ t.2) a' w') hk (fun a' w' hq hm => ?_) ?_
    · rw [h4]
      exact ih hrest (fun s hs' => hs s (by simp only [List.flatten_cons, List.mem_append]; exact .inr hs')) hf _ a' w' h5 hm.1 hm.2
    · exact wpList_monoJ (fun a w q => ⟨.inr q.1, q⟩) hstep

theorem mixG_sound (l : List Oper) (k : Nat) (hs : Region.noSelect l.toArray = true) : ∀ (plan : PlanG Nat) (listed : Array Bool) (a : Act) (w : World), mixG l.toArray k plan listed = true → (S w ∨ plan.count = 0) →
    wpMixG P l.toArray S Q (itemsG l k plan) (fun a w => Q .normal a w) a w → wpTo P l.toArray (noP Q) S k plan.count listed a w := by
  have hget : ∀ i, i < l.toArray.size → l.toArray[i]? = some (l.getD i default) := fun i hi => by
    have hlt' : i < l.length := by simpa using hi
    simp [List.getD, hlt']
  intro plan
  induction plan with
  | done =>
    intro listed a w hB hS h
    exact ⟨by simpa [mixG] using hB, noP_normal h⟩
  | take i r ih =>
    intro listed a w hB hS h
    simp only [mixG, Bool.and_eq_true, decide_eq_true_eq] at hB
    obtain ⟨⟨⟨⟨hlt, hr⟩, hf⟩, hwt⟩, hB'⟩ := hB
    have hS' : S w := hS.resolve_right (by simp [PlanG.count])
    have hk := hget i hlt
    have hr' : i ∈ Region.ready .any l.toArray listed := by simpa using hr
    show wpTo P l.toArray (noP Q) S k (r.count + 1) listed a w
    unfold itemsG PlanG.map wpMixG at h
    simp only at h
    by_cases hw : Region.wanted (l.getD i default) (yielded l.toArray a.tmps) = true
    · rw [if_pos hw] at h
      obtain ⟨v, hv, hnn⟩ := h
      exact to_firstG hk hwt (Region.noSelect_spec hs) (fun c a w h => h) _ listed a w (Region.free_spec hk hf) hr' (.inl ⟨hw, hv⟩) hS' (ih _ _ _ hB' (.inl hS') hnn)
    · rw [if_neg hw] at h
      exact to_firstG (v := undef) hk hwt (Region.noSelect_spec hs) (fun c a w h => h) _ listed a w (Region.free_spec hk hf) hr' (.inr ⟨by simpa using hw, rfl⟩) hS' (ih _ _ _ hB' (.inl hS') h)
  | one i r ih =>
    intro listed a w hB hS h
    simp only [mixG, Bool.and_eq_true, decide_eq_true_eq] at hB
    obtain ⟨⟨⟨hlt, hr⟩, hlast⟩, hB'⟩ := hB
    show wpTo P l.toArray (noP Q) S k (r.count + 1) listed a w
    unfold itemsG PlanG.map wpMixG at h
    refine ⟨fun h0 => (by rw [hr] at h0; cases h0), fun j hj => ?_⟩
    rw [hr, List.mem_singleton] at hj
    subst hj
    refine oneJ_sound (hget j hlt) (fun a w hq hm => ih _ a w hB' ?_ hm) h
    rcases hq with hq | hq
    · exact .inl hq
    · rw [hq] at hlast
      simp at hlast
      exact .inr hlast
  | grp ids e r ih =>
    intro listed a w hB hS h
    simp only [mixG, Bool.and_eq_true] at hB
    obtain ⟨⟨⟨hn, hh⟩, hg⟩, hB'⟩ := hB
    have he : e ≠ [] := fun q => by rw [q] at hn; cases hn
    show wpTo P l.toArray (noP Q) S k (e.length + r.count) listed a w
    unfold itemsG PlanG.map wpMixG at h
    obtain ⟨I, h0, hstep, hend⟩ := h
    rw [List.length_map] at hend
    rw [← partly_zero ids listed]
    have hS' : S w := hS.resolve_right (by
      intro q
      apply he
      exact List.eq_nil_of_length_eq_zero (by simp [PlanG.count] at q; simp [q.1]))
    refine grp_sound l k ids listed I r.count e hg (fun s hs' a' w' hS'' hI => ?_) (fun a' w' hS'' hI => ih _ a' w' hB' (.inl hS'') (hend a' w' hS'' hI)) 0 a w hh hS' h0
    have q := hstep s hs' a' w' hS'' hI
    have hlt := grpB_lt e hg s hs'
    have e1 : ((ids.map fun i => (i == k, l.getD i default)).getD s.2 default).2 = l.getD (ids.getD s.2 0) default := by
      simp [List.getD, hlt]
    rw [e1] at q
    exact q

/-- The beginning. -/
theorem wp_region_mixG {id : Nat} {a : Act} {w : World} {l : List Oper} (S : World → Prop) (k : Nat) (plan : PlanG Nat) (hm : P.follows .mixedOrders = true)
    (hB : (Region.noSelect l.toArray && decide (plan.count = l.toArray.size) && mixG l.toArray k plan (Array.replicate l.toArray.size false)) = true) (hS : S w.drew)
    (h : wpMixG P l.toArray S Q (itemsG l k plan) (fun a w => Q .normal a w) a w.drew) : (Code.region id l.toArray true).wp P Q a w := by
  simp only [Bool.and_eq_true, decide_eq_true_eq] at hB
  obtain ⟨⟨hs, hl⟩, hB⟩ := hB
  have H := mixG_sound (P := P) (Q := Q) (S := S) l k hs plan _ a w.drew hB (.inl hS) h
  rw [hl] at H
  exact wp_mono (wp_region_any hm (wpAny_to _ _ _ _ H)) noP_le

theorem wpMixG_done {ops : Array Oper} {K : Act → World → Prop} {a : Act} {w : World} (h : K a w) : wpMixG P ops S Q .done K a w := h
theorem wpMixG_free {ops : Array Oper} {C : Act → World → Prop} {a : Act} {w : World} {b : Bool} {o : Oper} {r : ItemG}
    (h : ∀ K : Act → Prop, (∀ a, wpMixG P ops S Q r C a w → K a) → if Region.wanted o (yielded ops a.tmps) = true then ∃ v, (∀ W, (execOp a.eval o).run P W = .ok (.value v) W) ∧ K (a.put o.dst v) else K (a.put o.dst undef)) : wpMixG P ops S Q (.take (b, o) r) C a w := by
  have h2 := h (fun a => wpMixG P ops S Q r C a w) (fun _ h => h)
  unfold wpMixG
  by_cases hw : Region.wanted o (yielded ops a.tmps) = true
  · rw [if_pos hw] at h2 ⊢
    obtain ⟨v, hv, hn⟩ := h2
    exact ⟨v, fun W _ => hv W, hn⟩
  · rw [if_neg hw] at h2 ⊢
    exact h2
theorem wpMixG_yield {ops : Array Oper} {C : Act → World → Prop} {a : Act} {w : World} {b : Bool} {o : Oper} {r : ItemG} {v : Value} (hr : ∀ W, S W → (execOp a.eval o).run P W = .ok (.value v) W)
    (h : ∀ K : Act → Prop, (∀ a, wpMixG P ops S Q r C a w → K a) → if Region.wanted o (yielded ops a.tmps) = true then K (a.put o.dst v) else K (a.put o.dst undef)) : wpMixG P ops S Q (.take (b, o) r) C a w := by
  have h2 := h (fun a => wpMixG P ops S Q r C a w) (fun _ h => h)
  unfold wpMixG
  by_cases hw : Region.wanted o (yielded ops a.tmps) = true
  · rw [if_pos hw] at h2 ⊢
    exact ⟨v, hr, h2⟩
  · rw [if_neg hw] at h2 ⊢
    exact h2
theorem wpMixG_one {ops : Array Oper} {C : Act → World → Prop} {a : Act} {w : World} {b : Bool} {o : Oper} {r : ItemG}
    (h : ∀ K : Act → World → Prop, (∀ a w, b = true ∨ S w → wpMixG P ops S Q r C a w → K a w) → wpList P ops (Exit.then K (noP Q)) [o] a w) : wpMixG P ops S Q (.one (b, o) r) C a w := by
  unfold wpMixG
  exact h (fun a w => (b = true ∨ S w) ∧ wpMixG P ops S Q r C a w) (fun a w h1 h2 => ⟨h1, h2⟩)
/-- A group: what holds behind each part. -/
theorem wpMixG_grp {ops : Array Oper} {C : Act → World → Prop} {a : Act} {w : World} {l : List (Bool × Oper)} {e : List (List (Nat × Nat))} {r : ItemG} (I : Act → Nat → Act → World → Prop) (h0 : I a 0 a w)
    (hs : ∀ K : Nat → Act → World → Prop, (∀ m a' w, S w → I a m a' w → K m a' w) → everyL e.flatten fun s => ∀ a' w', S w' → I a s.1 a' w' → wpList P ops (Exit.then (K (s.1 ||| 2 ^ s.2)) (noP Q)) [(l.getD s.2 default).2] a' w')
    (hf : ∀ a' w', S w' → I a (2 ^ l.length - 1) a' w' → wpMixG P ops S Q r C a' w') : wpMixG P ops S Q (.grp l e r) C a w := by
  unfold wpMixG
  exact ⟨I a, h0, fun s hs' => everyL_mem _ (hs (fun m a' w => S w ∧ I a m a' w) (fun m a w h1 h2 => ⟨h1, h2⟩)) s hs', hf⟩
end

end Go.Proofs.Ytjbcagbnagefcaa

namespace Go.Proofs.Ytjbcagbnagefcaa
open Go Go.RowKit

section
variable {P : Program} {Q : Exit → Act → World → Prop} {S : World → Prop}
/-- Whatever comes up; behind each but those of B S holds. -/
def wpToB (P : Program) (ops : Array Oper) (Q : Exit → Act → World → Prop) (S : World → Prop) (B : List Nat) : Nat → Array Bool → Act → World → Prop
  | 0, listed, a, w => Region.ready .any ops listed = [] ∧ Q .normal a w
  | n + 1, listed, a, w => (Region.ready .any ops listed = [] → Q .normal a w) ∧ ∀ i ∈ Region.ready .any ops listed, wpOp P ops Q i (fun a' w' => (i ∈ B ∨ S w') ∧ wpToB P ops Q S B n (listed.setIfInBounds i true) a' w') a w
theorem wpAny_toB {ops : Array Oper} {B : List Nat} : ∀ (n : Nat) (listed : Array Bool) (a : Act) (w : World), wpToB P ops Q S B n listed a w → wpAny P .any ops Q n listed a w := by
  intro n
  induction n with
  | zero => intro listed a w h; exact h
  | succ n ih => intro listed a w h; exact ⟨h.1, fun i hi => wpOp_mono (fun a' w' h' => ih _ a' w' h'.2) (h.2 i hi)⟩
def waitsAll (ops : Array Oper) (B : List Nat) (i : Nat) : Bool := B.all fun k => waitsB ops k i
theorem waitsAll_spec {ops : Array Oper} {B : List Nat} {i : Nat} (h : waitsAll ops B i = true) {listed : Array Bool} (hi : i ∈ Region.ready .any ops listed) : ∀ k ∈ B, k ∉ Region.ready .any ops listed := fun k hk =>
  waits_spec (List.all_eq_true.1 h k hk) hi
theorem to_firstB {ops : Array Oper} {B : List Nat} {i : Nat} {oi : Oper} {v : Value} (hi : ops[i]? = some oi) (hk : waitsAll ops B i = true) (hsel : ∀ (j : Nat) (o : Oper) cs b, ops[j]? = some o → o.op ≠ .select cs b)
    (hQ : ∀ c a w, Q (.panic c) (a.put oi.dst v) w → Q (.panic c) a w) : ∀ (n : Nat) (listed : Array Bool) (a : Act) (w : World),
    (∀ j oj, ops[j]? = some oj → j ≠ i → listed.getD j true = false → (∀ e ∈ oj.after, Region.binds .any e = true → e.on ≠ i) → oi.apart ops oj = true) →
    i ∈ Region.ready .any ops listed → YieldsIf P ops S oi v a → S w → wpToB P ops Q S B n (listed.setIfInBounds i true) (a.put oi.dst v) w → wpToB P ops Q S B (n + 1) listed a w := by
  intro n
  induction n with
  | zero =>
    intro listed a w _ hr hy hS H
    constructor
    · intro h; rw [h] at hr; cases hr
    · intro j hj
      by_cases e : j = i
      · subst e
        exact hy.wpOp hi hS ⟨.inr hS, H⟩
      · have h2 := ready_mono hj e
        rw [H.1] at h2
        cases h2
  | succ n ih =>
    intro listed a w hfree hr hy hS H
    constructor
    · intro h; rw [h] at hr; cases hr
    · intro j hj
      by_cases e : j = i
      · subst e
        exact hy.wpOp hi hS ⟨.inr hS, H⟩
      · have hjk : j ∉ B := fun e2 => waitsAll_spec hk hr j e2 hj
        obtain ⟨hju, oj, hoj, hall⟩ := mem_ready.1 hj
        have hnot : ∀ d ∈ oj.after, Region.binds .any d = true → d.on ≠ i := by
          intro d hd hb hdi
          have q1 := hall d hd hb
          have q0 := (mem_ready.1 hr).1
          rw [hdi] at q1
          by_cases hlt : i < listed.size
          · simp [hlt] at q0 q1
            rw [q0] at q1
            cases q1
          · simp [Array.getElem?_eq_none (Nat.le_of_not_lt hlt)] at q1
        have step := wpOp_putIf hoj (hfree j oj hoj e hju hnot) (fun cs b => hsel i oi cs b hi) (fun cs b => hsel j oj cs b hoj) hQ hy (H.2 j (ready_mono hj e))
        refine wpOp_mono (fun a' w' q => ?_) step
        have hS' : S w' := q.2.1.resolve_left hjk
        refine ⟨.inr hS', ih (listed.setIfInBounds j true) a' w' (fun m om hm hmi hun hno => ?_) (ready_mono hr (Ne.symm e)) q.1 hS' ?_⟩
        · refine hfree m om hm hmi ?_ hno
          by_cases ejm : j = m
          · subst ejm; exact hju
          · rw [getD_set_ne true ejm] at hun; exact hun
        · rw [Array.setIfInBounds_comm _ _ e]
          exact q.2.2

/-- The operations in the order of a plan: 0: it yields the same in every world that meets S; 1: it comes up alone, and S is shown behind it; 2: it comes up alone, and so does all that follows. -/
def wpMixB (P : Program) (ops : Array Oper) (S : World → Prop) (Q : Exit → Act → World → Prop) : List (Nat × Oper) → Act → World → Prop
  | [], a, w => Q .normal a w
  | (0, o) :: r, a, w => if Region.wanted o (yielded ops a.tmps) = true then ∃ v, (∀ W, S W → (execOp a.eval o).run P W = .ok (.value v) W) ∧ wpMixB P ops S Q r (a.put o.dst v) w else wpMixB P ops S Q r (a.put o.dst undef) w
  | (1, o) :: r, a, w => wpList P ops (Exit.then (fun a' w' => S w' ∧ wpMixB P ops S Q r a' w') (noP Q)) [o] a w
  | (_ + 2, o) :: r, a, w => wpList P ops (Exit.then (fun a' w' => wpMixB P ops S Q r a' w') (noP Q)) [o] a w
def itemsB (ops : List Oper) (plan : List (Nat × Nat)) : List (Nat × Oper) := plan.map fun p => (p.1, ops.getD p.2 default)
def lateOf (plan : List (Nat × Nat)) : List Nat := (plan.filter fun p => 2 ≤ p.1).map (·.2)
def mixBB (ops : Array Oper) (B : List Nat) : List (Nat × Nat) → Array Bool → Bool
  | [], listed => (Region.ready .any ops listed).isEmpty
  | (0, k) :: r, listed => decide (k < ops.size) && (Region.ready .any ops listed).contains k && Region.free .any ops listed k && waitsAll ops B k && mixBB ops B r (listed.setIfInBounds k true)
  | (1, k) :: r, listed => decide (k < ops.size) && decide (Region.ready .any ops listed = [k]) && !(B.contains k) && mixBB ops B r (listed.setIfInBounds k true)
  | (_ + 2, k) :: r, listed => decide (k < ops.size) && decide (Region.ready .any ops listed = [k]) && B.contains k && r.all (fun p => decide (2 ≤ p.1)) && mixBB ops B r (listed.setIfInBounds k true)

theorem oneB_sound {l : List Oper} {B : List Nat} {i n : Nat} {listed : Array Bool} {a : Act} {w : World} {K : Act → World → Prop} (hk : l.toArray[i]? = some (l.getD i default))
    (ih : ∀ a w, K a w → (i ∈ B ∨ S w) ∧ wpToB P l.toArray (noP Q) S B n (listed.setIfInBounds i true) a w)
    (h : wpList P l.toArray (Exit.then K (noP Q)) [l.getD i default] a w) :
    wpOp P l.toArray (noP Q) i (fun a' w' => (i ∈ B ∨ S w') ∧ wpToB P l.toArray (noP Q) S B n (listed.setIfInBounds i true) a' w') a w := by
  unfold wpOp
  simp only [hk]
  unfold wpList at h
  by_cases hw : Region.wanted (l.getD i default) (yielded l.toArray a.tmps) = true
  · rw [if_pos hw] at h ⊢
    rcases h with h | ⟨h1, h2⟩
    · refine .inl (oper_wp_mono (fun a w h => ?_) (fun c a w h => h) (fun h => ?_) h)
      · unfold wpList at h
        exact ih a w h
      · obtain ⟨a, w, h⟩ := h; exact ⟨a, w, h⟩
    · obtain ⟨a, w, h⟩ := h2
      exact .inr ⟨h1, a, w, h⟩
  · rw [if_neg hw] at h ⊢
    unfold wpList at h
    exact ih _ _ h

theorem mixBB_sound (l : List Oper) (B : List Nat) (hs : Region.noSelect l.toArray = true) : ∀ (plan : List (Nat × Nat)) (listed : Array Bool) (a : Act) (w : World), mixBB l.toArray B plan listed = true → (S w ∨ plan.all (fun p => decide (2 ≤ p.1)) = true) →
    wpMixB P l.toArray S Q (itemsB l plan) a w → wpToB P l.toArray (noP Q) S B plan.length listed a w := by
  have hget : ∀ i, i < l.toArray.size → l.toArray[i]? = some (l.getD i default) := fun i hi => by
    have hlt' : i < l.length := by simpa using hi
    simp [List.getD, hlt']
  intro plan
  induction plan with
  | nil =>
    intro listed a w hB _ h
    exact ⟨by simpa [mixBB] using hB, h⟩
  | cons p r ih =>
    intro listed a w hB hS h
    obtain ⟨b, k⟩ := p
    match b, hB, hS, h with
    | 0, hB, hS, h =>
      simp only [mixBB, Bool.and_eq_true, decide_eq_true_eq] at hB
      obtain ⟨⟨⟨⟨hlt, hr⟩, hf⟩, hwt⟩, hB'⟩ := hB
      have hS' : S w := hS.resolve_right (by simp)
      have hk := hget k hlt
      have hr' : k ∈ Region.ready .any l.toArray listed := by simpa using hr
      unfold itemsB at h
      rw [List.map_cons] at h
      unfold wpMixB at h
      simp only at h
      by_cases hw : Region.wanted (l.getD k default) (yielded l.toArray a.tmps) = true
      · rw [if_pos hw] at h
        obtain ⟨v, hv, hn⟩ := h
        exact to_firstB hk hwt (Region.noSelect_spec hs) (fun c a w h => h) _ listed a w (Region.free_spec hk hf) hr' (.inl ⟨hw, hv⟩) hS' (ih _ _ _ hB' (.inl hS') hn)
      · rw [if_neg hw] at h
        exact to_firstB (v := undef) hk hwt (Region.noSelect_spec hs) (fun c a w h => h) _ listed a w (Region.free_spec hk hf) hr' (.inr ⟨by simpa using hw, rfl⟩) hS' (ih _ _ _ hB' (.inl hS') h)
    | 1, hB, hS, h =>
      simp only [mixBB, Bool.and_eq_true, decide_eq_true_eq] at hB
      obtain ⟨⟨⟨hlt, hr⟩, hnb⟩, hB'⟩ := hB
      unfold itemsB at h
      rw [List.map_cons] at h
      unfold wpMixB at h
      refine ⟨fun h0 => (by rw [hr] at h0; cases h0), fun j hj => ?_⟩
      rw [hr, List.mem_singleton] at hj
      subst hj
      exact oneB_sound (hget j hlt) (fun a w hq => ⟨.inr hq.1, ih _ a w hB' (.inl hq.1) hq.2⟩) h
    | b + 2, hB, hS, h =>
      simp only [mixBB, Bool.and_eq_true, decide_eq_true_eq] at hB
      obtain ⟨⟨⟨⟨hlt, hr⟩, hb⟩, hall⟩, hB'⟩ := hB
      unfold itemsB at h
      rw [List.map_cons] at h
      unfold wpMixB at h
      refine ⟨fun h0 => (by rw [hr] at h0; cases h0), fun j hj => ?_⟩
      rw [hr, List.mem_singleton] at hj
      subst hj
      exact oneB_sound (hget j hlt) (fun a w hq => ⟨.inl (by simpa using hb), ih _ a w hB' (.inr hall) hq⟩) h

/-- The beginning. -/
theorem wp_region_mixB {id : Nat} {a : Act} {w : World} {l : List Oper} (S : World → Prop) (plan : List (Nat × Nat)) (hm : P.follows .mixedOrders = true)
    (hB : (Region.noSelect l.toArray && decide (plan.length = l.toArray.size) && mixBB l.toArray (lateOf plan) plan (Array.replicate l.toArray.size false)) = true) (hS : S w.drew)
    (h : wpMixB P l.toArray S Q (itemsB l plan) a w.drew) : (Code.region id l.toArray true).wp P Q a w := by
  simp only [Bool.and_eq_true, decide_eq_true_eq] at hB
  obtain ⟨⟨hs, hl⟩, hB⟩ := hB
  have H := mixBB_sound (P := P) (Q := Q) (S := S) l (lateOf plan) hs plan _ a w.drew hB (.inl hS) h
  rw [hl] at H
  exact wp_mono (wp_region_any hm (wpAny_toB _ _ _ _ H)) noP_le

theorem wpMixB_nil {ops : Array Oper} {a : Act} {w : World} (h : Q .normal a w) : wpMixB P ops S Q [] a w := by unfold wpMixB; exact h
theorem wpMixB_free {ops : Array Oper} {a : Act} {w : World} {o : Oper} {r : List (Nat × Oper)}
    (h : ∀ K : Act → Prop, (∀ a, wpMixB P ops S Q r a w → K a) → if Region.wanted o (yielded ops a.tmps) = true then ∃ v, (∀ W, (execOp a.eval o).run P W = .ok (.value v) W) ∧ K (a.put o.dst v) else K (a.put o.dst undef)) : wpMixB P ops S Q ((0, o) :: r) a w := by
  have h2 := h (fun a => wpMixB P ops S Q r a w) (fun _ h => h)
  unfold wpMixB
  by_cases hw : Region.wanted o (yielded ops a.tmps) = true
  · rw [if_pos hw] at h2 ⊢
    obtain ⟨v, hv, hn⟩ := h2
    exact ⟨v, fun W _ => hv W, hn⟩
  · rw [if_neg hw] at h2 ⊢
    exact h2
theorem wpMixB_yield {ops : Array Oper} {a : Act} {w : World} {o : Oper} {r : List (Nat × Oper)} {v : Value} (hr : ∀ W, S W → (execOp a.eval o).run P W = .ok (.value v) W)
    (h : ∀ K : Act → Prop, (∀ a, wpMixB P ops S Q r a w → K a) → if Region.wanted o (yielded ops a.tmps) = true then K (a.put o.dst v) else K (a.put o.dst undef)) : wpMixB P ops S Q ((0, o) :: r) a w := by
  have h2 := h (fun a => wpMixB P ops S Q r a w) (fun _ h => h)
  unfold wpMixB
  by_cases hw : Region.wanted o (yielded ops a.tmps) = true
  · rw [if_pos hw] at h2 ⊢
    exact ⟨v, hr, h2⟩
  · rw [if_neg hw] at h2 ⊢
    exact h2
theorem wpMixB_one {ops : Array Oper} {a : Act} {w : World} {o : Oper} {r : List (Nat × Oper)}
    (h : ∀ K : Act → World → Prop, (∀ a w, S w → wpMixB P ops S Q r a w → K a w) → wpList P ops (Exit.then K (noP Q)) [o] a w) : wpMixB P ops S Q ((1, o) :: r) a w := by
  unfold wpMixB
  exact h (fun a w => S w ∧ wpMixB P ops S Q r a w) (fun a w h1 h2 => ⟨h1, h2⟩)
theorem wpMixB_late {ops : Array Oper} {a : Act} {w : World} {o : Oper} {r : List (Nat × Oper)}
    (h : ∀ K : Act → World → Prop, (∀ a w, wpMixB P ops S Q r a w → K a w) → wpList P ops (Exit.then K (noP Q)) [o] a w) : wpMixB P ops S Q ((2, o) :: r) a w := by
  unfold wpMixB
  exact h (fun a w => wpMixB P ops S Q r a w) (fun a w h => h)
end

end Go.Proofs.Ytjbcagbnagefcaa

namespace Go.Proofs.Ytjbcagbnagefcaa
open Go.RowKit

section
variable {P : Program} {ops : Array Oper} {a : Act} {w : World} {K : Act → World → Prop} {Q : Exit → Act → World → Prop}
theorem ev_ne {a : Act} {d n : Nat} {u v : Value} (h : d ≠ n) (e : a.eval (.tmp n) = v) : (a.put (some d) u).eval (.tmp n) = v := by
  rw [← e]
  simp only [Act.eval, Act.put, Array.getD_eq_getD_getElem?]
  rw [Array.getElem?_setIfInBounds_ne h]
theorem ev_eq {a : Act} {d : Nat} {v : Value} (h : d < a.tmps.size) : (a.put (some d) v).eval (.tmp d) = v := by
  simp only [Act.eval, Act.put, Array.getD_eq_getD_getElem?]
  rw [Array.getElem?_setIfInBounds_self_of_lt h, Option.getD_some]
theorem sz_put {a : Act} {d n : Nat} {u : Value} (h : n < a.tmps.size) : n < (a.put (some d) u).tmps.size := by
  simp only [Act.put, Array.size_setIfInBounds]
  exact h
theorem put_swap {a b : Act} {i j : Tmp} {u v : Value} (h : i ≠ j) (e : a.put (some j) v = b) : (a.put (some i) u).put (some j) v = b.put (some i) u := by
  rw [Act.put_comm a (x := some i) (y := some j) u v (fun d hd q => h (by cases hd; cases q; rfl)), e]
theorem wpList_endK (h : K a w) : wpList P ops (Exit.then K Q) [] a w := h
theorem wpList_step {o : Oper} {w' : World} (hgd : o.guard = none) (v : Value) (hv : (execOp a.eval o).run P w = .ok (.value v) w') (h : K (a.put o.dst v) w') : wpList P ops (Exit.then K Q) [o] a w := by
  refine wpList_plain hgd fun K hK => ?_
  unfold Oper.wp
  rw [hv]
  exact hK _ _ h
end
section
variable {ops : Array Oper} {a : Act} {w : World} {K : Act → World → Prop} {Q : Exit → Act → World → Prop} {d : Nat} {ty' : TypeId} {pos : String} {af : Array Edge} {C : Array Value} {n : Nat}
theorem one_bs0 (h : K (a.put (some d) (.slice (some ⟨w.heap.size, 0, none⟩) 0 0)) (w.alloc (.cells #[] 48))) : wpList Try.prog ops (Exit.then K Q) [⟨some d, .buildSlice 22 0 #[], ty', pos, af, none⟩] a w := by
  go_wp2_with fail
  exact h
theorem one_bsS (hn : a.eval (.tmp n) = .agg C) (hC : C.size = 5) (h : K (a.put (some d) (.slice (some ⟨w.heap.size, 0, none⟩) 1 1)) (w.alloc (.cells C 48))) : wpList Try.prog ops (Exit.then K Q) [⟨some d, .buildSlice 22 1 #[(0, .tmp n)], ty', pos, af, none⟩] a w := by
  simp only [Act.eval, Array.getD_eq_getD_getElem?] at hn
  go_wp2_with fail
  rw [fillN (n := 5) rfl hC]
  exact h
theorem one_bsF (hn : a.eval (.tmp n) = .agg C) (hC : C.size = 10) (h : K (a.put (some d) (.slice (some ⟨w.heap.size, 0, none⟩) 1 1)) (w.alloc (.cells C 36))) : wpList Try.prog ops (Exit.then K Q) [⟨some d, .buildSlice 23 1 #[(0, .tmp n)], ty', pos, af, none⟩] a w := by
  simp only [Act.eval, Array.getD_eq_getD_getElem?] at hn
  go_wp2_with fail
  rw [fillN (n := 10) rfl hC]
  exact h
theorem one_alC (h : K (a.put (some d) (.pointer (some ⟨w.heap.size, 0, none⟩))) (w.alloc (.cells #[.slice none 0 0, .slice none 0 0] 25))) : wpList Try.prog ops (Exit.then K Q) [⟨some d, .alloc 25, ty', pos, af, none⟩] a w := by
  go_wp2_with fail
  exact h
end

end Go.Proofs.Ytjbcagbnagefcaa

namespace Go.Proofs.Ytjbcagbnagefcaa.treeSpoils
open Go.ChangeShapes Go.WideShapes Go.ChangeAt Go.RowKit
open Go.ChangeMaps (open_string shut_string)

theorem own : ownKnob Try.prog.godebug = none := by kernel_rfl
theorem laidOut : laidOutB Try.prog = true := by kernel_rfl
/-- The bound and the world's shape, both handed to the walk. -/
theorem cond_shaped {H : Type} {enc : TypeId × Value → H} {a : Assume} {C : Checked} {os : Os} {f : FuncId} {fn : Func} {s : OpenSpec} {k : (H : Type) → List (DataW H) → Bool} (hk : s.cond = some k) {F : Stop.Interp} {conds : List PathCond} {apart fresh handsOn again : Bool}
    (own : ownKnob C.prog.godebug = none) (started : os.Started) (noInit : C.prog.inits.idxOf? f = none) (hfn : C.prog.funcs[f]? = some fn)
    (witness : ∃ (w : World) (tape : Tape) (i : Input), w.os = os ∧ (w.forCall tape i).Shaped C.prog ∧ i.vars = [] ∧ Input.okWide C.prog (w.forCall tape i) .any w.heap.size f i ∧
      s.pre6 enc C.prog fn conds apart (w.forCall tape i).memory i.args ∧ a.holds C.prog (lone (Frame.enter C.prog f i.args .normal) [] (w.forCall tape i)))
    (contract : ∀ (W : World) (base : Nat) (args : Array Value) (ds gs : List (DataW H)) (before : List MemPlace),
      (∀ (j : Nat) t v, fn.params[j]? = some t → args[j]? = some v → Value.okWide C.prog W .any base t v) →
      DataW.Whole enc C.prog fn.params.toList s.vars apart W args.toList ds gs before →
      k H (ds ++ gs) = true → W.ShapedOpen C.prog →
      Calls C.prog f args W fun e W' => ∃ v, e = .returned v ∧ (s.at F).post enc C.prog fn apart fresh handsOn again W args v W') :
    ReturnsInHanded a C os f .any (s.pre6 enc C.prog fn conds apart) ((s.at F).post enc C.prog fn apart fresh handsOn again) := by
  refine returnsInHanded_of_calls own started noInit witness ?_
  intro w tape i _ hsh _ hok hpre _
  obtain ⟨_, _, _, fn', hfn', _, _, _, _, hval⟩ := hok
  have e : fn' = fn := Option.some.inj (hfn'.symm.trans hfn)
  subst e
  obtain ⟨ds, gs, before, hw, _, hkk⟩ := (OpenSpec.pre_some hk conds apart _ _).1 hpre.1
  have hw' := DataW.Whole.of_heap (w' := w.forCall tape i) (by rfl) hw
  refine (contract (w.forCall tape i) w.heap.size i.args ds gs before hval hw' hkk hsh).mono fun e W' ⟨v, he, hp⟩ => ?_
  subst he
  exact ChangeSpec.post_blind hp

attribute [local irreducible] wpMix wpMixB wpMixG wpList
attribute [local go_sem ↓] exec_mid_ty exec_store_ty exec_mid_pl exec_store_pl exec_mid_opr exec_store_opr exec_mid_val exec_store_val exec_mid_st exec_store_st exec_mid_fld exec_store_fld exec_mid_str exec_store_str exec_mid_lif exec_store_lif exec_mid_fun exec_store_fun exec_mid_cr exec_store_cr
attribute [local go_sem] rowOk_new World.setRow_alloc_new

theorem max_of_shaped {w : World} (h : w.ShapedOpen Try.prog) : MaxV w :=
  cell_of_shapedOpen_int (zero := #[.int .i64 0]) h (of_decide_eq_true (by kernel_rfl)) (by kernel_rfl) rfl (by kernel_rfl) (by kernel_rfl) Try.underlying3

set_option maxRecDepth 100000 in
set_option linter.unusedSimpArgs false in
set_option maxHeartbeats 16000000 in
theorem walk {S : Nat → Prop} (c : CrD) (how : Int) (w : World) (hM : MaxV w) (cs1 : List Value) (hS : ∀ b, S b → b < w.heap.size) (hc0 : CrIs S w c cs1) (hcap : ∀ a n k, cs1[1]? = some (.slice a n k) → n ≤ k) : Calls Try.prog 3 #[.agg cs1.toArray, .int .i64 how] w fun e w' => e = .returned (.bool true) ∧ Keeps Nothing w w' := by
  have HM := shut hM
  have HC := shut hc0
  have HS := shut hS
  have ag1 := agg_ok hc0.len hc0.one
  obtain ⟨CC, hCC⟩ : ∃ C, C = cs1.toArray := ⟨_, rfl⟩
  have hsC : CC.size = 2 := by rw [hCC]; simpa using hc0.len
  rw [← hCC] at ag1 ⊢
  have GC := shut hCC
  clear hCC
  have BC := blk_new w CC 25
  have KW : Keeps Nothing w (w.alloc (.cells CC 25)) := (Keeps.refl Nothing w).alloc _
  have hg0 : Shut (w.heap.size < (w.alloc (.cells CC 25)).heap.size) := shut (by rw [World.size_alloc]; omega)
  clear hM hc0 hS
  go_enter Try.func3, Try.ntmps3
  go_upto_region 1 with fail
  clear ag1
  obtain ⟨a0, c0, aF, cF, hcs, HST, HFN⟩ := HC.out
  obtain ⟨ns, hns⟩ : ∃ ns, c.structs.length = ns := ⟨_, rfl⟩
  obtain ⟨nf, hnf⟩ : ∃ nf, c.funcs.length = nf := ⟨_, rfl⟩
  rw [hns, hnf] at hcs
  have hcapF : Shut (nf ≤ cF) := shut (hcap aF nf cF (by rw [hcs]; rfl))
  clear hcap
  have HNS := shut hns
  have HNF := shut hnf
  have hns2 : ns ≤ 100000000 := by have := HST.1; unfold bigN at this; omega
  have hnf2 : nf ≤ 100000000 := by have := HFN.1; unfold bigN at this; omega
  have HST := shut HST
  have HFN := shut HFN
  have HCS := shut hcs
  have HCS0 := shut hcs
  clear hcs hns hnf
  generalize w.alloc (.cells CC 25) = w0 at *
  obtain ⟨gc, hgc⟩ : ∃ g, w.heap.size = g := ⟨_, rfl⟩
  rw [hgc] at BC ⊢
  have HGC := shut hgc
  clear hgc
  obtain ⟨y1, y2⟩ := tblk_mid BC hsC
  have hg1 := great_any c w0 cs1 (HC.out.keeps (KW) (fun _ _ h => h) (fun _ h => h))
  rw [← GC.out] at hg1
  try dsimp only
  repeat (first | rw [if_neg Bool.false_ne_true] | go_values | go_skip | go_guarded | go_step | go_upon | go_back)
  refine hg1.mono ?_
  rintro e w1 ⟨⟨z, rfl⟩, k1⟩
  clear hg1 y1 y2
  have KW1 := KW.trans k1 (fun _ h _ => h)
  have BC1 := k1.blk BC (fun h => h)
  clear BC KW k1
  cases z with
  | true =>
    have hct := told7_any w1 (HM.out.keeps KW1)
    have KT := KW1
    try dsimp only
    repeat (first | rw [if_neg Bool.false_ne_true] | go_values | go_skip | go_guarded | go_step | go_upon | go_back)
    refine hct.mono ?_
    rintro e wt ⟨rfl, kt⟩
    have KF := KT.trans kt (fun _ h _ => h)
    clear hct
    try dsimp only
    repeat (first | rw [if_neg Bool.false_ne_true] | go_values | go_skip | go_guarded | go_step | go_upon | go_back)
    go_ret
    exact ⟨rfl, KF⟩

  | false =>
    obtain ⟨y1, y2⟩ := tblk_mid BC1 hsC
    have hg1 := rmay_any c w1 cs1 (HC.out.keeps (KW1) (fun _ _ h => h) (fun _ h => h))
    rw [← GC.out] at hg1
    try dsimp only
    repeat (first | rw [if_neg Bool.false_ne_true] | go_values | go_skip | go_guarded | go_step | go_upon | go_back)

    refine hg1.mono ?_
    rintro e w2 ⟨⟨z, rfl, hz⟩, k1⟩
    have HZ := shut hz
    clear hg1 y1 y2 hz
    have KW2 := KW1.trans k1 (fun _ h _ => h)
    have BC2 := k1.blk BC1 (fun h => h)
    clear BC1 KW1 k1
    have e0 := blk_cell BC2 0 (v := .slice a0 ns c0) (by rw [GC.out, HCS.out]; rfl)
    have e1 := blk_cell BC2 1 (v := .slice aF nf cF) (by rw [GC.out, HCS.out]; rfl)
    cases z with
    | false =>
      have hct := told7_any w2 (HM.out.keeps KW2)
      have KT := KW2
      try dsimp only
      repeat (first | rw [if_neg Bool.false_ne_true] | go_values | go_skip | go_guarded | go_step | go_upon | go_back)
      refine hct.mono ?_
      rintro e wt ⟨rfl, kt⟩
      have KF := KT.trans kt (fun _ h _ => h)
      clear hct
      try dsimp only
      repeat (first | rw [if_neg Bool.false_ne_true] | go_values | go_skip | go_guarded | go_step | go_upon | go_back)
      go_ret
      exact ⟨rfl, KF⟩

    | true =>
      have hcp := HZ.out.1 rfl
      have HCP := shut hcp
      clear hcp HZ
      by_cases hn0 : nf = 0
      · subst hn0
        have hct := told7_any w2 (HM.out.keeps KW2)
        have KT := KW2
        try dsimp only
        repeat (first | rw [if_neg Bool.false_ne_true] | go_values | go_skip | go_guarded | go_step | go_upon | go_back)
        refine hct.mono ?_
        rintro e wt ⟨rfl, kt⟩
        have KF := KT.trans kt (fun _ h _ => h)
        clear hct
        try dsimp only
        repeat (first | rw [if_neg Bool.false_ne_true] | go_values | go_skip | go_guarded | go_step | go_upon | go_back)
        go_ret
        exact ⟨rfl, KF⟩

      · have hb0 : ((nf : Int) == 0) = false := by simp; omega
        have hm0 : ¬ (nf : Int) = 0 := by omega
        have hw0 : IntKind.i64.wrap ((ns : Int) + nf) = ns + nf := by rw [IntKind.wrap_i64]; omega
        by_cases h250 : (250 : Int) < (ns : Int) + nf
        · have hbb : decide ((250 : Int) < (ns : Int) + nf) = true := by simp [h250]
          have hct := told7_any w2 (HM.out.keeps KW2)
          have KT := KW2
          try dsimp only
          repeat (first | rw [if_neg Bool.false_ne_true] | go_values | go_skip | go_guarded | go_step | go_upon | go_back)
          refine hct.mono ?_
          rintro e wt ⟨rfl, kt⟩
          have KF := KT.trans kt (fun _ h _ => h)
          clear hct
          try dsimp only
          repeat (first | rw [if_neg Bool.false_ne_true] | go_values | go_skip | go_guarded | go_step | go_upon | go_back)
          go_ret
          exact ⟨rfl, KF⟩

        · have hbb : decide ((250 : Int) < (ns : Int) + nf) = false := by simp [h250]
          try dsimp only
          go_upto_region 3 with (rw [if_neg Bool.false_ne_true])
          clear hm0 hbb e0
          obtain ⟨f0, hf0⟩ : ∃ f, c.funcs[0]? = some f := ⟨_, List.getElem?_eq_getElem (by rw [HNF.out]; omega)⟩
          have HFW : SlIs S w2 10 (FunIs S w2) aF c.funcs := HFN.out.keeps KW2 (fun _ _ h => h) (fun _ h => h) (fun _ _ _ h => h.keeps KW2 (fun _ _ h => h) (fun _ h => h))
          obtain ⟨bF, oF, rfl, hbF, cs5, l5, r5, i5⟩ := HFW.get hf0
          rw [Nat.zero_mul, Nat.add_zero] at r5
          have HF0 := shut hf0
          have HFW := shut HFW
          have ag5 := agg_ok i5.len i5.one
          obtain ⟨y1, y2⟩ := sub_of r5 l5
          have H5 := shut i5
          obtain ⟨C5, hC5⟩ : ∃ C, C = cs5.toArray := ⟨_, rfl⟩
          have hs5 : C5.size = 10 := by rw [hC5]; simpa using l5
          rw [← hC5] at ag5 y2
          have G5 := shut hC5
          have B5 := blk_new w2 C5 36
          have K3 : Keeps Nothing w2 (w2.alloc (.cells C5 36)) := (Keeps.refl Nothing w2).alloc _
          clear hC5 i5 hf0 l5 hbF r5
          go_upto_region 4 with fail
          clear ag5 y1 y2
          have KW3 := KW2.trans K3 (fun _ h _ => h)
          have BC3 := K3.blk BC2 (fun h => h)
          have hg5 : Shut (gc < w2.heap.size) := shut (lt_of_block BC2)
          obtain ⟨a2, c2, a3, c3, s4, a8, c8, hcs5, hnm, hl2, hl3, hl4, hl8⟩ := H5.out
          obtain ⟨-, -, -, q3, -, q8, -⟩ := FunB hl4.len (C := C5) (by rw [G5.out, hcs5]) B5
          obtain ⟨nb, hnb⟩ : ∃ n, f0.body.length = n := ⟨_, rfl⟩
          obtain ⟨np, hnp⟩ : ∃ n, f0.params.length = n := ⟨_, rfl⟩
          rw [hnb] at q8
          rw [hnp] at q3
          have HNB := shut hnb
          have HNP := shut hnp
          have hl8 := shut hl8
          clear hcs5 hnm hl2 hl3 hl4 hnb hnp HCS
          have HCB := BC2
          clear HCB BC2 KW2 e1
          generalize w2.alloc (.cells C5 36) = w3 at *
          generalize w2.heap.size = g5 at *
          by_cases hb19 : (1900 : Int) < nb
          · have hbb : decide ((1900 : Int) < nb) = true := by simp [hb19]
            have hct := told7_any w3 (HM.out.keeps KW3)
            have KT := KW3
            try dsimp only
            repeat (first | rw [if_neg Bool.false_ne_true] | go_values | go_skip | go_guarded | go_step | go_upon | go_back)
            refine hct.mono ?_
            rintro e wt ⟨rfl, kt⟩
            have KF := KT.trans kt (fun _ h _ => h)
            clear hct
            try dsimp only
            repeat (first | rw [if_neg Bool.false_ne_true] | go_values | go_skip | go_guarded | go_step | go_upon | go_back)
            go_ret
            exact ⟨rfl, KF⟩

          · have hbb : decide ((1900 : Int) < nb) = false := by simp [hb19]
            have hct := rcount_any f0.body w3 a8 c8 (hl8.out.keeps (S' := S) K3 (fun _ _ h => h) (fun _ h => h) (fun _ _ _ h => h.keeps K3 (fun _ _ h => h) (fun _ h => h)))
            rw [HNB.out] at hct
            try dsimp only
            repeat (first | rw [if_neg Bool.false_ne_true] | go_values | go_skip | go_guarded | go_step | go_upon | go_back)

            refine hct.mono ?_
            rintro e w4 ⟨⟨zc, rfl, hzc⟩, k4⟩
            have KW4 := KW3.trans k4 (fun _ h _ => h)
            have K4 := K3.trans k4 (fun _ h _ => h)
            have BC4 := k4.blk BC3 (fun h => h)
            have B54 := k4.blk B5 (fun h => h)
            have q3 := k4.cell q3 (fun h => h)
            clear hct hzc hbb q8 BC3 B5 K3 KW3 k4
            by_cases hz19 : (1900 : Int) < zc
            · have hbb : decide ((1900 : Int) < zc) = true := by simp [hz19]
              have hct := told7_any w4 (HM.out.keeps KW4)
              have KT := KW4
              try dsimp only
              repeat (first | rw [if_neg Bool.false_ne_true] | go_values | go_skip | go_guarded | go_step | go_upon | go_back)
              refine hct.mono ?_
              rintro e wt ⟨rfl, kt⟩
              have KF := KT.trans kt (fun _ h _ => h)
              clear hct
              try dsimp only
              repeat (first | rw [if_neg Bool.false_ne_true] | go_values | go_skip | go_guarded | go_step | go_upon | go_back)
              go_ret
              exact ⟨rfl, KF⟩

            · have hbb : decide ((1900 : Int) < zc) = false := by simp [hz19]
              by_cases hp60 : (60 : Int) < np
              · have hbp : decide ((60 : Int) < np) = true := by simp [hp60]
                have hct := told7_any w4 (HM.out.keeps KW4)
                have KT := KW4
                try dsimp only
                repeat (first | rw [if_neg Bool.false_ne_true] | go_values | go_skip | go_guarded | go_step | go_upon | go_back)
                refine hct.mono ?_
                rintro e wt ⟨rfl, kt⟩
                have KF := KT.trans kt (fun _ h _ => h)
                clear hct
                try dsimp only
                repeat (first | rw [if_neg Bool.false_ne_true] | go_values | go_skip | go_guarded | go_step | go_upon | go_back)
                go_ret
                exact ⟨rfl, KF⟩

              · have hbp : decide ((60 : Int) < np) = false := by simp [hp60]
                try dsimp only
                go_upto_region 6 with (rw [if_neg Bool.false_ne_true])
                clear hbb hbp hz19 q3
                obtain ⟨CS, hCS⟩ : ∃ C, C = (okC 10 [] 0).toArray := ⟨_, rfl⟩
                obtain ⟨CX, hCX⟩ : ∃ C : Array Value, C = #[.bool false, .string ⟨#[113]⟩, .slice none 0 0, .slice none 0 0, .int .i64 0] := ⟨_, rfl⟩
                have ag6 : aggOk 32 (.agg CS) = true := by rw [hCS]; kernel_rfl
                have ag7 : aggOk 5 (.agg CX) = true := by rw [hCX]; kernel_rfl
                have HCS := shut hCS
                have HCX := shut hCX
                have B6 := blk_new w4 CS 46
                have k6 : Keeps Nothing w4 (w4.alloc (.cells CS 46)) := (Keeps.refl Nothing w4).alloc _
                have l56 : Shut (g5 < w4.heap.size) := shut (lt_of_block B54)
                clear hCS hCX
                go_upto_region 7 with (first | refine wpList_bO ?_ | refine wpList_bV rfl ?_ | refine wpList_bS HCS.out rfl ?_)
                clear ag6
                generalize w4.alloc (.cells CS 46) = w5 at *
                generalize w4.heap.size = g6 at *
                have B7 := blk_new w5 CX 48
                have k7 : Keeps Nothing w5 (w5.alloc (.cells CX 48)) := (Keeps.refl Nothing w5).alloc _
                have l67 : Shut (g6 < w5.heap.size) := shut (lt_of_block B6)
                go_upto_region 8 with (refine wpList_bX HCX.out ?_)
                clear ag7
                generalize w5.alloc (.cells CX 48) = w6 at *
                generalize w5.heap.size = g7 at *
                have k67 := k6.trans k7 (fun _ h _ => h)
                have KW6 := KW4.trans k67 (fun _ h _ => h)
                have K6 := K4.trans k67 (fun _ h _ => h)
                have BC6 := k67.blk BC4 (fun h => h)
                have I6 : SpI S g5 g6 g7 f0 w6 := ⟨l56.out, l67.out, ⟨cs5, by rw [← G5.out]; exact k67.blk B54 (fun h => h), H5.out.keeps K6 (fun _ _ h => h) (fun _ h => h)⟩, by rw [← HCS.out]; exact k7.blk B6 (fun h => h), by rw [← HCX.out]; exact B7, fun b hb => by have h1 := HS.out b hb; have h2 := HGC.out; have h3 := hg5.out; omega⟩
                have l7 : Shut (g7 < w6.heap.size) := shut (lt_of_block B7)
                clear B6 B7 k6 k7 k67 KW4 K4 BC4 B54 K6 hl8
                go_upto_block 0 with fail
                generalize (wrap64 (how.tmod 6 + 6)).tmod 6 = r at *
                generalize wrap64 (how.tmod 6 + 6) = r2 at *
                generalize how.tmod 6 = r3 at *
                go_cut [] from 62 to 91 (fun wx => SpW S g5 g6 g7 f0.body wx ∧ Keeps (fun b => g5 ≤ b) w6 wx)
                case first =>
                  have J6 := shut I6
                  obtain ⟨cF6, b5, i5⟩ := I6.fn
                  have I5 := shut i5
                  have hl5 := i5.len
                  have c51 := blk_cell b5 1 (v := cF6[1]'(by omega)) (by simp)
                  have f5 := fun j => blk_free b5 j
                  have b6 := I6.st
                  have f6 := fun j => blk_free b6 j
                  have c60 := blk_cell b6 0 (v := .int .i64 10) rfl
                  have c63 := blk_cell b6 3 (v := .string ⟨#[]⟩) rfl
                  have c6d := blk_cell b6 13 (v := .int .i64 0) rfl
                  clear I6 i5
                  have l7 := l7.out
                  by_cases r0 : r = 0
                  · subst r0
                    go_wp2_with fail
                    any_goals try (rename_i hfz; simp [f5] at hfz; done)
                    go_meet
                    case rel => exact ⟨J6.out.way0, (setK g5 1 w6 _).mono (fun b hb _ => by omega)⟩
                  have n0 : (r == 0) = false := by simp [r0]
                  by_cases r1 : r = 1
                  · subst r1
                    clear n0
                    obtain ⟨CD, hCD⟩ : ∃ C, C = (fldC true 1).toArray := ⟨_, rfl⟩
                    have HCD := shut hCD
                    have hsD : CD.size = 6 := by rw [hCD]; rfl
                    have c7 := fun o => blk_cell (blk_alloc J6.out.sx o) 3 (v := .slice none 0 0) rfl
                    have f7 := fun o => blk_free (blk_alloc J6.out.sx o) 3
                    clear hCD
                    go_wp2_with (first | refine wpList_bT1 ?_ | refine wpList_bF1 HCD.out rfl ?_)
                    any_goals try (rename_i hfz; simp [f7] at hfz; done)
                    go_meet
                    case rel =>
                      try rw [fillN (n := 6) rfl hsD]
                      exact J6.out.way1 l7 HCD.out
                  have n1 : (r == 1) = false := by simp [r1]
                  by_cases r2 : r = 2
                  · subst r2
                    go_wp2_with fail
                    any_goals try (rename_i hfz; simp [f6] at hfz; done)
                    go_meet
                    case rel => exact ⟨J6.out.wayS 0 (.int .i64 12) 12 [] 0 (by decide) rfl (not_kind _ _), (setK g6 0 w6 _).mono (fun b hb _ => by have h1 := J6.out.n1; have hb' : b = g6 := hb; omega)⟩
                  have n2 : (r == 2) = false := by simp [r2]
                  by_cases r3 : r = 3
                  · subst r3
                    go_wp2_with fail
                    any_goals try (rename_i hfz; simp [f6] at hfz; done)
                    go_meet
                    case rel => exact ⟨J6.out.wayS 13 (.int .i64 2147483648) 10 [] 2147483648 (by decide) rfl (not_great _), (setK g6 13 w6 _).mono (fun b hb _ => by have h1 := J6.out.n1; have hb' : b = g6 := hb; omega)⟩
                  have n3 : (r == 3) = false := by simp [r3]
                  by_cases r4 : r = 4
                  · subst r4
                    obtain ⟨CD, hCD⟩ : ∃ C, C = (fldC false 4).toArray := ⟨_, rfl⟩
                    have HCD := shut hCD
                    have hsD : CD.size = 6 := by rw [hCD]; rfl
                    clear hCD n0 n1 n2 n3 c51 f6 c60 c63 c6d b6
                    obtain ⟨a2, c2, a3, c3, s4, a8, c8, hcF, hnm, hl2, hl3, hl4, hl8⟩ := I5.out
                    obtain ⟨-, -, -, q3, -, q8, -⟩ := FunB hl4.len (C := cF6.toArray) (by rw [hcF]) b5
                    rw [HNP.out] at q3
                    have HL3 := shut hl3
                    have HSZ : Shut (∀ b, S b → b < w6.heap.size) := shut (fun b hb => by have h1 := J6.out.off b hb; have h2 := J6.out.n1; have h3 := J6.out.n2; omega)
                    have O0 := shut (outR_none (Z := Zc S) (P := FldIs) (k := 6) (M := w6.heap.size) (blk_new w6 #[] 50) (Nat.le_refl _))
                    have E0 := shut (inb_sl (ao := some ⟨w6.heap.size, 0, none⟩) fldOk HL3.out ((Keeps.refl Nothing w6).alloc (.cells #[] 50)) HSZ.out (fun g hg => Nat.le_of_eq (Option.some.inj hg)))
                    have q3a := fun o => ((Keeps.refl Nothing w6).alloc o).cell q3 (fun h => h)
                    have hnp2 : np ≤ 60 := by omega
                    clear hcF hnm hl2 hl3 hl4 hl8 q8 q3
                    go_wp2_with (at_builtin; refine wpList_appM _ rfl (.tmp 82) (.tmp 84) 29 rfl Try.underlying29 iaFld (by decide) (zc_ok S) fldOk 0 np np (Nat.zero_add _) rfl HNP.out rfl O0.out (by rw [World.size_alloc]; omega) a3 c3 rfl E0.out (by omega) ?_)
                    intro ao1 cap1 w8 O1 k8 m8
                    have K8 := O0.out.on ((Keeps.refl Nothing w6).alloc _) rfl k8
                    have O1b := shut (O1.keepsN (zc_ok S) fldOk ((Keeps.refl Nothing w8).alloc (.cells CD 50)))
                    have O1 := shut O1
                    have BD := shut (blk_new w8 CD 50)
                    have hsz8 : w6.heap.size ≤ w8.heap.size := K8.size
                    clear k8 m8 E0 O0 q3a
                    go_wp2_with (first | refine wpList_bT4 ?_ | refine wpList_bF4 HCD.out rfl ?_ | (at_builtin; rw [fillN (n := 6) rfl hsD]; refine wpList_appM _ rfl (.tmp 85) (.tmp 88) 29 rfl Try.underlying29 iaFld (by decide) (zc_ok S) fldOk np 1 (np + 1) rfl HNP.out (l := [fldA false 4]) rfl rfl O1b.out (by rw [World.size_alloc]; omega) _ _ rfl (slIs_one (S := fun _ => True) HCD.out rfl BD.out trivial (fldA_is _ _ _ _)) (by omega) ?_))
                    intro ao2 cap2 w9 O2 k9 m9
                    have K9 := O1b.out.on (K8.alloc _) rfl k9
                    have J9 := J6.out.keeps K9
                    obtain ⟨cF9, b9, i9⟩ := J9.fn
                    have hl9 := i9.len
                    have c53 := blk_cell b9 3 (v := cF9[3]'(by omega)) (by simp)
                    have f9 := fun j => blk_free b9 j
                    have HF := shut (J9.way4 l7 O2 (by rw [HNP.out]) (by unfold bigN; omega))
                    have J9 := shut J9
                    clear k9 m9 O2 BD O1b O1 i9
                    go_wp2_with fail
                    any_goals try (rename_i hfz; simp [f9] at hfz; done)
                    go_meet
                    case rel => exact ⟨HF.out, (K9.mono (fun b h _ => h.elim)).trans ((setK g5 3 w9 _).mono (fun b hb _ => by have hb' : b = g5 := hb; omega)) (fun b hb _ => hb)⟩
                  have n4 : (r == 4) = false := by simp [r4]
                  go_wp2_with fail
                  any_goals try (rename_i hfz; simp [f6] at hfz; done)
                  go_meet
                  case rel => exact ⟨J6.out.wayS 3 (.string ⟨#[97]⟩) 10 [97] 0 (by decide) rfl not_named, (setK g6 3 w6 _).mono (fun b hb _ => by have h1 := J6.out.n1; have hb' : b = g6 := hb; omega)⟩
                case rest =>
                  obtain ⟨HW, KR⟩ := hcut
                  have n1 := I6.n1
                  have n2 := I6.n2
                  have hoff := shut I6.off
                  have KX : Keeps Nothing w wc := KW6.trans KR (fun b hb hlt => by have hb' : g5 ≤ b := hb; have h1 := HGC.out; have h2 := hg5.out; omega)
                  have BCx := KR.blk BC6 (fun q => by have q' : g5 ≤ gc := q; have h2 := hg5.out; omega)
                  obtain ⟨f, s, x, cF', cS, cX, hfb, bF5, bS6, bX7, iF, iS, iX, hsp⟩ := HW
                  have h7 := lt_of_block bX7
                  obtain ⟨Sx, hSx⟩ : ∃ T, SW S g7 wc = T := ⟨_, rfl⟩
                  rw [hSx] at iF iS iX
                  have HSX : Shut (∀ b, S b → Sx b) := shut (fun b hb => by rw [← hSx]; exact .inl hb)
                  have HSN : Shut (∀ b, Sx b → b < wc.heap.size) := shut (fun b hb => by rw [← hSx] at hb; rcases hb with hb | hb; have h1 := hoff.out b hb; omega; exact hb.2)
                  have HS5 : Shut (∀ b, Sx b → b ≠ g5 ∧ b ≠ g7) := shut (fun b hb => by rw [← hSx] at hb; rcases hb with hb | hb; have h1 := hoff.out b hb; exact ⟨by omega, by omega⟩; have h1 := hb.1; exact ⟨by omega, by omega⟩)
                  obtain ⟨N, hN⟩ : ∃ N, wc.heap.size = N := ⟨_, rfl⟩
                  have HN := shut hN
                  rw [hN] at h7
                  obtain ⟨a2, c2, a3, c3, s4, a8, c8, hcF, hnm, hl2, hl3, hl4, hl8⟩ := iF
                  have IF : Shut (FunIs Sx wc f cF') := shut ⟨a2, c2, a3, c3, s4, a8, c8, hcF, hnm, hl2, hl3, hl4, hl8⟩
                  obtain ⟨-, -, -, -, -, q8, -⟩ := FunB hl4.len (C := cF'.toArray) (by rw [hcF]) bF5
                  have HNB2 : Shut (f.body.length = nb) := shut (by rw [hfb]; exact HNB.out)
                  rw [HNB2.out] at q8
                  have HL8 := shut hl8
                  have HIS := shut iS
                  have HIX := shut iX
                  have HSP := shut hsp
                  obtain ⟨CS2, hCS2⟩ : ∃ C, C = cS.toArray := ⟨_, rfl⟩
                  have hsS : CS2.size = 32 := by rw [hCS2]; simpa using iS.len
                  rw [← hCS2] at bS6
                  have HCS2 := shut hCS2
                  obtain ⟨CX2, hCX2⟩ : ∃ C, C = cX.toArray := ⟨_, rfl⟩
                  have hsX : CX2.size = 5 := by rw [hCX2]; simpa using iX.len
                  rw [← hCX2] at bX7
                  have HCX2 := shut hCX2
                  have hnb2 : nb ≤ 1900 := by omega
                  clear hcF hnm hl2 hl3 hl4 hl8 iS iX hsp hCS2 hCX2 hSx I6 KW6 KR BC6 hN hfb hoff
                  go_upto_region 20 with fail
                  refine wp_region_mixG (fun V => Keeps Nothing wc V) 8 (.take 1 (.take 2 (.take 4 (.grp [0, 3, 5, 6] [[(0, 0), (0, 2)], [(1, 1), (1, 2), (4, 0)], [(3, 2), (5, 1)], [(7, 3)]] (.take 7 (.one 8 .done)))))) (by kernel_rfl) (by kernel_rfl) (Keeps.refl _ _).drew ?_
                  simp only [itemsG, PlanG.map, List.map_cons, List.map_nil, List.getD_cons_zero, List.getD_cons_succ, Nat.reduceBEq]
                  refine wpMixG_free (fun K hK => ?_)
                  go_simp
                  refine hK _ ?_
                  clear hK K
                  refine wpMixG_yield (v := .slice a8 nb c8) (fun W hW => ?_) (fun K hK => ?_)
                  · have y1 := hW.cell q8 (fun h => h)
                    go_simp
                  go_simp
                  refine hK _ ?_
                  clear hK K
                  refine wpMixG_yield (v := .agg CS2) (fun W hW => ?_) (fun K hK => ?_)
                  · obtain ⟨y1, y2⟩ := tblk_mid (hW.blk bS6 (fun h => h)) hsS
                    go_simp
                  go_simp
                  refine hK _ ?_
                  clear hK K q8
                  refine wpMixG_grp (fun a0 m a V => match m with | 0 => a = a0 | 1 => ∃ (h0 : Nat), a = (a0.put (some 91) (.slice (some ⟨h0, 0, none⟩) 0 0)) ∧ (OutR (Zc Sx) 46 32 StIs N V (some ⟨h0, 0, none⟩) 0 []) | 3 => ∃ (h0 : Nat) (a4 : Option Addr) (c4 : Nat), a = ((a0.put (some 91) (.slice (some ⟨h0, 0, none⟩) 0 0)).put (some 94) (.slice a4 nb c4)) ∧ (OutR (Zc Sx) 46 32 StIs N V a4 c4 f.body) | 4 => ∃ (h5 : Nat), a = (a0.put (some 96) (.slice (some ⟨h5, 0, none⟩) 1 1)) ∧ (Blk V h5 CS2 46) | 5 => ∃ (h0 : Nat) (h5 : Nat), a = ((a0.put (some 91) (.slice (some ⟨h0, 0, none⟩) 0 0)).put (some 96) (.slice (some ⟨h5, 0, none⟩) 1 1)) ∧ (OutR (Zc Sx) 46 32 StIs N V (some ⟨h0, 0, none⟩) 0 []) ∧ (Blk V h5 CS2 46) | 7 => ∃ (h0 : Nat) (a4 : Option Addr) (c4 : Nat) (h5 : Nat), a = (((a0.put (some 91) (.slice (some ⟨h0, 0, none⟩) 0 0)).put (some 94) (.slice a4 nb c4)).put (some 96) (.slice (some ⟨h5, 0, none⟩) 1 1)) ∧ (OutR (Zc Sx) 46 32 StIs N V a4 c4 f.body) ∧ (Blk V h5 CS2 46) | _ => ∃ (h0 : Nat) (a4 : Option Addr) (c4 : Nat) (h5 : Nat) (a6 : Option Addr) (c6 : Nat), a = ((((a0.put (some 91) (.slice (some ⟨h0, 0, none⟩) 0 0)).put (some 94) (.slice a4 nb c4)).put (some 96) (.slice (some ⟨h5, 0, none⟩) 1 1)).put (some 97) (.slice a6 (nb + 1) c6)) ∧ (OutR (Zc Sx) 46 32 StIs N V a6 c6 (f.body ++ [s]))) rfl (fun K hK => ⟨?_, ?_, ?_, ?_, ?_, ?_, ?_, ?_, trivial⟩) ?_
                  · intro a' V hS hI
                    obtain rfl := hI
                    have ka : ∀ o, Keeps Nothing V (V.alloc o) := fun o => (Keeps.refl Nothing V).alloc o
                    have hsz := hS.size
                    go_wp2_with fail
                    refine hK 1 _ _ (hS.alloc _) ?_
                    exact ⟨V.heap.size, rfl, outR_none (blk_new V #[] _) (by have := HN.out; omega)⟩
                  · intro a' V hS hI
                    obtain rfl := hI
                    have ka : ∀ o, Keeps Nothing V (V.alloc o) := fun o => (Keeps.refl Nothing V).alloc o
                    have hsz := hS.size
                    go_wp2_with fail
                    rw [fillN (n := 32) rfl hsS]
                    refine hK 4 _ _ (hS.alloc _) ?_
                    exact ⟨V.heap.size, rfl, blk_new V CS2 _⟩
                  · intro a' V hS hI
                    obtain ⟨h0, rfl, hO0⟩ := hI
                    have hsz := hS.size
                    refine wpList_appM _ rfl (.tmp 91) (.tmp 93) 34 rfl Try.underlying34 iaSt (by decide) (zc_ok Sx) stOk 0 nb nb (Nat.zero_add _) rfl HNB2.out rfl hO0 (by have := HN.out; omega) a8 c8 rfl (inb_sl stOk HL8.out hS HSN.out (fun g hg => by have := hO0.new g hg; have := HN.out; omega)) (by omega) ?_
                    intro a4 c4 V2 O2 k2 mv
                    go_wp2_with fail
                    refine hK 3 _ _ (hO0.on hS HN.out k2) ?_
                    exact ⟨h0, a4, c4, rfl, O2⟩
                  · intro a' V hS hI
                    obtain ⟨h0, rfl, hO0⟩ := hI
                    have ka : ∀ o, Keeps Nothing V (V.alloc o) := fun o => (Keeps.refl Nothing V).alloc o
                    have hsz := hS.size
                    go_wp2_with fail
                    rw [fillN (n := 32) rfl hsS]
                    refine hK 5 _ _ (hS.alloc _) ?_
                    exact ⟨h0, V.heap.size, rfl, hO0.keepsN (zc_ok Sx) stOk (ka _), blk_new V CS2 _⟩
                  · intro a' V hS hI
                    obtain ⟨h5, rfl, hB5⟩ := hI
                    have ka : ∀ o, Keeps Nothing V (V.alloc o) := fun o => (Keeps.refl Nothing V).alloc o
                    have hsz := hS.size
                    go_wp2_with fail
                    refine hK 5 _ _ (hS.alloc _) ?_
                    exact ⟨V.heap.size, h5, rfl, outR_none (blk_new V #[] _) (by have := HN.out; omega), (ka _).blk hB5 (fun h => h)⟩
                  · intro a' V hS hI
                    obtain ⟨h0, a4, c4, rfl, hO3⟩ := hI
                    have ka : ∀ o, Keeps Nothing V (V.alloc o) := fun o => (Keeps.refl Nothing V).alloc o
                    have hsz := hS.size
                    go_wp2_with fail
                    rw [fillN (n := 32) rfl hsS]
                    refine hK 7 _ _ (hS.alloc _) ?_
                    exact ⟨h0, a4, c4, V.heap.size, rfl, hO3.keepsN (zc_ok Sx) stOk (ka _), blk_new V CS2 _⟩
                  · intro a' V hS hI
                    obtain ⟨h0, h5, rfl, hO0, hB5⟩ := hI
                    have hsz := hS.size
                    refine wpList_appM _ rfl (.tmp 91) (.tmp 93) 34 rfl Try.underlying34 iaSt (by decide) (zc_ok Sx) stOk 0 nb nb (Nat.zero_add _) rfl HNB2.out rfl hO0 (by have := HN.out; omega) a8 c8 rfl (inb_sl stOk HL8.out hS HSN.out (fun g hg => by have := hO0.new g hg; have := HN.out; omega)) (by omega) ?_
                    intro a4 c4 V2 O2 k2 mv
                    go_wp2_with fail
                    refine hK 7 _ _ (hO0.on hS HN.out k2) ?_
                    exact ⟨h0, a4, c4, h5, rfl, O2, OutR.blkBeside0 hB5 hO0 (by omega) k2⟩
                  · intro a' V hS hI
                    obtain ⟨h0, a4, c4, h5, rfl, hO3, hB5⟩ := hI
                    have hsz := hS.size
                    refine wpList_appM _ rfl (.tmp 94) (.tmp 96) 34 rfl Try.underlying34 iaSt (by decide) (zc_ok Sx) stOk nb 1 (nb + 1) rfl HNB2.out (l := [s]) rfl rfl hO3 (by have := HN.out; omega) _ _ rfl (slIs_one (S := fun _ => True) HCS2.out HIS.out.len hB5 trivial (inb_el stOk HIS.out hS HSN.out (fun g hg => by have := hO3.new g hg; have := HN.out; omega))) (by omega) ?_
                    intro a6 c6 V2 O2 k2 mv
                    go_wp2_with fail
                    refine hK 15 _ _ (hO3.on hS HN.out k2) ?_
                    exact ⟨h0, a4, c4, h5, a6, c6, rfl, O2⟩
                  intro a' V hS hI
                  obtain ⟨h0, a4, c4, h5, a6, c6, rfl, hO6⟩ := hI
                  have hS2 := shut hS
                  have c9 := fun j v h => blk_cell (hS.blk bF5 (fun h => h)) j (v := v) h
                  have hlF := IF.out.len
                  have c58 := blk_cell (hS.blk bF5 (fun h => h)) 8 (v := cF'[8]'(by omega)) (by simp)
                  have f58 := blk_free (hS.blk bF5 (fun h => h)) 8
                  have HB := shut (body_next (n := nb + 1) (fun b hb => ⟨by rw [← HN.out]; exact HSN.out b hb, (HS5.out b hb).1⟩) (by omega) bF5 IF.out hS hO6 (by rw [HNB2.out]) (by unfold bigN; omega))
                  clear hS hO6 c9
                  refine wpMixG_free (fun K hK => ?_)
                  go_simp
                  refine hK _ ?_
                  clear hK K
                  refine wpMixG_one (fun K hK => ?_)
                  go_wp2_with fail
                  any_goals try (rename_i hfz; simp [f58] at hfz; done)
                  refine hK _ _ (.inl trivial) ?_
                  clear hK K c58 f58
                  refine wpMixG_done ?_
                  obtain ⟨bF9, iF9⟩ := HB.out
                  have k9 : Keeps (fun b => b = g5) V (V.setCell ⟨g5, 8, none⟩ (.slice a6 (nb + 1) c6)) := setK g5 8 V _
                  have hS9 : V.heap.size = (V.setCell ⟨g5, 8, none⟩ (.slice a6 (nb + 1) c6)).heap.size := (World.size_setCell _ _ _).symm
                  rw [hS9] at iF9
                  have KV : Keeps (fun b => b = g5) wc (V.setCell ⟨g5, 8, none⟩ (.slice a6 (nb + 1) c6)) := (hS2.out.mono (fun b h _ => h.elim)).trans k9 (fun b hb _ => hb)
                  obtain ⟨cF2, hcF2⟩ : ∃ l, l = cF'.set 8 (.slice a6 (nb + 1) c6) := ⟨_, rfl⟩
                  rw [← hcF2] at bF9 iF9
                  clear HB hS2 k9 hcF2 hS9
                  generalize V.setCell ⟨g5, 8, none⟩ (.slice a6 (nb + 1) c6) = wd at *
                  obtain ⟨f2, hf2⟩ : ∃ g : FunD, g = ⟨f.pub, f.name, f.lives, f.params, f.result, f.body ++ [s], f.pos⟩ := ⟨_, rfl⟩
                  rw [← hf2] at iF9
                  have HF2 := shut hf2
                  obtain ⟨Sy, hSy⟩ : ∃ T, (fun b => Sx b ∨ (N ≤ b ∧ b < wd.heap.size)) = T := ⟨_, rfl⟩
                  rw [hSy] at iF9
                  have HSY : Shut (∀ b, Sx b → Sy b) := shut (fun b hb => by rw [← hSy]; exact .inl hb)
                  have HSYN : Shut (∀ b, Sy b → b < wd.heap.size) := shut (fun b hb => by rw [← hSy] at hb; rcases hb with hb | hb; exact Nat.lt_of_lt_of_le (HSN.out b hb) KV.size; exact hb.2)
                  have KXd : Keeps Nothing w wd := KX.trans KV (fun b hb hlt => by have hb' : b = g5 := hb; have h1 := HGC.out; have h2 := hg5.out; omega)
                  have BCd := KV.blk BCx (fun q => by have q' : gc = g5 := q; have h2 := hg5.out; omega)
                  have bX9 := KV.blk bX7 (fun q => by have q' : g7 = g5 := q; omega)
                  have iX9 : StrIs Sy wd x cX := HIX.out.keeps KV (fun b hb q => (HS5.out b hb).1 q) HSY.out
                  have HST9 : SlIs Sy wd 5 (StrIs Sy wd) a0 c.structs := HST.out.keeps KXd (fun _ _ h => h) (fun b hb => HSY.out b (HSX.out b hb)) (fun _ _ _ h => h.keeps KXd (fun _ _ h => h) (fun b hb => HSY.out b (HSX.out b hb)))
                  have HFN9 : SlIs Sy wd 10 (FunIs Sy wd) (some ⟨bF, oF, none⟩) c.funcs := HFN.out.keeps KXd (fun _ _ h => h) (fun b hb => HSY.out b (HSX.out b hb)) (fun _ _ _ h => h.keeps KXd (fun _ _ h => h) (fun b hb => HSY.out b (HSX.out b hb)))
                  obtain ⟨rs, hrs⟩ : ∃ rs, c.funcs = f0 :: rs := by
                    have h0 := HF0.out
                    cases hcf : c.funcs with
                    | nil => rw [hcf] at h0; simp at h0
                    | cons y r => rw [hcf] at h0; simp at h0; exact ⟨r, by rw [h0]⟩
                  have hrl : Shut (rs.length = nf - 1) := shut (by have h0 := HNF.out; rw [hrs, List.length_cons] at h0; omega)
                  rw [hrs] at HFN9
                  obtain ⟨aT, haT⟩ : ∃ a : Option Addr, a = (if cF = 1 then some ⟨bF, oF, none⟩ else some ⟨bF, oF + 10, none⟩) := ⟨_, rfl⟩
                  have HT : Shut (SlIs Sy wd 10 (FunIs Sy wd) aT rs) := shut (by
                    by_cases h1 : cF = 1
                    · rw [haT, if_pos h1]
                      have h2 := hcapF.out
                      have h3 := hrl.out
                      obtain rfl : rs = [] := List.eq_nil_of_length_eq_zero (by omega)
                      exact slIs_nil _ _ _ _ _
                    · rw [haT, if_neg h1]
                      exact HFN9.tail)
                  have HIF := shut iF9
                  have HIX9 := shut iX9
                  have HST9 := shut HST9
                  have HAT := shut haT
                  obtain ⟨CF2, hCF2⟩ : ∃ C, C = cF2.toArray := ⟨_, rfl⟩
                  have hsF : CF2.size = 10 := by rw [hCF2]; simpa using iF9.len
                  rw [← hCF2] at bF9
                  have HCF2 := shut hCF2
                  have e0 := blk_cell BCd 0 (v := .slice a0 ns c0) (by rw [GC.out, HCS0.out]; rfl)
                  have e1 := blk_cell BCd 1 (v := .slice (some ⟨bF, oF, none⟩) nf cF) (by rw [GC.out, HCS0.out]; rfl)
                  clear iF9 iX9 hf2 hSy HFN9 hCF2 KV KX BCx bX7 bF5 bS6 hrs HIX hsS haT
                  have hm1 : 1 ≤ nf := by omega
                  go_upto_region 21 with fail
                  refine wp_region_mixG (fun V => Keeps Nothing wd V) 15 (.take 1 (.take 9 (.take 2 (.take 4 (.take 7 (.take 10 (.take 11 (.grp [0, 3, 5, 6, 8, 12, 13, 14] [[(0, 0), (0, 2), (0, 4), (0, 7)], [(1, 1), (1, 2), (1, 4), (1, 7), (4, 0), (4, 4), (4, 7), (16, 0), (16, 2), (16, 7), (128, 0), (128, 2), (128, 4)], [(3, 2), (3, 4), (3, 7), (5, 1), (5, 4), (5, 7), (17, 1), (17, 2), (17, 7), (129, 1), (129, 2), (129, 4), (20, 0), (20, 7), (132, 0), (132, 4), (144, 0), (144, 2)], [(7, 3), (7, 4), (7, 7), (19, 2), (19, 7), (131, 2), (131, 4), (21, 1), (21, 7), (133, 1), (133, 4), (145, 1), (145, 2), (148, 0)], [(15, 4), (15, 7), (23, 3), (23, 7), (135, 3), (135, 4), (147, 2), (149, 1)], [(31, 5), (31, 7), (143, 4), (151, 3)], [(63, 6), (63, 7), (159, 5)], [(127, 7), (191, 6)]] (.one 15 .done))))))))) (by kernel_rfl) (by kernel_rfl) (Keeps.refl _ _).drew ?_
                  simp only [itemsG, PlanG.map, List.map_cons, List.map_nil, List.getD_cons_zero, List.getD_cons_succ, Nat.reduceBEq]
                  iterate 2
                    refine wpMixG_free (fun K hK => ?_)
                    go_simp
                    refine hK _ ?_
                    clear hK K
                  refine wpMixG_yield (v := .slice a0 ns c0) (fun W hW => ?_) (fun K hK => ?_)
                  · have y1 := hW.cell e0 (fun h => h)
                    go_simp
                  go_simp
                  refine hK _ ?_
                  clear hK K
                  refine wpMixG_yield (v := .agg CX2) (fun W hW => ?_) (fun K hK => ?_)
                  · obtain ⟨y1, y2⟩ := tblk_mid (hW.blk bX9 (fun h => h)) hsX
                    go_simp
                  go_simp
                  refine hK _ ?_
                  clear hK K
                  refine wpMixG_yield (v := .agg CF2) (fun W hW => ?_) (fun K hK => ?_)
                  · obtain ⟨y1, y2⟩ := tblk_mid (hW.blk bF9 (fun h => h)) hsF
                    go_simp
                  go_simp
                  refine hK _ ?_
                  clear hK K
                  refine wpMixG_yield (v := .slice (some ⟨bF, oF, none⟩) nf cF) (fun W hW => ?_) (fun K hK => ?_)
                  · have y1 := hW.cell e1 (fun h => h)
                    go_simp
                  go_simp
                  refine hK _ ?_
                  clear hK K e0 e1
                  refine wpMixG_yield (v := .slice aT (nf - 1) (cF - 1)) (fun W hW => ?_) (fun K hK => ?_)
                  · go_simp
                    rw [if_pos (show (1 : Int) ≤ nf by omega), HAT.out]
                  go_simp
                  refine hK _ ?_
                  clear hK K
                  obtain ⟨N2, hN2⟩ : ∃ N, wd.heap.size = N := ⟨_, rfl⟩
                  have HN2 := shut hN2
                  have HSY2 : ∀ b, Sy b → b < N2 := fun b hb => by rw [← hN2]; exact HSYN.out b hb
                  clear hN2
                  refine wpMixG_grp (fun a0 m a V => match m with | 0 => a = a0 | 1 => ∃ (h0 : Nat), a = (a0.put (some 99) (.slice (some ⟨h0, 0, none⟩) 0 0)) ∧ (OutR (Zc Sy) 48 5 StrIs N2 V (some ⟨h0, 0, none⟩) 0 []) | 3 => ∃ (h0 : Nat) (a3 : Option Addr) (c3 : Nat), a = ((a0.put (some 99) (.slice (some ⟨h0, 0, none⟩) 0 0)).put (some 102) (.slice a3 ns c3)) ∧ (OutR (Zc Sy) 48 5 StrIs N2 V a3 c3 c.structs) | 4 => ∃ (h5 : Nat), a = (a0.put (some 104) (.slice (some ⟨h5, 0, none⟩) 1 1)) ∧ (Blk V h5 CX2 48) | 5 => ∃ (h0 : Nat) (h5 : Nat), a = ((a0.put (some 99) (.slice (some ⟨h0, 0, none⟩) 0 0)).put (some 104) (.slice (some ⟨h5, 0, none⟩) 1 1)) ∧ (OutR (Zc Sy) 48 5 StrIs N2 V (some ⟨h0, 0, none⟩) 0 []) ∧ (Blk V h5 CX2 48) | 7 => ∃ (h0 : Nat) (a3 : Option Addr) (c3 : Nat) (h5 : Nat), a = (((a0.put (some 99) (.slice (some ⟨h0, 0, none⟩) 0 0)).put (some 102) (.slice a3 ns c3)).put (some 104) (.slice (some ⟨h5, 0, none⟩) 1 1)) ∧ (OutR (Zc Sy) 48 5 StrIs N2 V a3 c3 c.structs) ∧ (Blk V h5 CX2 48) | 15 => ∃ (h0 : Nat) (a3 : Option Addr) (c3 : Nat) (h5 : Nat) (a6 : Option Addr) (c6 : Nat), a = ((((a0.put (some 99) (.slice (some ⟨h0, 0, none⟩) 0 0)).put (some 102) (.slice a3 ns c3)).put (some 104) (.slice (some ⟨h5, 0, none⟩) 1 1)).put (some 105) (.slice a6 (ns + 1) c6)) ∧ (OutR (Zc Sy) 48 5 StrIs N2 V a6 c6 (c.structs ++ [x])) | 16 => ∃ (h8 : Nat), a = (a0.put (some 107) (.slice (some ⟨h8, 0, none⟩) 1 1)) ∧ (OutR (Zc Sy) 36 10 FunIs N2 V (some ⟨h8, 0, none⟩) 1 [f2]) | 17 => ∃ (h0 : Nat) (h8 : Nat), a = ((a0.put (some 99) (.slice (some ⟨h0, 0, none⟩) 0 0)).put (some 107) (.slice (some ⟨h8, 0, none⟩) 1 1)) ∧ (OutR (Zc Sy) 48 5 StrIs N2 V (some ⟨h0, 0, none⟩) 0 []) ∧ (OutR (Zc Sy) 36 10 FunIs N2 V (some ⟨h8, 0, none⟩) 1 [f2]) | 19 => ∃ (h0 : Nat) (a3 : Option Addr) (c3 : Nat) (h8 : Nat), a = (((a0.put (some 99) (.slice (some ⟨h0, 0, none⟩) 0 0)).put (some 102) (.slice a3 ns c3)).put (some 107) (.slice (some ⟨h8, 0, none⟩) 1 1)) ∧ (OutR (Zc Sy) 48 5 StrIs N2 V a3 c3 c.structs) ∧ (OutR (Zc Sy) 36 10 FunIs N2 V (some ⟨h8, 0, none⟩) 1 [f2]) | 20 => ∃ (h5 : Nat) (h8 : Nat), a = ((a0.put (some 104) (.slice (some ⟨h5, 0, none⟩) 1 1)).put (some 107) (.slice (some ⟨h8, 0, none⟩) 1 1)) ∧ (Blk V h5 CX2 48) ∧ (OutR (Zc Sy) 36 10 FunIs N2 V (some ⟨h8, 0, none⟩) 1 [f2]) | 21 => ∃ (h0 : Nat) (h5 : Nat) (h8 : Nat), a = (((a0.put (some 99) (.slice (some ⟨h0, 0, none⟩) 0 0)).put (some 104) (.slice (some ⟨h5, 0, none⟩) 1 1)).put (some 107) (.slice (some ⟨h8, 0, none⟩) 1 1)) ∧ (OutR (Zc Sy) 48 5 StrIs N2 V (some ⟨h0, 0, none⟩) 0 []) ∧ (Blk V h5 CX2 48) ∧ (OutR (Zc Sy) 36 10 FunIs N2 V (some ⟨h8, 0, none⟩) 1 [f2]) | 23 => ∃ (h0 : Nat) (a3 : Option Addr) (c3 : Nat) (h5 : Nat) (h8 : Nat), a = ((((a0.put (some 99) (.slice (some ⟨h0, 0, none⟩) 0 0)).put (some 102) (.slice a3 ns c3)).put (some 104) (.slice (some ⟨h5, 0, none⟩) 1 1)).put (some 107) (.slice (some ⟨h8, 0, none⟩) 1 1)) ∧ (OutR (Zc Sy) 48 5 StrIs N2 V a3 c3 c.structs) ∧ (Blk V h5 CX2 48) ∧ (OutR (Zc Sy) 36 10 FunIs N2 V (some ⟨h8, 0, none⟩) 1 [f2]) | 31 => ∃ (h0 : Nat) (a3 : Option Addr) (c3 : Nat) (h5 : Nat) (a6 : Option Addr) (c6 : Nat) (h8 : Nat), a = (((((a0.put (some 99) (.slice (some ⟨h0, 0, none⟩) 0 0)).put (some 102) (.slice a3 ns c3)).put (some 104) (.slice (some ⟨h5, 0, none⟩) 1 1)).put (some 105) (.slice a6 (ns + 1) c6)).put (some 107) (.slice (some ⟨h8, 0, none⟩) 1 1)) ∧ (OutR (Zc Sy) 48 5 StrIs N2 V a6 c6 (c.structs ++ [x])) ∧ (OutR (Zc Sy) 36 10 FunIs N2 V (some ⟨h8, 0, none⟩) 1 [f2]) | 63 => ∃ (h0 : Nat) (a3 : Option Addr) (c3 : Nat) (h5 : Nat) (a6 : Option Addr) (c6 : Nat) (h8 : Nat) (a12 : Option Addr) (c12 : Nat), a = ((((((a0.put (some 99) (.slice (some ⟨h0, 0, none⟩) 0 0)).put (some 102) (.slice a3 ns c3)).put (some 104) (.slice (some ⟨h5, 0, none⟩) 1 1)).put (some 105) (.slice a6 (ns + 1) c6)).put (some 107) (.slice (some ⟨h8, 0, none⟩) 1 1)).put (some 111) (.slice a12 nf c12)) ∧ (OutR (Zc Sy) 48 5 StrIs N2 V a6 c6 (c.structs ++ [x])) ∧ (OutR (Zc Sy) 36 10 FunIs N2 V a12 c12 ([f2] ++ rs)) | 127 => ∃ (h0 : Nat) (a3 : Option Addr) (c3 : Nat) (h5 : Nat) (a6 : Option Addr) (c6 : Nat) (h8 : Nat) (a12 : Option Addr) (c12 : Nat), a = (((((((a0.put (some 99) (.slice (some ⟨h0, 0, none⟩) 0 0)).put (some 102) (.slice a3 ns c3)).put (some 104) (.slice (some ⟨h5, 0, none⟩) 1 1)).put (some 105) (.slice a6 (ns + 1) c6)).put (some 107) (.slice (some ⟨h8, 0, none⟩) 1 1)).put (some 111) (.slice a12 nf c12)).put (some 112) (.agg #[.slice a6 (ns + 1) c6, .slice a12 nf c12])) ∧ (OutR (Zc Sy) 48 5 StrIs N2 V a6 c6 (c.structs ++ [x])) ∧ (OutR (Zc Sy) 36 10 FunIs N2 V a12 c12 ([f2] ++ rs)) | 128 => ∃ (g14 : Nat), a = (a0.put (some 8) (.pointer (some ⟨g14, 0, none⟩))) ∧ (Blk V g14 #[.slice none 0 0, .slice none 0 0] 25) ∧ (N2 ≤ g14) | 129 => ∃ (h0 : Nat) (g14 : Nat), a = ((a0.put (some 99) (.slice (some ⟨h0, 0, none⟩) 0 0)).put (some 8) (.pointer (some ⟨g14, 0, none⟩))) ∧ (OutR (Zc Sy) 48 5 StrIs N2 V (some ⟨h0, 0, none⟩) 0 []) ∧ (Blk V g14 #[.slice none 0 0, .slice none 0 0] 25) ∧ (N2 ≤ g14) | 131 => ∃ (h0 : Nat) (a3 : Option Addr) (c3 : Nat) (g14 : Nat), a = (((a0.put (some 99) (.slice (some ⟨h0, 0, none⟩) 0 0)).put (some 102) (.slice a3 ns c3)).put (some 8) (.pointer (some ⟨g14, 0, none⟩))) ∧ (OutR (Zc Sy) 48 5 StrIs N2 V a3 c3 c.structs) ∧ (Blk V g14 #[.slice none 0 0, .slice none 0 0] 25) ∧ (N2 ≤ g14) | 132 => ∃ (h5 : Nat) (g14 : Nat), a = ((a0.put (some 104) (.slice (some ⟨h5, 0, none⟩) 1 1)).put (some 8) (.pointer (some ⟨g14, 0, none⟩))) ∧ (Blk V h5 CX2 48) ∧ (Blk V g14 #[.slice none 0 0, .slice none 0 0] 25) ∧ (N2 ≤ g14) | 133 => ∃ (h0 : Nat) (h5 : Nat) (g14 : Nat), a = (((a0.put (some 99) (.slice (some ⟨h0, 0, none⟩) 0 0)).put (some 104) (.slice (some ⟨h5, 0, none⟩) 1 1)).put (some 8) (.pointer (some ⟨g14, 0, none⟩))) ∧ (OutR (Zc Sy) 48 5 StrIs N2 V (some ⟨h0, 0, none⟩) 0 []) ∧ (Blk V h5 CX2 48) ∧ (Blk V g14 #[.slice none 0 0, .slice none 0 0] 25) ∧ (N2 ≤ g14) | 135 => ∃ (h0 : Nat) (a3 : Option Addr) (c3 : Nat) (h5 : Nat) (g14 : Nat), a = ((((a0.put (some 99) (.slice (some ⟨h0, 0, none⟩) 0 0)).put (some 102) (.slice a3 ns c3)).put (some 104) (.slice (some ⟨h5, 0, none⟩) 1 1)).put (some 8) (.pointer (some ⟨g14, 0, none⟩))) ∧ (OutR (Zc Sy) 48 5 StrIs N2 V a3 c3 c.structs) ∧ (Blk V h5 CX2 48) ∧ (Blk V g14 #[.slice none 0 0, .slice none 0 0] 25) ∧ (N2 ≤ g14) | 143 => ∃ (h0 : Nat) (a3 : Option Addr) (c3 : Nat) (h5 : Nat) (a6 : Option Addr) (c6 : Nat) (g14 : Nat), a = (((((a0.put (some 99) (.slice (some ⟨h0, 0, none⟩) 0 0)).put (some 102) (.slice a3 ns c3)).put (some 104) (.slice (some ⟨h5, 0, none⟩) 1 1)).put (some 105) (.slice a6 (ns + 1) c6)).put (some 8) (.pointer (some ⟨g14, 0, none⟩))) ∧ (OutR (Zc Sy) 48 5 StrIs N2 V a6 c6 (c.structs ++ [x])) ∧ (Blk V g14 #[.slice none 0 0, .slice none 0 0] 25) ∧ (N2 ≤ g14) | 144 => ∃ (h8 : Nat) (g14 : Nat), a = ((a0.put (some 107) (.slice (some ⟨h8, 0, none⟩) 1 1)).put (some 8) (.pointer (some ⟨g14, 0, none⟩))) ∧ (OutR (Zc Sy) 36 10 FunIs N2 V (some ⟨h8, 0, none⟩) 1 [f2]) ∧ (Blk V g14 #[.slice none 0 0, .slice none 0 0] 25) ∧ (N2 ≤ g14) | 145 => ∃ (h0 : Nat) (h8 : Nat) (g14 : Nat), a = (((a0.put (some 99) (.slice (some ⟨h0, 0, none⟩) 0 0)).put (some 107) (.slice (some ⟨h8, 0, none⟩) 1 1)).put (some 8) (.pointer (some ⟨g14, 0, none⟩))) ∧ (OutR (Zc Sy) 48 5 StrIs N2 V (some ⟨h0, 0, none⟩) 0 []) ∧ (OutR (Zc Sy) 36 10 FunIs N2 V (some ⟨h8, 0, none⟩) 1 [f2]) ∧ (Blk V g14 #[.slice none 0 0, .slice none 0 0] 25) ∧ (N2 ≤ g14) | 147 => ∃ (h0 : Nat) (a3 : Option Addr) (c3 : Nat) (h8 : Nat) (g14 : Nat), a = ((((a0.put (some 99) (.slice (some ⟨h0, 0, none⟩) 0 0)).put (some 102) (.slice a3 ns c3)).put (some 107) (.slice (some ⟨h8, 0, none⟩) 1 1)).put (some 8) (.pointer (some ⟨g14, 0, none⟩))) ∧ (OutR (Zc Sy) 48 5 StrIs N2 V a3 c3 c.structs) ∧ (OutR (Zc Sy) 36 10 FunIs N2 V (some ⟨h8, 0, none⟩) 1 [f2]) ∧ (Blk V g14 #[.slice none 0 0, .slice none 0 0] 25) ∧ (N2 ≤ g14) | 148 => ∃ (h5 : Nat) (h8 : Nat) (g14 : Nat), a = (((a0.put (some 104) (.slice (some ⟨h5, 0, none⟩) 1 1)).put (some 107) (.slice (some ⟨h8, 0, none⟩) 1 1)).put (some 8) (.pointer (some ⟨g14, 0, none⟩))) ∧ (Blk V h5 CX2 48) ∧ (OutR (Zc Sy) 36 10 FunIs N2 V (some ⟨h8, 0, none⟩) 1 [f2]) ∧ (Blk V g14 #[.slice none 0 0, .slice none 0 0] 25) ∧ (N2 ≤ g14) | 149 => ∃ (h0 : Nat) (h5 : Nat) (h8 : Nat) (g14 : Nat), a = ((((a0.put (some 99) (.slice (some ⟨h0, 0, none⟩) 0 0)).put (some 104) (.slice (some ⟨h5, 0, none⟩) 1 1)).put (some 107) (.slice (some ⟨h8, 0, none⟩) 1 1)).put (some 8) (.pointer (some ⟨g14, 0, none⟩))) ∧ (OutR (Zc Sy) 48 5 StrIs N2 V (some ⟨h0, 0, none⟩) 0 []) ∧ (Blk V h5 CX2 48) ∧ (OutR (Zc Sy) 36 10 FunIs N2 V (some ⟨h8, 0, none⟩) 1 [f2]) ∧ (Blk V g14 #[.slice none 0 0, .slice none 0 0] 25) ∧ (N2 ≤ g14) | 151 => ∃ (h0 : Nat) (a3 : Option Addr) (c3 : Nat) (h5 : Nat) (h8 : Nat) (g14 : Nat), a = (((((a0.put (some 99) (.slice (some ⟨h0, 0, none⟩) 0 0)).put (some 102) (.slice a3 ns c3)).put (some 104) (.slice (some ⟨h5, 0, none⟩) 1 1)).put (some 107) (.slice (some ⟨h8, 0, none⟩) 1 1)).put (some 8) (.pointer (some ⟨g14, 0, none⟩))) ∧ (OutR (Zc Sy) 48 5 StrIs N2 V a3 c3 c.structs) ∧ (Blk V h5 CX2 48) ∧ (OutR (Zc Sy) 36 10 FunIs N2 V (some ⟨h8, 0, none⟩) 1 [f2]) ∧ (Blk V g14 #[.slice none 0 0, .slice none 0 0] 25) ∧ (N2 ≤ g14) | 159 => ∃ (h0 : Nat) (a3 : Option Addr) (c3 : Nat) (h5 : Nat) (a6 : Option Addr) (c6 : Nat) (h8 : Nat) (g14 : Nat), a = ((((((a0.put (some 99) (.slice (some ⟨h0, 0, none⟩) 0 0)).put (some 102) (.slice a3 ns c3)).put (some 104) (.slice (some ⟨h5, 0, none⟩) 1 1)).put (some 105) (.slice a6 (ns + 1) c6)).put (some 107) (.slice (some ⟨h8, 0, none⟩) 1 1)).put (some 8) (.pointer (some ⟨g14, 0, none⟩))) ∧ (OutR (Zc Sy) 48 5 StrIs N2 V a6 c6 (c.structs ++ [x])) ∧ (OutR (Zc Sy) 36 10 FunIs N2 V (some ⟨h8, 0, none⟩) 1 [f2]) ∧ (Blk V g14 #[.slice none 0 0, .slice none 0 0] 25) ∧ (N2 ≤ g14) | 191 => ∃ (h0 : Nat) (a3 : Option Addr) (c3 : Nat) (h5 : Nat) (a6 : Option Addr) (c6 : Nat) (h8 : Nat) (a12 : Option Addr) (c12 : Nat) (g14 : Nat), a = (((((((a0.put (some 99) (.slice (some ⟨h0, 0, none⟩) 0 0)).put (some 102) (.slice a3 ns c3)).put (some 104) (.slice (some ⟨h5, 0, none⟩) 1 1)).put (some 105) (.slice a6 (ns + 1) c6)).put (some 107) (.slice (some ⟨h8, 0, none⟩) 1 1)).put (some 111) (.slice a12 nf c12)).put (some 8) (.pointer (some ⟨g14, 0, none⟩))) ∧ (OutR (Zc Sy) 48 5 StrIs N2 V a6 c6 (c.structs ++ [x])) ∧ (OutR (Zc Sy) 36 10 FunIs N2 V a12 c12 ([f2] ++ rs)) ∧ (Blk V g14 #[.slice none 0 0, .slice none 0 0] 25) ∧ (N2 ≤ g14) | _ => ∃ (h0 : Nat) (a3 : Option Addr) (c3 : Nat) (h5 : Nat) (a6 : Option Addr) (c6 : Nat) (h8 : Nat) (a12 : Option Addr) (c12 : Nat) (g14 : Nat), a = ((((((((a0.put (some 99) (.slice (some ⟨h0, 0, none⟩) 0 0)).put (some 102) (.slice a3 ns c3)).put (some 104) (.slice (some ⟨h5, 0, none⟩) 1 1)).put (some 105) (.slice a6 (ns + 1) c6)).put (some 107) (.slice (some ⟨h8, 0, none⟩) 1 1)).put (some 111) (.slice a12 nf c12)).put (some 112) (.agg #[.slice a6 (ns + 1) c6, .slice a12 nf c12])).put (some 8) (.pointer (some ⟨g14, 0, none⟩))) ∧ (OutR (Zc Sy) 48 5 StrIs N2 V a6 c6 (c.structs ++ [x])) ∧ (OutR (Zc Sy) 36 10 FunIs N2 V a12 c12 ([f2] ++ rs)) ∧ (Blk V g14 #[.slice none 0 0, .slice none 0 0] 25) ∧ (N2 ≤ g14)) rfl (fun K hK => ⟨?_, ?_, ?_, ?_, ?_, ?_, ?_, ?_, ?_, ?_, ?_, ?_, ?_, ?_, ?_, ?_, ?_, ?_, ?_, ?_, ?_, ?_, ?_, ?_, ?_, ?_, ?_, ?_, ?_, ?_, ?_, ?_, ?_, ?_, ?_, ?_, ?_, ?_, ?_, ?_, ?_, ?_, ?_, ?_, ?_, ?_, ?_, ?_, ?_, ?_, ?_, ?_, ?_, ?_, ?_, ?_, ?_, ?_, ?_, ?_, ?_, ?_, ?_, ?_, ?_, ?_, trivial⟩) ?_
                  · intro a' V hS hI
                    obtain rfl := hI
                    have ka : ∀ o, Keeps Nothing V (V.alloc o) := fun o => (Keeps.refl Nothing V).alloc o
                    have hsz := hS.size
                    refine one_bs0 ?_
                    refine hK 1 _ _ (hS.alloc _) ?_
                    exact ⟨V.heap.size, rfl, outR_none (blk_new V #[] _) (by have := HN2.out; omega)⟩
                  · intro a' V hS hI
                    obtain rfl := hI
                    have ka : ∀ o, Keeps Nothing V (V.alloc o) := fun o => (Keeps.refl Nothing V).alloc o
                    have hsz := hS.size
                    refine one_bsS (rfl) hsX ?_
                    refine hK 4 _ _ (hS.alloc _) ?_
                    exact ⟨V.heap.size, rfl, blk_new V CX2 _⟩
                  · intro a' V hS hI
                    obtain rfl := hI
                    have ka : ∀ o, Keeps Nothing V (V.alloc o) := fun o => (Keeps.refl Nothing V).alloc o
                    have hsz := hS.size
                    refine one_bsF (rfl) hsF ?_
                    refine hK 16 _ _ (hS.alloc _) ?_
                    exact ⟨V.heap.size, rfl, outR_one HCF2.out funOk (blk_new V CF2 _) (by have := HN2.out; omega) (inb_el funOk HIF.out (hS.alloc _) HSYN.out (fun g hg => by have q : V.heap.size = g := Option.some.inj hg; omega))⟩
                  · intro a' V hS hI
                    obtain rfl := hI
                    have ka : ∀ o, Keeps Nothing V (V.alloc o) := fun o => (Keeps.refl Nothing V).alloc o
                    refine one_alC ?_
                    refine hK 128 _ _ (hS.alloc _) ?_
                    exact ⟨V.heap.size, rfl, blk_new V _ _, (by have := hS.size; have := HN2.out; omega)⟩
                  · intro a' V hS hI
                    obtain ⟨h0, rfl, hO0⟩ := hI
                    have hsz := hS.size
                    refine wpList_appM _ rfl (.tmp 99) (.tmp 101) 22 rfl Try.underlying22 iaStr (by decide) (zc_ok Sy) strOk 0 ns ns (by omega) rfl HNS.out (ev_eq (of_decide_eq_true rfl)) hO0 (by have := HN2.out; omega) a0 c0 (ev_ne (by decide) rfl) (inb_sl strOk HST9.out hS HSYN.out (fun g hg => by have := hO0.new g hg; have := HN2.out; omega)) (by omega) ?_
                    intro a3 c3 V2 O2 k2 mv
                    refine wpList_endK ?_
                    refine hK 3 _ _ (hO0.on hS HN2.out k2) ?_
                    exact ⟨h0, a3, c3, rfl, O2⟩
                  · intro a' V hS hI
                    obtain ⟨h0, rfl, hO0⟩ := hI
                    have ka : ∀ o, Keeps Nothing V (V.alloc o) := fun o => (Keeps.refl Nothing V).alloc o
                    have hsz := hS.size
                    refine one_bsS (ev_ne (by decide) rfl) hsX ?_
                    refine hK 5 _ _ (hS.alloc _) ?_
                    exact ⟨h0, V.heap.size, rfl, hO0.keepsN (zc_ok Sy) strOk (ka _), blk_new V CX2 _⟩
                  · intro a' V hS hI
                    obtain ⟨h0, rfl, hO0⟩ := hI
                    have ka : ∀ o, Keeps Nothing V (V.alloc o) := fun o => (Keeps.refl Nothing V).alloc o
                    have hsz := hS.size
                    refine one_bsF (ev_ne (by decide) rfl) hsF ?_
                    refine hK 17 _ _ (hS.alloc _) ?_
                    exact ⟨h0, V.heap.size, rfl, hO0.keepsN (zc_ok Sy) strOk (ka _), outR_one HCF2.out funOk (blk_new V CF2 _) (by have := HN2.out; omega) (inb_el funOk HIF.out (hS.alloc _) HSYN.out (fun g hg => by have q : V.heap.size = g := Option.some.inj hg; omega))⟩
                  · intro a' V hS hI
                    obtain ⟨h0, rfl, hO0⟩ := hI
                    have ka : ∀ o, Keeps Nothing V (V.alloc o) := fun o => (Keeps.refl Nothing V).alloc o
                    refine one_alC ?_
                    refine hK 129 _ _ (hS.alloc _) ?_
                    exact ⟨h0, V.heap.size, rfl, hO0.keepsN (zc_ok Sy) strOk (ka _), blk_new V _ _, (by have := hS.size; have := HN2.out; omega)⟩
                  · intro a' V hS hI
                    obtain ⟨h5, rfl, hB5⟩ := hI
                    have ka : ∀ o, Keeps Nothing V (V.alloc o) := fun o => (Keeps.refl Nothing V).alloc o
                    have hsz := hS.size
                    refine one_bs0 ?_
                    refine hK 5 _ _ (hS.alloc _) ?_
                    exact ⟨V.heap.size, h5, put_swap (by decide) rfl, outR_none (blk_new V #[] _) (by have := HN2.out; omega), (ka _).blk hB5 (fun h => h)⟩
                  · intro a' V hS hI
                    obtain ⟨h5, rfl, hB5⟩ := hI
                    have ka : ∀ o, Keeps Nothing V (V.alloc o) := fun o => (Keeps.refl Nothing V).alloc o
                    have hsz := hS.size
                    refine one_bsF (ev_ne (by decide) rfl) hsF ?_
                    refine hK 20 _ _ (hS.alloc _) ?_
                    exact ⟨h5, V.heap.size, rfl, (ka _).blk hB5 (fun h => h), outR_one HCF2.out funOk (blk_new V CF2 _) (by have := HN2.out; omega) (inb_el funOk HIF.out (hS.alloc _) HSYN.out (fun g hg => by have q : V.heap.size = g := Option.some.inj hg; omega))⟩
                  · intro a' V hS hI
                    obtain ⟨h5, rfl, hB5⟩ := hI
                    have ka : ∀ o, Keeps Nothing V (V.alloc o) := fun o => (Keeps.refl Nothing V).alloc o
                    refine one_alC ?_
                    refine hK 132 _ _ (hS.alloc _) ?_
                    exact ⟨h5, V.heap.size, rfl, (ka _).blk hB5 (fun h => h), blk_new V _ _, (by have := hS.size; have := HN2.out; omega)⟩
                  · intro a' V hS hI
                    obtain ⟨h8, rfl, hO8⟩ := hI
                    have ka : ∀ o, Keeps Nothing V (V.alloc o) := fun o => (Keeps.refl Nothing V).alloc o
                    have hsz := hS.size
                    refine one_bs0 ?_
                    refine hK 17 _ _ (hS.alloc _) ?_
                    exact ⟨V.heap.size, h8, put_swap (by decide) rfl, outR_none (blk_new V #[] _) (by have := HN2.out; omega), hO8.keepsN (zc_ok Sy) funOk (ka _)⟩
                  · intro a' V hS hI
                    obtain ⟨h8, rfl, hO8⟩ := hI
                    have ka : ∀ o, Keeps Nothing V (V.alloc o) := fun o => (Keeps.refl Nothing V).alloc o
                    have hsz := hS.size
                    refine one_bsS (ev_ne (by decide) rfl) hsX ?_
                    refine hK 20 _ _ (hS.alloc _) ?_
                    exact ⟨V.heap.size, h8, put_swap (by decide) rfl, blk_new V CX2 _, hO8.keepsN (zc_ok Sy) funOk (ka _)⟩
                  · intro a' V hS hI
                    obtain ⟨h8, rfl, hO8⟩ := hI
                    have ka : ∀ o, Keeps Nothing V (V.alloc o) := fun o => (Keeps.refl Nothing V).alloc o
                    refine one_alC ?_
                    refine hK 144 _ _ (hS.alloc _) ?_
                    exact ⟨h8, V.heap.size, rfl, hO8.keepsN (zc_ok Sy) funOk (ka _), blk_new V _ _, (by have := hS.size; have := HN2.out; omega)⟩
                  · intro a' V hS hI
                    obtain ⟨g14, rfl, hB14, hN14⟩ := hI
                    have ka : ∀ o, Keeps Nothing V (V.alloc o) := fun o => (Keeps.refl Nothing V).alloc o
                    have hsz := hS.size
                    refine one_bs0 ?_
                    refine hK 129 _ _ (hS.alloc _) ?_
                    exact ⟨V.heap.size, g14, put_swap (by decide) rfl, outR_none (blk_new V #[] _) (by have := HN2.out; omega), (ka _).blk hB14 (fun h => h), hN14⟩
                  · intro a' V hS hI
                    obtain ⟨g14, rfl, hB14, hN14⟩ := hI
                    have ka : ∀ o, Keeps Nothing V (V.alloc o) := fun o => (Keeps.refl Nothing V).alloc o
                    have hsz := hS.size
                    refine one_bsS (ev_ne (by decide) rfl) hsX ?_
                    refine hK 132 _ _ (hS.alloc _) ?_
                    exact ⟨V.heap.size, g14, put_swap (by decide) rfl, blk_new V CX2 _, (ka _).blk hB14 (fun h => h), hN14⟩
                  · intro a' V hS hI
                    obtain ⟨g14, rfl, hB14, hN14⟩ := hI
                    have ka : ∀ o, Keeps Nothing V (V.alloc o) := fun o => (Keeps.refl Nothing V).alloc o
                    have hsz := hS.size
                    refine one_bsF (ev_ne (by decide) rfl) hsF ?_
                    refine hK 144 _ _ (hS.alloc _) ?_
                    exact ⟨V.heap.size, g14, put_swap (by decide) rfl, outR_one HCF2.out funOk (blk_new V CF2 _) (by have := HN2.out; omega) (inb_el funOk HIF.out (hS.alloc _) HSYN.out (fun g hg => by have q : V.heap.size = g := Option.some.inj hg; omega)), (ka _).blk hB14 (fun h => h), hN14⟩
                  · intro a' V hS hI
                    obtain ⟨h0, a3, c3, rfl, hO3⟩ := hI
                    have ka : ∀ o, Keeps Nothing V (V.alloc o) := fun o => (Keeps.refl Nothing V).alloc o
                    have hsz := hS.size
                    refine one_bsS (ev_ne (by decide) (ev_ne (by decide) rfl)) hsX ?_
                    refine hK 7 _ _ (hS.alloc _) ?_
                    exact ⟨h0, a3, c3, V.heap.size, rfl, hO3.keepsN (zc_ok Sy) strOk (ka _), blk_new V CX2 _⟩
                  · intro a' V hS hI
                    obtain ⟨h0, a3, c3, rfl, hO3⟩ := hI
                    have ka : ∀ o, Keeps Nothing V (V.alloc o) := fun o => (Keeps.refl Nothing V).alloc o
                    have hsz := hS.size
                    refine one_bsF (ev_ne (by decide) (ev_ne (by decide) rfl)) hsF ?_
                    refine hK 19 _ _ (hS.alloc _) ?_
                    exact ⟨h0, a3, c3, V.heap.size, rfl, hO3.keepsN (zc_ok Sy) strOk (ka _), outR_one HCF2.out funOk (blk_new V CF2 _) (by have := HN2.out; omega) (inb_el funOk HIF.out (hS.alloc _) HSYN.out (fun g hg => by have q : V.heap.size = g := Option.some.inj hg; omega))⟩
                  · intro a' V hS hI
                    obtain ⟨h0, a3, c3, rfl, hO3⟩ := hI
                    have ka : ∀ o, Keeps Nothing V (V.alloc o) := fun o => (Keeps.refl Nothing V).alloc o
                    refine one_alC ?_
                    refine hK 131 _ _ (hS.alloc _) ?_
                    exact ⟨h0, a3, c3, V.heap.size, rfl, hO3.keepsN (zc_ok Sy) strOk (ka _), blk_new V _ _, (by have := hS.size; have := HN2.out; omega)⟩
                  · intro a' V hS hI
                    obtain ⟨h0, h5, rfl, hO0, hB5⟩ := hI
                    have hsz := hS.size
                    refine wpList_appM _ rfl (.tmp 99) (.tmp 101) 22 rfl Try.underlying22 iaStr (by decide) (zc_ok Sy) strOk 0 ns ns (by omega) rfl HNS.out (ev_ne (by decide) (ev_eq (of_decide_eq_true rfl))) hO0 (by have := HN2.out; omega) a0 c0 (ev_ne (by decide) (ev_ne (by decide) rfl)) (inb_sl strOk HST9.out hS HSYN.out (fun g hg => by have := hO0.new g hg; have := HN2.out; omega)) (by omega) ?_
                    intro a3 c3 V2 O2 k2 mv
                    refine wpList_endK ?_
                    refine hK 7 _ _ (hO0.on hS HN2.out k2) ?_
                    exact ⟨h0, a3, c3, h5, put_swap (by decide) rfl, O2, OutR.blkBeside0 hB5 hO0 (by omega) k2⟩
                  · intro a' V hS hI
                    obtain ⟨h0, h5, rfl, hO0, hB5⟩ := hI
                    have ka : ∀ o, Keeps Nothing V (V.alloc o) := fun o => (Keeps.refl Nothing V).alloc o
                    have hsz := hS.size
                    refine one_bsF (ev_ne (by decide) (ev_ne (by decide) rfl)) hsF ?_
                    refine hK 21 _ _ (hS.alloc _) ?_
                    exact ⟨h0, h5, V.heap.size, rfl, hO0.keepsN (zc_ok Sy) strOk (ka _), (ka _).blk hB5 (fun h => h), outR_one HCF2.out funOk (blk_new V CF2 _) (by have := HN2.out; omega) (inb_el funOk HIF.out (hS.alloc _) HSYN.out (fun g hg => by have q : V.heap.size = g := Option.some.inj hg; omega))⟩
                  · intro a' V hS hI
                    obtain ⟨h0, h5, rfl, hO0, hB5⟩ := hI
                    have ka : ∀ o, Keeps Nothing V (V.alloc o) := fun o => (Keeps.refl Nothing V).alloc o
                    refine one_alC ?_
                    refine hK 133 _ _ (hS.alloc _) ?_
                    exact ⟨h0, h5, V.heap.size, rfl, hO0.keepsN (zc_ok Sy) strOk (ka _), (ka _).blk hB5 (fun h => h), blk_new V _ _, (by have := hS.size; have := HN2.out; omega)⟩
                  · intro a' V hS hI
                    obtain ⟨h0, h8, rfl, hO0, hO8⟩ := hI
                    have hsz := hS.size
                    refine wpList_appM _ rfl (.tmp 99) (.tmp 101) 22 rfl Try.underlying22 iaStr (by decide) (zc_ok Sy) strOk 0 ns ns (by omega) rfl HNS.out (ev_ne (by decide) (ev_eq (of_decide_eq_true rfl))) hO0 (by have := HN2.out; omega) a0 c0 (ev_ne (by decide) (ev_ne (by decide) rfl)) (inb_sl strOk HST9.out hS HSYN.out (fun g hg => by have := hO0.new g hg; have := HN2.out; omega)) (by omega) ?_
                    intro a3 c3 V2 O2 k2 mv
                    refine wpList_endK ?_
                    refine hK 19 _ _ (hO0.on hS HN2.out k2) ?_
                    exact ⟨h0, a3, c3, h8, put_swap (by decide) rfl, O2, OutR.beside hO8 funOk hO0 (by decide) HSY2 k2⟩
                  · intro a' V hS hI
                    obtain ⟨h0, h8, rfl, hO0, hO8⟩ := hI
                    have ka : ∀ o, Keeps Nothing V (V.alloc o) := fun o => (Keeps.refl Nothing V).alloc o
                    have hsz := hS.size
                    refine one_bsS (ev_ne (by decide) (ev_ne (by decide) rfl)) hsX ?_
                    refine hK 21 _ _ (hS.alloc _) ?_
                    exact ⟨h0, V.heap.size, h8, put_swap (by decide) rfl, hO0.keepsN (zc_ok Sy) strOk (ka _), blk_new V CX2 _, hO8.keepsN (zc_ok Sy) funOk (ka _)⟩
                  · intro a' V hS hI
                    obtain ⟨h0, h8, rfl, hO0, hO8⟩ := hI
                    have ka : ∀ o, Keeps Nothing V (V.alloc o) := fun o => (Keeps.refl Nothing V).alloc o
                    refine one_alC ?_
                    refine hK 145 _ _ (hS.alloc _) ?_
                    exact ⟨h0, h8, V.heap.size, rfl, hO0.keepsN (zc_ok Sy) strOk (ka _), hO8.keepsN (zc_ok Sy) funOk (ka _), blk_new V _ _, (by have := hS.size; have := HN2.out; omega)⟩
                  · intro a' V hS hI
                    obtain ⟨h0, g14, rfl, hO0, hB14, hN14⟩ := hI
                    have hsz := hS.size
                    refine wpList_appM _ rfl (.tmp 99) (.tmp 101) 22 rfl Try.underlying22 iaStr (by decide) (zc_ok Sy) strOk 0 ns ns (by omega) rfl HNS.out (ev_ne (by decide) (ev_eq (of_decide_eq_true rfl))) hO0 (by have := HN2.out; omega) a0 c0 (ev_ne (by decide) (ev_ne (by decide) rfl)) (inb_sl strOk HST9.out hS HSYN.out (fun g hg => by have := hO0.new g hg; have := HN2.out; omega)) (by omega) ?_
                    intro a3 c3 V2 O2 k2 mv
                    refine wpList_endK ?_
                    refine hK 131 _ _ (hO0.on hS HN2.out k2) ?_
                    exact ⟨h0, a3, c3, g14, put_swap (by decide) rfl, O2, OutR.blkBeside hB14 hO0 (by decide) k2, hN14⟩
                  · intro a' V hS hI
                    obtain ⟨h0, g14, rfl, hO0, hB14, hN14⟩ := hI
                    have ka : ∀ o, Keeps Nothing V (V.alloc o) := fun o => (Keeps.refl Nothing V).alloc o
                    have hsz := hS.size
                    refine one_bsS (ev_ne (by decide) (ev_ne (by decide) rfl)) hsX ?_
                    refine hK 133 _ _ (hS.alloc _) ?_
                    exact ⟨h0, V.heap.size, g14, put_swap (by decide) rfl, hO0.keepsN (zc_ok Sy) strOk (ka _), blk_new V CX2 _, (ka _).blk hB14 (fun h => h), hN14⟩
                  · intro a' V hS hI
                    obtain ⟨h0, g14, rfl, hO0, hB14, hN14⟩ := hI
                    have ka : ∀ o, Keeps Nothing V (V.alloc o) := fun o => (Keeps.refl Nothing V).alloc o
                    have hsz := hS.size
                    refine one_bsF (ev_ne (by decide) (ev_ne (by decide) rfl)) hsF ?_
                    refine hK 145 _ _ (hS.alloc _) ?_
                    exact ⟨h0, V.heap.size, g14, put_swap (by decide) rfl, hO0.keepsN (zc_ok Sy) strOk (ka _), outR_one HCF2.out funOk (blk_new V CF2 _) (by have := HN2.out; omega) (inb_el funOk HIF.out (hS.alloc _) HSYN.out (fun g hg => by have q : V.heap.size = g := Option.some.inj hg; omega)), (ka _).blk hB14 (fun h => h), hN14⟩
                  · intro a' V hS hI
                    obtain ⟨h5, h8, rfl, hB5, hO8⟩ := hI
                    have ka : ∀ o, Keeps Nothing V (V.alloc o) := fun o => (Keeps.refl Nothing V).alloc o
                    have hsz := hS.size
                    refine one_bs0 ?_
                    refine hK 21 _ _ (hS.alloc _) ?_
                    exact ⟨V.heap.size, h5, h8, put_swap (by decide) (put_swap (by decide) rfl), outR_none (blk_new V #[] _) (by have := HN2.out; omega), (ka _).blk hB5 (fun h => h), hO8.keepsN (zc_ok Sy) funOk (ka _)⟩
                  · intro a' V hS hI
                    obtain ⟨h5, h8, rfl, hB5, hO8⟩ := hI
                    have ka : ∀ o, Keeps Nothing V (V.alloc o) := fun o => (Keeps.refl Nothing V).alloc o
                    refine one_alC ?_
                    refine hK 148 _ _ (hS.alloc _) ?_
                    exact ⟨h5, h8, V.heap.size, rfl, (ka _).blk hB5 (fun h => h), hO8.keepsN (zc_ok Sy) funOk (ka _), blk_new V _ _, (by have := hS.size; have := HN2.out; omega)⟩
                  · intro a' V hS hI
                    obtain ⟨h5, g14, rfl, hB5, hB14, hN14⟩ := hI
                    have ka : ∀ o, Keeps Nothing V (V.alloc o) := fun o => (Keeps.refl Nothing V).alloc o
                    have hsz := hS.size
                    refine one_bs0 ?_
                    refine hK 133 _ _ (hS.alloc _) ?_
                    exact ⟨V.heap.size, h5, g14, put_swap (by decide) (put_swap (by decide) rfl), outR_none (blk_new V #[] _) (by have := HN2.out; omega), (ka _).blk hB5 (fun h => h), (ka _).blk hB14 (fun h => h), hN14⟩
                  · intro a' V hS hI
                    obtain ⟨h5, g14, rfl, hB5, hB14, hN14⟩ := hI
                    have ka : ∀ o, Keeps Nothing V (V.alloc o) := fun o => (Keeps.refl Nothing V).alloc o
                    have hsz := hS.size
                    refine one_bsF (ev_ne (by decide) (ev_ne (by decide) rfl)) hsF ?_
                    refine hK 148 _ _ (hS.alloc _) ?_
                    exact ⟨h5, V.heap.size, g14, put_swap (by decide) rfl, (ka _).blk hB5 (fun h => h), outR_one HCF2.out funOk (blk_new V CF2 _) (by have := HN2.out; omega) (inb_el funOk HIF.out (hS.alloc _) HSYN.out (fun g hg => by have q : V.heap.size = g := Option.some.inj hg; omega)), (ka _).blk hB14 (fun h => h), hN14⟩
                  · intro a' V hS hI
                    obtain ⟨h8, g14, rfl, hO8, hB14, hN14⟩ := hI
                    have ka : ∀ o, Keeps Nothing V (V.alloc o) := fun o => (Keeps.refl Nothing V).alloc o
                    have hsz := hS.size
                    refine one_bs0 ?_
                    refine hK 145 _ _ (hS.alloc _) ?_
                    exact ⟨V.heap.size, h8, g14, put_swap (by decide) (put_swap (by decide) rfl), outR_none (blk_new V #[] _) (by have := HN2.out; omega), hO8.keepsN (zc_ok Sy) funOk (ka _), (ka _).blk hB14 (fun h => h), hN14⟩
                  · intro a' V hS hI
                    obtain ⟨h8, g14, rfl, hO8, hB14, hN14⟩ := hI
                    have ka : ∀ o, Keeps Nothing V (V.alloc o) := fun o => (Keeps.refl Nothing V).alloc o
                    have hsz := hS.size
                    refine one_bsS (ev_ne (by decide) (ev_ne (by decide) rfl)) hsX ?_
                    refine hK 148 _ _ (hS.alloc _) ?_
                    exact ⟨V.heap.size, h8, g14, put_swap (by decide) (put_swap (by decide) rfl), blk_new V CX2 _, hO8.keepsN (zc_ok Sy) funOk (ka _), (ka _).blk hB14 (fun h => h), hN14⟩
                  · intro a' V hS hI
                    obtain ⟨h0, a3, c3, h5, rfl, hO3, hB5⟩ := hI
                    have hsz := hS.size
                    refine wpList_appM _ rfl (.tmp 102) (.tmp 104) 22 rfl Try.underlying22 iaStr (by decide) (zc_ok Sy) strOk ns 1 (ns + 1) (by omega) HNS.out (l := [x]) rfl (ev_ne (by decide) (ev_eq (sz_put (of_decide_eq_true rfl)))) hO3 (by have := HN2.out; omega) _ _ (ev_eq (sz_put (sz_put (of_decide_eq_true rfl)))) (slIs_one (S := fun _ => True) HCX2.out HIX9.out.len hB5 trivial (inb_el strOk HIX9.out hS HSYN.out (fun g hg => by have := hO3.new g hg; have := HN2.out; omega))) (by omega) ?_
                    intro a6 c6 V2 O2 k2 mv
                    refine wpList_endK ?_
                    refine hK 15 _ _ (hO3.on hS HN2.out k2) ?_
                    exact ⟨h0, a3, c3, h5, a6, c6, rfl, O2⟩
                  · intro a' V hS hI
                    obtain ⟨h0, a3, c3, h5, rfl, hO3, hB5⟩ := hI
                    have ka : ∀ o, Keeps Nothing V (V.alloc o) := fun o => (Keeps.refl Nothing V).alloc o
                    have hsz := hS.size
                    refine one_bsF (ev_ne (by decide) (ev_ne (by decide) (ev_ne (by decide) rfl))) hsF ?_
                    refine hK 23 _ _ (hS.alloc _) ?_
                    exact ⟨h0, a3, c3, h5, V.heap.size, rfl, hO3.keepsN (zc_ok Sy) strOk (ka _), (ka _).blk hB5 (fun h => h), outR_one HCF2.out funOk (blk_new V CF2 _) (by have := HN2.out; omega) (inb_el funOk HIF.out (hS.alloc _) HSYN.out (fun g hg => by have q : V.heap.size = g := Option.some.inj hg; omega))⟩
                  · intro a' V hS hI
                    obtain ⟨h0, a3, c3, h5, rfl, hO3, hB5⟩ := hI
                    have ka : ∀ o, Keeps Nothing V (V.alloc o) := fun o => (Keeps.refl Nothing V).alloc o
                    refine one_alC ?_
                    refine hK 135 _ _ (hS.alloc _) ?_
                    exact ⟨h0, a3, c3, h5, V.heap.size, rfl, hO3.keepsN (zc_ok Sy) strOk (ka _), (ka _).blk hB5 (fun h => h), blk_new V _ _, (by have := hS.size; have := HN2.out; omega)⟩
                  · intro a' V hS hI
                    obtain ⟨h0, a3, c3, h8, rfl, hO3, hO8⟩ := hI
                    have ka : ∀ o, Keeps Nothing V (V.alloc o) := fun o => (Keeps.refl Nothing V).alloc o
                    have hsz := hS.size
                    refine one_bsS (ev_ne (by decide) (ev_ne (by decide) (ev_ne (by decide) rfl))) hsX ?_
                    refine hK 23 _ _ (hS.alloc _) ?_
                    exact ⟨h0, a3, c3, V.heap.size, h8, put_swap (by decide) rfl, hO3.keepsN (zc_ok Sy) strOk (ka _), blk_new V CX2 _, hO8.keepsN (zc_ok Sy) funOk (ka _)⟩
                  · intro a' V hS hI
                    obtain ⟨h0, a3, c3, h8, rfl, hO3, hO8⟩ := hI
                    have ka : ∀ o, Keeps Nothing V (V.alloc o) := fun o => (Keeps.refl Nothing V).alloc o
                    refine one_alC ?_
                    refine hK 147 _ _ (hS.alloc _) ?_
                    exact ⟨h0, a3, c3, h8, V.heap.size, rfl, hO3.keepsN (zc_ok Sy) strOk (ka _), hO8.keepsN (zc_ok Sy) funOk (ka _), blk_new V _ _, (by have := hS.size; have := HN2.out; omega)⟩
                  · intro a' V hS hI
                    obtain ⟨h0, a3, c3, g14, rfl, hO3, hB14, hN14⟩ := hI
                    have ka : ∀ o, Keeps Nothing V (V.alloc o) := fun o => (Keeps.refl Nothing V).alloc o
                    have hsz := hS.size
                    refine one_bsS (ev_ne (by decide) (ev_ne (by decide) (ev_ne (by decide) rfl))) hsX ?_
                    refine hK 135 _ _ (hS.alloc _) ?_
                    exact ⟨h0, a3, c3, V.heap.size, g14, put_swap (by decide) rfl, hO3.keepsN (zc_ok Sy) strOk (ka _), blk_new V CX2 _, (ka _).blk hB14 (fun h => h), hN14⟩
                  · intro a' V hS hI
                    obtain ⟨h0, a3, c3, g14, rfl, hO3, hB14, hN14⟩ := hI
                    have ka : ∀ o, Keeps Nothing V (V.alloc o) := fun o => (Keeps.refl Nothing V).alloc o
                    have hsz := hS.size
                    refine one_bsF (ev_ne (by decide) (ev_ne (by decide) (ev_ne (by decide) rfl))) hsF ?_
                    refine hK 147 _ _ (hS.alloc _) ?_
                    exact ⟨h0, a3, c3, V.heap.size, g14, put_swap (by decide) rfl, hO3.keepsN (zc_ok Sy) strOk (ka _), outR_one HCF2.out funOk (blk_new V CF2 _) (by have := HN2.out; omega) (inb_el funOk HIF.out (hS.alloc _) HSYN.out (fun g hg => by have q : V.heap.size = g := Option.some.inj hg; omega)), (ka _).blk hB14 (fun h => h), hN14⟩
                  · intro a' V hS hI
                    obtain ⟨h0, h5, h8, rfl, hO0, hB5, hO8⟩ := hI
                    have hsz := hS.size
                    refine wpList_appM _ rfl (.tmp 99) (.tmp 101) 22 rfl Try.underlying22 iaStr (by decide) (zc_ok Sy) strOk 0 ns ns (by omega) rfl HNS.out (ev_ne (by decide) (ev_ne (by decide) (ev_eq (of_decide_eq_true rfl)))) hO0 (by have := HN2.out; omega) a0 c0 (ev_ne (by decide) (ev_ne (by decide) (ev_ne (by decide) rfl))) (inb_sl strOk HST9.out hS HSYN.out (fun g hg => by have := hO0.new g hg; have := HN2.out; omega)) (by omega) ?_
                    intro a3 c3 V2 O2 k2 mv
                    refine wpList_endK ?_
                    refine hK 23 _ _ (hO0.on hS HN2.out k2) ?_
                    exact ⟨h0, a3, c3, h5, h8, put_swap (by decide) (put_swap (by decide) rfl), O2, OutR.blkBeside0 hB5 hO0 (by omega) k2, OutR.beside hO8 funOk hO0 (by decide) HSY2 k2⟩
                  · intro a' V hS hI
                    obtain ⟨h0, h5, h8, rfl, hO0, hB5, hO8⟩ := hI
                    have ka : ∀ o, Keeps Nothing V (V.alloc o) := fun o => (Keeps.refl Nothing V).alloc o
                    refine one_alC ?_
                    refine hK 149 _ _ (hS.alloc _) ?_
                    exact ⟨h0, h5, h8, V.heap.size, rfl, hO0.keepsN (zc_ok Sy) strOk (ka _), (ka _).blk hB5 (fun h => h), hO8.keepsN (zc_ok Sy) funOk (ka _), blk_new V _ _, (by have := hS.size; have := HN2.out; omega)⟩
                  · intro a' V hS hI
                    obtain ⟨h0, h5, g14, rfl, hO0, hB5, hB14, hN14⟩ := hI
                    have hsz := hS.size
                    refine wpList_appM _ rfl (.tmp 99) (.tmp 101) 22 rfl Try.underlying22 iaStr (by decide) (zc_ok Sy) strOk 0 ns ns (by omega) rfl HNS.out (ev_ne (by decide) (ev_ne (by decide) (ev_eq (of_decide_eq_true rfl)))) hO0 (by have := HN2.out; omega) a0 c0 (ev_ne (by decide) (ev_ne (by decide) (ev_ne (by decide) rfl))) (inb_sl strOk HST9.out hS HSYN.out (fun g hg => by have := hO0.new g hg; have := HN2.out; omega)) (by omega) ?_
                    intro a3 c3 V2 O2 k2 mv
                    refine wpList_endK ?_
                    refine hK 135 _ _ (hO0.on hS HN2.out k2) ?_
                    exact ⟨h0, a3, c3, h5, g14, put_swap (by decide) (put_swap (by decide) rfl), O2, OutR.blkBeside0 hB5 hO0 (by omega) k2, OutR.blkBeside hB14 hO0 (by decide) k2, hN14⟩
                  · intro a' V hS hI
                    obtain ⟨h0, h5, g14, rfl, hO0, hB5, hB14, hN14⟩ := hI
                    have ka : ∀ o, Keeps Nothing V (V.alloc o) := fun o => (Keeps.refl Nothing V).alloc o
                    have hsz := hS.size
                    refine one_bsF (ev_ne (by decide) (ev_ne (by decide) (ev_ne (by decide) rfl))) hsF ?_
                    refine hK 149 _ _ (hS.alloc _) ?_
                    exact ⟨h0, h5, V.heap.size, g14, put_swap (by decide) rfl, hO0.keepsN (zc_ok Sy) strOk (ka _), (ka _).blk hB5 (fun h => h), outR_one HCF2.out funOk (blk_new V CF2 _) (by have := HN2.out; omega) (inb_el funOk HIF.out (hS.alloc _) HSYN.out (fun g hg => by have q : V.heap.size = g := Option.some.inj hg; omega)), (ka _).blk hB14 (fun h => h), hN14⟩
                  · intro a' V hS hI
                    obtain ⟨h0, h8, g14, rfl, hO0, hO8, hB14, hN14⟩ := hI
                    have hsz := hS.size
                    refine wpList_appM _ rfl (.tmp 99) (.tmp 101) 22 rfl Try.underlying22 iaStr (by decide) (zc_ok Sy) strOk 0 ns ns (by omega) rfl HNS.out (ev_ne (by decide) (ev_ne (by decide) (ev_eq (of_decide_eq_true rfl)))) hO0 (by have := HN2.out; omega) a0 c0 (ev_ne (by decide) (ev_ne (by decide) (ev_ne (by decide) rfl))) (inb_sl strOk HST9.out hS HSYN.out (fun g hg => by have := hO0.new g hg; have := HN2.out; omega)) (by omega) ?_
                    intro a3 c3 V2 O2 k2 mv
                    refine wpList_endK ?_
                    refine hK 147 _ _ (hO0.on hS HN2.out k2) ?_
                    exact ⟨h0, a3, c3, h8, g14, put_swap (by decide) (put_swap (by decide) rfl), O2, OutR.beside hO8 funOk hO0 (by decide) HSY2 k2, OutR.blkBeside hB14 hO0 (by decide) k2, hN14⟩
                  · intro a' V hS hI
                    obtain ⟨h0, h8, g14, rfl, hO0, hO8, hB14, hN14⟩ := hI
                    have ka : ∀ o, Keeps Nothing V (V.alloc o) := fun o => (Keeps.refl Nothing V).alloc o
                    have hsz := hS.size
                    refine one_bsS (ev_ne (by decide) (ev_ne (by decide) (ev_ne (by decide) rfl))) hsX ?_
                    refine hK 149 _ _ (hS.alloc _) ?_
                    exact ⟨h0, V.heap.size, h8, g14, put_swap (by decide) (put_swap (by decide) rfl), hO0.keepsN (zc_ok Sy) strOk (ka _), blk_new V CX2 _, hO8.keepsN (zc_ok Sy) funOk (ka _), (ka _).blk hB14 (fun h => h), hN14⟩
                  · intro a' V hS hI
                    obtain ⟨h5, h8, g14, rfl, hB5, hO8, hB14, hN14⟩ := hI
                    have ka : ∀ o, Keeps Nothing V (V.alloc o) := fun o => (Keeps.refl Nothing V).alloc o
                    have hsz := hS.size
                    refine one_bs0 ?_
                    refine hK 149 _ _ (hS.alloc _) ?_
                    exact ⟨V.heap.size, h5, h8, g14, put_swap (by decide) (put_swap (by decide) (put_swap (by decide) rfl)), outR_none (blk_new V #[] _) (by have := HN2.out; omega), (ka _).blk hB5 (fun h => h), hO8.keepsN (zc_ok Sy) funOk (ka _), (ka _).blk hB14 (fun h => h), hN14⟩
                  · intro a' V hS hI
                    obtain ⟨h0, a3, c3, h5, a6, c6, rfl, hO6⟩ := hI
                    have ka : ∀ o, Keeps Nothing V (V.alloc o) := fun o => (Keeps.refl Nothing V).alloc o
                    have hsz := hS.size
                    refine one_bsF (ev_ne (by decide) (ev_ne (by decide) (ev_ne (by decide) (ev_ne (by decide) rfl)))) hsF ?_
                    refine hK 31 _ _ (hS.alloc _) ?_
                    exact ⟨h0, a3, c3, h5, a6, c6, V.heap.size, rfl, hO6.keepsN (zc_ok Sy) strOk (ka _), outR_one HCF2.out funOk (blk_new V CF2 _) (by have := HN2.out; omega) (inb_el funOk HIF.out (hS.alloc _) HSYN.out (fun g hg => by have q : V.heap.size = g := Option.some.inj hg; omega))⟩
                  · intro a' V hS hI
                    obtain ⟨h0, a3, c3, h5, a6, c6, rfl, hO6⟩ := hI
                    have ka : ∀ o, Keeps Nothing V (V.alloc o) := fun o => (Keeps.refl Nothing V).alloc o
                    refine one_alC ?_
                    refine hK 143 _ _ (hS.alloc _) ?_
                    exact ⟨h0, a3, c3, h5, a6, c6, V.heap.size, rfl, hO6.keepsN (zc_ok Sy) strOk (ka _), blk_new V _ _, (by have := hS.size; have := HN2.out; omega)⟩
                  · intro a' V hS hI
                    obtain ⟨h0, a3, c3, h5, h8, rfl, hO3, hB5, hO8⟩ := hI
                    have hsz := hS.size
                    refine wpList_appM _ rfl (.tmp 102) (.tmp 104) 22 rfl Try.underlying22 iaStr (by decide) (zc_ok Sy) strOk ns 1 (ns + 1) (by omega) HNS.out (l := [x]) rfl (ev_ne (by decide) (ev_ne (by decide) (ev_eq (sz_put (of_decide_eq_true rfl))))) hO3 (by have := HN2.out; omega) _ _ (ev_ne (by decide) (ev_eq (sz_put (sz_put (of_decide_eq_true rfl))))) (slIs_one (S := fun _ => True) HCX2.out HIX9.out.len hB5 trivial (inb_el strOk HIX9.out hS HSYN.out (fun g hg => by have := hO3.new g hg; have := HN2.out; omega))) (by omega) ?_
                    intro a6 c6 V2 O2 k2 mv
                    refine wpList_endK ?_
                    refine hK 31 _ _ (hO3.on hS HN2.out k2) ?_
                    exact ⟨h0, a3, c3, h5, a6, c6, h8, put_swap (by decide) rfl, O2, OutR.beside hO8 funOk hO3 (by decide) HSY2 k2⟩
                  · intro a' V hS hI
                    obtain ⟨h0, a3, c3, h5, h8, rfl, hO3, hB5, hO8⟩ := hI
                    have ka : ∀ o, Keeps Nothing V (V.alloc o) := fun o => (Keeps.refl Nothing V).alloc o
                    refine one_alC ?_
                    refine hK 151 _ _ (hS.alloc _) ?_
                    exact ⟨h0, a3, c3, h5, h8, V.heap.size, rfl, hO3.keepsN (zc_ok Sy) strOk (ka _), (ka _).blk hB5 (fun h => h), hO8.keepsN (zc_ok Sy) funOk (ka _), blk_new V _ _, (by have := hS.size; have := HN2.out; omega)⟩
                  · intro a' V hS hI
                    obtain ⟨h0, a3, c3, h5, g14, rfl, hO3, hB5, hB14, hN14⟩ := hI
                    have hsz := hS.size
                    refine wpList_appM _ rfl (.tmp 102) (.tmp 104) 22 rfl Try.underlying22 iaStr (by decide) (zc_ok Sy) strOk ns 1 (ns + 1) (by omega) HNS.out (l := [x]) rfl (ev_ne (by decide) (ev_ne (by decide) (ev_eq (sz_put (of_decide_eq_true rfl))))) hO3 (by have := HN2.out; omega) _ _ (ev_ne (by decide) (ev_eq (sz_put (sz_put (of_decide_eq_true rfl))))) (slIs_one (S := fun _ => True) HCX2.out HIX9.out.len hB5 trivial (inb_el strOk HIX9.out hS HSYN.out (fun g hg => by have := hO3.new g hg; have := HN2.out; omega))) (by omega) ?_
                    intro a6 c6 V2 O2 k2 mv
                    refine wpList_endK ?_
                    refine hK 143 _ _ (hO3.on hS HN2.out k2) ?_
                    exact ⟨h0, a3, c3, h5, a6, c6, g14, put_swap (by decide) rfl, O2, OutR.blkBeside hB14 hO3 (by decide) k2, hN14⟩
                  · intro a' V hS hI
                    obtain ⟨h0, a3, c3, h5, g14, rfl, hO3, hB5, hB14, hN14⟩ := hI
                    have ka : ∀ o, Keeps Nothing V (V.alloc o) := fun o => (Keeps.refl Nothing V).alloc o
                    have hsz := hS.size
                    refine one_bsF (ev_ne (by decide) (ev_ne (by decide) (ev_ne (by decide) (ev_ne (by decide) rfl)))) hsF ?_
                    refine hK 151 _ _ (hS.alloc _) ?_
                    exact ⟨h0, a3, c3, h5, V.heap.size, g14, put_swap (by decide) rfl, hO3.keepsN (zc_ok Sy) strOk (ka _), (ka _).blk hB5 (fun h => h), outR_one HCF2.out funOk (blk_new V CF2 _) (by have := HN2.out; omega) (inb_el funOk HIF.out (hS.alloc _) HSYN.out (fun g hg => by have q : V.heap.size = g := Option.some.inj hg; omega)), (ka _).blk hB14 (fun h => h), hN14⟩
                  · intro a' V hS hI
                    obtain ⟨h0, a3, c3, h8, g14, rfl, hO3, hO8, hB14, hN14⟩ := hI
                    have ka : ∀ o, Keeps Nothing V (V.alloc o) := fun o => (Keeps.refl Nothing V).alloc o
                    have hsz := hS.size
                    refine one_bsS (ev_ne (by decide) (ev_ne (by decide) (ev_ne (by decide) (ev_ne (by decide) rfl)))) hsX ?_
                    refine hK 151 _ _ (hS.alloc _) ?_
                    exact ⟨h0, a3, c3, V.heap.size, h8, g14, put_swap (by decide) (put_swap (by decide) rfl), hO3.keepsN (zc_ok Sy) strOk (ka _), blk_new V CX2 _, hO8.keepsN (zc_ok Sy) funOk (ka _), (ka _).blk hB14 (fun h => h), hN14⟩
                  · intro a' V hS hI
                    obtain ⟨h0, h5, h8, g14, rfl, hO0, hB5, hO8, hB14, hN14⟩ := hI
                    have hsz := hS.size
                    refine wpList_appM _ rfl (.tmp 99) (.tmp 101) 22 rfl Try.underlying22 iaStr (by decide) (zc_ok Sy) strOk 0 ns ns (by omega) rfl HNS.out (ev_ne (by decide) (ev_ne (by decide) (ev_ne (by decide) (ev_eq (of_decide_eq_true rfl))))) hO0 (by have := HN2.out; omega) a0 c0 (ev_ne (by decide) (ev_ne (by decide) (ev_ne (by decide) (ev_ne (by decide) rfl)))) (inb_sl strOk HST9.out hS HSYN.out (fun g hg => by have := hO0.new g hg; have := HN2.out; omega)) (by omega) ?_
                    intro a3 c3 V2 O2 k2 mv
                    refine wpList_endK ?_
                    refine hK 151 _ _ (hO0.on hS HN2.out k2) ?_
                    exact ⟨h0, a3, c3, h5, h8, g14, put_swap (by decide) (put_swap (by decide) (put_swap (by decide) rfl)), O2, OutR.blkBeside0 hB5 hO0 (by omega) k2, OutR.beside hO8 funOk hO0 (by decide) HSY2 k2, OutR.blkBeside hB14 hO0 (by decide) k2, hN14⟩
                  · intro a' V hS hI
                    obtain ⟨h0, a3, c3, h5, a6, c6, h8, rfl, hO6, hO8⟩ := hI
                    have hsz := hS.size
                    refine wpList_appM _ rfl (.tmp 107) (.tmp 110) 23 rfl Try.underlying23 iaFun (by decide) (zc_ok Sy) funOk 1 (nf - 1) nf (by omega) rfl hrl.out (ev_eq (sz_put (sz_put (sz_put (sz_put (of_decide_eq_true rfl)))))) hO8 (by have := HN2.out; omega) aT (cF - 1) (ev_ne (by decide) (ev_ne (by decide) (ev_ne (by decide) (ev_ne (by decide) (ev_ne (by decide) rfl))))) (inb_sl funOk HT.out hS HSYN.out (fun g hg => by have := hO8.new g hg; have := HN2.out; omega)) (by omega) ?_
                    intro a12 c12 V2 O2 k2 mv
                    refine wpList_endK ?_
                    refine hK 63 _ _ (hO8.on hS HN2.out k2) ?_
                    exact ⟨h0, a3, c3, h5, a6, c6, h8, a12, c12, rfl, OutR.beside hO6 strOk hO8 (by decide) HSY2 k2, O2⟩
                  · intro a' V hS hI
                    obtain ⟨h0, a3, c3, h5, a6, c6, h8, rfl, hO6, hO8⟩ := hI
                    have ka : ∀ o, Keeps Nothing V (V.alloc o) := fun o => (Keeps.refl Nothing V).alloc o
                    refine one_alC ?_
                    refine hK 159 _ _ (hS.alloc _) ?_
                    exact ⟨h0, a3, c3, h5, a6, c6, h8, V.heap.size, rfl, hO6.keepsN (zc_ok Sy) strOk (ka _), hO8.keepsN (zc_ok Sy) funOk (ka _), blk_new V _ _, (by have := hS.size; have := HN2.out; omega)⟩
                  · intro a' V hS hI
                    obtain ⟨h0, a3, c3, h5, a6, c6, g14, rfl, hO6, hB14, hN14⟩ := hI
                    have ka : ∀ o, Keeps Nothing V (V.alloc o) := fun o => (Keeps.refl Nothing V).alloc o
                    have hsz := hS.size
                    refine one_bsF (ev_ne (by decide) (ev_ne (by decide) (ev_ne (by decide) (ev_ne (by decide) (ev_ne (by decide) rfl))))) hsF ?_
                    refine hK 159 _ _ (hS.alloc _) ?_
                    exact ⟨h0, a3, c3, h5, a6, c6, V.heap.size, g14, put_swap (by decide) rfl, hO6.keepsN (zc_ok Sy) strOk (ka _), outR_one HCF2.out funOk (blk_new V CF2 _) (by have := HN2.out; omega) (inb_el funOk HIF.out (hS.alloc _) HSYN.out (fun g hg => by have q : V.heap.size = g := Option.some.inj hg; omega)), (ka _).blk hB14 (fun h => h), hN14⟩
                  · intro a' V hS hI
                    obtain ⟨h0, a3, c3, h5, h8, g14, rfl, hO3, hB5, hO8, hB14, hN14⟩ := hI
                    have hsz := hS.size
                    refine wpList_appM _ rfl (.tmp 102) (.tmp 104) 22 rfl Try.underlying22 iaStr (by decide) (zc_ok Sy) strOk ns 1 (ns + 1) (by omega) HNS.out (l := [x]) rfl (ev_ne (by decide) (ev_ne (by decide) (ev_ne (by decide) (ev_eq (sz_put (of_decide_eq_true rfl)))))) hO3 (by have := HN2.out; omega) _ _ (ev_ne (by decide) (ev_ne (by decide) (ev_eq (sz_put (sz_put (of_decide_eq_true rfl)))))) (slIs_one (S := fun _ => True) HCX2.out HIX9.out.len hB5 trivial (inb_el strOk HIX9.out hS HSYN.out (fun g hg => by have := hO3.new g hg; have := HN2.out; omega))) (by omega) ?_
                    intro a6 c6 V2 O2 k2 mv
                    refine wpList_endK ?_
                    refine hK 159 _ _ (hO3.on hS HN2.out k2) ?_
                    exact ⟨h0, a3, c3, h5, a6, c6, h8, g14, put_swap (by decide) (put_swap (by decide) rfl), O2, OutR.beside hO8 funOk hO3 (by decide) HSY2 k2, OutR.blkBeside hB14 hO3 (by decide) k2, hN14⟩
                  · intro a' V hS hI
                    obtain ⟨h0, a3, c3, h5, a6, c6, h8, a12, c12, rfl, hO6, hO12⟩ := hI
                    refine exec_buildC (ev_ne (by decide) (ev_ne (by decide) (ev_eq (sz_put (sz_put (sz_put (of_decide_eq_true rfl))))))) (ev_eq (sz_put (sz_put (sz_put (sz_put (sz_put (of_decide_eq_true rfl))))))) ?_
                    refine wpList_endK ?_
                    refine hK 127 _ _ hS ?_
                    exact ⟨h0, a3, c3, h5, a6, c6, h8, a12, c12, rfl, hO6, hO12⟩
                  · intro a' V hS hI
                    obtain ⟨h0, a3, c3, h5, a6, c6, h8, a12, c12, rfl, hO6, hO12⟩ := hI
                    have ka : ∀ o, Keeps Nothing V (V.alloc o) := fun o => (Keeps.refl Nothing V).alloc o
                    refine one_alC ?_
                    refine hK 191 _ _ (hS.alloc _) ?_
                    exact ⟨h0, a3, c3, h5, a6, c6, h8, a12, c12, V.heap.size, rfl, hO6.keepsN (zc_ok Sy) strOk (ka _), hO12.keepsN (zc_ok Sy) funOk (ka _), blk_new V _ _, (by have := hS.size; have := HN2.out; omega)⟩
                  · intro a' V hS hI
                    obtain ⟨h0, a3, c3, h5, a6, c6, h8, g14, rfl, hO6, hO8, hB14, hN14⟩ := hI
                    have hsz := hS.size
                    refine wpList_appM _ rfl (.tmp 107) (.tmp 110) 23 rfl Try.underlying23 iaFun (by decide) (zc_ok Sy) funOk 1 (nf - 1) nf (by omega) rfl hrl.out (ev_ne (by decide) (ev_eq (sz_put (sz_put (sz_put (sz_put (of_decide_eq_true rfl))))))) hO8 (by have := HN2.out; omega) aT (cF - 1) (ev_ne (by decide) (ev_ne (by decide) (ev_ne (by decide) (ev_ne (by decide) (ev_ne (by decide) (ev_ne (by decide) rfl)))))) (inb_sl funOk HT.out hS HSYN.out (fun g hg => by have := hO8.new g hg; have := HN2.out; omega)) (by omega) ?_
                    intro a12 c12 V2 O2 k2 mv
                    refine wpList_endK ?_
                    refine hK 191 _ _ (hO8.on hS HN2.out k2) ?_
                    exact ⟨h0, a3, c3, h5, a6, c6, h8, a12, c12, g14, put_swap (by decide) rfl, OutR.beside hO6 strOk hO8 (by decide) HSY2 k2, O2, OutR.blkBeside hB14 hO8 (by decide) k2, hN14⟩
                  · intro a' V hS hI
                    obtain ⟨h0, a3, c3, h5, a6, c6, h8, a12, c12, rfl, hO6, hO12⟩ := hI
                    have ka : ∀ o, Keeps Nothing V (V.alloc o) := fun o => (Keeps.refl Nothing V).alloc o
                    refine one_alC ?_
                    refine hK 255 _ _ (hS.alloc _) ?_
                    exact ⟨h0, a3, c3, h5, a6, c6, h8, a12, c12, V.heap.size, rfl, hO6.keepsN (zc_ok Sy) strOk (ka _), hO12.keepsN (zc_ok Sy) funOk (ka _), blk_new V _ _, (by have := hS.size; have := HN2.out; omega)⟩
                  · intro a' V hS hI
                    obtain ⟨h0, a3, c3, h5, a6, c6, h8, a12, c12, g14, rfl, hO6, hO12, hB14, hN14⟩ := hI
                    refine exec_buildC (ev_ne (by decide) (ev_ne (by decide) (ev_ne (by decide) (ev_eq (sz_put (sz_put (sz_put (of_decide_eq_true rfl)))))))) (ev_ne (by decide) (ev_eq (sz_put (sz_put (sz_put (sz_put (sz_put (of_decide_eq_true rfl)))))))) ?_
                    refine wpList_endK ?_
                    refine hK 255 _ _ hS ?_
                    exact ⟨h0, a3, c3, h5, a6, c6, h8, a12, c12, g14, put_swap (by decide) rfl, hO6, hO12, hB14, hN14⟩
                  intro a' V hS hI
                  obtain ⟨h0, a3, c3, h5, a6, c6, h8, a12, c12, g14, rfl, hO6, hO12, hB14, hN14⟩ := hI
                  have hD14 := shut hB14
                  have y3 := rowOk_blk hB14 (n := 2) rfl
                  have agf : aggOk 2 (.agg #[.slice a6 (ns + 1) c6, .slice a12 nf c12]) = true := by simp [aggOk, Value.oneCell']
                  refine wpMixG_one (fun K hK => ?_)
                  go_wp2_with fail
                  refine hK _ _ (.inl trivial) ?_
                  clear hK K y3 agf
                  refine wpMixG_done ?_
                  have k9 : Keeps (fun b => b = g14) V (V.setRow g14 #[.slice a6 (ns + 1) c6, .slice a12 nf c12]) := (Keeps.refl (fun b => b = g14) V).setRow (g := g14) (fun _ => rfl) _
                  have BD : Blk (V.setRow g14 #[.slice a6 (ns + 1) c6, .slice a12 nf c12]) g14 #[.slice a6 (ns + 1) c6, .slice a12 nf c12] 25 := blk_setRow hB14
                  generalize V.setRow g14 #[.slice a6 (ns + 1) c6, .slice a12 nf c12] = we at *
                  have hd9 : ∀ b, Zc Sy V b → ¬ (fun b => b = g14) b := fun b hb q => by have q' : b = g14 := q; have := HSY2 b hb.1; omega
                  have O6 := hO6.keeps (zc_ok Sy) strOk k9 hd9 (fun g hg q => by have q' : g = g14 := q; subst q'; exact hO6.ne hB14 (by decide) hg)
                  have O12 := hO12.keeps (zc_ok Sy) funOk k9 hd9 (fun g hg q => by have q' : g = g14 := q; subst q'; exact hO12.ne hB14 (by decide) hg)
                  have KVe : Keeps Nothing wd we := hS.trans k9 (fun b hb hlt => by have q' : b = g14 := hb; have := HN2.out; omega)
                  have KXe := KXd.trans KVe (fun _ h _ => h)
                  have BCe := KVe.blk BCd (fun h => h)
                  have hsl : (c.structs ++ [x]).length = ns + 1 := by rw [List.length_append, HNS.out]; rfl
                  have hfl : (f2 :: rs).length = nf := by rw [List.length_cons, hrl.out]; omega
                  have hD : Shut (CrIs (fun b => b < we.heap.size) we ⟨c.structs ++ [x], f2 :: rs⟩ [.slice a6 (ns + 1) c6, .slice a12 nf c12]) := shut ⟨a6, c6, a12, c12, by simp only [hsl, hfl], O6.sl (S := fun b => b < we.heap.size) strOk (fun b hb => hb.2) (fun g hg => O6.lt hg) (by rw [hsl]; unfold bigN; omega), O12.sl (S := fun b => b < we.heap.size) funOk (fun b hb => hb.2) (fun g hg => O12.lt hg) (by show (f2 :: rs).length ≤ bigN; rw [hfl]; unfold bigN; omega)⟩
                  have hno : Shut (¬ CrP ⟨c.structs ++ [x], f2 :: rs⟩) := shut (by rw [HF2.out]; exact HSP.out _ _ _)
                  clear hS hO6 hO12 hB14 hN14 hD14 k9 hd9 O6 O12 KVe BCd hsl hfl
                  have hct := told7_any we (HM.out.keeps KXe)
                  try dsimp only
                  repeat (first | rw [if_neg Bool.false_ne_true] | go_values | go_skip | go_guarded | go_step | go_upon | go_back)
                  refine hct.mono ?_
                  rintro e wt ⟨rfl, kt⟩
                  have KT := KXe.trans kt (fun _ h _ => h)
                  have BCt := kt.blk BCe (fun h => h)
                  have BDt := kt.blk BD (fun h => h)
                  have hD := shut (hD.out.keeps kt (fun _ _ h => h) (fun b hb => Nat.lt_of_lt_of_le hb kt.size) : CrIs (fun b => b < wt.heap.size) wt ⟨c.structs ++ [x], f2 :: rs⟩ [.slice a6 (ns + 1) c6, .slice a12 nf c12])
                  clear hct kt BCe BD KXe
                  obtain ⟨y1, y2⟩ := tblk_mid BCt hsC
                  have hc1 := may_any c wt (HM.out.keeps KT) cs1 (HC.out.keeps KT (fun _ _ h => h) (fun _ h => h))
                  rw [← GC.out] at hc1
                  try dsimp only
                  repeat (first | rw [if_neg Bool.false_ne_true] | go_values | go_skip | go_guarded | go_step | go_upon | go_back)
                  refine hc1.mono ?_
                  rintro e wu ⟨⟨z1, rfl, hz1⟩, ku⟩
                  obtain rfl : z1 = true := hz1.2 HCP.out
                  have KU := KT.trans ku (fun _ h _ => h)
                  have BDu := ku.blk BDt (fun h => h)
                  clear hc1 hz1 y1 y2 BCt
                  obtain ⟨y1, y2⟩ := tblk_mid BDu (n := 2) rfl
                  have hc2 := may_any ⟨c.structs ++ [x], f2 :: rs⟩ wu (HM.out.keeps KU) _ (hD.out.keeps ku (fun _ _ h => h) (fun _ h => h))
                  try dsimp only
                  repeat (first | rw [if_neg Bool.false_ne_true] | go_values | go_skip | go_guarded | go_step | go_upon | go_back)
                  refine hc2.mono ?_
                  rintro e wv ⟨⟨z2, rfl, hz2⟩, kv⟩
                  have KV := KU.trans kv (fun _ h _ => h)
                  have hz : z2 = false := by cases z2 with | true => exact absurd (hz2.1 rfl) hno.out | false => rfl
                  subst hz
                  clear hc2 hz2 y1 y2
                  try dsimp only
                  repeat (first | rw [if_neg Bool.false_ne_true] | go_values | go_skip | go_guarded | go_step | go_upon | go_back)
                  go_ret
                  exact ⟨rfl, KV⟩
set_option maxRecDepth 100000 in
theorem lifted (os : Os) (started : os.Started) (H : Type) (enc : TypeId × Value → H) (F : Stop.Interp) :
    ReturnsInHanded {} Try.checked os 3 .any ((Rows.OpenSpec.upto Rows.treeSpoilsSpec).pre6 enc Try.prog Try.f3 Rows.treeSpoilsUptoRow.domain false) (((Rows.OpenSpec.upto Rows.treeSpoilsSpec).at F).post enc Try.prog Try.f3 false true false false) := by
  refine cond_shaped (C := Try.checked) (s := Rows.OpenSpec.upto Rows.treeSpoilsSpec) (k := Rows.uptoSmall) rfl own started (by kernel_rfl) Try.func3
    (OpenSpec.witness (enc := enc) (C := Try.checked) (s := Rows.OpenSpec.upto Rows.treeSpoilsSpec) (k := Rows.uptoSmall) rfl false ⟨#[], #[.agg #[.slice none 0 0, .slice none 0 0], .int .i64 0], []⟩ 8 (by kernel_rfl) (by kernel_rfl) (by kernel_rfl)
      (x := ([.agg [.nil, .nil], .lit (.int .i64 0)], [], [])) (by kernel_rfl) rfl (by kernel_rfl)) ?_
  intro W base args ds gs before hval0 hW hkk hsh
  have hmax := max_of_shaped hsh
  have hval : ∀ (j : Nat) t v, Try.f3.params[j]? = some t → args[j]? = some v → Value.okWide Try.prog W .any base t v := hval0
  have hW' := hW
  obtain ⟨p, q, hA0, hV, rfl, hfz, hnd⟩ := hW
  have hA : DataW.TrodAll enc Try.prog W 0 (fun _ => true) true Try.f3.params.toList args.toList ds p := hA0
  rw [Try.params3] at hA hval
  obtain ⟨v0, vs0, d0, ds0, p0, q0, hargs, rfl, rfl, h0, r0⟩ := trodAll_cons hA
  obtain ⟨v1, vs1, d1, ds1, p1, q1, rfl, rfl, rfl, h1, r1⟩ := trodAll_cons r0
  obtain ⟨rfl, rfl, rfl⟩ := trodAll_nil r1
  obtain rfl : args = #[v0, v1] := by cases args; simp_all
  obtain ⟨rfl, rfl⟩ := trodVars_none hV
  have hbulk : Rows.uptoBulkAll ([d0, d1] ++ []) ≤ 1048576 := of_decide_eq_true hkk
  simp only [List.append_nil, Rows.uptoBulkAll] at hbulk
  have k0 := h0
  have lt0 : ∀ x ∈ p0, x.block < W.heap.size := by obtain ⟨m, hm⟩ := k0; exact DataW.trod_lt m _ _ _ hm
  have k1 := h1
  have lt1 : ∀ x ∈ p1, x.block < W.heap.size := by obtain ⟨m, hm⟩ := k1; exact DataW.trod_lt m _ _ _ hm
  obtain ⟨cs0, rfl, hsz0⟩ := okWide_struct Try.underlying25 (hval 0 25 v0 rfl rfl)
  obtain ⟨fuel0, hf0⟩ := h0
  obtain ⟨x0, hx0⟩ := trod_Cr fuel0 _ _ hf0 (by unfold bigN; simp only; omega)
  obtain ⟨a1, rfl, rfl, rfl, w1⟩ := open_int Try.underlying3 (hval 1 3 v1 rfl rfl) h1
  have hcap : ∀ a n k, (Value.agg cs0).cells.toList[1]? = some (.slice a n k) → n ≤ k := fun a n k h => crate_cap (hval 0 25 _ rfl rfl) (by rw [← Array.getElem?_toList]; exact h)
  clear hA0 hval0
  have hcall := walk x0 a1 W hmax _ (fun _ h => h) hx0 hcap
  have e0 : (Value.agg cs0).cells.toList.toArray = cs0 := rfl
  rw [e0] at hcall
  refine hcall.mono fun e W' ⟨he, hk⟩ => ?_
  subst he
  have bel : Below W.heap.size W W' := hk.below (Nat.le_refl _) (fun _ h => h.elim)
  exact ⟨_, rfl, _, _, _, [], _, [], hW', trodAll_mk1 (shut_bool Try.underlying4 _), (trodAll_cons_mk (Below.trod laidOut (by kernel_rfl) (of_decide_eq_true (by kernel_rfl)) k0 bel lt0) (trodAll_cons_mk (Below.trod laidOut (by kernel_rfl) (of_decide_eq_true (by kernel_rfl)) k1 bel lt1) trodAll_mk0)), rfl, bel.frame _, fun h => by cases h⟩

theorem over : Rows.treeSpoilsUptoRow.holds Try.pinned (Rows.OpenSpec.upto Rows.treeSpoilsSpec) :=
  OpenClaim.holds_of_cond 3 Try.f3 rfl rfl rfl rfl rfl rfl rfl ⟨rfl, rfl, rfl, rfl, rfl⟩ rfl rfl rfl rfl rfl (by kernel_rfl) Try.func3 (by kernel_rfl)
    (of_decide_eq_true (by kernel_rfl)) (by unfold Func.isWrapper; first | (rw [if_pos (by decide +kernel)]; kernel_rfl) | (rw [if_neg (by decide +kernel)]; exact ⟨rfl, rfl⟩))
    (fun os started H enc _ F => lifted os started H enc F)
/-- For every input of bulk at most 1048576 the law returns true, and its arguments read as before. -/
theorem proved : Rows.TreeSpoilsUptoSaid := over
#print axioms proved

end Go.Proofs.Ytjbcagbnagefcaa.treeSpoils
