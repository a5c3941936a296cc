/- The tree's data, and how they lie in memory. -/
import Derived.Test.YtjbcagbnagefcaaMid
import Derived.Test.YtjbcagbnagefcaaArgs
namespace Go.Proofs.Ytjbcagbnagefcaa
open Go.RowKit

/-- No list and no text is longer. -/
def bigN : Nat := 100000000
def txV (s : List UInt8) : Value := .string ⟨s.toArray⟩
inductive TyD where
  | mk (kind : Int) (name : List UInt8) (lives : List (List UInt8)) (elem : List TyD) : TyD
def TyD.kind : TyD → Int | .mk k _ _ _ => k
def TyD.name : TyD → List UInt8 | .mk _ n _ _ => n
def TyD.lives : TyD → List (List UInt8) | .mk _ _ l _ => l
def TyD.elem : TyD → List TyD | .mk _ _ _ e => e
structure PlD where
  name : List UInt8
  path : List (List UInt8)
structure OprD where
  kind : Int
  n : Int
  place : PlD
structure ValD where
  kind : Int
  a : OprD
  b : OprD
  op : Int
  place : PlD
  name : List UInt8
  names : List (List UInt8)
  args : List (OprD)
inductive StD where
  | mk (kind pos : Int) (mu : Bool) (name : List UInt8) (ty : TyD) (has : Bool) (place : PlD) (val : ValD) (cond : OprD) (thn els : List StD) : StD
def StD.kind : StD → Int | .mk x _ _ _ _ _ _ _ _ _ _ => x
def StD.pos : StD → Int | .mk _ x _ _ _ _ _ _ _ _ _ => x
def StD.mu : StD → Bool | .mk _ _ x _ _ _ _ _ _ _ _ => x
def StD.name : StD → List UInt8 | .mk _ _ _ x _ _ _ _ _ _ _ => x
def StD.ty : StD → TyD | .mk _ _ _ _ x _ _ _ _ _ _ => x
def StD.has : StD → Bool | .mk _ _ _ _ _ x _ _ _ _ _ => x
def StD.place : StD → PlD | .mk _ _ _ _ _ _ x _ _ _ _ => x
def StD.val : StD → ValD | .mk _ _ _ _ _ _ _ x _ _ _ => x
def StD.cond : StD → OprD | .mk _ _ _ _ _ _ _ _ x _ _ => x
def StD.thn : StD → List (StD) | .mk _ _ _ _ _ _ _ _ _ x _ => x
def StD.els : StD → List (StD) | .mk _ _ _ _ _ _ _ _ _ _ x => x
structure FldD where
  mu : Bool
  name : List UInt8
  ty : TyD
structure StrD where
  pub : Bool
  name : List UInt8
  lives : List (List UInt8)
  fields : List (FldD)
  pos : Int
structure LifD where
  name : List UInt8
  over : List (List UInt8)
structure FunD where
  pub : Bool
  name : List UInt8
  lives : List (LifD)
  params : List (FldD)
  result : TyD
  body : List (StD)
  pos : Int
structure CrD where
  structs : List (StrD)
  funcs : List (FunD)

/-- Elements of k cells, one behind the other. -/
def rowIs {α : Type} (w : World) (k : Nat) (P : α → List Value → Prop) : List α → Nat → Nat → Prop
  | [], _, _ => True
  | d :: r, b, o => (∃ cs, cs.length = k ∧ w.rangeAt b o cs ∧ P d cs) ∧ rowIs w k P r b (o + k)
/-- A slice's elements, in a block of which S speaks. -/
def SlIs {α : Type} (S : Nat → Prop) (w : World) (k : Nat) (P : α → List Value → Prop) (ao : Option Addr) (l : List α) : Prop :=
  l.length ≤ bigN ∧ (l = [] ∨ ∃ b o, ao = some ⟨b, o, none⟩ ∧ S b ∧ rowIs w k P l b o)
def TxIs (s : List UInt8) (cs : List Value) : Prop := cs = [txV s] ∧ s.length ≤ bigN
theorem rowIs_get {α : Type} {w : World} {k : Nat} {P : α → List Value → Prop} : ∀ {l : List α} {b o : Nat}, rowIs w k P l b o → ∀ {j : Nat} {d : α}, l[j]? = some d → ∃ cs, cs.length = k ∧ w.rangeAt b (o + j * k) cs ∧ P d cs
  | [], _, _, _, _, _, h => by cases h
  | x :: r, b, o, h, 0, d, hd => by
    obtain rfl : x = d := by simpa using hd
    simpa using h.1
  | x :: r, b, o, h, j + 1, d, hd => by
    obtain ⟨cs, h1, h2, h3⟩ := rowIs_get h.2 (j := j) (d := d) (by simpa using hd)
    refine ⟨cs, h1, ?_, h3⟩
    rwa [Nat.add_assoc, Nat.add_comm k, ← Nat.succ_mul] at h2
theorem rowIs_mk {α : Type} {w : World} {k : Nat} {P : α → List Value → Prop} : ∀ {l : List α} {b o : Nat}, (∀ j d, l[j]? = some d → ∃ cs, cs.length = k ∧ w.rangeAt b (o + j * k) cs ∧ P d cs) → rowIs w k P l b o
  | [], _, _, _ => trivial
  | x :: r, b, o, h => by
    refine ⟨by simpa using h 0 x rfl, rowIs_mk fun j d hd => ?_⟩
    obtain ⟨cs, h1, h2, h3⟩ := h (j + 1) d (by simpa using hd)
    refine ⟨cs, h1, ?_, h3⟩
    rwa [Nat.add_assoc, Nat.add_comm k, ← Nat.succ_mul]
theorem rowIs_keeps {α : Type} {T : Nat → Prop} {w w' : World} {k : Nat} {P Q : α → List Value → Prop} : ∀ {l : List α} {b o : Nat}, rowIs w k P l b o → Keeps T w w' → ¬ T b → (∀ d ∈ l, ∀ cs, P d cs → Q d cs) → rowIs w' k Q l b o
  | [], _, _, _, _, _, _ => trivial
  | x :: r, b, o, h, K, hT, hq => by
    obtain ⟨⟨cs, h1, h2, h3⟩, h4⟩ := h
    exact ⟨⟨cs, h1, rangeAt_keeps h2 K hT, hq x (by simp) cs h3⟩, rowIs_keeps h4 K hT (fun d hd => hq d (List.mem_cons_of_mem _ hd))⟩
theorem SlIs.keeps {α : Type} {S S' T : Nat → Prop} {w w' : World} {k : Nat} {P Q : α → List Value → Prop} {ao : Option Addr} {l : List α} (h : SlIs S w k P ao l) (K : Keeps T w w') (hT : ∀ b, S b → ¬ T b) (hS : ∀ b, S b → S' b) (hq : ∀ d ∈ l, ∀ cs, P d cs → Q d cs) : SlIs S' w' k Q ao l := by
  refine ⟨h.1, ?_⟩
  rcases h.2 with h | ⟨b, o, h1, h2, h3⟩
  · exact .inl h
  · exact .inr ⟨b, o, h1, hS b h2, rowIs_keeps h3 K (hT b h2) hq⟩
theorem SlIs.get {α : Type} {S : Nat → Prop} {w : World} {k : Nat} {P : α → List Value → Prop} {ao : Option Addr} {l : List α} (h : SlIs S w k P ao l) {j : Nat} {d : α} (hd : l[j]? = some d) :
    ∃ b o, ao = some ⟨b, o, none⟩ ∧ S b ∧ ∃ cs, cs.length = k ∧ w.rangeAt b (o + j * k) cs ∧ P d cs := by
  rcases h.2 with rfl | ⟨b, o, h1, h2, h3⟩
  · cases hd
  · exact ⟨b, o, h1, h2, rowIs_get h3 hd⟩
theorem SlIs.head {α : Type} {S : Nat → Prop} {w : World} {k : Nat} {P : α → List Value → Prop} {ao : Option Addr} {l : List α} (h : SlIs S w k P ao l) (hl : 0 < l.length) : ∃ b o, ao = some ⟨b, o, none⟩ ∧ rowIs w k P l b o := by
  rcases h.2 with rfl | ⟨b, o, h1, h2, h3⟩
  · simp at hl
  · exact ⟨b, o, h1, h3⟩
theorem slIs_nil {α : Type} (S : Nat → Prop) (w : World) (k : Nat) (P : α → List Value → Prop) (ao : Option Addr) : SlIs S w k P ao [] := ⟨Nat.zero_le _, .inl rfl⟩

mutual
def TyIs (S : Nat → Prop) (w : World) : TyD → List Value → Prop
  | .mk x_kind x_name x_lives x_elem, cs => ∃ (a2 : Option Addr) (c2 : Nat) (a3 : Option Addr) (c3 : Nat), cs = [.int .i64 x_kind, txV x_name, .slice a2 (x_lives).length c2, .slice a3 (x_elem).length c3] ∧ (x_name).length ≤ bigN ∧ SlIs S w 1 TxIs a2 (x_lives) ∧ ((x_elem).length ≤ bigN ∧ ((x_elem) = [] ∨ ∃ b o, a3 = some ⟨b, o, none⟩ ∧ S b ∧ TysIs S w (x_elem) b o))
def TysIs (S : Nat → Prop) (w : World) : List TyD → Nat → Nat → Prop
  | [], _, _ => True
  | d :: r, b, o => (∃ cs, cs.length = 4 ∧ w.rangeAt b o cs ∧ TyIs S w d cs) ∧ TysIs S w r b (o + 4)
end
theorem TysIs_row (S : Nat → Prop) (w : World) : ∀ (l : List TyD) (b o : Nat), TysIs S w l b o ↔ rowIs w 4 (TyIs S w) l b o
  | [], _, _ => by unfold TysIs rowIs; exact Iff.rfl
  | d :: r, b, o => by
    unfold TysIs rowIs
    rw [TysIs_row S w r b (o + 4)]
theorem TyD.ind {P : TyD → Prop} (h : ∀ x_kind x_name x_lives x_elem, (∀ e ∈ x_elem, P e) → P (.mk x_kind x_name x_lives x_elem)) : ∀ t, P t
  | .mk x_kind x_name x_lives x_elem => h x_kind x_name x_lives x_elem (fun e he => by have := List.sizeOf_lt_of_mem he; exact TyD.ind h e)

theorem tyIs_iff (S : Nat → Prop) (w : World) (d : TyD) (cs : List Value) : TyIs S w d cs ↔ ∃ (a2 : Option Addr) (c2 : Nat) (a3 : Option Addr) (c3 : Nat), cs = [.int .i64 d.kind, txV d.name, .slice a2 (d.lives).length c2, .slice a3 (d.elem).length c3] ∧ (d.name).length ≤ bigN ∧ SlIs S w 1 TxIs a2 (d.lives) ∧ SlIs S w 4 (TyIs S w) a3 (d.elem) := by
  cases d
  unfold TyIs
  simp only [TysIs_row]
  exact Iff.rfl

theorem TyIs.keeps {S S' T : Nat → Prop} {w w' : World} {d : TyD} {cs : List Value} (h : TyIs S w d cs) (K : Keeps T w w') (hT : ∀ b, S b → ¬ T b) (hS : ∀ b, S b → S' b) : TyIs S' w' d cs := by
  refine TyD.ind (P := fun d => ∀ cs, TyIs S w d cs → TyIs S' w' d cs) ?_ d cs h
  clear h cs d
  intro x_kind x_name x_lives x_elem ih_elem cs h
  rw [tyIs_iff] at h ⊢
  obtain ⟨a2, c2, a3, c3, rfl, h0, h1, h2⟩ := h
  exact ⟨a2, c2, a3, c3, rfl, h0, h1.keeps K hT hS (fun _ _ _ h => h), h2.keeps K hT hS (fun e he cs hc => ih_elem e he cs hc)⟩
theorem TyIs.len {S : Nat → Prop} {w : World} {d : TyD} {cs : List Value} (h : TyIs S w d cs) : cs.length = 4 := by
  rw [tyIs_iff] at h
  obtain ⟨a2, c2, a3, c3, rfl, h0, h1, h2⟩ := h
  simp only [List.length_cons, List.length_nil]
theorem TyIs.one {S : Nat → Prop} {w : World} {d : TyD} {cs : List Value} (h : TyIs S w d cs) : ∀ u ∈ cs, u.oneCell' = true := by
  rw [tyIs_iff] at h
  obtain ⟨a2, c2, a3, c3, rfl, h0, h1, h2⟩ := h
  intro u hu
  simp only [List.mem_cons, List.not_mem_nil, or_false] at hu
  rcases hu with (rfl | rfl | rfl | rfl)
  all_goals first | rfl

def PlIs (S : Nat → Prop) (w : World) (d : PlD) (cs : List Value) : Prop := ∃ (a1 : Option Addr) (c1 : Nat), cs = [txV d.name, .slice a1 (d.path).length c1] ∧ (d.name).length ≤ bigN ∧ SlIs S w 1 TxIs a1 (d.path)

theorem PlIs.keeps {S S' T : Nat → Prop} {w w' : World} {d : PlD} {cs : List Value} (h : PlIs S w d cs) (K : Keeps T w w') (hT : ∀ b, S b → ¬ T b) (hS : ∀ b, S b → S' b) : PlIs S' w' d cs := by
  obtain ⟨a1, c1, rfl, h0, h1⟩ := h
  exact ⟨a1, c1, rfl, h0, h1.keeps K hT hS (fun _ _ _ h => h)⟩
theorem PlIs.len {S : Nat → Prop} {w : World} {d : PlD} {cs : List Value} (h : PlIs S w d cs) : cs.length = 2 := by
  obtain ⟨a1, c1, rfl, h0, h1⟩ := h
  simp only [List.length_cons, List.length_nil]
theorem PlIs.one {S : Nat → Prop} {w : World} {d : PlD} {cs : List Value} (h : PlIs S w d cs) : ∀ u ∈ cs, u.oneCell' = true := by
  obtain ⟨a1, c1, rfl, h0, h1⟩ := h
  intro u hu
  simp only [List.mem_cons, List.not_mem_nil, or_false] at hu
  rcases hu with (rfl | rfl)
  all_goals first | rfl

def OprIs (S : Nat → Prop) (w : World) (d : OprD) (cs : List Value) : Prop := ∃ (s2 : List Value), cs = [.int .i64 d.kind, .int .i64 d.n] ++ s2 ∧ PlIs S w (d.place) s2

theorem OprIs.keeps {S S' T : Nat → Prop} {w w' : World} {d : OprD} {cs : List Value} (h : OprIs S w d cs) (K : Keeps T w w') (hT : ∀ b, S b → ¬ T b) (hS : ∀ b, S b → S' b) : OprIs S' w' d cs := by
  obtain ⟨s2, rfl, h0⟩ := h
  exact ⟨s2, rfl, h0.keeps K hT hS⟩
theorem OprIs.len {S : Nat → Prop} {w : World} {d : OprD} {cs : List Value} (h : OprIs S w d cs) : cs.length = 4 := by
  obtain ⟨s2, rfl, h0⟩ := h
  simp only [List.length_append, List.length_cons, List.length_nil, h0.len]
theorem OprIs.one {S : Nat → Prop} {w : World} {d : OprD} {cs : List Value} (h : OprIs S w d cs) : ∀ u ∈ cs, u.oneCell' = true := by
  obtain ⟨s2, rfl, h0⟩ := h
  intro u hu
  simp only [List.mem_append, List.mem_cons, List.not_mem_nil, or_false] at hu
  rcases hu with ((rfl | rfl) | hu)
  all_goals first | rfl | exact h0.one _ hu

def ValIs (S : Nat → Prop) (w : World) (d : ValD) (cs : List Value) : Prop := ∃ (s1 : List Value) (s5 : List Value) (s10 : List Value) (a13 : Option Addr) (c13 : Nat) (a14 : Option Addr) (c14 : Nat), cs = [.int .i64 d.kind] ++ s1 ++ s5 ++ [.int .i64 d.op] ++ s10 ++ [txV d.name, .slice a13 (d.names).length c13, .slice a14 (d.args).length c14] ∧ OprIs S w (d.a) s1 ∧ OprIs S w (d.b) s5 ∧ PlIs S w (d.place) s10 ∧ (d.name).length ≤ bigN ∧ SlIs S w 1 TxIs a13 (d.names) ∧ SlIs S w 4 (OprIs S w) a14 (d.args)

theorem ValIs.keeps {S S' T : Nat → Prop} {w w' : World} {d : ValD} {cs : List Value} (h : ValIs S w d cs) (K : Keeps T w w') (hT : ∀ b, S b → ¬ T b) (hS : ∀ b, S b → S' b) : ValIs S' w' d cs := by
  obtain ⟨s1, s5, s10, a13, c13, a14, c14, rfl, h0, h1, h2, h3, h4, h5⟩ := h
  exact ⟨s1, s5, s10, a13, c13, a14, c14, rfl, h0.keeps K hT hS, h1.keeps K hT hS, h2.keeps K hT hS, h3, h4.keeps K hT hS (fun _ _ _ h => h), h5.keeps K hT hS (fun _ _ _ h => h.keeps K hT hS)⟩
theorem ValIs.len {S : Nat → Prop} {w : World} {d : ValD} {cs : List Value} (h : ValIs S w d cs) : cs.length = 15 := by
  obtain ⟨s1, s5, s10, a13, c13, a14, c14, rfl, h0, h1, h2, h3, h4, h5⟩ := h
  simp only [List.length_append, List.length_cons, List.length_nil, h0.len, h1.len, h2.len]
theorem ValIs.one {S : Nat → Prop} {w : World} {d : ValD} {cs : List Value} (h : ValIs S w d cs) : ∀ u ∈ cs, u.oneCell' = true := by
  obtain ⟨s1, s5, s10, a13, c13, a14, c14, rfl, h0, h1, h2, h3, h4, h5⟩ := h
  intro u hu
  simp only [List.mem_append, List.mem_cons, List.not_mem_nil, or_false] at hu
  rcases hu with ((((((rfl) | hu) | hu) | rfl) | hu) | rfl | rfl | rfl)
  all_goals first | rfl | exact h0.one _ hu | exact h1.one _ hu | exact h2.one _ hu

mutual
def StIs (S : Nat → Prop) (w : World) : StD → List Value → Prop
  | .mk x_kind x_pos x_mu x_name x_ty x_has x_place x_val x_cond x_thn x_els, cs => ∃ (s4 : List Value) (s9 : List Value) (s11 : List Value) (s26 : List Value) (a30 : Option Addr) (c30 : Nat) (a31 : Option Addr) (c31 : Nat), cs = [.int .i64 x_kind, .int .i64 x_pos, .bool x_mu, txV x_name] ++ s4 ++ [.bool x_has] ++ s9 ++ s11 ++ s26 ++ [.slice a30 (x_thn).length c30, .slice a31 (x_els).length c31] ∧ (x_name).length ≤ bigN ∧ TyIs S w (x_ty) s4 ∧ PlIs S w (x_place) s9 ∧ ValIs S w (x_val) s11 ∧ OprIs S w (x_cond) s26 ∧ ((x_thn).length ≤ bigN ∧ ((x_thn) = [] ∨ ∃ b o, a30 = some ⟨b, o, none⟩ ∧ S b ∧ StsIs S w (x_thn) b o)) ∧ ((x_els).length ≤ bigN ∧ ((x_els) = [] ∨ ∃ b o, a31 = some ⟨b, o, none⟩ ∧ S b ∧ StsIs S w (x_els) b o))
def StsIs (S : Nat → Prop) (w : World) : List StD → Nat → Nat → Prop
  | [], _, _ => True
  | d :: r, b, o => (∃ cs, cs.length = 32 ∧ w.rangeAt b o cs ∧ StIs S w d cs) ∧ StsIs S w r b (o + 32)
end
theorem StsIs_row (S : Nat → Prop) (w : World) : ∀ (l : List StD) (b o : Nat), StsIs S w l b o ↔ rowIs w 32 (StIs S w) l b o
  | [], _, _ => by unfold StsIs rowIs; exact Iff.rfl
  | d :: r, b, o => by
    unfold StsIs rowIs
    rw [StsIs_row S w r b (o + 32)]
theorem StD.ind {P : StD → Prop} (h : ∀ x_kind x_pos x_mu x_name x_ty x_has x_place x_val x_cond x_thn x_els, (∀ e ∈ x_thn, P e) → (∀ e ∈ x_els, P e) → P (.mk x_kind x_pos x_mu x_name x_ty x_has x_place x_val x_cond x_thn x_els)) : ∀ t, P t
  | .mk x_kind x_pos x_mu x_name x_ty x_has x_place x_val x_cond x_thn x_els => h x_kind x_pos x_mu x_name x_ty x_has x_place x_val x_cond x_thn x_els (fun e he => by have := List.sizeOf_lt_of_mem he; exact StD.ind h e) (fun e he => by have := List.sizeOf_lt_of_mem he; exact StD.ind h e)

theorem stIs_iff (S : Nat → Prop) (w : World) (d : StD) (cs : List Value) : StIs S w d cs ↔ ∃ (s4 : List Value) (s9 : List Value) (s11 : List Value) (s26 : List Value) (a30 : Option Addr) (c30 : Nat) (a31 : Option Addr) (c31 : Nat), cs = [.int .i64 d.kind, .int .i64 d.pos, .bool d.mu, txV d.name] ++ s4 ++ [.bool d.has] ++ s9 ++ s11 ++ s26 ++ [.slice a30 (d.thn).length c30, .slice a31 (d.els).length c31] ∧ (d.name).length ≤ bigN ∧ TyIs S w (d.ty) s4 ∧ PlIs S w (d.place) s9 ∧ ValIs S w (d.val) s11 ∧ OprIs S w (d.cond) s26 ∧ SlIs S w 32 (StIs S w) a30 (d.thn) ∧ SlIs S w 32 (StIs S w) a31 (d.els) := by
  cases d
  unfold StIs
  simp only [StsIs_row]
  exact Iff.rfl

theorem StIs.keeps {S S' T : Nat → Prop} {w w' : World} {d : StD} {cs : List Value} (h : StIs S w d cs) (K : Keeps T w w') (hT : ∀ b, S b → ¬ T b) (hS : ∀ b, S b → S' b) : StIs S' w' d cs := by
  refine StD.ind (P := fun d => ∀ cs, StIs S w d cs → StIs S' w' d cs) ?_ d cs h
  clear h cs d
  intro x_kind x_pos x_mu x_name x_ty x_has x_place x_val x_cond x_thn x_els ih_thn ih_els cs h
  rw [stIs_iff] at h ⊢
  obtain ⟨s4, s9, s11, s26, a30, c30, a31, c31, rfl, h0, h1, h2, h3, h4, h5, h6⟩ := h
  exact ⟨s4, s9, s11, s26, a30, c30, a31, c31, rfl, h0, h1.keeps K hT hS, h2.keeps K hT hS, h3.keeps K hT hS, h4.keeps K hT hS, h5.keeps K hT hS (fun e he cs hc => ih_thn e he cs hc), h6.keeps K hT hS (fun e he cs hc => ih_els e he cs hc)⟩
theorem StIs.len {S : Nat → Prop} {w : World} {d : StD} {cs : List Value} (h : StIs S w d cs) : cs.length = 32 := by
  rw [stIs_iff] at h
  obtain ⟨s4, s9, s11, s26, a30, c30, a31, c31, rfl, h0, h1, h2, h3, h4, h5, h6⟩ := h
  simp only [List.length_append, List.length_cons, List.length_nil, h1.len, h2.len, h3.len, h4.len]
theorem StIs.one {S : Nat → Prop} {w : World} {d : StD} {cs : List Value} (h : StIs S w d cs) : ∀ u ∈ cs, u.oneCell' = true := by
  rw [stIs_iff] at h
  obtain ⟨s4, s9, s11, s26, a30, c30, a31, c31, rfl, h0, h1, h2, h3, h4, h5, h6⟩ := h
  intro u hu
  simp only [List.mem_append, List.mem_cons, List.not_mem_nil, or_false] at hu
  rcases hu with (((((((rfl | rfl | rfl | rfl) | hu) | rfl) | hu) | hu) | hu) | rfl | rfl)
  all_goals first | rfl | exact h1.one _ hu | exact h2.one _ hu | exact h3.one _ hu | exact h4.one _ hu

def FldIs (S : Nat → Prop) (w : World) (d : FldD) (cs : List Value) : Prop := ∃ (s2 : List Value), cs = [.bool d.mu, txV d.name] ++ s2 ∧ (d.name).length ≤ bigN ∧ TyIs S w (d.ty) s2

theorem FldIs.keeps {S S' T : Nat → Prop} {w w' : World} {d : FldD} {cs : List Value} (h : FldIs S w d cs) (K : Keeps T w w') (hT : ∀ b, S b → ¬ T b) (hS : ∀ b, S b → S' b) : FldIs S' w' d cs := by
  obtain ⟨s2, rfl, h0, h1⟩ := h
  exact ⟨s2, rfl, h0, h1.keeps K hT hS⟩
theorem FldIs.len {S : Nat → Prop} {w : World} {d : FldD} {cs : List Value} (h : FldIs S w d cs) : cs.length = 6 := by
  obtain ⟨s2, rfl, h0, h1⟩ := h
  simp only [List.length_append, List.length_cons, List.length_nil, h1.len]
theorem FldIs.one {S : Nat → Prop} {w : World} {d : FldD} {cs : List Value} (h : FldIs S w d cs) : ∀ u ∈ cs, u.oneCell' = true := by
  obtain ⟨s2, rfl, h0, h1⟩ := h
  intro u hu
  simp only [List.mem_append, List.mem_cons, List.not_mem_nil, or_false] at hu
  rcases hu with ((rfl | rfl) | hu)
  all_goals first | rfl | exact h1.one _ hu

def StrIs (S : Nat → Prop) (w : World) (d : StrD) (cs : List Value) : Prop := ∃ (a2 : Option Addr) (c2 : Nat) (a3 : Option Addr) (c3 : Nat), cs = [.bool d.pub, txV d.name, .slice a2 (d.lives).length c2, .slice a3 (d.fields).length c3, .int .i64 d.pos] ∧ (d.name).length ≤ bigN ∧ SlIs S w 1 TxIs a2 (d.lives) ∧ SlIs S w 6 (FldIs S w) a3 (d.fields)

theorem StrIs.keeps {S S' T : Nat → Prop} {w w' : World} {d : StrD} {cs : List Value} (h : StrIs S w d cs) (K : Keeps T w w') (hT : ∀ b, S b → ¬ T b) (hS : ∀ b, S b → S' b) : StrIs S' w' d cs := by
  obtain ⟨a2, c2, a3, c3, rfl, h0, h1, h2⟩ := h
  exact ⟨a2, c2, a3, c3, rfl, h0, h1.keeps K hT hS (fun _ _ _ h => h), h2.keeps K hT hS (fun _ _ _ h => h.keeps K hT hS)⟩
theorem StrIs.len {S : Nat → Prop} {w : World} {d : StrD} {cs : List Value} (h : StrIs S w d cs) : cs.length = 5 := by
  obtain ⟨a2, c2, a3, c3, rfl, h0, h1, h2⟩ := h
  simp only [List.length_cons, List.length_nil]
theorem StrIs.one {S : Nat → Prop} {w : World} {d : StrD} {cs : List Value} (h : StrIs S w d cs) : ∀ u ∈ cs, u.oneCell' = true := by
  obtain ⟨a2, c2, a3, c3, rfl, h0, h1, h2⟩ := h
  intro u hu
  simp only [List.mem_cons, List.not_mem_nil, or_false] at hu
  rcases hu with (rfl | rfl | rfl | rfl | rfl)
  all_goals first | rfl

def LifIs (S : Nat → Prop) (w : World) (d : LifD) (cs : List Value) : Prop := ∃ (a1 : Option Addr) (c1 : Nat), cs = [txV d.name, .slice a1 (d.over).length c1] ∧ (d.name).length ≤ bigN ∧ SlIs S w 1 TxIs a1 (d.over)

theorem LifIs.keeps {S S' T : Nat → Prop} {w w' : World} {d : LifD} {cs : List Value} (h : LifIs S w d cs) (K : Keeps T w w') (hT : ∀ b, S b → ¬ T b) (hS : ∀ b, S b → S' b) : LifIs S' w' d cs := by
  obtain ⟨a1, c1, rfl, h0, h1⟩ := h
  exact ⟨a1, c1, rfl, h0, h1.keeps K hT hS (fun _ _ _ h => h)⟩
theorem LifIs.len {S : Nat → Prop} {w : World} {d : LifD} {cs : List Value} (h : LifIs S w d cs) : cs.length = 2 := by
  obtain ⟨a1, c1, rfl, h0, h1⟩ := h
  simp only [List.length_cons, List.length_nil]
theorem LifIs.one {S : Nat → Prop} {w : World} {d : LifD} {cs : List Value} (h : LifIs S w d cs) : ∀ u ∈ cs, u.oneCell' = true := by
  obtain ⟨a1, c1, rfl, h0, h1⟩ := h
  intro u hu
  simp only [List.mem_cons, List.not_mem_nil, or_false] at hu
  rcases hu with (rfl | rfl)
  all_goals first | rfl

def FunIs (S : Nat → Prop) (w : World) (d : FunD) (cs : List Value) : Prop := ∃ (a2 : Option Addr) (c2 : Nat) (a3 : Option Addr) (c3 : Nat) (s4 : List Value) (a8 : Option Addr) (c8 : Nat), cs = [.bool d.pub, txV d.name, .slice a2 (d.lives).length c2, .slice a3 (d.params).length c3] ++ s4 ++ [.slice a8 (d.body).length c8, .int .i64 d.pos] ∧ (d.name).length ≤ bigN ∧ SlIs S w 2 (LifIs S w) a2 (d.lives) ∧ SlIs S w 6 (FldIs S w) a3 (d.params) ∧ TyIs S w (d.result) s4 ∧ SlIs S w 32 (StIs S w) a8 (d.body)

theorem FunIs.keeps {S S' T : Nat → Prop} {w w' : World} {d : FunD} {cs : List Value} (h : FunIs S w d cs) (K : Keeps T w w') (hT : ∀ b, S b → ¬ T b) (hS : ∀ b, S b → S' b) : FunIs S' w' d cs := by
  obtain ⟨a2, c2, a3, c3, s4, a8, c8, rfl, h0, h1, h2, h3, h4⟩ := h
  exact ⟨a2, c2, a3, c3, s4, a8, c8, rfl, h0, h1.keeps K hT hS (fun _ _ _ h => h.keeps K hT hS), h2.keeps K hT hS (fun _ _ _ h => h.keeps K hT hS), h3.keeps K hT hS, h4.keeps K hT hS (fun _ _ _ h => h.keeps K hT hS)⟩
theorem FunIs.len {S : Nat → Prop} {w : World} {d : FunD} {cs : List Value} (h : FunIs S w d cs) : cs.length = 10 := by
  obtain ⟨a2, c2, a3, c3, s4, a8, c8, rfl, h0, h1, h2, h3, h4⟩ := h
  simp only [List.length_append, List.length_cons, List.length_nil, h3.len]
theorem FunIs.one {S : Nat → Prop} {w : World} {d : FunD} {cs : List Value} (h : FunIs S w d cs) : ∀ u ∈ cs, u.oneCell' = true := by
  obtain ⟨a2, c2, a3, c3, s4, a8, c8, rfl, h0, h1, h2, h3, h4⟩ := h
  intro u hu
  simp only [List.mem_append, List.mem_cons, List.not_mem_nil, or_false] at hu
  rcases hu with (((rfl | rfl | rfl | rfl) | hu) | rfl | rfl)
  all_goals first | rfl | exact h3.one _ hu

def CrIs (S : Nat → Prop) (w : World) (d : CrD) (cs : List Value) : Prop := ∃ (a0 : Option Addr) (c0 : Nat) (a1 : Option Addr) (c1 : Nat), cs = [.slice a0 (d.structs).length c0, .slice a1 (d.funcs).length c1] ∧ SlIs S w 5 (StrIs S w) a0 (d.structs) ∧ SlIs S w 10 (FunIs S w) a1 (d.funcs)

theorem CrIs.keeps {S S' T : Nat → Prop} {w w' : World} {d : CrD} {cs : List Value} (h : CrIs S w d cs) (K : Keeps T w w') (hT : ∀ b, S b → ¬ T b) (hS : ∀ b, S b → S' b) : CrIs S' w' d cs := by
  obtain ⟨a0, c0, a1, c1, rfl, h0, h1⟩ := h
  exact ⟨a0, c0, a1, c1, rfl, h0.keeps K hT hS (fun _ _ _ h => h.keeps K hT hS), h1.keeps K hT hS (fun _ _ _ h => h.keeps K hT hS)⟩
theorem CrIs.len {S : Nat → Prop} {w : World} {d : CrD} {cs : List Value} (h : CrIs S w d cs) : cs.length = 2 := by
  obtain ⟨a0, c0, a1, c1, rfl, h0, h1⟩ := h
  simp only [List.length_cons, List.length_nil]
theorem CrIs.one {S : Nat → Prop} {w : World} {d : CrD} {cs : List Value} (h : CrIs S w d cs) : ∀ u ∈ cs, u.oneCell' = true := by
  obtain ⟨a0, c0, a1, c1, rfl, h0, h1⟩ := h
  intro u hu
  simp only [List.mem_cons, List.not_mem_nil, or_false] at hu
  rcases hu with (rfl | rfl)
  all_goals first | rfl

end Go.Proofs.Ytjbcagbnagefcaa
