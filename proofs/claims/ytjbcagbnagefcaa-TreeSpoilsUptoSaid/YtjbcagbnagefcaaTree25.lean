/- The document's answer: which statements may be: the plain law. -/
import Derived.Test.YtjbcagbnagefcaaTree17
namespace Go.Proofs.Ytjbcagbnagefcaa
open Go.RowKit

/-- What is asked of a statement behind the switch: ok, is its block asked for, is the other one, what is left of it. -/
def RC (a : StD) (d : Int) (ok tf oth : Bool) (v : StD) : Prop :=
  ok = true ∧ (((a.kind = 1 ∨ a.kind = 10) ∧ a.has = true) → ValP a.val) ∧ (if (a.kind = 1 ∨ a.kind = 10) ∧ a.has = true then StD.mk v.kind v.pos v.mu v.name v.ty false v.place zeroVal v.cond v.thn v.els else v) = zeroSt ∧ (tf = false → a.thn = []) ∧ (oth = false → a.els = []) ∧ (tf = true → BlP a.thn (d + 1)) ∧ (oth = true → BlP a.els (d + 1))
/-- .. behind the value. -/
def RF (a : StD) (d : Int) (ok tf oth : Bool) (v : StD) : Prop :=
  ok = true ∧ v = zeroSt ∧ (tf = false → a.thn = []) ∧ (oth = false → a.els = []) ∧ (tf = true → BlP a.thn (d + 1)) ∧ (oth = true → BlP a.els (d + 1))
theorem rc_ok (a : StD) (d : Int) (z tf oth : Bool) (v : StD) : RC a d z tf oth v ↔ z = true ∧ RC a d true tf oth v := by
  unfold RC
  simp
theorem rc_no {a : StD} {d : Int} {ok tf oth : Bool} {v : StD} (h : ¬ ((a.kind = 1 ∨ a.kind = 10) ∧ a.has = true)) : RC a d ok tf oth v ↔ RF a d ok tf oth v := by
  unfold RC RF
  rw [if_neg h]
  exact ⟨fun ⟨h1, _, h3⟩ => ⟨h1, h3⟩, fun ⟨h1, h3⟩ => ⟨h1, fun h2 => absurd h2 h, h3⟩⟩
theorem rc_yes {a : StD} {d : Int} {ok tf oth z : Bool} {v : StD} (h : (a.kind = 1 ∨ a.kind = 10) ∧ a.has = true) (hz : z = true ↔ ok = true ∧ ValP a.val) : RC a d ok tf oth v ↔ RF a d z tf oth (.mk v.kind v.pos v.mu v.name v.ty false v.place zeroVal v.cond v.thn v.els) := by
  unfold RC RF
  rw [if_pos h, hz]
  exact ⟨fun ⟨h1, h2, h3⟩ => ⟨⟨h1, h2 h⟩, h3⟩, fun ⟨⟨h1, h2⟩, h3⟩ => ⟨h1, fun _ => h2, h3⟩⟩
set_option linter.unusedSimpArgs false in
theorem rc_1 (x_pos : Int) (x_mu : Bool) (x_name : List UInt8) (x_ty : TyD) (x_has : Bool) (x_place : PlD) (x_val : ValD) (x_cond : OprD) (x_thn : List (StD)) (x_els : List (StD)) (d : Int) : StP (.mk 1 x_pos x_mu x_name x_ty x_has x_place x_val x_cond x_thn x_els) d ↔ (isName x_name = true ∧ TyP x_ty 1) ∧ RC (.mk 1 x_pos x_mu x_name x_ty x_has x_place x_val x_cond x_thn x_els) d true false false (.mk 0 0 false [] zeroTy x_has x_place x_val x_cond [] []) := by
  unfold StP RC optD zeroSt BlP VldP
  simp only [StD.kind, StD.pos, StD.mu, StD.name, StD.ty, StD.has, StD.place, StD.val, StD.cond, StD.thn, StD.els, StD.mk.injEq]
  cases x_has <;> simp <;> grind
set_option linter.unusedSimpArgs false in
theorem rc_2 (x_pos : Int) (x_mu : Bool) (x_name : List UInt8) (x_ty : TyD) (x_has : Bool) (x_place : PlD) (x_val : ValD) (x_cond : OprD) (x_thn : List (StD)) (x_els : List (StD)) (d : Int) : StP (.mk 2 x_pos x_mu x_name x_ty x_has x_place x_val x_cond x_thn x_els) d ↔ (PlP x_place ∧ ValP x_val) ∧ RC (.mk 2 x_pos x_mu x_name x_ty x_has x_place x_val x_cond x_thn x_els) d true false false (.mk 0 0 x_mu x_name x_ty x_has zeroPl zeroVal x_cond [] []) := by
  unfold StP RC optD zeroSt BlP VldP
  simp only [StD.kind, StD.pos, StD.mu, StD.name, StD.ty, StD.has, StD.place, StD.val, StD.cond, StD.thn, StD.els, StD.mk.injEq]
  cases x_has <;> simp <;> grind
set_option linter.unusedSimpArgs false in
theorem rc_3 (x_pos : Int) (x_mu : Bool) (x_name : List UInt8) (x_ty : TyD) (x_has : Bool) (x_place : PlD) (x_val : ValD) (x_cond : OprD) (x_thn : List (StD)) (x_els : List (StD)) (d : Int) : StP (.mk 3 x_pos x_mu x_name x_ty x_has x_place x_val x_cond x_thn x_els) d ↔ (ValP x_val ∧ x_val.kind = 6) ∧ RC (.mk 3 x_pos x_mu x_name x_ty x_has x_place x_val x_cond x_thn x_els) d true false false (.mk 0 0 x_mu x_name x_ty x_has x_place zeroVal x_cond [] []) := by
  unfold StP RC optD zeroSt BlP VldP
  simp only [StD.kind, StD.pos, StD.mu, StD.name, StD.ty, StD.has, StD.place, StD.val, StD.cond, StD.thn, StD.els, StD.mk.injEq]
  cases x_has <;> simp <;> grind
set_option linter.unusedSimpArgs false in
theorem rc_4 (x_pos : Int) (x_mu : Bool) (x_name : List UInt8) (x_ty : TyD) (x_has : Bool) (x_place : PlD) (x_val : ValD) (x_cond : OprD) (x_thn : List (StD)) (x_els : List (StD)) (d : Int) : StP (.mk 4 x_pos x_mu x_name x_ty x_has x_place x_val x_cond x_thn x_els) d ↔ (OprP x_cond) ∧ RC (.mk 4 x_pos x_mu x_name x_ty x_has x_place x_val x_cond x_thn x_els) d true true x_has (.mk 0 0 x_mu x_name x_ty false x_place x_val zeroOpr [] []) := by
  unfold StP RC optD zeroSt BlP VldP
  simp only [StD.kind, StD.pos, StD.mu, StD.name, StD.ty, StD.has, StD.place, StD.val, StD.cond, StD.thn, StD.els, StD.mk.injEq]
  cases x_has <;> simp <;> grind
set_option linter.unusedSimpArgs false in
theorem rc_5 (x_pos : Int) (x_mu : Bool) (x_name : List UInt8) (x_ty : TyD) (x_has : Bool) (x_place : PlD) (x_val : ValD) (x_cond : OprD) (x_thn : List (StD)) (x_els : List (StD)) (d : Int) : StP (.mk 5 x_pos x_mu x_name x_ty x_has x_place x_val x_cond x_thn x_els) d ↔ (OprP x_cond) ∧ RC (.mk 5 x_pos x_mu x_name x_ty x_has x_place x_val x_cond x_thn x_els) d true true false (.mk 0 0 x_mu x_name x_ty x_has x_place x_val zeroOpr [] []) := by
  unfold StP RC optD zeroSt BlP VldP
  simp only [StD.kind, StD.pos, StD.mu, StD.name, StD.ty, StD.has, StD.place, StD.val, StD.cond, StD.thn, StD.els, StD.mk.injEq]
  cases x_has <;> simp <;> grind
set_option linter.unusedSimpArgs false in
theorem rc_6 (x_pos : Int) (x_mu : Bool) (x_name : List UInt8) (x_ty : TyD) (x_has : Bool) (x_place : PlD) (x_val : ValD) (x_cond : OprD) (x_thn : List (StD)) (x_els : List (StD)) (d : Int) : StP (.mk 6 x_pos x_mu x_name x_ty x_has x_place x_val x_cond x_thn x_els) d ↔ (True) ∧ RC (.mk 6 x_pos x_mu x_name x_ty x_has x_place x_val x_cond x_thn x_els) d true true false (.mk 0 0 x_mu x_name x_ty x_has x_place x_val x_cond [] []) := by
  unfold StP RC optD zeroSt BlP VldP
  simp only [StD.kind, StD.pos, StD.mu, StD.name, StD.ty, StD.has, StD.place, StD.val, StD.cond, StD.thn, StD.els, StD.mk.injEq]
  cases x_has <;> simp <;> grind
set_option linter.unusedSimpArgs false in
theorem rc_7 (x_pos : Int) (x_mu : Bool) (x_name : List UInt8) (x_ty : TyD) (x_has : Bool) (x_place : PlD) (x_val : ValD) (x_cond : OprD) (x_thn : List (StD)) (x_els : List (StD)) (d : Int) : StP (.mk 7 x_pos x_mu x_name x_ty x_has x_place x_val x_cond x_thn x_els) d ↔ (True) ∧ RC (.mk 7 x_pos x_mu x_name x_ty x_has x_place x_val x_cond x_thn x_els) d true true false (.mk 0 0 x_mu x_name x_ty x_has x_place x_val x_cond [] []) := by
  unfold StP RC optD zeroSt BlP VldP
  simp only [StD.kind, StD.pos, StD.mu, StD.name, StD.ty, StD.has, StD.place, StD.val, StD.cond, StD.thn, StD.els, StD.mk.injEq]
  cases x_has <;> simp <;> grind
set_option linter.unusedSimpArgs false in
theorem rc_8 (x_pos : Int) (x_mu : Bool) (x_name : List UInt8) (x_ty : TyD) (x_has : Bool) (x_place : PlD) (x_val : ValD) (x_cond : OprD) (x_thn : List (StD)) (x_els : List (StD)) (d : Int) : StP (.mk 8 x_pos x_mu x_name x_ty x_has x_place x_val x_cond x_thn x_els) d ↔ (True) ∧ RC (.mk 8 x_pos x_mu x_name x_ty x_has x_place x_val x_cond x_thn x_els) d true false false (.mk 0 0 x_mu x_name x_ty x_has x_place x_val x_cond [] []) := by
  unfold StP RC optD zeroSt BlP VldP
  simp only [StD.kind, StD.pos, StD.mu, StD.name, StD.ty, StD.has, StD.place, StD.val, StD.cond, StD.thn, StD.els, StD.mk.injEq]
  cases x_has <;> simp <;> grind
set_option linter.unusedSimpArgs false in
theorem rc_9 (x_pos : Int) (x_mu : Bool) (x_name : List UInt8) (x_ty : TyD) (x_has : Bool) (x_place : PlD) (x_val : ValD) (x_cond : OprD) (x_thn : List (StD)) (x_els : List (StD)) (d : Int) : StP (.mk 9 x_pos x_mu x_name x_ty x_has x_place x_val x_cond x_thn x_els) d ↔ (True) ∧ RC (.mk 9 x_pos x_mu x_name x_ty x_has x_place x_val x_cond x_thn x_els) d true false false (.mk 0 0 x_mu x_name x_ty x_has x_place x_val x_cond [] []) := by
  unfold StP RC optD zeroSt BlP VldP
  simp only [StD.kind, StD.pos, StD.mu, StD.name, StD.ty, StD.has, StD.place, StD.val, StD.cond, StD.thn, StD.els, StD.mk.injEq]
  cases x_has <;> simp <;> grind
set_option linter.unusedSimpArgs false in
theorem rc_10 (x_pos : Int) (x_mu : Bool) (x_name : List UInt8) (x_ty : TyD) (x_has : Bool) (x_place : PlD) (x_val : ValD) (x_cond : OprD) (x_thn : List (StD)) (x_els : List (StD)) (d : Int) : StP (.mk 10 x_pos x_mu x_name x_ty x_has x_place x_val x_cond x_thn x_els) d ↔ (True) ∧ RC (.mk 10 x_pos x_mu x_name x_ty x_has x_place x_val x_cond x_thn x_els) d true false false (.mk 0 0 x_mu x_name x_ty x_has x_place x_val x_cond [] []) := by
  unfold StP RC optD zeroSt BlP VldP
  simp only [StD.kind, StD.pos, StD.mu, StD.name, StD.ty, StD.has, StD.place, StD.val, StD.cond, StD.thn, StD.els, StD.mk.injEq]
  cases x_has <;> simp <;> grind
set_option linter.unusedSimpArgs false in
theorem rc_11 (x_pos : Int) (x_mu : Bool) (x_name : List UInt8) (x_ty : TyD) (x_has : Bool) (x_place : PlD) (x_val : ValD) (x_cond : OprD) (x_thn : List (StD)) (x_els : List (StD)) (d : Int) : StP (.mk 11 x_pos x_mu x_name x_ty x_has x_place x_val x_cond x_thn x_els) d ↔ (PlP x_place) ∧ RC (.mk 11 x_pos x_mu x_name x_ty x_has x_place x_val x_cond x_thn x_els) d true false false (.mk 0 0 x_mu x_name x_ty x_has zeroPl x_val x_cond [] []) := by
  unfold StP RC optD zeroSt BlP VldP
  simp only [StD.kind, StD.pos, StD.mu, StD.name, StD.ty, StD.has, StD.place, StD.val, StD.cond, StD.thn, StD.els, StD.mk.injEq]
  cases x_has <;> simp <;> grind

end Go.Proofs.Ytjbcagbnagefcaa
