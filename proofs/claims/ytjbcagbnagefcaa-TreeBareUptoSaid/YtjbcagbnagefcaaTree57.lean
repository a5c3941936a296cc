/- Trees without places, in plain words: they may be just if those with places may; nothing more is taken out. What may turn in a crate of one's own. -/
import Derived.Test.YtjbcagbnagefcaaTrO
import Derived.Test.YtjbcagbnagefcaaTrB
namespace Go.Proofs.Ytjbcagbnagefcaa
open Go.RowKit

theorem bareL_nil (l : List StD) : bareL l = [] ↔ l = [] := by
  cases l with
  | nil => simp only [bareL]
  | cons s r => simp [bareL]
set_option linter.unusedSimpArgs false in
theorem opt_bare {a a' : StD} {k p : Int} {m : Bool} {n : List UInt8} {t : TyD} {h : Bool} {pl : PlD} {v : ValD} {c : OprD} {T T' E E' : List StD} (h1 : a'.has = a.has) (h2 : a'.kind = a.kind) (hT : T' = [] ↔ T = []) (hE : E' = [] ↔ E = []) : optD a' (.mk k p m n t h pl v c T' E') = zeroSt ↔ optD a (.mk k p m n t h pl v c T E) = zeroSt := by
  unfold optD zeroSt
  rw [h1, h2]
  by_cases c1 : a.has = true
  · rw [if_pos c1, if_pos c1]
    by_cases c2 : a.kind = 1 ∨ a.kind = 10
    · rw [if_pos c2, if_pos c2]
      simp only [StD.kind, StD.pos, StD.mu, StD.name, StD.ty, StD.has, StD.place, StD.val, StD.cond, StD.thn, StD.els, StD.mk.injEq, hT, hE]
    · rw [if_neg c2, if_neg c2]
      by_cases c3 : a.kind = 4
      · rw [if_pos c3, if_pos c3]
        simp only [StD.kind, StD.pos, StD.mu, StD.name, StD.ty, StD.has, StD.place, StD.val, StD.cond, StD.thn, StD.els, StD.mk.injEq, hT]
      · rw [if_neg c3, if_neg c3]
        simp only [StD.kind, StD.pos, StD.mu, StD.name, StD.ty, StD.has, StD.place, StD.val, StD.cond, StD.thn, StD.els, StD.mk.injEq, hT, hE]
  · rw [if_neg c1, if_neg c1]
    simp only [StD.kind, StD.pos, StD.mu, StD.name, StD.ty, StD.has, StD.place, StD.val, StD.cond, StD.thn, StD.els, StD.mk.injEq, hT, hE]
theorem stP_bare : ∀ (s : StD) (d : Int), StP (bareS s) d ↔ StP s d := by
  refine StD.ind ?_
  intro x_kind x_pos x_mu x_name x_ty x_has x_place x_val x_cond x_thn x_els ih1 ih2 d
  have hb : ∀ (l : List StD), (∀ e ∈ l, ∀ d, StP (bareS e) d ↔ StP e d) → ∀ d, BlsP (bareL l) d ↔ BlsP l d := by
    intro l ih d
    rw [blsP_iff, blsP_iff, bareL_map]
    constructor
    · intro h e he
      exact (ih e he d).1 (h _ (List.mem_map_of_mem he))
    · intro h e he
      obtain ⟨x, hx, rfl⟩ := List.mem_map.1 he
      exact (ih x hx d).2 (h x hx)
  have b1 := hb x_thn ih1
  have b2 := hb x_els ih2
  have n1 := bareL_nil x_thn
  have n2 := bareL_nil x_els
  have nn : (([] : List StD) = [] ↔ ([] : List StD) = []) := Iff.rfl
  unfold bareS
  unfold StP
  refine or_congr (and_congr Iff.rfl (and_congr Iff.rfl (and_congr Iff.rfl (and_congr Iff.rfl (opt_bare rfl rfl n1 n2)))))
    (or_congr (and_congr Iff.rfl (and_congr Iff.rfl (and_congr Iff.rfl (opt_bare rfl rfl n1 n2))))
    (or_congr (and_congr Iff.rfl (and_congr Iff.rfl (and_congr Iff.rfl (opt_bare rfl rfl n1 n2))))
    (or_congr (and_congr Iff.rfl (and_congr (imp_congr Iff.rfl (and_congr Iff.rfl (b2 _))) (and_congr Iff.rfl (and_congr (and_congr Iff.rfl (b1 _)) (opt_bare rfl rfl nn n2)))))
    (or_congr (and_congr Iff.rfl (and_congr Iff.rfl (and_congr (and_congr Iff.rfl (b1 _)) (opt_bare rfl rfl nn n2))))
    (or_congr (and_congr Iff.rfl (and_congr (and_congr Iff.rfl (b1 _)) (opt_bare rfl rfl nn n2)))
    (or_congr (and_congr Iff.rfl (opt_bare rfl rfl n1 n2))
    (or_congr (and_congr Iff.rfl (and_congr Iff.rfl (opt_bare rfl rfl n1 n2)))
    (and_congr Iff.rfl (and_congr Iff.rfl (opt_bare rfl rfl n1 n2))))))))))
theorem blP_bare (l : List StD) (d : Int) : BlP (bareL l) d ↔ BlP l d := by
  rw [blP_iff, blP_iff, bareL_map]
  refine and_congr Iff.rfl ⟨fun h e he => (stP_bare e d).1 (h _ (List.mem_map_of_mem he)), fun h e he => ?_⟩
  obtain ⟨x, hx, rfl⟩ := List.mem_map.1 he
  exact (stP_bare x d).2 (h x hx)
mutual
theorem cntS_bare : ∀ s : StD, cntS (bareS s) = cntS s
  | .mk x_kind _ x_mu x_name x_ty x_has x_place x_val x_cond x_thn x_els => by
    unfold bareS cntS
    rw [cntL_bare x_thn, cntL_bare x_els]
theorem cntL_bare : ∀ l : List StD, cntL (bareL l) = cntL l
  | [] => by unfold bareL; rfl
  | s :: r => by
    unfold bareL cntL
    rw [cntS_bare s, cntL_bare r]
end
theorem funP_bare (f : FunD) : FunP (bareF f) ↔ FunP f := by
  unfold FunP bareF
  simp only [cntL_bare, blP_bare]
/-- What has no places may be just if what has them may. -/
theorem crP_bare (c : CrD) : CrP (bareC c) ↔ CrP c := by
  unfold CrP bareC
  simp only [List.length_map, List.mem_map]
  refine and_congr Iff.rfl (and_congr ⟨fun h s hs => h (bareStr s) ⟨s, hs, rfl⟩, fun h s hs => ?_⟩ ⟨fun h f hf => (funP_bare f).1 (h _ ⟨f, hf, rfl⟩), fun h f hf => ?_⟩)
  · obtain ⟨x, hx, rfl⟩ := hs
    exact h x hx
  · obtain ⟨x, hx, rfl⟩ := hf
    exact (funP_bare x).2 (h x hx)
theorem bareC_twice (c : CrD) : bareC (bareC c) = bareC c := by
  unfold bareC
  simp only [List.map_map, CrD.mk.injEq]
  refine ⟨List.map_congr_left fun s _ => rfl, List.map_congr_left fun f _ => ?_⟩
  simp only [Function.comp, bareF, bareL_twice]

/-! ### what is written into a crate of one's own -/
/-- Since w0 names of functions (in gF), kinds of statements and fields have been written to, in blocks from N on; nothing else. -/
structure Mu (N gF : Nat) (w0 w : World) : Prop where
  os : w.os = w0.os
  tape : w.tape = w0.tape
  output : w.output = w0.output
  size : w.heap.size = w0.heap.size
  low : ∀ b, b < N → w.heap[b]? = w0.heap[b]?
  other : ∀ b, b ≠ gF → ¬ stB w0 b → ¬ fldB w0 b → w.heap[b]? = w0.heap[b]?
  fn : ∀ cur : Array Value, Blk w0 gF cur 36 → ∃ cur' : Array Value, Blk w gF cur' 36 ∧ cur'.size = cur.size ∧ ∀ j, j % 10 ≠ 1 → cur'[j]? = cur[j]?
  st : ∀ (b : Nat) (cur : Array Value), Blk w0 b cur 46 → ∃ cur' : Array Value, Blk w b cur' 46 ∧ cur'.size = cur.size ∧ ∀ j, j % 32 ≠ 0 → cur'[j]? = cur[j]?
  fld : ∀ (b : Nat) (cur : Array Value), Blk w0 b cur 50 → ∃ cur' : Array Value, Blk w b cur' 50 ∧ cur'.size = cur.size
theorem Mu.refl (N gF : Nat) (w : World) : Mu N gF w w := ⟨rfl, rfl, rfl, rfl, fun _ _ => rfl, fun _ _ _ _ => rfl, fun c h => ⟨c, h, rfl, fun _ _ => rfl⟩, fun _ c h => ⟨c, h, rfl, fun _ _ => rfl⟩, fun _ c h => ⟨c, h, rfl⟩⟩
theorem Mu.keeps {N gF : Nat} {w0 w : World} (h : Mu N gF w0 w) : Keeps (fun b => N ≤ b) w0 w := ⟨h.os, h.tape, h.output, Nat.le_of_eq h.size.symm, fun k _ hn => h.low k (by omega)⟩
/-- One cell more: of what type its block is, and which cell. -/
theorem Mu.set {N gF : Nat} {w0 w : World} (h : Mu N gF w0 w) {b j : Nat} (u : Value) (hN : N ≤ b) (hw : (b = gF ∧ (∃ cur : Array Value, Blk w0 gF cur 36) ∧ j % 10 = 1) ∨ (stB w0 b ∧ j % 32 = 0) ∨ fldB w0 b) : Mu N gF w0 (w.setCell ⟨b, j, none⟩ u) := by
  have K : Keeps (fun i => i = b) w (w.setCell ⟨b, j, none⟩ u) := (Keeps.refl (fun i => i = b) w).setCell (p := ⟨b, j, none⟩) (fun _ => rfl) _
  have hsz : (w.setCell ⟨b, j, none⟩ u).heap.size = w.heap.size := World.size_setCell _ _ _
  have hk : ∀ i, i ≠ b → (w.setCell ⟨b, j, none⟩ u).heap[i]? = w.heap[i]? := fun i hi => by
    by_cases hlt : i < w.heap.size
    · exact K.block i hlt hi
    · rw [Array.getElem?_eq_none (by omega), Array.getElem?_eq_none (by omega)]
  have un1 : ∀ {c : Array Value}, Blk w0 b c 36 → stB w0 b ∨ fldB w0 b → False := fun hc q => by
    rcases q with ⟨_, q⟩ | ⟨_, q⟩
    · exact absurd (blk_un hc q) (by decide)
    · exact absurd (blk_un hc q) (by decide)
  refine ⟨K.os.trans h.os, K.tape.trans h.tape, K.output.trans h.output, hsz.trans h.size, fun i hi => (hk i (by omega)).trans (h.low i hi), fun i h1 h2 h3 => ?_, fun cur hc => ?_, fun i cur hc => ?_, fun i cur hc => ?_⟩
  · refine (hk i ?_).trans (h.other i h1 h2 h3)
    rintro rfl
    rcases hw with ⟨q, _⟩ | ⟨q, _⟩ | q
    · exact h1 q
    · exact h2 q
    · exact h3 q
  · obtain ⟨c', e1, e2, e3⟩ := h.fn cur hc
    by_cases hb : gF = b
    · subst hb
      refine ⟨_, blk_set e1 j u, by rw [Array.size_setIfInBounds]; exact e2, fun i hi => ?_⟩
      rw [Array.getElem?_setIfInBounds]
      by_cases hji : j = i
      · exfalso
        rcases hw with ⟨_, _, q⟩ | ⟨q, _⟩ | q
        · rw [hji] at q; exact hi q
        · exact un1 hc (.inl q)
        · exact un1 hc (.inr q)
      · rw [if_neg hji]; exact e3 i hi
    · exact ⟨c', by have := hk gF hb; unfold Blk at e1 ⊢; rw [this]; exact e1, e2, e3⟩
  · obtain ⟨c', e1, e2, e3⟩ := h.st i cur hc
    by_cases hb : i = b
    · subst hb
      refine ⟨_, blk_set e1 j u, by rw [Array.size_setIfInBounds]; exact e2, fun t ht => ?_⟩
      rw [Array.getElem?_setIfInBounds]
      by_cases hjt : j = t
      · exfalso
        rcases hw with ⟨q1, ⟨c2, q2⟩, _⟩ | ⟨_, q⟩ | ⟨_, q⟩
        · rw [← q1] at q2; exact absurd (blk_un hc q2) (by decide)
        · rw [hjt] at q; exact ht q
        · exact absurd (blk_un hc q) (by decide)
      · rw [if_neg hjt]; exact e3 t ht
    · exact ⟨c', by have := hk i hb; unfold Blk at e1 ⊢; rw [this]; exact e1, e2, e3⟩
  · obtain ⟨c', e1, e2⟩ := h.fld i cur hc
    by_cases hb : i = b
    · subst hb
      exact ⟨_, blk_set e1 j u, by rw [Array.size_setIfInBounds]; exact e2⟩
    · exact ⟨c', by have := hk i hb; unfold Blk at e1 ⊢; rw [this]; exact e1, e2⟩
theorem Mu.drewN {N gF : Nat} {w0 w : World} (h : Mu N gF w0 w) (n : Nat) : Mu N gF w0 (w.drewN n) := ⟨h.os, h.tape, h.output, h.size, h.low, h.other, h.fn, h.st, h.fld⟩
/-- What is read of a function's row. -/
theorem Mu.fnCell {N gF : Nat} {w0 w : World} (h : Mu N gF w0 w) (hb : ∃ cur : Array Value, Blk w0 gF cur 36) {j : Nat} {v : Value} (hv : w0.cell? ⟨gF, j, none⟩ = some v) (hj : j % 10 ≠ 1) : w.cell? ⟨gF, j, none⟩ = some v := by
  obtain ⟨cur, hc⟩ := hb
  obtain ⟨c', e1, _, e3⟩ := h.fn cur hc
  exact blk_cell e1 j (by rw [e3 j hj]; exact blk_inv hc hv)
theorem Mu.stCell {N gF : Nat} {w0 w : World} (h : Mu N gF w0 w) {b : Nat} (hb : stB w0 b) {j : Nat} {v : Value} (hv : w0.cell? ⟨b, j, none⟩ = some v) (hj : j % 32 ≠ 0) : w.cell? ⟨b, j, none⟩ = some v := by
  obtain ⟨cur, hc⟩ := hb
  obtain ⟨c', e1, _, e3⟩ := h.st b cur hc
  exact blk_cell e1 j (by rw [e3 j hj]; exact blk_inv hc hv)
/-- What is written to is there, and not frozen. -/
theorem there_of {w w0 : World} {b j : Nat} {T : TypeId} {v : Value} (h : ∀ cur : Array Value, Blk w0 b cur T → ∃ cur' : Array Value, Blk w b cur' T ∧ cur'.size = cur.size) (hb : ∃ cur : Array Value, Blk w0 b cur T) (hv : w0.cell? ⟨b, j, none⟩ = some v) : (∃ u, w.cell? ⟨b, j, none⟩ = some u) ∧ w.frozen? ⟨b, j, none⟩ = false := by
  obtain ⟨cur, hc⟩ := hb
  obtain ⟨c', e1, e2⟩ := h cur hc
  refine ⟨?_, blk_free e1 j⟩
  have h1 := (Array.getElem?_eq_some_iff.1 (blk_inv hc hv)).1
  exact ⟨_, blk_cell e1 j (Array.getElem?_eq_getElem (by omega))⟩
theorem Mu.fnThere {N gF : Nat} {w0 w : World} (h : Mu N gF w0 w) (hb : ∃ cur : Array Value, Blk w0 gF cur 36) {j : Nat} {v : Value} (hv : w0.cell? ⟨gF, j, none⟩ = some v) : (∃ u, w.cell? ⟨gF, j, none⟩ = some u) ∧ w.frozen? ⟨gF, j, none⟩ = false :=
  there_of (fun cur hc => by obtain ⟨c', e1, e2, _⟩ := h.fn cur hc; exact ⟨c', e1, e2⟩) hb hv
theorem Mu.stThere {N gF : Nat} {w0 w : World} (h : Mu N gF w0 w) {b : Nat} (hb : stB w0 b) {j : Nat} {v : Value} (hv : w0.cell? ⟨b, j, none⟩ = some v) : (∃ u, w.cell? ⟨b, j, none⟩ = some u) ∧ w.frozen? ⟨b, j, none⟩ = false :=
  there_of (fun cur hc => by obtain ⟨c', e1, e2, _⟩ := h.st b cur hc; exact ⟨c', e1, e2⟩) hb hv
theorem Mu.fldThere {N gF : Nat} {w0 w : World} (h : Mu N gF w0 w) {b : Nat} (hb : fldB w0 b) {j : Nat} {v : Value} (hv : w0.cell? ⟨b, j, none⟩ = some v) : (∃ u, w.cell? ⟨b, j, none⟩ = some u) ∧ w.frozen? ⟨b, j, none⟩ = false :=
  there_of (fun cur hc => h.fld b cur hc) hb hv

theorem OutR.get {α : Type} {Z : World → Nat → Prop} {e : TypeId} {k : Nat} {P : (Nat → Prop) → World → α → List Value → Prop} {M : Nat} {w : World} {ao : Option Addr} {cap : Nat} {out : List α} (h : OutR Z e k P M w ao cap out) (hP : LayOk k P) {j : Nat} {d : α} (hd : out[j]? = some d) : ∃ g cs, ao = some ⟨g, 0, none⟩ ∧ w.rangeAt g (j * k) cs ∧ P (InB Z w ao) w d cs := by
  obtain ⟨g, rfl⟩ := h.head (by rintro rfl; simp at hd)
  obtain ⟨L, o, hl, he⟩ := h.row
  obtain ⟨cs, e1, e2⟩ := he j d hd
  refine ⟨g, cs, rfl, o.range (fun x hx => ?_) e1, e2⟩
  obtain ⟨i, hi⟩ := List.mem_iff_getElem?.1 hx
  have hlt := (List.getElem?_eq_some_iff.1 hi).1
  obtain ⟨cs', f1, f2⟩ := he i _ (List.getElem?_eq_getElem (by omega))
  rw [hi] at f1
  obtain rfl := Option.some.inj f1
  exact hP.len _ _ _ _ f2
theorem CrN.keepsN {N : Nat} {w w' : World} {d : CrD} {cs : List Value} (h : CrN N w d cs) (K : Keeps Nothing w w') : CrN N w' d cs := by
  obtain ⟨a0, c0, a1, c1, hcs, h0, h1, h2⟩ := h
  have hS : ∀ b, NewA N w b → NewA N w' b := fun b hb => ⟨hb.1, Nat.lt_of_lt_of_le hb.2 K.size⟩
  exact ⟨a0, c0, a1, c1, hcs, h0.keeps K (fun _ _ h => h) hS (fun _ _ _ h => h.keeps K (fun _ _ h => h) hS), h1, h2.keepsN (newA_ok _) fun2Ok K⟩
/-- What the walk reads of the function at i: numbers and blocks only. -/
theorem fun_row {N gF cF i : Nat} {w : World} {fs : List FunD} {f : FunD} (h : OutR (NewA N) 36 10 Fun2S N w (some ⟨gF, 0, none⟩) cF fs) (hf : fs[i]? = some (bareF f)) : ∃ (v1 : Value) (a3 : Option Addr) (n3 c3 : Nat) (a8 : Option Addr) (n8 c8 : Nat),
    w.cell? ⟨gF, i * 10 + 1, none⟩ = some v1 ∧ w.cell? ⟨gF, i * 10 + 3, none⟩ = some (.slice a3 n3 c3) ∧ w.cell? ⟨gF, i * 10 + 8, none⟩ = some (.slice a8 n8 c8) ∧ w.cell? ⟨gF, i * 10 + 9, none⟩ = some (.int .i64 0) ∧ n3 ≤ bigN ∧ n8 ≤ bigN ∧
    (∀ k, k < n8 → ∃ b, a8 = some ⟨b, 0, none⟩ ∧ N ≤ b ∧ stB w b ∧ (∃ v, w.cell? ⟨b, k * 32, none⟩ = some v) ∧ w.cell? ⟨b, k * 32 + 1, none⟩ = some (.int .i64 0)) ∧
    (∀ k, k < n3 → ∃ b o, a3 = some ⟨b, o, none⟩ ∧ N ≤ b ∧ fldB w b ∧ ∃ v, w.cell? ⟨b, o + k * 6 + 1, none⟩ = some v) := by
  obtain ⟨g, cs, hg, hr, a2, c2, a3, c3, s4, a8, c8, hcs, h0, h1, h2, h3, h4, h5⟩ := h.get fun2Ok hf
  obtain rfl : gF = g := by simpa using hg
  rw [hcs] at hr
  obtain ⟨-, e1, -, e3, -, e8, e9⟩ := FunR h3.len hr
  refine ⟨_, a3, _, c3, a8, _, c8, e1, e3, e8, e9, h2.1, h4.1, fun k hk => ?_, fun k hk => ?_⟩
  · obtain ⟨d, hd⟩ : ∃ d, (bareF f).body[k]? = some d := ⟨_, List.getElem?_eq_getElem hk⟩
    obtain ⟨b, e, hb, ds, l1, l2, l3⟩ := h4.get hd
    have hp : d.pos = 0 := by
      have hd2 : (bareL f.body)[k]? = some d := hd
      rw [bareL_map, List.getElem?_map, Option.map_eq_some_iff] at hd2
      obtain ⟨x, -, rfl⟩ := hd2
      cases x
      simp only [bareS, StD.pos]
    obtain ⟨_, _, _, _, q1, -⟩ := st2_cells l3 l2
    rw [hp] at q1
    have hlt : 0 < ds.length := by omega
    exact ⟨b, e, hb.1.1.1, hb.2, ⟨_, l2 0 _ (List.getElem?_eq_getElem hlt)⟩, q1⟩
  · obtain ⟨d, hd⟩ : ∃ d, (bareF f).params[k]? = some d := ⟨_, List.getElem?_eq_getElem hk⟩
    obtain ⟨b, o, e, hb, ds, l1, l2, l3⟩ := h2.get hd
    have hlt : 1 < ds.length := by omega
    obtain ⟨q1, q2⟩ := h5 b (by rw [e]; rfl)
    exact ⟨b, o, e, q1.1.1, q2, ⟨_, l2 1 _ (List.getElem?_eq_getElem hlt)⟩⟩

end Go.Proofs.Ytjbcagbnagefcaa
