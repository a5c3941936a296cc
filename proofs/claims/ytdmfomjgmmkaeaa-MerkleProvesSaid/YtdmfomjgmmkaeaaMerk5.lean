/- merkle.Prove. -/
import Derived.Test.YtdmfomjgmmkaeaaMerk4
namespace Go.Proofs.Ytdmfomjgmmkaeaa
open Go.RowKit

/-- A row of sums of its own. -/
abbrev OwnH (w : World) (ao : Option Addr) (cap : Nat) (hs : List (List UInt8)) : Prop := w.ownsRow 0 25 32 (.slice ao hs.length cap) hs.length (hs.flatMap (·.map byteV))
theorem ownH_nil (w : World) : OwnH w none 0 [] := World.ownsRow_nil w _ _ _
theorem infoH3 : (Try.prog.info? 25).map (fun i => (i.zero, i.size, i.bytes)) = some (some (hashV zeros32), 32, 32) := by kernel_rfl
theorem info_parts3 {α β γ : Type} {x : Option TypeInfo} {f : TypeInfo → α} {g : TypeInfo → β} {h : TypeInfo → γ} {a : α} {b : β} {c : γ} (e : x.map (fun i => (f i, g i, h i)) = some (a, b, c)) : ∃ i, x = some i ∧ f i = a ∧ g i = b ∧ h i = c := by
  cases x with
  | none => cases e
  | some i =>
    simp only [Option.map_some, Option.some.injEq, Prod.mk.injEq] at e
    exact ⟨i, rfl, e.1, e.2.1, e.2.2⟩
theorem wpList_appH (w : World) {ops : Array Oper} {rest : List Oper} {o : Oper} {a : Act} {Q : Exit → Act → World → Prop} (hgd : o.guard = none) (s x : Operand)
    (ho : o.op = .call { callee := .builtin .append, args := #[s, x], argTypes := #[44, 44] })
    (ao : Option Addr) (cap : Nat) (hs : List (List UInt8)) (n : Nat) (hn : hs.length = n) (hsv : a.eval s = .slice ao n cap) (hown : OwnH w ao cap hs) (g : Nat) (t : List UInt8) (ht : t.length = 32) {C : Array Value} (hC : C = (t.map byteV).toArray)
    (hx : a.eval x = .slice (some ⟨g, 0, none⟩) 1 1) (hg : Blk w g C 25) (hb : n ≤ 1000000000)
    (h : ∀ ao' cap' w', OwnH w' ao' cap' (hs ++ [t]) → Keeps (fun k => blockOf ao = some k) w w' → Moved w.heap.size ao ao' → wpList Try.prog ops Q rest (a.put o.dst (.slice ao' (n + 1) cap')) w') : wpList Try.prog ops Q (o :: rest) a w := by
  subst hn
  obtain ⟨i0, hi, hz0, hz1, hz2⟩ := info_parts3 infoH3
  have hsr : Src Try.prog 32 44 (.slice (some ⟨g, 0, none⟩) 1 1) 1 (t.map byteV) w := Src.ofSlice _ Try.underlying44 ⟨g, 0, none⟩ 1 1 _ (by simp [ht]) (fun j u hj => by
    rw [Addr.add_mid', Nat.zero_add]
    exact blk_cell hg j (by rw [hC]; simpa using hj)) (byteV_one t)
  refine wpList_append_src w hgd s x 44 44 ho 25 i0 (hashV zeros32) 32 32 Try.underlying44 hi hz0 hz1 hz2 (by rfl) ao hs.length cap (hs.flatMap (·.map byteV)) hsv hown _ 1 (t.map byteV) hx hsr
    (by unfold maxLen; omega) (by omega) fun ao' cap' w' h1 h2 h3 => ?_
  have e1 : hs.flatMap (·.map byteV) ++ t.map byteV = (hs ++ [t]).flatMap (·.map byteV) := by rw [List.flatMap_append]; simp
  have e2 : hs.length + 1 = (hs ++ [t]).length := by rw [List.length_append]; rfl
  refine h ao' cap' w' ?_ ((Keeps.refl _ _).grown h2 (fun k hk _ => hk)) h3
  rw [e1, e2] at h1
  exact h1

/-- A part of a literal, laid cell by cell. -/
theorem fill_list : ∀ (l : List Value) (k : Nat) (Z : Array Value) (i : Nat), (List.foldl (fun cs (x : Value × Nat) => cs.setIfInBounds x.snd x.fst) Z (l.zipIdx k))[i]? = if i < k then Z[i]? else if i < k + l.length ∧ i < Z.size then l[i - k]? else Z[i]? := by
  intro l
  induction l with
  | nil => intro k Z i; simp; omega
  | cons v l ih =>
    intro k Z i
    rw [List.zipIdx_cons, List.foldl_cons, ih, Array.size_setIfInBounds, List.length_cons]
    by_cases h1 : i < k
    · rw [if_pos (by omega), if_pos h1, Array.getElem?_setIfInBounds, if_neg (by omega)]
    · rw [if_neg h1]
      by_cases h2 : i = k
      · subst h2
        rw [if_pos (by omega), Array.getElem?_setIfInBounds, if_pos rfl]
        by_cases h3 : i < Z.size
        · rw [if_pos h3, if_pos ⟨by omega, h3⟩, Nat.sub_self]; rfl
        · rw [if_neg h3, if_neg (by omega), Array.getElem?_eq_none (by omega)]
      · rw [if_neg (by omega)]
        by_cases h3 : i < k + (l.length + 1) ∧ i < Z.size
        · rw [if_pos ⟨by omega, h3.2⟩, if_pos h3, show i - k = (i - (k + 1)) + 1 by omega, List.getElem?_cons_succ]
        · rw [if_neg (by omega), if_neg h3, Array.getElem?_setIfInBounds, if_neg (by omega)]
theorem fill32 {Z C : Array Value} (hZ : Z.size = 32) (hC : C.size = 32) : Array.foldl (fun cs (x : Value × Nat) => cs.setIfInBounds x.snd x.fst) Z C.zipIdx 0 32 = C := by
  have h1 : (C.zipIdx).size = 32 := by simp [hC]
  have h2 : Array.foldl (fun cs (x : Value × Nat) => cs.setIfInBounds x.snd x.fst) Z C.zipIdx 0 32 = List.foldl (fun cs (x : Value × Nat) => cs.setIfInBounds x.snd x.fst) Z (C.toList.zipIdx 0) := by
    rw [← Array.toList_zipIdx, Array.foldl_toList, h1]
  rw [h2]
  apply Array.ext_getElem?
  intro i
  have hl : C.toList.length = 32 := by rw [Array.length_toList]; exact hC
  rw [fill_list, if_neg (by omega), hl, hZ]
  by_cases hi : i < 32
  · rw [if_pos ⟨by omega, hi⟩, Nat.sub_zero, Array.getElem?_toList]
  · rw [if_neg (by omega), Array.getElem?_eq_none (by omega), Array.getElem?_eq_none (by omega)]
theorem zeros32_size : ((zeros32.map byteV).toArray).size = 32 := rfl

/-- The sums on a leaf's way. -/
def pathF : Nat → List (List UInt8) → Nat → List (List UInt8)
  | 0, _, _ => []
  | f + 1, l, i => if l.length ≤ 1 then [] else if i < splitN l.length then pathF f (l.take (splitN l.length)) i ++ [treeL (l.drop (splitN l.length))] else pathF f (l.drop (splitN l.length)) (i - splitN l.length) ++ [treeL (l.take (splitN l.length))]
def pathL (l : List (List UInt8)) (i : Nat) : List (List UInt8) := pathF l.length l i
theorem pathF_step {f : Nat} {l : List (List UInt8)} {i : Nat} (h : 2 ≤ l.length) : pathF (f + 1) l i = if i < splitN l.length then pathF f (l.take (splitN l.length)) i ++ [treeL (l.drop (splitN l.length))] else pathF f (l.drop (splitN l.length)) (i - splitN l.length) ++ [treeL (l.take (splitN l.length))] := by
  show (if l.length ≤ 1 then _ else _) = _
  rw [if_neg (by omega)]
theorem pathF_stop {f : Nat} {l : List (List UInt8)} {i : Nat} (h : l.length ≤ 1) : pathF f l i = [] := by
  cases f with
  | zero => rfl
  | succ f => show (if l.length ≤ 1 then _ else _) = _; rw [if_pos h]
theorem pathF_more : ∀ (f g : Nat) (l : List (List UInt8)) (i : Nat), l.length ≤ f → l.length ≤ g → pathF f l i = pathF g l i := by
  intro f
  induction f with
  | zero => intro g l i h _; rw [pathF_stop (by omega), pathF_stop (by omega)]
  | succ f ih =>
    intro g l i hf hg
    by_cases h2 : 2 ≤ l.length
    · cases g with
      | zero => omega
      | succ g =>
        obtain ⟨s0, s1⟩ := splitN_lt h2
        rw [pathF_step h2, pathF_step h2, ih g _ _ (by rw [List.length_take]; omega) (by rw [List.length_take]; omega), ih g _ _ (by rw [List.length_drop]; omega) (by rw [List.length_drop]; omega)]
    · rw [pathF_stop (by omega), pathF_stop (by omega)]
theorem pathL_one {l : List (List UInt8)} {i : Nat} (h : l.length ≤ 1) : pathL l i = [] := pathF_stop h
theorem pathL_step {l : List (List UInt8)} {i : Nat} (h : 2 ≤ l.length) : pathL l i = if i < splitN l.length then pathL (l.take (splitN l.length)) i ++ [treeL (l.drop (splitN l.length))] else pathL (l.drop (splitN l.length)) (i - splitN l.length) ++ [treeL (l.take (splitN l.length))] := by
  obtain ⟨s0, s1⟩ := splitN_lt h
  obtain ⟨f, hf⟩ : ∃ f, l.length = f + 1 := ⟨l.length - 1, by omega⟩
  have e1 : pathL l i = pathF (f + 1) l i := by unfold pathL; rw [hf]
  rw [e1, pathF_step h]
  unfold pathL
  rw [pathF_more f (l.take (splitN l.length)).length _ _ (by rw [List.length_take]; omega) (Nat.le_refl _), pathF_more f (l.drop (splitN l.length)).length _ _ (by rw [List.length_drop]; omega) (Nat.le_refl _)]
theorem pathL_len : ∀ (N : Nat) (l : List (List UInt8)) (i : Nat), l.length ≤ N → (pathL l i).length ≤ N := by
  intro N
  induction N with
  | zero => intro l i h; rw [pathL_one (by omega)]; exact Nat.zero_le _
  | succ N ih =>
    intro l i h
    by_cases h2 : 2 ≤ l.length
    · obtain ⟨s0, s1⟩ := splitN_lt h2
      rw [pathL_step h2]
      split
      · have := ih (l.take (splitN l.length)) i (by rw [List.length_take]; omega)
        simp; exact this
      · have := ih (l.drop (splitN l.length)) (i - splitN l.length) (by rw [List.length_drop]; omega)
        simp; exact this
    · rw [pathL_one (by omega)]; exact Nat.zero_le _
theorem pathL_32 : ∀ (N : Nat) (l : List (List UInt8)) (i : Nat), l.length ≤ N → ∀ h ∈ pathL l i, h.length = 32 := by
  intro N
  induction N with
  | zero => intro l i h x hx; rw [pathL_one (by omega)] at hx; cases hx
  | succ N ih =>
    intro l i h x hx
    by_cases h2 : 2 ≤ l.length
    · obtain ⟨s0, s1⟩ := splitN_lt h2
      rw [pathL_step h2] at hx
      split at hx
      · rcases List.mem_append.1 hx with hx | hx
        · exact ih _ i (by rw [List.length_take]; omega) x hx
        · rw [List.mem_singleton] at hx; rw [hx]; exact treeL_len (by rw [List.length_drop]; omega)
      · rcases List.mem_append.1 hx with hx | hx
        · exact ih _ _ (by rw [List.length_drop]; omega) x hx
        · rw [List.mem_singleton] at hx; rw [hx]; exact treeL_len (by rw [List.length_take]; omega)
    · rw [pathL_one (by omega)] at hx; cases hx

def downV (gd gp : Nat) : Value := .func (.func 47) #[] #[.pointer (some ⟨gd, 0, none⟩), .pointer (some ⟨gp, 0, none⟩)]
/-- The closure's variable, and the proof while it is made. -/
structure PvS (w0 w : World) (gd gp : Nat) (ix ct : Int) (ao : Option Addr) (cap : Nat) (P : List (List UInt8)) : Prop where
  keep : Keeps Nothing w0 w
  fn : Blk w gd #[downV gd gp] 77
  blk : Blk w gp #[.int .i64 ix, .int .i64 ct, .slice ao P.length cap] 46
  own : OwnH w ao cap P
  d0 : w0.heap.size ≤ gd
  p0 : w0.heap.size ≤ gp
  a0 : ∀ g, blockOf ao = some g → w0.heap.size ≤ g
theorem ownH_ne {w : World} {ao : Option Addr} {cap : Nat} {P : List (List UInt8)} (ho : OwnH w ao cap P) {p : Nat} {cs : Array Value} {t : TypeId} (hp : Blk w p cs t) (hne : 25 ≠ t) : blockOf ao ≠ some p := by
  have := own_ne ho hp hne
  rwa [ownBlock_eq] at this
theorem PvS.keepsN {w0 w w' : World} {gd gp : Nat} {ix ct : Int} {ao : Option Addr} {cap : Nat} {P : List (List UInt8)} (h : PvS w0 w gd gp ix ct ao cap P) (k : Keeps Nothing w w') : PvS w0 w' gd gp ix ct ao cap P :=
  ⟨h.keep.trans k (fun _ h _ => h), k.blk h.fn (fun h => h), k.blk h.blk (fun h => h), k.own h.own (fun _ _ h => h), h.d0, h.p0, h.a0⟩
/-- One sum more. -/
theorem PvS.app {w0 w w' : World} {gd gp : Nat} {ix ct : Int} {ao ao' : Option Addr} {cap cap' : Nat} {P : List (List UInt8)} {t : List UInt8} (h : PvS w0 w gd gp ix ct ao cap P) (o : OwnH w' ao' cap' (P ++ [t])) (k : Keeps (fun k => blockOf ao = some k) w w') (m : Moved w.heap.size ao ao') {n : Nat} (hn : (P ++ [t]).length = n) :
    PvS w0 (w'.setCell ⟨gp, 2, none⟩ (.slice ao' n cap')) gd gp ix ct ao' cap' (P ++ [t]) := by
  subst hn
  have f' := k.blk h.fn (ownH_ne h.own h.fn (by decide))
  have b' := k.blk h.blk (ownH_ne h.own h.blk (by decide))
  have hdp : gd ≠ gp := fun e => by subst e; have h1 := h.fn.symm.trans h.blk; simp at h1
  have hbs := blk_set b' 2 (.slice ao' (P ++ [t]).length cap')
  refine ⟨(h.keep.trans k (fun i hi hlt => by have := h.a0 i hi; omega)).setCell (fun h' => absurd h' (by have := h.p0; show ¬ gp < _; omega)) _, blk_other f' _ (show gd ≠ gp from hdp) _, hbs, ownsRow_setCell_other o (own_ne o b' (by decide)) _, h.d0, h.p0, m.new h.keep.size h.a0⟩

end Go.Proofs.Ytdmfomjgmmkaeaa
