/- A workspace's text, in plain words: what it says. -/
import Derived.Test.YtiliajnijjkcdaaDoorMan2
namespace Go.Proofs.YtiliajnijjkcdaaDoor
open Go.RowKit

def isHead (s : List UInt8) : Bool := Lib.hasPrefix s [61, 61]
def headL (s : List UInt8) : HeadD := headW (blanksL (bareL s))
/-- A head names what it must not. -/
def Twice (out : List SrcD) (nm : List UInt8) (deps : List (List UInt8)) : Prop := (∃ x ∈ out, x.name = nm) ∨ nm ∈ deps ∨ ¬ deps.Nodup
instance (out : List SrcD) (nm : List UInt8) (deps : List (List UInt8)) : Decidable (Twice out nm deps) := by unfold Twice; exact inferInstance
def wrongL (out : List SrcD) : HeadD → Int
  | none => 40
  | some (nm, deps) => if 64 ≤ out.length ∨ 64 < deps.length then 5 else if Twice out nm deps then 23 else 0
def addText : List SrcD → List UInt8 → List SrcD
  | [], _ => []
  | [x], t => [⟨x.name, x.deps, x.text ++ t⟩]
  | x :: y :: r, t => x :: addText (y :: r) t
def addHead (out : List SrcD) : HeadD → List SrcD
  | none => out
  | some (nm, deps) => out ++ [⟨nm, deps, []⟩]
/-- One line. -/
def stepM (out : List SrcD) (s : List UInt8) : Int × List SrcD :=
  if isHead s = true then (wrongL out (headL s), addHead out (headL s))
  else if out.isEmpty = true then (if bareN s = 0 then 0 else 40, out) else (0, addText out (s.take (lineN s)))
def parseN : Nat → Nat → List UInt8 → List SrcD → Int × Nat × List SrcD
  | 0, _, _, out => (0, 0, out)
  | f + 1, p, s, out => if s.isEmpty = true then (0, 0, out) else if (stepM out s).1 = 0 then parseN f (p + lineN s) (s.drop (lineN s)) (stepM out s).2 else ((stepM out s).1, p, [])
def parseR (p : Nat) (s : List UInt8) (out : List SrcD) : Int × Nat × List SrcD := parseN s.length p s out
def parseE : Int × Nat × List SrcD → Int × Nat × List SrcD
  | (c, p, l) => if c = 0 ∧ l.isEmpty = true then (40, 0, []) else (c, p, l)
/-- What a workspace's text says: 0 and its crates, or what is wrong, and where. -/
def parseL (s : List UInt8) : Int × Nat × List SrcD := if 4194304 < s.length then (5, 0, []) else parseE (parseR 0 s [])

theorem parse_fuel : ∀ (f g : Nat) (p : Nat) (s : List UInt8) (out : List SrcD), s.length ≤ f → s.length ≤ g → parseN f p s out = parseN g p s out := by
  intro f
  induction f with
  | zero =>
    intro g p s out h1 h2
    obtain rfl : s = [] := List.eq_nil_of_length_eq_zero (by omega)
    cases g <;> rfl
  | succ f ih =>
    intro g p s out h1 h2
    cases s with
    | nil => cases g <;> rfl
    | cons b r =>
      cases g with
      | zero => simp at h2
      | succ g =>
        have h3 := line_pos (s := b :: r) (by simp)
        have h4 : ((b :: r).drop (lineN (b :: r))).length ≤ r.length := by rw [List.length_drop]; simp only [List.length_cons]; omega
        simp only [List.length_cons] at h1 h2
        unfold parseN
        rw [ih g _ _ _ (by omega) (by omega)]
theorem parse_nil (p : Nat) (out : List SrcD) : parseR p [] out = (0, 0, out) := rfl
theorem parse_step {p : Nat} {s : List UInt8} {out : List SrcD} (h : s ≠ []) : parseR p s out = if (stepM out s).1 = 0 then parseR (p + lineN s) (s.drop (lineN s)) (stepM out s).2 else ((stepM out s).1, p, []) := by
  cases s with
  | nil => exact absurd rfl h
  | cons b r =>
    have h3 := line_pos (s := b :: r) (by simp)
    have h4 : ((b :: r).drop (lineN (b :: r))).length ≤ r.length := by rw [List.length_drop]; simp only [List.length_cons]; omega
    unfold parseR
    rw [show (b :: r).length = r.length + 1 from rfl, parseN, if_neg (by simp), parse_fuel r.length _ _ _ _ h4 (Nat.le_refl _)]

theorem addText_len : ∀ (l : List SrcD) (t : List UInt8), (addText l t).length = l.length
  | [], _ => rfl
  | [x], _ => rfl
  | x :: y :: r, t => by unfold addText; rw [List.length_cons, addText_len (y :: r) t]; rfl
theorem addText_names : ∀ (l : List SrcD) (t : List UInt8), (addText l t).map (·.name) = l.map (·.name)
  | [], _ => rfl
  | [x], _ => rfl
  | x :: y :: r, t => by unfold addText; rw [List.map_cons, addText_names (y :: r) t]; rfl
theorem addText_app : ∀ (l : List SrcD) (x : SrcD) (t : List UInt8), addText (l ++ [x]) t = l ++ [⟨x.name, x.deps, x.text ++ t⟩]
  | [], x, t => rfl
  | [y], x, t => rfl
  | y :: z :: r, x, t => by
    have := addText_app (z :: r) x t
    rw [List.cons_append] at this
    rw [List.cons_append, List.cons_append, addText, this]
    rfl
theorem addText_front (m : List SrcD) : ∀ {l : List SrcD}, l ≠ [] → ∀ t : List UInt8, addText (m ++ l) t = m ++ addText l t := by
  intro l h t
  obtain ⟨r, x, rfl⟩ : ∃ r x, l = r ++ [x] := ⟨l.dropLast, l.getLast h, (List.dropLast_concat_getLast h).symm⟩
  rw [← List.append_assoc, addText_app, addText_app, List.append_assoc]
theorem addText_add (l : List SrcD) (s t : List UInt8) : addText (addText l s) t = addText l (s ++ t) := by
  by_cases h : l = []
  · subst h; rfl
  · obtain ⟨r, x, rfl⟩ : ∃ r x, l = r ++ [x] := ⟨l.dropLast, l.getLast h, (List.dropLast_concat_getLast h).symm⟩
    rw [addText_app, addText_app, addText_app, List.append_assoc]
theorem addText_nil (l : List SrcD) : addText l [] = l := by
  by_cases h : l = []
  · subst h; rfl
  · obtain ⟨r, x, rfl⟩ : ∃ r x, l = r ++ [x] := ⟨l.dropLast, l.getLast h, (List.dropLast_concat_getLast h).symm⟩
    rw [addText_app, List.append_nil]

/-! ### what heads a line has is told by the line alone -/
theorem lineN_app : ∀ {l : List UInt8} (r : List UInt8), (10 : UInt8) ∉ l → lineN (l ++ 10 :: r) = l.length + 1
  | [], r, _ => rfl
  | b :: l, r, h => by
    rw [List.cons_append, lineN, if_neg (fun q => h (by rw [q]; exact List.mem_cons_self ..)), lineN_app r (fun q => h (List.mem_cons_of_mem _ q))]
    rfl
theorem bareN_app : ∀ {l : List UInt8} (r : List UInt8), (10 : UInt8) ∉ l → bareN (l ++ 10 :: r) = l.length
  | [], r, _ => rfl
  | b :: l, r, h => by
    rw [List.cons_append, bareN, if_neg (fun q => h (by rw [q]; exact List.mem_cons_self ..)), bareN_app r (fun q => h (List.mem_cons_of_mem _ q))]
    rfl
theorem bareN_all : ∀ {l : List UInt8}, (10 : UInt8) ∉ l → bareN l = l.length
  | [], _ => rfl
  | b :: l, h => by
    rw [bareN, if_neg (fun q => h (by rw [q]; exact List.mem_cons_self ..)), bareN_all (fun q => h (List.mem_cons_of_mem _ q))]
    rfl
theorem lineN_all : ∀ {l : List UInt8}, (10 : UInt8) ∉ l → lineN l = l.length
  | [], _ => rfl
  | b :: l, h => by
    rw [lineN, if_neg (fun q => h (by rw [q]; exact List.mem_cons_self ..)), lineN_all (fun q => h (List.mem_cons_of_mem _ q))]
    rfl
theorem isHead_app : ∀ (l r : List UInt8), isHead (l ++ 10 :: r) = isHead l
  | [], r => by unfold isHead Lib.hasPrefix; simp [List.isPrefixOf]
  | [a], r => by unfold isHead Lib.hasPrefix; simp [List.isPrefixOf]
  | a :: b :: l, r => by unfold isHead Lib.hasPrefix; simp [List.isPrefixOf]
theorem bareL_app {l : List UInt8} (r : List UInt8) (h : (10 : UInt8) ∉ l) : bareL (l ++ 10 :: r) = l := by
  unfold bareL
  rw [bareN_app r h, List.take_left]
theorem bareL_all {l : List UInt8} (h : (10 : UInt8) ∉ l) : bareL l = l := by
  unfold bareL
  rw [bareN_all h, List.take_length]
/-- A text is a line and what is behind it, or a line without an end. -/
theorem line_cases (s : List UInt8) : (10 : UInt8) ∉ s ∨ ∃ l r, (10 : UInt8) ∉ l ∧ s = l ++ 10 :: r := by
  rcases bare_line s with ⟨h1, _⟩ | ⟨h1, _⟩
  · refine .inl fun q => bareL_no s ?_
    unfold bareL
    rw [h1, List.take_length]
    exact q
  · refine .inr ⟨bareL s, s.drop (bareN s + 1), bareL_no s, ?_⟩
    unfold bareL
    have := List.take_append_drop (bareN s) s
    rw [← List.drop_drop]
    obtain ⟨hlt, hv⟩ := List.getElem?_eq_some_iff.1 h1
    rw [List.drop_eq_getElem_cons hlt, hv] at this ⊢
    exact this.symm
theorem step_line {l : List UInt8} (h : (10 : UInt8) ∉ l) (out : List SrcD) (r r' : List UInt8) : stepM out (l ++ 10 :: r) = stepM out (l ++ 10 :: r') := by
  unfold stepM headL
  rw [isHead_app, isHead_app, bareL_app r h, bareL_app r' h, bareN_app r h, bareN_app r' h, lineN_app r h, lineN_app r' h]
  have e : ∀ x, (l ++ 10 :: x).take (l.length + 1) = l ++ [10] := fun x => by
    rw [show l ++ 10 :: x = (l ++ [10]) ++ x by simp]
    exact List.take_left' (by simp)
  rw [e r, e r']
theorem drop_line {l : List UInt8} (r : List UInt8) : (l ++ 10 :: r).drop (l.length + 1) = r := by
  rw [show l ++ 10 :: r = (l ++ [10]) ++ r by simp]
  exact List.drop_left' (by simp)
/-- A text whose lines all end is read, and then what stands behind it. -/
theorem parse_app : ∀ (n : Nat) (p : Nat) (a b : List UInt8) (out x : List SrcD) (q : Nat), a.length ≤ n → (a = [] ∨ ∃ c, a = c ++ [10]) → parseR p a out = (0, q, x) → parseR p (a ++ b) out = parseR (p + a.length) b x := by
  intro n
  induction n with
  | zero =>
    intro p a b out x q h1 h2 h3
    obtain rfl : a = [] := List.eq_nil_of_length_eq_zero (by omega)
    rw [parse_nil] at h3
    injection h3 with h3 h4
    injection h4 with h4 h5
    rw [h5]
    rfl
  | succ n ih =>
    intro p a b out x q h1 h2 h3
    rcases h2 with rfl | ⟨c, hc⟩
    · rw [parse_nil] at h3
      injection h3 with h3 h4
      injection h4 with h4 h5
      rw [h5]
      rfl
    · rcases line_cases a with h4 | ⟨l, r, h4, h5⟩
      · exact absurd (by rw [hc]; simp) h4
      · have hr : r = [] ∨ ∃ d, r = d ++ [10] := by
          rcases List.eq_nil_or_concat r with rfl | ⟨d, y, rfl⟩
          · exact .inl rfl
          · refine .inr ⟨d, ?_⟩
            have h6 : a.getLast? = some y := by rw [h5, List.concat_eq_append, show l ++ 10 :: (d ++ [y]) = (l ++ 10 :: d) ++ [y] by simp]; exact List.getLast?_concat
            rw [hc, List.getLast?_concat] at h6
            injection h6 with h6
            rw [List.concat_eq_append, h6]
        subst h5
        have e1 : parseR p ((l ++ 10 :: r) ++ b) out = _ := parse_step (by simp)
        have e2 : (l ++ 10 :: r) ++ b = l ++ 10 :: (r ++ b) := by simp
        rw [e2] at e1 ⊢
        rw [parse_step (by simp)] at h3
        rw [e1, step_line h4 out (r ++ b) r, lineN_app _ h4, drop_line]
        rw [lineN_app _ h4, drop_line] at h3
        by_cases hz : (stepM out (l ++ 10 :: r)).1 = 0
        · rw [if_pos hz] at h3 ⊢
          rw [ih _ r b _ x q (by simp at h1; omega) hr h3]
          congr 1
          simp only [List.length_append, List.length_cons]
          omega
        · rw [if_neg hz] at h3
          injection h3 with h3 _
          exact absurd h3 hz

end Go.Proofs.YtiliajnijjkcdaaDoor
