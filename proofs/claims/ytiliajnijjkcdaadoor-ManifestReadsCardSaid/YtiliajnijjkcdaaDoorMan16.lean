/- Package manifest: Index. -/
import Derived.Test.YtiliajnijjkcdaaDoorMan15
namespace Go.Proofs.YtiliajnijjkcdaaDoor
open Go.RowKit

attribute [local go_sem ↓] exec_mid_src exec_store_src
attribute [local go_sem] rowOk_new World.setRow_alloc_new aggOk_src

def intV (z : Int) : Value := .int .i64 z
/-- The first crate of a name. -/
def idxOf (l : List SrcD) (d : List UInt8) : Int := match l with
  | [] => -1
  | x :: r => if x.name = d then 0 else if idxOf r d = -1 then -1 else idxOf r d + 1
theorem idx_first (d : List UInt8) : ∀ (l : List SrcD) (i : Int), FirstAt l (fun a => a.name = d) i → idxOf l d = i
  | [], i, h => by
    rcases h with ⟨rfl, _⟩ | ⟨k, a, _, h, _⟩
    · rfl
    · simp at h
  | x :: r, i, h => by
    unfold idxOf
    rcases h with ⟨rfl, h⟩ | ⟨k, a, rfl, h1, h2, h3⟩
    · rw [if_neg (h x (by simp)), if_pos (idx_first d r (-1) (.inl ⟨rfl, fun a ha => h a (by simp [ha])⟩))]
    · cases k with
      | zero =>
        simp at h1
        subst h1
        rw [if_pos h2]
        rfl
      | succ k =>
        have hx : ¬ x.name = d := h3 x (by simp)
        have := idx_first d r (k : Int) (.inr ⟨k, a, rfl, by simpa using h1, h2, fun b hb => h3 b (by simp [hb])⟩)
        rw [if_neg hx, this, if_neg (by omega)]
        rfl
/-- A row of places, or none where a name is none's. -/
def idxRow (l : List SrcD) : List (List UInt8) → Option (List Int)
  | [] => some []
  | d :: r => if idxOf l d < 0 then none else match idxRow l r with
    | none => none
    | some x => some (idxOf l d :: x)
def idxAll (l : List SrcD) : Nat → List SrcD → Int × Nat × List (List Int)
  | _, [] => (0, 0, [])
  | i, x :: r => match idxRow l x.deps with
    | none => (41, i, [])
    | some row => if (idxAll l (i + 1) r).1 = 0 then (0, 0, row :: (idxAll l (i + 1) r).2.2) else ((idxAll l (i + 1) r).1, (idxAll l (i + 1) r).2.1, [])
def idxL (l : List SrcD) : Int × Nat × List (List Int) := idxAll l 0 l
theorem idxAll_cons (l : List SrcD) (i : Nat) (x : SrcD) (r : List SrcD) : idxAll l i (x :: r) = match idxRow l x.deps with | none => (41, i, []) | some row => if (idxAll l (i + 1) r).1 = 0 then (0, 0, row :: (idxAll l (i + 1) r).2.2) else ((idxAll l (i + 1) r).1, (idxAll l (i + 1) r).2.1, []) := rfl
theorem idxRow_upto (l : List SrcD) : ∀ (t : List (List UInt8)) (n : Nat) (x : List Int) (d : List UInt8), idxRow l (t.take n) = some x → t[n]? = some d → (idxOf l d < 0 → idxRow l t = none) ∧ (¬ idxOf l d < 0 → idxRow l (t.take (n + 1)) = some (x ++ [idxOf l d]))
  | [], n, x, d, _, h => by simp at h
  | e :: t, 0, x, d, h1, h2 => by
    simp at h2
    subst h2
    simp [idxRow] at h1
    subst h1
    refine ⟨fun h => by unfold idxRow; rw [if_pos h], fun h => ?_⟩
    simp [idxRow, h]
  | e :: t, n + 1, x, d, h1, h2 => by
    rw [List.take_succ_cons] at h1
    unfold idxRow at h1
    by_cases he : idxOf l e < 0
    · rw [if_pos he] at h1; cases h1
    · rw [if_neg he] at h1
      cases hr : idxRow l (t.take n) with
      | none => rw [hr] at h1; cases h1
      | some y =>
        rw [hr] at h1
        obtain rfl := Option.some.inj h1
        obtain ⟨i1, i2⟩ := idxRow_upto l t n y d hr (by simpa using h2)
        refine ⟨fun h => ?_, fun h => ?_⟩
        · unfold idxRow
          rw [if_neg he, i1 h]
        · rw [List.take_succ_cons]
          unfold idxRow
          rw [if_neg he, i2 h]
          rfl
theorem idxRow_len (l : List SrcD) : ∀ (t : List (List UInt8)) (x : List Int), idxRow l t = some x → x.length = t.length
  | [], x, h => by simp [idxRow] at h; subst h; rfl
  | e :: t, x, h => by
    unfold idxRow at h
    by_cases he : idxOf l e < 0
    · rw [if_pos he] at h; cases h
    · rw [if_neg he] at h
      cases hr : idxRow l t with
      | none => rw [hr] at h; cases h
      | some y =>
        rw [hr] at h
        obtain rfl := Option.some.inj h
        rw [List.length_cons, idxRow_len l t y hr]
        rfl
/-- So far; what is behind. -/
theorem idxAll_upto (l : List SrcD) : ∀ (m : List SrcD) (i n : Nat) (R : List (List Int)) (x : SrcD), idxAll l i (m.take n) = (0, 0, R) → m[n]? = some x → (idxRow l x.deps = none → idxAll l i m = (41, i + n, [])) ∧ (∀ row, idxRow l x.deps = some row → idxAll l i (m.take (n + 1)) = (0, 0, R ++ [row]))
  | [], i, n, R, x, _, h => by simp at h
  | e :: m, i, 0, R, x, h1, h2 => by
    simp at h2
    subst h2
    simp [idxAll] at h1
    subst h1
    refine ⟨fun h => by unfold idxAll; rw [h]; rfl, fun row h => ?_⟩
    simp [idxAll, h]
  | e :: m, i, n + 1, R, x, h1, h2 => by
    rw [List.take_succ_cons] at h1
    unfold idxAll at h1
    cases he : idxRow l e.deps with
    | none => rw [he] at h1; injection h1 with h1 _; cases h1
    | some row0 =>
      rw [he] at h1
      simp only at h1
      by_cases hz : (idxAll l (i + 1) (m.take n)).1 = 0
      · rw [if_pos hz] at h1
        injection h1 with _ h1
        injection h1 with _ h1
        subst h1
        have hq : idxAll l (i + 1) (m.take n) = (0, 0, (idxAll l (i + 1) (m.take n)).2.2) := by
          have h3 : ∀ (i : Nat) (m : List SrcD), (idxAll l i m).1 = 0 → (idxAll l i m).2.1 = 0 := by
            intro i m
            induction m generalizing i with
            | nil => intro _; rfl
            | cons y m ih =>
              intro h
              unfold idxAll at h ⊢
              cases hy : idxRow l y.deps with
              | none => rw [hy] at h; cases h
              | some r =>
                rw [hy] at h
                simp only at h ⊢
                by_cases hk : (idxAll l (i + 1) m).1 = 0
                · rw [if_pos hk]
                · rw [if_neg hk] at h; exact absurd h hk
          exact Prod.ext hz (Prod.ext (h3 _ _ hz) rfl)
        obtain ⟨i1, i2⟩ := idxAll_upto l m (i + 1) n _ x hq (by simpa using h2)
        refine ⟨fun h => ?_, fun row h => ?_⟩
        · rw [idxAll_cons, he]
          simp only
          rw [i1 h]
          show (if (41 : Int) = 0 then _ else ((41 : Int), i + 1 + n, ([] : List (List Int)))) = _
          rw [if_neg (by decide), show i + 1 + n = i + (n + 1) by omega]
        · rw [List.take_succ_cons, idxAll_cons, he]
          simp only
          rw [i2 row h, if_pos rfl]
          rfl
      · rw [if_neg hz] at h1
        injection h1 with h1 _
        exact absurd h1 hz

/-- Rows of places in memory. -/
def IntsIs (w : World) (r : List Int) (v : Value) : Prop := ∃ (a : Option Addr) (c : Nat), v = .slice a r.length c ∧ RowR w 3 a c (r.map intV)
theorem IntsIs.keeps {S : Nat → Prop} {w w' : World} {r : List Int} {v : Value} (h : IntsIs w r v) (K : Keeps S w w') (hS : ∀ g cur, Blk w g cur 3 → ¬ S g) : IntsIs w' r v := by
  obtain ⟨a, c, e, hR⟩ := h
  exact ⟨a, c, e, hR.keeps K (fun g hg => by obtain ⟨cur, hc⟩ := rowR_blk hR hg; exact hS g cur hc)⟩
/-- What Index leaves. -/
def IdxPost (w : World) (r : Int × Nat × List (List Int)) (e : Ending) (w' : World) : Prop :=
  Keeps Nothing w w' ∧ ((r.1 = 0 ∧ ∃ ao cap vs, e = .returned (.tuple #[.slice ao r.2.2.length cap, .nilIface]) ∧ RowR w' 23 ao cap vs ∧ vs.length = r.2.2.length ∧ ∀ (j : Nat) (x : List Int), r.2.2[j]? = some x → ∃ v, vs[j]? = some v ∧ IntsIs w' x v) ∨
    (r.1 ≠ 0 ∧ ∃ ev, e = .returned (.tuple #[.slice none 0 0, ev]) ∧ (∃ b, ev = .iface 78 (.pointer (some ⟨b, 0, none⟩))) ∧ IsErr w.heap.size w' ev r.1 (r.2.1 : Int)))
theorem info_int3 : (Tryd.prog.info? 3).map (fun i => (i.zero, i.size, i.bytes)) = some (some (.int .i64 0), 1, 8) := by kernel_rfl
theorem info_ints3 : (Tryd.prog.info? 23).map (fun i => (i.zero, i.size, i.bytes)) = some (some (.slice none 0 0), 1, 24) := by kernel_rfl
/-- append of a number. -/
theorem wpList_appN (w : World) {ops : Array Oper} {rest : List Oper} {o : Oper} {a : Act} {Q : Exit → Act → World → Prop} (hgd : o.guard = none) (s x : Operand)
    (ho : o.op = .call { callee := .builtin .append, args := #[s, x], argTypes := #[23, 23] })
    (ao : Option Addr) (cap : Nat) (vs : List Value) (n : Nat) (hn : vs.length = n) (hsv : a.eval s = .slice ao n cap) (hr : RowR w 3 ao cap vs) (g : Nat) (v : Value) (hv : v.oneCell' = true)
    (hx : a.eval x = .slice (some ⟨g, 0, none⟩) 1 1) (hg : Blk w g #[v] 3) (hb : n ≤ 1000000000)
    (h : ∀ ao' cap' w', RowR w' 3 ao' cap' (vs ++ [v]) → Keeps (fun k => blockOf ao = some k) w w' → Moved w.heap.size ao ao' → wpList Tryd.prog ops Q rest (a.put o.dst (.slice ao' (n + 1) cap')) w') : wpList Tryd.prog ops Q (o :: rest) a w := by
  obtain ⟨i0, hi, hz0, hz1, hz2⟩ := info_parts3 info_int3
  have hs : Src Tryd.prog 1 23 (.slice (some ⟨g, 0, none⟩) 1 1) 1 [v] w := Src.ofSlice _ Tryd.underlying23 ⟨g, 0, none⟩ 1 1 _ rfl (fun t u hu => by
    rw [ad_mid, Nat.zero_add]
    exact blk_cell hg t (by simpa using hu)) (by intro u hu; simp at hu; subst hu; exact hv)
  exact wpList_append_row w hgd s x 23 23 ho 3 i0 (.int .i64 0) 8 Tryd.underlying23 hi hz0 hz1 hz2 rfl ao n cap vs hn hsv hr _ 1 [v] hx hs (by unfold maxLen; omega) (by omega) (fun ao' cap' w' h1 _ h2 h3 => h ao' cap' w' h1 h2 h3)
/-- append of a row of numbers. -/
theorem wpList_appNs (w : World) {ops : Array Oper} {rest : List Oper} {o : Oper} {a : Act} {Q : Exit → Act → World → Prop} (hgd : o.guard = none) (s x : Operand)
    (ho : o.op = .call { callee := .builtin .append, args := #[s, x], argTypes := #[35, 35] })
    (ao : Option Addr) (cap : Nat) (vs : List Value) (n : Nat) (hn : vs.length = n) (hsv : a.eval s = .slice ao n cap) (hr : RowR w 23 ao cap vs) (g : Nat) (v : Value) (hv : v.oneCell' = true)
    (hx : a.eval x = .slice (some ⟨g, 0, none⟩) 1 1) (hg : Blk w g #[v] 23) (hb : n ≤ 1000000000)
    (h : ∀ ao' cap' w', RowR w' 23 ao' cap' (vs ++ [v]) → Keeps (fun k => blockOf ao = some k) w w' → Moved w.heap.size ao ao' → wpList Tryd.prog ops Q rest (a.put o.dst (.slice ao' (n + 1) cap')) w') : wpList Tryd.prog ops Q (o :: rest) a w := by
  obtain ⟨i0, hi, hz0, hz1, hz2⟩ := info_parts3 info_ints3
  have hs : Src Tryd.prog 1 35 (.slice (some ⟨g, 0, none⟩) 1 1) 1 [v] w := Src.ofSlice _ Tryd.underlying35 ⟨g, 0, none⟩ 1 1 _ rfl (fun t u hu => by
    rw [ad_mid, Nat.zero_add]
    exact blk_cell hg t (by simpa using hu)) (by intro u hu; simp at hu; subst hu; exact hv)
  exact wpList_append_row w hgd s x 35 35 ho 23 i0 (.slice none 0 0) 24 Tryd.underlying35 hi hz0 hz1 hz2 rfl ao n cap vs hn hsv hr _ 1 [v] hx hs (by unfold maxLen; omega) (by omega) (fun ao' cap' w' h1 _ h2 h3 => h ao' cap' w' h1 h2 h3)

end Go.Proofs.YtiliajnijjkcdaaDoor
