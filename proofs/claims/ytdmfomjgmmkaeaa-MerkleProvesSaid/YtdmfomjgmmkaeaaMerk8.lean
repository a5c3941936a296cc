/- What a proof's sums are made of: the plain form; rows of rows of bytes. -/
import Derived.Test.YtdmfomjgmmkaeaaMerk7
import Derived.Test.YtdmfomjgmmkaeaaMid
namespace Go.Proofs.Ytdmfomjgmmkaeaa
open Go.RowKit

/-- The texts from the leaf up, the sum at the top, whether the way is as long as it must be. -/
def upF (b : List UInt8) : Nat → Nat → Nat → List (List UInt8) → List (List UInt8) × List UInt8 × Bool
  | 0, _, n, path => if n = 1 then ([leafB b], shaOf (leafB b), path.isEmpty) else ([], zeros32, false)
  | f + 1, i, n, path =>
    if n = 1 then ([leafB b], shaOf (leafB b), path.isEmpty) else
    if i < splitN n then
      let r := upF b f i (splitN n) path.dropLast
      (r.1 ++ [nodeB r.2.1 (path.getLastD [])], shaOf (nodeB r.2.1 (path.getLastD [])), r.2.2)
    else
      let r := upF b f (i - splitN n) (n - splitN n) path.dropLast
      (r.1 ++ [nodeB (path.getLastD []) r.2.1], shaOf (nodeB (path.getLastD []) r.2.1), r.2.2)
def upL (b : List UInt8) (i n : Nat) (path : List (List UInt8)) : List (List UInt8) × List UInt8 × Bool := upF b path.length i n path
theorem upF_one (b : List UInt8) (f i : Nat) (path : List (List UInt8)) : upF b f i 1 path = ([leafB b], shaOf (leafB b), path.isEmpty) := by
  cases f <;> rfl
theorem upL_one (b : List UInt8) (i : Nat) (path : List (List UInt8)) : upL b i 1 path = ([leafB b], shaOf (leafB b), path.isEmpty) := upF_one ..
theorem upL_nil (b : List UInt8) (i n : Nat) (h : n ≠ 1) : upL b i n [] = ([], zeros32, false) := by
  show (if n = 1 then _ else _) = _
  rw [if_neg h]
theorem upL_left (b : List UInt8) {i n : Nat} {p : List (List UInt8)} {x : List UInt8} (h : n ≠ 1) (hi : i < splitN n) :
    upL b i n (p ++ [x]) = ((upL b i (splitN n) p).1 ++ [nodeB (upL b i (splitN n) p).2.1 x], shaOf (nodeB (upL b i (splitN n) p).2.1 x), (upL b i (splitN n) p).2.2) := by
  unfold upL
  rw [List.length_append, List.length_singleton]
  show (if n = 1 then _ else if i < splitN n then _ else _) = _
  rw [if_neg h, if_pos hi]
  simp
theorem upL_right (b : List UInt8) {i n : Nat} {p : List (List UInt8)} {x : List UInt8} (h : n ≠ 1) (hi : ¬ i < splitN n) :
    upL b i n (p ++ [x]) = ((upL b (i - splitN n) (n - splitN n) p).1 ++ [nodeB x (upL b (i - splitN n) (n - splitN n) p).2.1], shaOf (nodeB x (upL b (i - splitN n) (n - splitN n) p).2.1), (upL b (i - splitN n) (n - splitN n) p).2.2) := by
  unfold upL
  rw [List.length_append, List.length_singleton]
  show (if n = 1 then _ else if i < splitN n then _ else _) = _
  rw [if_neg h, if_neg hi]
  simp
/-- The root's text first; none: the proof has another form. -/
def madeL (b : List UInt8) (ix ct : Int) (path : List (List UInt8)) : List (List UInt8) :=
  if 0 ≤ ix ∧ ix < ct then
    if (upL b ix.toNat ct.toNat path).2.2 then topB ct.toNat (upL b ix.toNat ct.toNat path).2.1 :: (upL b ix.toNat ct.toNat path).1.reverse else []
  else []
def checkL (root b : List UInt8) (ix ct : Int) (path : List (List UInt8)) : Bool := match madeL b ix ct path with | [] => false | t :: _ => shaOf t == root

theorem upL_facts (b : List UInt8) : ∀ (m : Nat) (i n : Nat) (p : List (List UInt8)), p.length = m → (∀ x ∈ p, x.length = 32) → (upL b i n p).2.1.length = 32 ∧ (upL b i n p).1.length ≤ m + 1 ∧ ∀ t ∈ (upL b i n p).1, t.length ≤ b.length + 65 := by
  intro m
  induction m with
  | zero =>
    intro i n p hp _
    obtain rfl : p = [] := List.eq_nil_of_length_eq_zero hp
    by_cases h : n = 1
    · subst h
      rw [upL_one]
      exact ⟨sha_len _, by simp, fun t ht => by simp [leafB] at ht; subst ht; simp⟩
    · rw [upL_nil b i n h]
      exact ⟨rfl, by simp, fun t ht => by cases ht⟩
  | succ m ih =>
    intro i n p hp h32
    obtain ⟨q, x, rfl⟩ : ∃ q x, p = q ++ [x] := ⟨p.dropLast, p.getLast (by rintro rfl; simp at hp), (List.dropLast_concat_getLast _).symm⟩
    have hq : q.length = m := by simp at hp; exact hp
    have hx : x.length = 32 := h32 x (by simp)
    have hq32 : ∀ y ∈ q, y.length = 32 := fun y hy => h32 y (by simp [hy])
    by_cases h : n = 1
    · subst h
      rw [upL_one]
      exact ⟨sha_len _, by simp, fun t ht => by simp [leafB] at ht; subst ht; simp⟩
    · by_cases hi : i < splitN n
      · obtain ⟨i1, i2, i3⟩ := ih i (splitN n) q hq hq32
        rw [upL_left b h hi]
        refine ⟨sha_len _, by simp; exact i2, fun t ht => ?_⟩
        rcases List.mem_append.1 ht with ht | ht
        · exact i3 t ht
        · rw [List.mem_singleton] at ht; subst ht; unfold nodeB; simp [i1, hx]
      · obtain ⟨i1, i2, i3⟩ := ih (i - splitN n) (n - splitN n) q hq hq32
        rw [upL_right b h hi]
        refine ⟨sha_len _, by simp; exact i2, fun t ht => ?_⟩
        rcases List.mem_append.1 ht with ht | ht
        · exact i3 t ht
        · rw [List.mem_singleton] at ht; subst ht; unfold nodeB; simp [i1, hx]

/-! ### rows -/
/-- A row of sums that was handed in. -/
def HashesAt (w : World) (ao : Option Addr) (hs : List (List UInt8)) : Prop :=
  (ao = none → hs = []) ∧ ∀ a, ao = some a → ∀ j h, hs[j]? = some h → a.spot = none ∧ h.length = 32 ∧ w.rangeAt a.block (a.off + j * 32) (h.map byteV)
theorem HashesAt.keepsN {w w' : World} {ao : Option Addr} {hs : List (List UInt8)} (h : HashesAt w ao hs) (k : Keeps Nothing w w') : HashesAt w' ao hs :=
  ⟨h.1, fun a e j x hx => ⟨(h.2 a e j x hx).1, (h.2 a e j x hx).2.1, rangeAt_keeps (h.2 a e j x hx).2.2 k (fun h => h)⟩⟩
theorem HashesAt.take {w : World} {ao : Option Addr} {hs : List (List UInt8)} (h : HashesAt w ao hs) (k : Nat) : HashesAt w ao (hs.take k) :=
  ⟨fun e => by rw [h.1 e]; simp, fun a e j x hx => h.2 a e j x (by rw [List.getElem?_take] at hx; split at hx; exact hx; cases hx)⟩
theorem HashesAt.head {w : World} {ao : Option Addr} {hs : List (List UInt8)} (h : HashesAt w ao hs) (h1 : 1 ≤ hs.length) : ∃ b o, ao = some ⟨b, o, none⟩ := by
  cases ao with
  | none => rw [h.1 rfl] at h1; simp at h1
  | some a =>
    obtain ⟨hs0, _⟩ := h.2 a rfl 0 hs[0] (List.getElem?_eq_getElem (by omega))
    obtain ⟨b, o, s⟩ := a
    simp only at hs0
    subst hs0
    exact ⟨b, o, rfl⟩
theorem HashesAt.all32 {w : World} {ao : Option Addr} {hs : List (List UInt8)} (h : HashesAt w ao hs) : ∀ x ∈ hs, x.length = 32 := by
  intro x hx
  obtain ⟨j, hj⟩ := List.getElem?_of_mem hx
  cases ao with
  | none => rw [h.1 rfl] at hj; simp at hj
  | some a => exact (h.2 a rfl j x hj).2.1
theorem size44 (w : World) : (sizeOf (Try.prog.elem 44)).run Try.prog w = .ok 32 w := by kernel_rfl
theorem hashes_to (b o n c k : Nat) (hk : k ≤ c) (hc0 : 0 < c) (W : World) : (Instr.slice 44 (.slice (some ⟨b, o, none⟩) n c) none (some (.int .i64 (k : Int))) none).run Try.prog W = .ok (.slice (some ⟨b, o, none⟩) k c) W := by
  rw [run_slice_h W 44 (some ⟨b, o, none⟩) n c (by exact Try.underlying44) .i64 k (by omega) (by omega), size44]
  have : ¬ c = 0 := by omega
  simp [Result.andThen, sliced, this, Addr.add_mid']

/-- A row of rows of bytes, all of its own. -/
structure OwnS (w : World) (ao : Option Addr) (cap : Nat) (rows : List (List UInt8)) (vs : List Value) : Prop where
  own : w.ownsRow 0 22 1 (.slice ao rows.length cap) rows.length vs
  each : ∀ (j : Nat) (l : List UInt8), rows[j]? = some l → ∃ (ao' : Option Addr) (cap' : Nat), vs[j]? = some (Value.slice ao' l.length cap') ∧ Own8 w 5 ao' cap' l
theorem ownS_nil (w : World) : OwnS w none 0 [] [] := ⟨World.ownsRow_nil w _ _ _, fun j l h => by simp at h⟩
theorem OwnS.keepsN {w w' : World} {ao : Option Addr} {cap : Nat} {rows : List (List UInt8)} {vs : List Value} (h : OwnS w ao cap rows vs) (k : Keeps Nothing w w') : OwnS w' ao cap rows vs :=
  ⟨k.own h.own (fun _ _ h => h), fun j l hj => by obtain ⟨a, c, h1, h2⟩ := h.each j l hj; exact ⟨a, c, h1, k.own h2 (fun _ _ h => h)⟩⟩
theorem ownS_blk {w : World} {g cap : Nat} {rows : List (List UInt8)} {vs : List Value} (h : OwnS w (some ⟨g, 0, none⟩) cap rows vs) : ∃ cur, Blk w g cur 22 := by
  rcases h.own.2 with ⟨hv, _⟩ | ⟨g', cap', cur, hv, _, hg, _⟩
  · simp at hv
  · simp only [Value.slice.injEq, Option.some.injEq] at hv
    obtain ⟨h1, _⟩ := hv
    have : g = g' := by injection h1
    subst this
    exact ⟨cur, hg⟩
theorem ownS_head {w : World} {ao : Option Addr} {cap : Nat} {rows : List (List UInt8)} {vs : List Value} (h : OwnS w ao cap rows vs) : ao = none ∨ ∃ g, ao = some ⟨g, 0, none⟩ := by
  rcases h.own.2 with ⟨hv, _⟩ | ⟨g', cap', cur, hv, _⟩
  · simp only [Value.slice.injEq] at hv; exact .inl hv.1
  · simp only [Value.slice.injEq] at hv; exact .inr ⟨g', hv.1⟩
theorem info22 : (Try.prog.info? 22).map (fun i => (i.zero, i.size, i.bytes)) = some (some (.slice none 0 0), 1, 24) := by kernel_rfl
/-- append of one row. -/
theorem wpList_appS (w : World) {ops : Array Oper} {rest : List Oper} {o : Oper} {a : Act} {Q : Exit → Act → World → Prop} (hgd : o.guard = none) (s x : Operand)
    (ho : o.op = .call { callee := .builtin .append, args := #[s, x], argTypes := #[41, 41] })
    (ao : Option Addr) (cap : Nat) (rows : List (List UInt8)) (vs : List Value) (n : Nat) (hn : rows.length = n) (hsv : a.eval s = .slice ao n cap) (hown : OwnS w ao cap rows vs) (g : Nat) (l : List UInt8) (al : Option Addr) (cl : Nat) {L : Nat} (hL : l.length = L)
    (hx : a.eval x = .slice (some ⟨g, 0, none⟩) 1 1) (hg : Blk w g #[.slice al L cl] 22) (hol : Own8 w 5 al cl l) (hb : n ≤ 1000000000)
    (h : ∀ ao' cap' w', OwnS w' ao' cap' (rows ++ [l]) (vs ++ [.slice al l.length cl]) → Keeps (fun k => blockOf ao = some k) w w' → Moved w.heap.size ao ao' → wpList Try.prog ops Q rest (a.put o.dst (.slice ao' (n + 1) cap')) w') : wpList Try.prog ops Q (o :: rest) a w := by
  subst hn
  subst hL
  obtain ⟨i0, hi, hz0, hz1, hz2⟩ := info_parts3 info22
  have hsr : Src Try.prog 1 41 (.slice (some ⟨g, 0, none⟩) 1 1) 1 [.slice al l.length cl] w := Src.ofSlice _ Try.underlying41 ⟨g, 0, none⟩ 1 1 _ rfl (fun j u hj => by
    rw [Addr.add_mid', Nat.zero_add]
    exact blk_cell hg j (by simpa using hj)) (by intro u hu; simp at hu; subst hu; rfl)
  refine wpList_append_src w hgd s x 41 41 ho 22 i0 (.slice none 0 0) 1 24 Try.underlying41 hi hz0 hz1 hz2 (by rfl) ao rows.length cap vs hsv hown.own _ 1 [.slice al l.length cl] hx hsr
    (by unfold maxLen; omega) (by omega) fun ao' cap' w' h1 h2 h3 => ?_
  have hk : Keeps (fun k => blockOf ao = some k) w w' := (Keeps.refl _ _).grown h2 (fun k hk _ => hk)
  have e2 : rows.length + 1 = (rows ++ [l]).length := by rw [List.length_append]; rfl
  have hne : ∀ (a8 : Option Addr) (c8 : Nat) (l8 : List UInt8), Own8 w 5 a8 c8 l8 → Own8 w' 5 a8 c8 l8 := fun a8 c8 l8 h8 => by
    refine hk.own h8 fun g8 hg8 hbad => ?_
    rcases ownS_head hown with rfl | ⟨gr, rfl⟩
    · simp [blockOf] at hbad
    · obtain ⟨cur, hcur⟩ := ownS_blk hown
      have : gr = g8 := by simpa [blockOf] using hbad
      subst this
      exact own8_ne h8 hcur (by decide) (by rw [ownBlock_eq] at hg8; exact hg8)
  have hvl : vs.length = rows.length := by have := hown.own.1; simpa using this
  refine h ao' cap' w' ⟨by rw [← e2]; exact h1, fun j r hj => ?_⟩ hk h3
  by_cases hjl : j < rows.length
  · rw [List.getElem?_append_left hjl] at hj
    obtain ⟨a8, c8, h4, h5⟩ := hown.each j r hj
    exact ⟨a8, c8, by rw [List.getElem?_append_left (by omega)]; exact h4, hne _ _ _ h5⟩
  · have hjr : j = rows.length := by
      have := (List.getElem?_eq_some_iff.1 hj).1
      rw [List.length_append, List.length_singleton] at this
      omega
    rw [hjr, List.getElem?_append_right (Nat.le_refl _), Nat.sub_self] at hj
    obtain rfl := Option.some.inj hj
    exact ⟨al, cl, by rw [hjr, List.getElem?_append_right (by omega), hvl, Nat.sub_self]; rfl, hne _ _ _ hol⟩

end Go.Proofs.Ytdmfomjgmmkaeaa
