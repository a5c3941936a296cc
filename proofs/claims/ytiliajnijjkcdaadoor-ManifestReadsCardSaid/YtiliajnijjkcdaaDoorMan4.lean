/- A crate's text and what it needs, in memory; the library's calls. -/
import Derived.Test.YtiliajnijjkcdaaDoorMan3
import Derived.Test.YtiliajnijjkcdaaDoorTree2
import Derived.Test.YtiliajnijjkcdaaDoorShelfM
import Derived.Test.YtiliajnijjkcdaaDoorRowR
import Derived.Test.YtiliajnijjkcdaaDoorOwnC
import Derived.Test.YtiliajnijjkcdaaDoorLex11
import Derived.OneCell
import Derived.Laws.EntriesVeiled
namespace Go.Proofs.YtiliajnijjkcdaaDoor
open Go.RowKit

theorem infoSrc : (Tryd.prog.info? 43).map (·.size) = some 3 := by kernel_rfl
theorem exec_mid_src (ρ : Operand → Value) (dst : Option Tmp) (x : Operand) (ty' : TypeId) (pos : String) (af : Array Edge) (gd : Option (Nat × Bool)) (w : World) (h : midOkV w 3 (ρ x) = true) :
    (execOp ρ ⟨dst, .load 43 x, ty', pos, af, gd⟩).run Tryd.prog w = .ok (.value (.agg (midOfV w 3 (ρ x)))) w :=
  exec_load_mid _ 3 _ Tryd.underlying43 rfl infoSrc ρ dst x ty' pos af gd w h
theorem exec_store_src (ρ : Operand → Value) (dst : Option Tmp) (x y : Operand) (ty' : TypeId) (pos : String) (af : Array Edge) (gd : Option (Nat × Bool)) (w : World) (h : rowOkV w 3 (ρ x) = true) (hy : aggOk 3 (ρ y) = true) :
    (execOp ρ ⟨dst, .store 43 x y, ty', pos, af, gd⟩).run Tryd.prog w = .ok .skip (rowSetV w (ρ x) (aggOf (ρ y))) :=
  exec_store _ 3 infoSrc ρ dst x y ty' pos af gd w h hy
theorem loadVar_src (w : World) (g : Nat) (cs : Array Value) (t : TypeId) (hb : Blk w g cs t) (hs : cs.size = 3) : (loadVar 43 ⟨g, 0, none⟩).run Tryd.prog w = .ok (.agg cs) w :=
  run_loadVar_row w g t _ cs (0, 0) _ hb Tryd.underlying43 rfl (by rw [infoSrc, hs])
theorem aggOk_src (s t : ByteArray) (a : Option Addr) (n c : Nat) : aggOk 3 (.agg #[.string s, .slice a n c, .string t]) = true := by simp [aggOk, Value.oneCell']
theorem src_one (s t : ByteArray) (a : Option Addr) (n c : Nat) : ∀ u ∈ [Value.string s, .slice a n c, .string t], u.oneCell' = true := by
  intro u hu
  simp only [List.mem_cons, List.not_mem_nil, or_false] at hu
  rcases hu with rfl | rfl | rfl <;> rfl

/-- internal/bytealg.MaxLen holds some number. -/
def MaxV (w : World) : Prop := ∃ m : Int, w.cell? ⟨0, 0, none⟩ = some (.int .i64 m)
theorem MaxV.keeps {w w' : World} (h : MaxV w) (k : Keeps Nothing w w') : MaxV w' := by
  obtain ⟨m, h⟩ := h
  exact ⟨m, k.cell h (fun h => h)⟩
theorem txt (s : List UInt8) : (⟨s.toArray⟩ : ByteArray).data.toList = s := by simp
theorem txs (s : List UInt8) : (⟨s.toArray⟩ : ByteArray).size = s.length := by simp [ByteArray.size]

theorem cutPrefix_any (s p : List UInt8) (w : World) : Calls Tryd.prog 40 #[.string ⟨s.toArray⟩, .string ⟨p.toArray⟩] w fun e w' => e = .returned (.tuple #[.string ⟨(Lib.trimPrefix s p).toArray⟩, .bool (Lib.hasPrefix s p)]) ∧ w' = w := by
  have h := Tryd.strings_CutPrefix ⟨s.toArray⟩ ⟨p.toArray⟩ w
  rwa [txt, txt] at h
theorem shPrefix_any (s p : List UInt8) (w : World) : Calls Tryd.prog 22 #[.string ⟨s.toArray⟩, .string ⟨p.toArray⟩] w fun e w' => e = .returned (.bool (Lib.hasPrefix s p)) ∧ w' = w := by
  have h := Tryd.strings_HasPrefix ⟨s.toArray⟩ ⟨p.toArray⟩ w
  rwa [txt, txt] at h
theorem trimSuffix_any (s p : List UInt8) (w : World) (hs : s.length ≤ 9223372036854775807) : Calls Tryd.prog 21 #[.string ⟨s.toArray⟩, .string ⟨p.toArray⟩] w fun e w' => e = .returned (.string ⟨(Lib.trimSuffix s p).toArray⟩) ∧ w' = w := by
  have h := Tryd.strings_TrimSuffix ⟨s.toArray⟩ ⟨p.toArray⟩ w (by rw [txs]; exact hs)
  rwa [txt, txt] at h
theorem cut_any (s p : List UInt8) (w : World) (hM : MaxV w) (hs : s.length < 4294967281) : Calls Tryd.prog 41 #[.string ⟨s.toArray⟩, .string ⟨p.toArray⟩] w fun e w' => e = .returned (.tuple #[.string ⟨(Lib.cut s p).1.toArray⟩, .string ⟨(Lib.cut s p).2.1.toArray⟩, .bool (Lib.cut s p).2.2]) ∧ Keeps Nothing w w' := by
  obtain ⟨m, hm⟩ := hM
  have h := Tryd.strings_Cut ⟨s.toArray⟩ ⟨p.toArray⟩ m w (by rw [txs]; exact hs) hm
  rw [txt, txt] at h
  exact h.mono fun e w' ⟨he, n, hw⟩ => ⟨he, by rw [hw]; exact (Keeps.refl _ _).drewN n⟩
theorem countB_eq (s sep : ByteArray) : Lib.countB s sep = Lib.count s.data.toList sep.data.toList := by
  first | rfl | exact Lib.countB_data s sep | simp [Lib.countB]
theorem split_len (s : List UInt8) : Lib.count s [32] + 1 = (blanksL s).length ∧ Lib.splitK [32] 0 (Lib.count s [32]) s = blanksL s := by
  have key : ∀ (f : Nat) (s : List UInt8), s.length < f → Lib.countFrom [32] f s + 1 = (blanksL s).length := by
    intro f
    induction f with
    | zero => intro s h; omega
    | succ f ih =>
      intro s h
      obtain ⟨x, l, e⟩ := blanks_ne s
      obtain ⟨hx, h2⟩ := blanks_first s e
      unfold Lib.countFrom
      have hk := split_blanks ((blanksL s).length) s (by omega)
      rcases h2 with ⟨j1, j2⟩ | ⟨r, j1, j2⟩
      · have hi : Lib.index s [32] = -1 := by
          rcases Lib.index_spec s [32] with ⟨g1, _⟩ | ⟨i, _, _, g3, _⟩
          · exact g1
          · exfalso
            apply hx
            rw [← j2, occ_split g3]
            simp
        rw [hi, if_pos (by rfl), e, j1]
        rfl
      · have hi : Lib.index s [32] = (x.length : Int) := by
          rcases Lib.index_spec s [32] with ⟨_, g2⟩ | ⟨i, g1, _, _, _⟩
          · have := g2 x.length (by rw [j1]; simp)
            rw [j1, show x ++ 32 :: r = x ++ ([32] ++ r) from rfl, occ_here] at this
            cases this
          · have hb := split_blanks ((blanksL s).length + 1) s (by omega)
            unfold Lib.splitK at hb
            have hne : ¬ (((i : Int)) == -1) = true := fun q => by have := beq_iff_eq.1 q; omega
            rw [g1, if_neg hne, e] at hb
            injection hb with hb _
            have hl := congrArg List.length hb
            rw [List.length_take] at hl
            have hle : x.length ≤ i := by simp only [Nat.add_zero, Int.toNat_natCast] at hl; omega
            rcases Lib.index_spec s [32] with ⟨g4, _⟩ | ⟨i', g4, _, _, g5⟩
            · rw [g1] at g4; omega
            · have hii : i' = i := by rw [g1] at g4; omega
              subst hii
              rcases Nat.lt_or_ge x.length i' with q | q
              · have := g5 x.length q
                rw [j1, show x ++ 32 :: r = x ++ ([32] ++ r) from rfl, occ_here] at this
                cases this
              · rw [g1, show i' = x.length by omega]
        have hne : ¬ (((x.length : Int)) == -1) = true := fun q => by have := beq_iff_eq.1 q; omega
        rw [hi, if_neg hne]
        have e3 : ((x.length : Int)).toNat = x.length := by omega
        have e4 : (x ++ 32 :: r).drop (x.length + 1) = r := by rw [← List.drop_drop, List.drop_left]; rfl
        rw [e3, show x.length + ([32] : List UInt8).length = x.length + 1 from rfl, j1, e4]
        have := ih r (by rw [j1] at h; simp at h; omega)
        rw [← j1, e, ← j2, List.length_cons, ← this]
        omega
  have h1 := key (s.length + 1) s (Nat.lt_succ_self _)
  exact ⟨h1, split_blanks _ _ (by rw [← h1]; exact Nat.le_refl _)⟩
theorem split_any (s : List UInt8) (w : World) (hM : MaxV w) (hs : s.length < 4294967281) : Calls Tryd.prog 43 #[.string ⟨s.toArray⟩, .string ⟨#[32]⟩] w fun e w' => e = .returned (.slice (some ⟨w.heap.size, 0, none⟩) (blanksL s).length (blanksL s).length) ∧ w' = w.alloc (.cells ((blanksL s).map txV).toArray 9) := by
  obtain ⟨m, hm⟩ := hM
  have h := Tryd.strings_Split ⟨s.toArray⟩ ⟨#[32]⟩ m w (by rw [txs]; exact hs) hm (Nat.le_refl _)
  have e1 : Lib.countB ⟨s.toArray⟩ ⟨#[32]⟩ = Lib.count s [32] := by rw [countB_eq, txt]
  have e2 : (Lib.splitB ⟨#[32]⟩ 0 (Lib.count s [32]) ⟨s.toArray⟩).map Value.string = (blanksL s).map txV := by
    have h3 := Lib.splitB_data ⟨#[32]⟩ 0 (Lib.count s [32]) ⟨s.toArray⟩
    rw [txt] at h3
    rw [← (split_len s).2, ← h3, List.map_map]
    apply List.map_congr_left
    intro x _
    show Value.string x = .string ⟨x.data.toList.toArray⟩
    simp
  rw [e1, (split_len s).1, e2] at h
  exact h

theorem info_str : (Tryd.prog.info? 9).map (fun i => (i.zero, i.size, i.bytes)) = some (some (.string ⟨#[]⟩), 1, 16) := by kernel_rfl
theorem info_parts3 {P : Program} {e : TypeId} {z : Value} {s b : Nat} (h : (P.info? e).map (fun i => (i.zero, i.size, i.bytes)) = some (some z, s, b)) : ∃ i, P.info? e = some i ∧ i.zero = some z ∧ i.size = s ∧ i.bytes = b := by
  cases hi : P.info? e with
  | none => rw [hi] at h; cases h
  | some i =>
    rw [hi] at h
    simp only [Option.map_some, Option.some.injEq, Prod.mk.injEq] at h
    exact ⟨i, rfl, h.1, h.2.1, h.2.2⟩
/-- append onto a row of texts. -/
theorem wpList_appZ (w : World) {ops : Array Oper} {rest : List Oper} {o : Oper} {a : Act} {Q : Exit → Act → World → Prop} (hgd : o.guard = none) (s x : Operand)
    (ho : o.op = .call { callee := .builtin .append, args := #[s, x], argTypes := #[22, 22] })
    (ao : Option Addr) (cap : Nat) (vs : List Value) (n : Nat) (hn : vs.length = n) (hsv : a.eval s = .slice ao n cap) (hr : RowR w 9 ao cap vs) (xv : Value) (m : Nat) (news : List Value)
    (hx : a.eval x = xv) (hs : Src Tryd.prog 1 22 xv m news w) (hb : n ≤ 1000000000) (hm : m ≤ 1000000000)
    (h : ∀ ao' cap' w', RowR w' 9 ao' cap' (vs ++ news) → RowR w' 9 ao cap vs → Keeps (fun k => blockOf ao = some k) w w' → Moved w.heap.size ao ao' → wpList Tryd.prog ops Q rest (a.put o.dst (.slice ao' (n + m) cap')) w') : wpList Tryd.prog ops Q (o :: rest) a w := by
  obtain ⟨i0, hi, hz0, hz1, hz2⟩ := info_parts3 info_str
  exact wpList_append_row w hgd s x 22 22 ho 9 i0 (.string ⟨#[]⟩) 16 Tryd.underlying22 hi hz0 hz1 hz2 rfl ao n cap vs hn hsv hr xv m news hx hs (by unfold maxLen; omega) (by omega) h
theorem src_str1 {w : World} {g : Nat} {x : ByteArray} (h : Blk w g #[.string x] 9) : Src Tryd.prog 1 22 (.slice (some ⟨g, 0, none⟩) 1 1) 1 [.string x] w :=
  Src.ofSlice _ Tryd.underlying22 ⟨g, 0, none⟩ 1 1 _ rfl (fun t u hu => by
    rw [ad_mid, Nat.zero_add]
    exact blk_cell h t (by simpa using hu)) (by intro u hu; simp at hu; subst hu; rfl)
theorem rowR_sl {S : Nat → Prop} {w : World} {e : TypeId} {ao : Option Addr} {cap : Nat} {l : List (List UInt8)} (h : RowR w e ao cap (l.map txV)) (hl : l.length ≤ bigN) (hx : ∀ x ∈ l, x.length ≤ bigN) (hS : ∀ g, blockOf ao = some g → S g) : SlIs S w 1 TxIs ao l := by
  refine ⟨hl, ?_⟩
  by_cases he : l = []
  · exact .inl he
  · obtain ⟨g, o, rfl⟩ := h.head (by simpa using he)
    refine .inr ⟨g, o, rfl, hS g rfl, rowIs_mk fun j d hd => ⟨[txV d], rfl, ?_, rfl, hx d (List.mem_of_getElem? hd)⟩⟩
    intro t v ht
    cases t with
    | zero =>
      simp at ht
      subst ht
      rw [Nat.mul_one, Nat.add_zero]
      exact h.cell (by rw [List.getElem?_map, hd]; rfl)
    | succ t => simp at ht

/-- A crate's text and what it needs, in three cells. -/
def SrcIs (S : Nat → Prop) (w : World) (d : SrcD) (cs : List Value) : Prop := ∃ (a : Option Addr) (c : Nat), cs = [txV d.name, .slice a d.deps.length c, txV d.text] ∧ d.name.length ≤ bigN ∧ d.text.length ≤ bigN ∧ (d.deps.length ≤ c ∧ c ≤ maxLen) ∧ SlIs S w 1 TxIs a d.deps
theorem SrcIs.keeps {S S' T : Nat → Prop} {w w' : World} {d : SrcD} {cs : List Value} (h : SrcIs S w d cs) (K : Keeps T w w') (hT : ∀ b, S b → ¬ T b) (hS : ∀ b, S b → S' b) : SrcIs S' w' d cs := by
  obtain ⟨a, c, rfl, h0, h1, hc, h2⟩ := h
  exact ⟨a, c, rfl, h0, h1, hc, h2.keeps K hT hS (fun _ _ _ h => h)⟩
theorem SrcIs.len {S : Nat → Prop} {w : World} {d : SrcD} {cs : List Value} (h : SrcIs S w d cs) : cs.length = 3 := by
  obtain ⟨a, c, rfl, _⟩ := h; rfl
theorem SrcIs.one {S : Nat → Prop} {w : World} {d : SrcD} {cs : List Value} (h : SrcIs S w d cs) : ∀ u ∈ cs, u.oneCell' = true := by
  obtain ⟨a, c, rfl, _⟩ := h
  exact src_one _ _ _ _ _

end Go.Proofs.YtiliajnijjkcdaaDoor
