/- Rows of one-cell values at any offset of a block: read, resliced, appended to. -/
import Derived.Test.YtjbcagbnagefcaaMem
namespace Go.Proofs.Ytjbcagbnagefcaa
open Go.RowKit

theorem ad_mid (b o i : Nat) : (⟨b, o, none⟩ : Addr).add i = ⟨b, o + i, none⟩ := Addr.add_lit b o i

/-- The slice (ao, vs.length, cap) shows the one-cell values vs, and has room for cap. -/
structure RowR (w : World) (e : TypeId) (ao : Option Addr) (cap : Nat) (vs : List Value) : Prop where
  le : vs.length ≤ cap
  max : cap ≤ maxLen
  one : ∀ v ∈ vs, v.oneCell' = true
  at' : (ao = none ∧ vs = [] ∧ cap = 0) ∨ ∃ (g o : Nat) (cur : Array Value), ao = some ⟨g, o, none⟩ ∧ w.heap[g]? = some (.cells cur e (0, 0)) ∧ o + cap ≤ cur.size ∧ ∀ j v, vs[j]? = some v → cur[o + j]? = some v

theorem rowR_nil (w : World) (e : TypeId) : RowR w e none 0 [] := ⟨Nat.le_refl _, Nat.zero_le _, fun _ h => (by cases h), .inl ⟨rfl, rfl, rfl⟩⟩
theorem RowR.keeps {S : Nat → Prop} {w w' : World} {e : TypeId} {ao : Option Addr} {cap : Nat} {vs : List Value} (h : RowR w e ao cap vs) (k : Keeps S w w') (hn : ∀ g, blockOf ao = some g → ¬ S g) : RowR w' e ao cap vs := by
  refine ⟨h.le, h.max, h.one, ?_⟩
  rcases h.at' with h2 | ⟨g, o, cur, rfl, hg, hs, hc⟩
  · exact .inl h2
  · exact .inr ⟨g, o, cur, rfl, k.blk hg (hn g rfl), hs, hc⟩
theorem RowR.keepsN {w w' : World} {e : TypeId} {ao : Option Addr} {cap : Nat} {vs : List Value} (h : RowR w e ao cap vs) (k : Keeps Nothing w w') : RowR w' e ao cap vs := h.keeps k (fun _ _ h => h)
theorem RowR.head {w : World} {e : TypeId} {ao : Option Addr} {cap : Nat} {vs : List Value} (h : RowR w e ao cap vs) (hn : vs ≠ []) : ∃ g o, ao = some ⟨g, o, none⟩ := by
  rcases h.at' with ⟨_, h2, _⟩ | ⟨g, o, cur, rfl, _⟩
  · exact absurd h2 hn
  · exact ⟨g, o, rfl⟩
theorem RowR.shape {w : World} {e : TypeId} {ao : Option Addr} {cap : Nat} {vs : List Value} (h : RowR w e ao cap vs) : ao = none ∨ ∃ g o, ao = some ⟨g, o, none⟩ := by
  rcases h.at' with ⟨h2, _⟩ | ⟨g, o, cur, rfl, _⟩
  · exact .inl h2
  · exact .inr ⟨g, o, rfl⟩
theorem RowR.lt {w : World} {e : TypeId} {ao : Option Addr} {cap : Nat} {vs : List Value} (h : RowR w e ao cap vs) {g : Nat} (hg : blockOf ao = some g) : g < w.heap.size := by
  rcases h.at' with ⟨rfl, _⟩ | ⟨g', o, cur, rfl, hb, _⟩
  · cases hg
  · obtain rfl := Option.some.inj hg; exact lt_of_block hb
theorem RowR.cell {w : World} {e : TypeId} {g o : Nat} {cap : Nat} {vs : List Value} (h : RowR w e (some ⟨g, o, none⟩) cap vs) {j : Nat} {v : Value} (hj : vs[j]? = some v) : w.cell? ⟨g, o + j, none⟩ = some v := by
  rcases h.at' with ⟨h2, _⟩ | ⟨g', o', cur, hv, hb, _, hc⟩
  · cases h2
  · simp only [Option.some.injEq, Addr.mk.injEq] at hv
    obtain ⟨rfl, rfl, _⟩ := hv
    exact blk_cell hb (o + j) (hc j v hj)
theorem RowR.ne {w : World} {e : TypeId} {ao : Option Addr} {cap : Nat} {vs : List Value} (h : RowR w e ao cap vs) {p : Nat} {cs : Array Value} {t : TypeId} (hp : Blk w p cs t) (hne : e ≠ t) : blockOf ao ≠ some p := by
  intro hk
  rcases h.at' with ⟨rfl, _⟩ | ⟨g, o, cur, rfl, hb, _⟩
  · cases hk
  · obtain rfl := Option.some.inj hk
    have := hp.symm.trans hb
    simp at this
    exact hne this.2.symm
theorem RowR.free {w : World} {e : TypeId} {g o : Nat} {cap : Nat} {vs : List Value} (h : RowR w e (some ⟨g, o, none⟩) cap vs) (j : Nat) : w.frozen? ⟨g, j, none⟩ = false := by
  rcases h.at' with ⟨h2, _⟩ | ⟨g', o', cur, hv, hb, _, hc⟩
  · cases h2
  · simp only [Option.some.injEq, Addr.mk.injEq] at hv
    obtain ⟨rfl, rfl, _⟩ := hv
    exact blk_free hb j
/-- A beginning of it. -/
theorem RowR.take {w : World} {e : TypeId} {ao : Option Addr} {cap : Nat} {vs : List Value} (h : RowR w e ao cap vs) (k : Nat) : RowR w e ao cap (vs.take k) := by
  have hl := List.length_take_le' k vs
  refine ⟨Nat.le_trans hl h.le, h.max, fun v hv => h.one v (List.mem_of_mem_take hv), ?_⟩
  rcases h.at' with ⟨rfl, rfl, rfl⟩ | ⟨g, o, cur, rfl, hb, hs, hc⟩
  · exact .inl ⟨rfl, by simp, rfl⟩
  · exact .inr ⟨g, o, cur, rfl, hb, hs, fun j v hj => hc j v (by rw [List.getElem?_take] at hj; split at hj; exact hj; cases hj)⟩
/-- Its rest, where some room is left. -/
theorem RowR.drop {w : World} {e : TypeId} {g o : Nat} {cap : Nat} {vs : List Value} (h : RowR w e (some ⟨g, o, none⟩) cap vs) (k : Nat) (hk : k ≤ cap) : RowR w e (some ⟨g, o + k, none⟩) (cap - k) (vs.drop k) := by
  have := h.le
  have := h.max
  refine ⟨by rw [List.length_drop]; omega, by omega, fun v hv => h.one v (List.mem_of_mem_drop hv), ?_⟩
  rcases h.at' with ⟨h2, _⟩ | ⟨g', o', cur, hv, hb, hs, hc⟩
  · cases h2
  · simp only [Option.some.injEq, Addr.mk.injEq] at hv
    obtain ⟨rfl, rfl, _⟩ := hv
    exact .inr ⟨g, o + k, cur, rfl, hb, by omega, fun j v hj => by rw [List.getElem?_drop] at hj; rw [Nat.add_assoc]; exact hc (k + j) v hj⟩
/-- Nothing of it, wherever it stands. -/
theorem RowR.empty {w : World} {e : TypeId} {ao : Option Addr} {cap : Nat} {vs : List Value} (h : RowR w e ao cap vs) : RowR w e ao 0 [] := by
  refine ⟨Nat.le_refl _, Nat.zero_le _, fun _ h => (by cases h), ?_⟩
  rcases h.at' with ⟨rfl, rfl, rfl⟩ | ⟨g, o, cur, rfl, hb, hs, hc⟩
  · exact .inl ⟨rfl, rfl, rfl⟩
  · exact .inr ⟨g, o, cur, rfl, hb, by omega, fun j v hj => by simp at hj⟩
/-- One of its cells stored to. -/
theorem RowR.set {w : World} {e : TypeId} {g o : Nat} {cap : Nat} {vs : List Value} (h : RowR w e (some ⟨g, o, none⟩) cap vs) (k : Nat) {u : Value} (hu : u.oneCell' = true) : RowR (w.setCell ⟨g, o + k, none⟩ u) e (some ⟨g, o, none⟩) cap (vs.set k u) := by
  refine ⟨by rw [List.length_set]; exact h.le, h.max, fun v hv => ?_, ?_⟩
  · rcases List.mem_or_eq_of_mem_set hv with hv | rfl
    · exact h.one v hv
    · exact hu
  · rcases h.at' with ⟨h2, _⟩ | ⟨g', o', cur, hv, hb, hs, hc⟩
    · cases h2
    · simp only [Option.some.injEq, Addr.mk.injEq] at hv
      obtain ⟨rfl, rfl, _⟩ := hv
      refine .inr ⟨g, o, _, rfl, blk_set hb (o + k) u, by simpa using hs, fun j v hj => ?_⟩
      rw [List.getElem?_set] at hj
      rw [Array.getElem?_setIfInBounds]
      by_cases hjk : k = j
      · subst hjk
        rw [if_pos rfl] at hj ⊢
        by_cases hlt : k < vs.length
        · rw [if_pos hlt] at hj
          have := h.le
          rw [if_pos (by omega)]
          exact hj
        · rw [if_neg hlt] at hj; cases hj
      · rw [if_neg hjk] at hj
        rw [if_neg (by omega)]
        exact hc j v hj

section
variable {P : Program} (w : World)
theorem run_append_row (t tx ty e : TypeId) (i : TypeInfo) (z : Value) (bytes : Nat) (ht : P.underlying t = some (.slice e)) (hi : P.info? e = some i) (hz : i.zero = some z)
    (hsize : i.size = 1) (hby : i.bytes = bytes) (hzs : z.cells.size = 1)
    (ao : Option Addr) (n cap0 : Nat) (vs : List Value) (hn : vs.length = n) (hr : RowR w e ao cap0 vs) (x : Value) (m : Nat) (news : List Value) (hs : Src P 1 tx x m news w)
    (h63 : n + m ≤ maxLen) (hbytes : (n + m) * bytes ≤ 140737488355328) :
    ∃ ao' cap' w', (Builtin.append_ #[t, tx] ty #[.slice ao n cap0, x]).run P w = .ok (.slice ao' (n + m) cap') w' ∧ RowR w' e ao' cap' (vs ++ news) ∧ w.grownBy w' (blockOf ao) ∧ Moved w.heap.size ao ao' ∧ RowR w' e ao cap0 vs := by
  subst hn
  subst hby
  have hnl : news.length = m := by have := hs.newsLen; omega
  have hlen : (vs ++ news).length = vs.length + m := by rw [List.length_append, hnl]
  have hone : ∀ v ∈ vs ++ news, v.oneCell' = true := fun v hv => (List.mem_append.1 hv).elim (hr.one v) (hs.one v)
  have hsrc : Src P i.size tx x m news w := by rw [hsize]; exact hs
  have grown : ∀ (old : Nat), old < vs.length + m → ∀ (row : Option Nat),
      RowR (w.drew.alloc (.cells ((vs ++ news).toArray ++ Builtin.zeroCells z.cells (grownCap w (vs.length + m) old e - (vs.length + m))) e)) e (some ⟨w.heap.size, 0, none⟩) (grownCap w (vs.length + m) old e) (vs ++ news) ∧
      w.grownBy (w.drew.alloc (.cells ((vs ++ news).toArray ++ Builtin.zeroCells z.cells (grownCap w (vs.length + m) old e - (vs.length + m))) e)) row := by
    intro old ho row
    have hge := grownCap_ge w (vs.length + m) old e
    have hcm : grownCap w (vs.length + m) old e ≤ maxLen := grownCap_le_maxLen w (vs.length + m) old e h63
    refine ⟨⟨by omega, hcm, hone, .inr ⟨w.heap.size, 0, _, rfl, heap_alloc_new w.drew _, ?_, fun j v hj => ?_⟩⟩, ⟨rfl, rfl, rfl, by simp, fun k hk _ => Below.heap_alloc w.drew _ k hk⟩⟩
    · simp only [Array.size_append, List.size_toArray, size_zeroCells, hzs, hlen]
      omega
    · have hjl := (List.getElem?_eq_some_iff.1 hj).1
      rw [Nat.zero_add, Array.getElem?_append_left (by simpa using hjl)]
      simpa using hj
  have whole : ∀ (hroomN : ¬ vs.length + m ≤ cap0) (hold : (Builtin.firstCells i.size vs.length (.slice ao vs.length cap0)).run P w.drew = .ok vs.toArray w.drew),
      ∃ ao' cap' w', (Builtin.append_ #[t, tx] ty #[.slice ao vs.length cap0, x]).run P w = .ok (.slice ao' (vs.length + m) cap') w' ∧ RowR w' e ao' cap' (vs ++ news) ∧ w.grownBy w' (blockOf ao) ∧ Moved w.heap.size ao ao' ∧ RowR w' e ao cap0 vs := by
    intro hroomN hold
    have hrr := run_append_grow_src (P := P) w t tx ty e i z ht hi hz ao vs.length cap0 vs hold x m news hsrc (by omega) (by simp only [maxLen] at h63; omega) (growslice_fits (by omega) hbytes)
    have hgr := grown cap0 (by omega) (blockOf ao)
    exact ⟨_, _, _, hrr, hgr.1, hgr.2, .inr ⟨w.heap.size, rfl, Nat.le_refl _⟩, hr.keepsN ((Keeps.refl Nothing w).drew.alloc _)⟩
  have hle := hr.le
  rcases hr.at' with ⟨rfl, rfl, rfl⟩ | ⟨g, o, cur, rfl, hg, hcs, hc⟩
  · by_cases hm : m = 0
    · subst hm
      have hn : news = [] := List.eq_nil_of_length_eq_zero hnl
      subst hn
      refine ⟨none, 0, w, ?_, rowR_nil w e, ⟨rfl, rfl, rfl, Nat.le_refl _, fun _ _ _ => rfl⟩, .inl rfl, rowR_nil w e⟩
      rcases hs.kind with ⟨e', hk⟩ | hk <;> simp [Builtin.append_, run_underlying ht, run_underlying hk, sizeOf, typeInfo, hi, hsrc.len, hsrc.cells]
    · exact whole (by simp; omega) (run_firstCells_none w.drew i.size 0 0 0)
  · by_cases hroom : vs.length + m ≤ cap0
    · have hst := run_storeCells_at P g (o + vs.length) e news 0 cur w hg (by rw [hnl]; omega) hs.one
      simp only [Nat.add_zero, List.append_assoc] at hst
      have hrun : (Builtin.append_ #[t, tx] ty #[.slice (some ⟨g, o, none⟩) vs.length cap0, x]).run P w =
          .ok (.slice (some ⟨g, o, none⟩) (vs.length + m) cap0) (w.setRow g (cur.toList.take (o + vs.length) ++ news ++ cur.toList.drop (o + vs.length + news.length)).toArray) := by
        rcases hs.kind with ⟨e', hk⟩ | hk <;> simp [Builtin.append_, run_underlying ht, run_underlying hk, sizeOf, typeInfo, hi, hs.len, hroom, hs.cells, Addr.add_lit, hst, hsize]
      have htl : (cur.toList.take (o + vs.length)).length = o + vs.length := by have h9 : cur.toList.length = cur.size := Array.length_toList; rw [List.length_take]; omega
      have hnew : RowR (w.setRow g (cur.toList.take (o + vs.length) ++ news ++ cur.toList.drop (o + vs.length + news.length)).toArray) e (some ⟨g, o, none⟩) cap0 (vs ++ news) := by
        refine ⟨by omega, hr.max, hone, .inr ⟨g, o, _, rfl, setRow_heap w g cur _ e _ hg, ?_, fun j v hj => ?_⟩⟩
        · simp only [List.size_toArray, List.length_append, List.length_take, List.length_drop, Array.length_toList]
          omega
        · rw [List.getElem?_toArray, List.append_assoc]
          by_cases hjl : j < vs.length
          · rw [List.getElem?_append_left hjl] at hj
            rw [List.getElem?_append_left (by omega), List.getElem?_take_of_lt (by omega), Array.getElem?_toList]
            exact hc j v hj
          · rw [List.getElem?_append_right (by omega)] at hj
            have hjn := (List.getElem?_eq_some_iff.1 hj).1
            rw [List.getElem?_append_right (by omega), htl, List.getElem?_append_left (by omega), show o + j - (o + vs.length) = j - vs.length by omega]
            exact hj
      refine ⟨_, _, _, hrun, hnew, ⟨rfl, rfl, rfl, by simp, fun k _ hk => setRow_other w g k _ (fun e => hk (by simp [blockOf, e]))⟩, .inl rfl, ?_⟩
      have := hnew.take vs.length
      rwa [List.take_left] at this
    · refine whole hroom (run_firstCells_some (P := P) w.drew i.size vs.length ⟨g, o, none⟩ vs.length cap0 vs (by rw [hsize, Nat.mul_one]) fun j v hj => ?_)
      rw [ad_mid]
      exact hr.cell hj

/-- The walk's law. -/
theorem wpList_append_row {ops : Array Oper} {rest : List Oper} {o : Oper} {a : Act} {Q : Exit → Act → World → Prop} (hgd : o.guard = none) (s x : Operand) (t tx : TypeId)
    (ho : o.op = .call { callee := .builtin .append, args := #[s, x], argTypes := #[t, tx] })
    (e : TypeId) (i : TypeInfo) (z : Value) (bytes : Nat) (ht : P.underlying t = some (.slice e)) (hi : P.info? e = some i) (hz : i.zero = some z)
    (hsize : i.size = 1) (hby : i.bytes = bytes) (hzs : z.cells.size = 1)
    (ao : Option Addr) (n cap : Nat) (vs : List Value) (hn : vs.length = n) (hsv : a.eval s = .slice ao n cap) (hr : RowR w e ao cap vs)
    (xv : Value) (m : Nat) (news : List Value) (hx : a.eval x = xv) (hs : Src P 1 tx xv m news w)
    (h63 : n + m ≤ maxLen) (hbytes : (n + m) * bytes ≤ 140737488355328)
    (h : ∀ ao' cap' w', RowR w' e ao' cap' (vs ++ news) → RowR w' e ao cap vs → Keeps (fun k => blockOf ao = some k) w w' → Moved w.heap.size ao ao' → wpList P ops Q rest (a.put o.dst (.slice ao' (n + m) cap')) w') : wpList P ops Q (o :: rest) a w := by
  refine wpList_plain hgd fun K hK => ?_
  obtain ⟨ao', cap', w', hrr, h2, h3, h4, h5⟩ := run_append_row (P := P) w t tx o.type e i z bytes ht hi hz hsize hby hzs ao n cap vs hn hr xv m news hs h63 hbytes
  unfold Oper.wp execOp
  simp only [ho, resolve, invoke, builtin, Sem.run_bind, Sem.run_pure, Result.andThen_ok, List.map_toArray, List.map_cons, List.map_nil, hsv, hx, hrr]
  exact hK _ _ (h ao' cap' w' h2 h5 ((Keeps.refl _ _).grown h3 (fun k hk _ => hk)) h4)
/-- append where there is room: in place. -/
theorem run_append_here (t tx ty e : TypeId) (i : TypeInfo) (ht : P.underlying t = some (.slice e)) (hi : P.info? e = some i)
    (hsize : i.size = 1) (g o n cap : Nat) (vs : List Value) (hn : vs.length = n) (hr : RowR w e (some ⟨g, o, none⟩) cap vs) (x : Value) (m : Nat) (news : List Value) (hs : Src P 1 tx x m news w) (hroom : n + m ≤ cap) :
    ∃ w', (Builtin.append_ #[t, tx] ty #[.slice (some ⟨g, o, none⟩) n cap, x]).run P w = .ok (.slice (some ⟨g, o, none⟩) (n + m) cap) w' ∧ RowR w' e (some ⟨g, o, none⟩) cap (vs ++ news) ∧ Keeps (fun k => k = g) w w' := by
  subst hn
  have hnl : news.length = m := by have := hs.newsLen; omega
  have hlen : (vs ++ news).length = vs.length + m := by rw [List.length_append, hnl]
  have hone : ∀ v ∈ vs ++ news, v.oneCell' = true := fun v hv => (List.mem_append.1 hv).elim (hr.one v) (hs.one v)
  have hle := hr.le
  rcases hr.at' with ⟨h2, _⟩ | ⟨g', o', cur, hv, hg, hcs, hc⟩
  · cases h2
  · simp only [Option.some.injEq, Addr.mk.injEq] at hv
    obtain ⟨rfl, rfl, _⟩ := hv
    have hst := run_storeCells_at P g (o + vs.length) e news 0 cur w hg (by rw [hnl]; omega) hs.one
    simp only [Nat.add_zero, List.append_assoc] at hst
    have hrun : (Builtin.append_ #[t, tx] ty #[.slice (some ⟨g, o, none⟩) vs.length cap, x]).run P w =
        .ok (.slice (some ⟨g, o, none⟩) (vs.length + m) cap) (w.setRow g (cur.toList.take (o + vs.length) ++ news ++ cur.toList.drop (o + vs.length + news.length)).toArray) := by
      rcases hs.kind with ⟨e', hk⟩ | hk <;> simp [Builtin.append_, run_underlying ht, run_underlying hk, sizeOf, typeInfo, hi, hs.len, hroom, hs.cells, Addr.add_lit, hst, hsize]
    have htl : (cur.toList.take (o + vs.length)).length = o + vs.length := by have h9 : cur.toList.length = cur.size := Array.length_toList; rw [List.length_take]; omega
    refine ⟨_, hrun, ⟨by omega, hr.max, hone, .inr ⟨g, o, _, rfl, setRow_heap w g cur _ e _ hg, ?_, fun j v hj => ?_⟩⟩, (Keeps.refl (fun k => k = g) w).setRow (fun _ => rfl) _⟩
    · simp only [List.size_toArray, List.length_append, List.length_take, List.length_drop, Array.length_toList]
      omega
    · rw [List.getElem?_toArray, List.append_assoc]
      by_cases hjl : j < vs.length
      · rw [List.getElem?_append_left hjl] at hj
        rw [List.getElem?_append_left (by omega), List.getElem?_take_of_lt (by omega), Array.getElem?_toList]
        exact hc j v hj
      · rw [List.getElem?_append_right (by omega)] at hj
        have hjn := (List.getElem?_eq_some_iff.1 hj).1
        rw [List.getElem?_append_right (by omega), htl, List.getElem?_append_left (by omega), show o + j - (o + vs.length) = j - vs.length by omega]
        exact hj
theorem wpList_append_here {ops : Array Oper} {rest : List Oper} {o : Oper} {a : Act} {Q : Exit → Act → World → Prop} (hgd : o.guard = none) (s x : Operand) (t tx : TypeId)
    (ho : o.op = .call { callee := .builtin .append, args := #[s, x], argTypes := #[t, tx] })
    (e : TypeId) (i : TypeInfo) (ht : P.underlying t = some (.slice e)) (hi : P.info? e = some i)
    (hsize : i.size = 1) (g oo n cap : Nat) (vs : List Value) (hn : vs.length = n) (hsv : a.eval s = .slice (some ⟨g, oo, none⟩) n cap) (hr : RowR w e (some ⟨g, oo, none⟩) cap vs)
    (xv : Value) (m : Nat) (news : List Value) (hx : a.eval x = xv) (hs : Src P 1 tx xv m news w) (hroom : n + m ≤ cap)
    (h : ∀ w', RowR w' e (some ⟨g, oo, none⟩) cap (vs ++ news) → Keeps (fun k => k = g) w w' → wpList P ops Q rest (a.put o.dst (.slice (some ⟨g, oo, none⟩) (n + m) cap)) w') : wpList P ops Q (o :: rest) a w := by
  refine wpList_plain hgd fun K hK => ?_
  obtain ⟨w', hrr, h2, h3⟩ := run_append_here (P := P) w t tx o.type e i ht hi hsize g oo n cap vs hn hr xv m news hs hroom
  unfold Oper.wp execOp
  simp only [ho, resolve, invoke, builtin, Sem.run_bind, Sem.run_pure, Result.andThen_ok, List.map_toArray, List.map_cons, List.map_nil, hsv, hx, hrr]
  exact hK _ _ (h w' h2 h3)
end

/-- A cell behind it stored to. -/
theorem RowR.setFar {w : World} {e : TypeId} {g o : Nat} {cap : Nat} {vs : List Value} (h : RowR w e (some ⟨g, o, none⟩) cap vs) (k : Nat) (hk : vs.length ≤ k) (u : Value) : RowR (w.setCell ⟨g, o + k, none⟩ u) e (some ⟨g, o, none⟩) cap vs := by
  refine ⟨h.le, h.max, h.one, ?_⟩
  rcases h.at' with ⟨h2, _⟩ | ⟨g', o', cur, hv, hb, hs, hc⟩
  · cases h2
  · simp only [Option.some.injEq, Addr.mk.injEq] at hv
    obtain ⟨rfl, rfl, _⟩ := hv
    refine .inr ⟨g, o, _, rfl, blk_set hb (o + k) u, by simpa using hs, fun j v hj => ?_⟩
    have := (List.getElem?_eq_some_iff.1 hj).1
    rw [Array.getElem?_setIfInBounds, if_neg (by omega)]
    exact hc j v hj
/-- Each of its cells is there. -/
theorem RowR.room {w : World} {e : TypeId} {g o : Nat} {cap : Nat} {vs : List Value} (h : RowR w e (some ⟨g, o, none⟩) cap vs) {k : Nat} (hk : k < cap) : ∃ v, w.cell? ⟨g, o + k, none⟩ = some v := by
  rcases h.at' with ⟨h2, _⟩ | ⟨g', o', cur, hv, hb, hs, hc⟩
  · cases h2
  · simp only [Option.some.injEq, Addr.mk.injEq] at hv
    obtain ⟨rfl, rfl, _⟩ := hv
    exact ⟨cur[o + k]'(by omega), blk_cell hb (o + k) (Array.getElem?_eq_getElem (by omega))⟩

end Go.Proofs.Ytjbcagbnagefcaa
