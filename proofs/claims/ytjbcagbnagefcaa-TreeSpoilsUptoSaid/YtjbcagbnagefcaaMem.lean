/- Plain words on memory, over no program: what a call keeps, blocks known whole, owned rows of bytes. -/
import Derived.WalkKit
import Derived.Deep.Draws
import Derived.Deep.AppendSrc
import Derived.Deep.RegionLaw
namespace Go.Proofs.Ytjbcagbnagefcaa
open Go.RowKit

/-- w' is w with new blocks, and with writes to blocks in S alone. -/
structure Keeps (S : Nat → Prop) (w w' : World) : Prop where
  os : w'.os = w.os
  tape : w'.tape = w.tape
  output : w'.output = w.output
  size : w.heap.size ≤ w'.heap.size
  block : ∀ k, k < w.heap.size → ¬ S k → w'.heap[k]? = w.heap[k]?

/-- A fact put away: no tactic opens it. -/
structure Shut (p : Prop) : Prop where
  out : p
theorem shut {p : Prop} (h : p) : Shut p := ⟨h⟩

abbrev Nothing : Nat → Prop := fun _ => False

theorem Keeps.refl (S : Nat → Prop) (w : World) : Keeps S w w := ⟨rfl, rfl, rfl, Nat.le_refl _, fun _ _ _ => rfl⟩

theorem Keeps.trans {S S' : Nat → Prop} {a b c : World} (h : Keeps S a b) (k : Keeps S' b c) (hS : ∀ i, S' i → i < a.heap.size → S i) : Keeps S a c :=
  ⟨k.os.trans h.os, k.tape.trans h.tape, k.output.trans h.output, Nat.le_trans h.size k.size,
    fun i hi hn => (k.block i (Nat.lt_of_lt_of_le hi h.size) (fun hs => hn (hS i hs hi))).trans (h.block i hi hn)⟩

theorem Keeps.mono {S S' : Nat → Prop} {a b : World} (h : Keeps S a b) (hS : ∀ i, S i → i < a.heap.size → S' i) : Keeps S' a b :=
  ⟨h.os, h.tape, h.output, h.size, fun i hi hn => h.block i hi (fun hs => hn (hS i hs hi))⟩

theorem Keeps.drewN {S : Nat → Prop} {a b : World} (h : Keeps S a b) (n : Nat) : Keeps S a (b.drewN n) := ⟨h.os, h.tape, h.output, h.size, h.block⟩
theorem Keeps.drew {S : Nat → Prop} {a b : World} (h : Keeps S a b) : Keeps S a b.drew := ⟨h.os, h.tape, h.output, h.size, h.block⟩

theorem Keeps.alloc {S : Nat → Prop} {a b : World} (h : Keeps S a b) (o : Obj) : Keeps S a (b.alloc o) :=
  ⟨h.os, h.tape, h.output, by have := h.size; simp; omega, fun i hi hn => (Below.heap_alloc b o i (by have := h.size; omega)).trans (h.block i hi hn)⟩

theorem Keeps.setCell {S : Nat → Prop} {a b : World} (h : Keeps S a b) {p : Addr} (hp : p.block < a.heap.size → S p.block) (u : Value) : Keeps S a (b.setCell p u) :=
  ⟨h.os, h.tape, h.output, by have := h.size; simp; omega,
    fun i hi hn => (Below.heap_setCell b p u i (fun e => by subst e; exact hn (hp hi))).trans (h.block i hi hn)⟩

theorem Keeps.grown {S : Nat → Prop} {a b c : World} {row : Option Nat} (h : Keeps S a b) (hg : b.grownBy c row) (hr : ∀ k, row = some k → k < a.heap.size → S k) : Keeps S a c :=
  ⟨hg.os.trans h.os, hg.tape.trans h.tape, hg.output.trans h.output, Nat.le_trans h.size hg.size,
    fun i hi hn => (hg.block i (Nat.lt_of_lt_of_le hi h.size) (fun e => hn (hr i e.symm hi))).trans (h.block i hi hn)⟩

theorem Keeps.of_below {a b : World} (h : Below a.heap.size a b) : Keeps Nothing a b := ⟨h.os, h.tape, h.output, h.size, fun i hi _ => h.block i hi⟩

theorem Keeps.below {S : Nat → Prop} {a b : World} (h : Keeps S a b) {B : Nat} (hB : B ≤ a.heap.size) (hS : ∀ i, S i → B ≤ i) : Below B a b :=
  ⟨h.os, h.tape, h.output, h.size, fun i hi => h.block i (Nat.lt_of_lt_of_le hi hB) (fun hs => by have := hS i hs; omega)⟩

theorem Keeps.blk {S : Nat → Prop} {a b : World} (h : Keeps S a b) {k : Nat} {o : Obj} (hk : a.heap[k]? = some o) (hn : ¬ S k) : b.heap[k]? = some o :=
  (h.block k (lt_of_block hk) hn).trans hk

theorem Keeps.cell {S : Nat → Prop} {a b : World} (h : Keeps S a b) {p : Addr} {v : Value} (hp : a.cell? p = some v) (hn : ¬ S p.block) : b.cell? p = some v :=
  (World.cell?_of_block (h.block p.block (World.block_lt_of_cell? a p hp) hn)).trans hp

theorem Keeps.own {S : Nat → Prop} {a b : World} (h : Keeps S a b) {base : Nat} {e : TypeId} {size : Nat} {v : Value} {n : Nat} {xs : List Value} (ho : a.ownsRow base e size v n xs)
    (hn : ∀ k, v.ownBlock = some k → ¬ S k) : b.ownsRow base e size v n xs := by
  refine ⟨ho.1, ?_⟩
  rcases ho.2 with h2 | ⟨g, cap, cur, rfl, hg, hh, r⟩
  · exact Or.inl h2
  · exact Or.inr ⟨g, cap, cur, rfl, hg, h.blk hh (hn g rfl), r⟩

/-- A block known whole, not frozen. -/
abbrev Blk (w : World) (p : Nat) (cs : Array Value) (t : TypeId) : Prop := w.heap[p]? = some (.cells cs t (0, 0))

theorem blk_cell {w : World} {p : Nat} {cs : Array Value} {t : TypeId} (h : Blk w p cs t) (i : Nat) {v : Value} (hi : cs[i]? = some v) : w.cell? ⟨p, i, none⟩ = some v := by
  simp [World.cell?, h, hi]
theorem blk_free {w : World} {p : Nat} {cs : Array Value} {t : TypeId} (h : Blk w p cs t) (i : Nat) : w.frozen? ⟨p, i, none⟩ = false := by
  simp [World.frozen?, h]
theorem blk_set {w : World} {p : Nat} {cs : Array Value} {t : TypeId} (h : Blk w p cs t) (i : Nat) (u : Value) : Blk (w.setCell ⟨p, i, none⟩ u) p (cs.setIfInBounds i u) t := by
  have hlt := lt_of_block h
  have h' : w.heap[p] = .cells cs t (0, 0) := by
    have := h
    unfold Blk at this
    rw [Array.getElem?_eq_getElem hlt] at this
    exact Option.some.inj this
  show (w.heap.modify p _)[p]? = _
  rw [Array.getElem?_eq_getElem (by simpa using hlt), Array.getElem_modify_self, h']
  rfl
theorem blk_new (w : World) (cs : Array Value) (t : TypeId) : Blk (w.alloc (.cells cs t)) w.heap.size cs t := heap_alloc_new w _
theorem blk_alloc {w : World} {p : Nat} {cs : Array Value} {t : TypeId} (h : Blk w p cs t) (o : Obj) : Blk (w.alloc o) p cs t :=
  (Below.heap_alloc w o p (lt_of_block h)).trans h
theorem blk_other {w : World} {p : Nat} {cs : Array Value} {t : TypeId} (h : Blk w p cs t) (a : Addr) (ha : p ≠ a.block) (u : Value) : Blk (w.setCell a u) p cs t :=
  (Below.heap_setCell w a u p ha).trans h

/-- A byte as a value. -/
def byteV (b : UInt8) : Value := .int .u8 (b.toNat : Int)
theorem byteV_nat {y : Nat} (h : y < 256) : Value.int .u8 (y : Int) = byteV (UInt8.ofNat y) := by
  unfold byteV
  rw [UInt8.toNat_ofNat_of_lt' (show y < UInt8.size from h)]
theorem byteV_one (bs : List UInt8) : ∀ u ∈ bs.map byteV, u.oneCell' = true := by
  intro u hu; obtain ⟨_, _, rfl⟩ := List.mem_map.1 hu; rfl

/-- Which block a slice's address names. -/
def blockOf (ao : Option Addr) : Option Nat := ao.map (·.block)

/-- The slice (ao, bs.length, cap) holds the bytes bs in a row of its own. -/
abbrev Own8 (w : World) (e : TypeId) (ao : Option Addr) (cap : Nat) (bs : List UInt8) : Prop := w.ownsRow 0 e 1 (.slice ao bs.length cap) bs.length (bs.map byteV)

theorem ownBlock_eq (ao : Option Addr) (n c : Nat) : (Value.slice ao n c).ownBlock = blockOf ao := by cases ao <;> rfl

/-- What lay at ao lies there still, or in a block that is new since B. -/
def Moved (B : Nat) (ao ao' : Option Addr) : Prop := blockOf ao' = blockOf ao ∨ ∃ g, blockOf ao' = some g ∧ B ≤ g

theorem Moved.refl (B : Nat) (v : Option Addr) : Moved B v v := .inl rfl
theorem Moved.trans {B B' : Nat} {a b c : Option Addr} (h : Moved B a b) (k : Moved B' b c) (hB : B ≤ B') : Moved B a c := by
  rcases k with k | ⟨g, k, hg⟩
  · rcases h with h | ⟨g, h, hg⟩
    · exact .inl (k.trans h)
    · exact .inr ⟨g, k.trans h, hg⟩
  · exact .inr ⟨g, k, Nat.le_trans hB hg⟩
theorem Moved.mono {B B' : Nat} {a b : Option Addr} (h : Moved B' a b) (hB : B ≤ B') : Moved B a b := by
  rcases h with h | ⟨g, h, hg⟩
  · exact .inl h
  · exact .inr ⟨g, h, Nat.le_trans hB hg⟩

theorem own_lt {w : World} {base : Nat} {e : TypeId} {size : Nat} {v : Value} {n : Nat} {xs : List Value} (ho : w.ownsRow base e size v n xs) {k : Nat} (hk : v.ownBlock = some k) : k < w.heap.size := (ho.lt k hk).2

/-- An owned row's block has the row's element type: it is no block of another one. -/
theorem own_ne {w : World} {base : Nat} {e : TypeId} {size : Nat} {v : Value} {n : Nat} {xs : List Value} (ho : w.ownsRow base e size v n xs) {p : Nat} {cs : Array Value} {t : TypeId} (hp : Blk w p cs t) (hne : e ≠ t) : v.ownBlock ≠ some p := by
  intro hk
  rcases ho.2 with ⟨rfl, _⟩ | ⟨g, cap, cur, rfl, hg, hh, r⟩
  · simp [Value.ownBlock] at hk
  · simp [Value.ownBlock] at hk
    subst hk
    have := hp.symm.trans hh
    simp at this
    exact hne this.2.symm

/-- Behind an append's law: where the row stands. -/
theorem ownBlock_slice {a : Addr} {l c : Nat} : (Value.slice (some a) l c).ownBlock = some a.block := rfl
theorem ownBlock_nil {l c : Nat} : (Value.slice none l c).ownBlock = none := rfl

theorem own8_head {w : World} {e : TypeId} {ao : Option Addr} {cap : Nat} {bs : List UInt8} (h : Own8 w e ao cap bs) (hne : bs ≠ []) : ∃ g, ao = some ⟨g, 0, none⟩ := by
  rcases h.2 with ⟨_, hn⟩ | ⟨g, cap', cur, hv, _⟩
  · exact absurd (List.eq_nil_of_length_eq_zero hn) hne
  · simp only [Value.slice.injEq] at hv
    exact ⟨g, hv.1⟩

theorem own8_cell {w : World} {e : TypeId} {g : Nat} {cap : Nat} {bs : List UInt8} (h : Own8 w e (some ⟨g, 0, none⟩) cap bs) {j : Nat} {c : UInt8} (hj : bs[j]? = some c) :
    w.cell? ⟨g, j, none⟩ = some (.int .u8 (c.toNat : Int)) := by
  have := World.ownsRow.cells h (g := g) rfl j (byteV c) (by simp [hj])
  rwa [Addr.add_lit, Nat.zero_add] at this

/-! ### a whole array out of a block, into a block -/
section
variable {P : Program}

theorem run_loadAt_blk (ty e : TypeId) (n : Nat) (hu : P.underlying ty = some (.array n e)) (hi : (P.info? ty).map (·.size) = some n) (w : World) (g : Nat) (cs : Array Value) (t : TypeId) (hg : w.heap[g]? = some (.cells cs t (0, 0))) (hs : cs.size = n) :
    (Instr.loadAt ty (.pointer (some ⟨g, 0, none⟩))).run P w = .ok (.agg cs) w := by
  simp only [Instr.loadAt, Instr.sureAddr, Sem.run_bind, Sem.run_pure, Result.andThen]
  exact run_loadVar_row w g t ty cs (0, 0) _ hg hu rfl (by rw [hi, hs])

theorem run_storeAt_blk (ty : TypeId) (n : Nat) (hi : (P.info? ty).map (·.size) = some n) (w : World) (g : Nat) (cs old : Array Value) (t : TypeId) (hg : w.heap[g]? = some (.cells old t (0, 0))) (ho : old.size = n) (hs : cs.size = n) (h1 : cs.all (·.oneCell') = true) :
    (Instr.storeAt ty (.pointer (some ⟨g, 0, none⟩)) (.agg cs)).run P w = .ok () (w.setRow g cs) := by
  simp only [Instr.storeAt, Instr.sureAddr, Sem.run_bind, Sem.run_pure, Result.andThen]
  exact run_storeVar_row w g t ty old cs hg (by rw [hi, hs]) (by omega) h1

theorem blk_setRow {w : World} {g : Nat} {cur cs : Array Value} {t : TypeId} (h : Blk w g cur t) : Blk (w.setRow g cs) g cs t := setRow_heap w g cur cs t _ h
theorem blk_setRow_other {w : World} {g p : Nat} {cs cs' : Array Value} {t : TypeId} (h : Blk w p cs t) (hn : p ≠ g) : Blk (w.setRow g cs') p cs t := (setRow_other w g p cs' hn).trans h
theorem Keeps.setRow {S : Nat → Prop} {a b : World} (h : Keeps S a b) {g : Nat} (hg : g < a.heap.size → S g) (cs : Array Value) : Keeps S a (b.setRow g cs) :=
  ⟨h.os, h.tape, h.output, by have := h.size; simp; omega, fun i hi hn => (setRow_other b g i cs (fun e => by subst e; exact hn (hg hi))).trans (h.block i hi hn)⟩
theorem bytes_all (h : List UInt8) : (h.map byteV).toArray.all (·.oneCell') = true := by
  rw [List.all_toArray, List.all_eq_true]
  exact byteV_one h
end

/-! ### append onto an owned row, from whatever source -/
section
variable {P : Program} (w : World)

theorem run_append_src (t tx ty e : TypeId) (i : TypeInfo) (z : Value) (size bytes : Nat) (ht : P.underlying t = some (.slice e)) (hi : P.info? e = some i) (hz : i.zero = some z)
    (hsize : i.size = size) (hby : i.bytes = bytes) (hzs : z.cells.size = size)
    (ao : Option Addr) (n cap0 : Nat) (xs : List Value) (hown : w.ownsRow 0 e size (.slice ao n cap0) n xs) (x : Value) (m : Nat) (news : List Value) (hs : Src P size tx x m news w)
    (h63 : n + m ≤ maxLen) (hbytes : (n + m) * bytes ≤ 140737488355328) :
    ∃ ao' cap' w', (Builtin.append_ #[t, tx] ty #[.slice ao n cap0, x]).run P w = .ok (.slice ao' (n + m) cap') w' ∧ w'.ownsRow 0 e size (.slice ao' (n + m) cap') (n + m) (xs ++ news) ∧ w.grownBy w' (blockOf ao) ∧ Moved w.heap.size ao ao' := by
  subst hsize
  subst hby
  have hlen : (xs ++ news).length = (n + m) * i.size := by rw [List.length_append, hown.1, hs.newsLen, Nat.add_mul]
  have grown : ∀ (old : Nat), old < n + m → ∀ (row : Option Nat),
      (w.drew.alloc (.cells ((xs ++ news).toArray ++ Builtin.zeroCells z.cells (grownCap w (n + m) old e - (n + m))) e)).ownsRow 0 e i.size
        (.slice (some ⟨w.heap.size, 0, none⟩) (n + m) (grownCap w (n + m) old e)) (n + m) (xs ++ news) ∧
      w.grownBy (w.drew.alloc (.cells ((xs ++ news).toArray ++ Builtin.zeroCells z.cells (grownCap w (n + m) old e - (n + m))) e)) row := by
    intro old ho row
    have hge := grownCap_ge w (n + m) old e
    have hcm : grownCap w (n + m) old e ≤ maxLen := grownCap_le_maxLen w (n + m) old e h63
    refine ⟨⟨hlen, .inr ⟨w.heap.size, _, _, rfl, Nat.zero_le _, heap_alloc_new w.drew _, hge, hcm, ?_, ?_⟩⟩, ⟨rfl, rfl, rfl, by simp, fun k hk _ => Below.heap_alloc w.drew _ k hk⟩⟩
    · simp only [Array.size_append, List.size_toArray, size_zeroCells, hzs, hlen, ← Nat.add_mul]
      congr 1
      omega
    · simp only [Array.toList_append]
      rw [← hlen]
      exact List.take_left
  rcases hown.2 with ⟨hv, rfl⟩ | ⟨g, cap, cur, hv, hbg, hg, hnc, hcm, hcs, htake⟩
  · simp only [Value.slice.injEq] at hv
    obtain ⟨rfl, _, rfl⟩ := hv
    have hx : xs = [] := List.eq_nil_of_length_eq_zero (by simpa using hown.1)
    subst hx
    by_cases hm : m = 0
    · subst hm
      have hn : news = [] := List.eq_nil_of_length_eq_zero (by simpa using hs.newsLen)
      subst hn
      refine ⟨none, 0, w, ?_, World.ownsRow_nil w 0 e i.size, ⟨rfl, rfl, rfl, Nat.le_refl _, fun _ _ _ => rfl⟩, .inl rfl⟩
      rcases hs.kind with ⟨e', hk⟩ | hk <;> simp [Builtin.append_, run_underlying ht, run_underlying hk, sizeOf, typeInfo, hi, hs.len, hs.cells]
    · have hold : (Builtin.firstCells i.size 0 (.slice none 0 0)).run P w.drew = .ok ([] : List Value).toArray w.drew := run_firstCells_none w.drew i.size 0 0 0
      have hr := run_append_grow_src (P := P) w t tx ty e i z ht hi hz none 0 0 [] hold x m news hs (by omega) (by simp only [maxLen] at h63; omega) (growslice_fits (by omega) (by simpa using hbytes))
      have hgr := grown 0 (by omega) (blockOf none)
      simp only [Nat.zero_add] at hr hgr ⊢
      exact ⟨_, _, _, hr, hgr.1, hgr.2, .inr ⟨w.heap.size, rfl, Nat.le_refl _⟩⟩
  · simp only [Value.slice.injEq] at hv
    obtain ⟨rfl, _, rfl⟩ := hv
    by_cases hroom : n + m ≤ cap0
    · have hfit : n * i.size + news.length ≤ cur.size := by rw [hs.newsLen, hcs, ← Nat.add_mul]; exact Nat.mul_le_mul_right _ hroom
      have hst := run_storeCells_at P g (n * i.size) e news 0 cur w hg (by simpa using hfit) hs.one
      simp only [Nat.add_zero] at hst
      have hr : (Builtin.append_ #[t, tx] ty #[.slice (some ⟨g, 0, none⟩) n cap0, x]).run P w =
          .ok (.slice (some ⟨g, 0, none⟩) (n + m) cap0) (w.setRow g (cur.toList.take (n * i.size) ++ news ++ cur.toList.drop (n * i.size + news.length)).toArray) := by
        rcases hs.kind with ⟨e', hk⟩ | hk <;> simp [Builtin.append_, run_underlying ht, run_underlying hk, sizeOf, typeInfo, hi, hs.len, hroom, hs.cells, Addr.add_lit, hst]
      refine ⟨_, _, _, hr, ⟨hlen, .inr ⟨g, cap0, _, rfl, hbg, setRow_heap w g cur _ e _ hg, hroom, hcm, ?_, ?_⟩⟩, ⟨rfl, rfl, rfl, by simp, fun k _ hk => setRow_other w g k _ (fun e => hk (by simp [blockOf, e]))⟩, .inl rfl⟩
      · simp only [List.size_toArray, List.length_append, List.length_take, List.length_drop, Array.length_toList]
        omega
      · rw [htake, ← hlen]
        exact List.take_left
    · have holds : ∀ j u, xs[j]? = some u → w.drew.cell? ((⟨g, 0, none⟩ : Addr).add j) = some u := hown.cells (g := g) rfl
      have hold := run_firstCells_some (P := P) w.drew i.size n ⟨g, 0, none⟩ n cap0 xs hown.1 holds
      have hr := run_append_grow_src (P := P) w t tx ty e i z ht hi hz (some ⟨g, 0, none⟩) n cap0 xs hold x m news hs (by omega) (by simp only [maxLen] at h63; omega) (growslice_fits (by omega) hbytes)
      have hgr := grown cap0 (by omega) (blockOf (some ⟨g, 0, none⟩))
      exact ⟨_, _, _, hr, hgr.1, hgr.2, .inr ⟨w.heap.size, rfl, Nat.le_refl _⟩⟩

/-- The walk's law: append onto an owned row. -/
theorem wpList_append_src {ops : Array Oper} {rest : List Oper} {o : Oper} {a : Act} {Q : Exit → Act → World → Prop} (hgd : o.guard = none) (s x : Operand) (t tx : TypeId)
    (ho : o.op = .call { callee := .builtin .append, args := #[s, x], argTypes := #[t, tx] })
    (e : TypeId) (i : TypeInfo) (z : Value) (size bytes : Nat) (ht : P.underlying t = some (.slice e)) (hi : P.info? e = some i) (hz : i.zero = some z)
    (hsize : i.size = size) (hby : i.bytes = bytes) (hzs : z.cells.size = size)
    (ao : Option Addr) (n cap : Nat) (xs : List Value) (hsv : a.eval s = .slice ao n cap) (hown : w.ownsRow 0 e size (.slice ao n cap) n xs)
    (xv : Value) (m : Nat) (news : List Value) (hx : a.eval x = xv) (hs : Src P size tx xv m news w)
    (h63 : n + m ≤ maxLen) (hbytes : (n + m) * bytes ≤ 140737488355328)
    (h : ∀ ao' cap' w', w'.ownsRow 0 e size (.slice ao' (n + m) cap') (n + m) (xs ++ news) → w.grownBy w' (blockOf ao) → Moved w.heap.size ao ao' → wpList P ops Q rest (a.put o.dst (.slice ao' (n + m) cap')) w') : wpList P ops Q (o :: rest) a w := by
  refine wpList_plain hgd fun K hK => ?_
  obtain ⟨ao', cap', w', hr, h2, h3, h4⟩ := run_append_src (P := P) w t tx o.type e i z size bytes ht hi hz hsize hby hzs ao n cap xs hown xv m news hs h63 hbytes
  unfold Oper.wp execOp
  simp only [ho, resolve, invoke, builtin, Sem.run_bind, Sem.run_pure, Result.andThen_ok, List.map_toArray, List.map_cons, List.map_nil, hsv, hx, hr]
  exact hK _ _ (h ao' cap' w' h2 h3 h4)

/-- The same as one step of a region that draws its order. -/
theorem step_append_src {ops : Array Oper} {o : Oper} {a : Act} {K : Act → World → Prop} {Q : Exit → Act → World → Prop} {E : Prop} (hgd : o.guard = none) (s x : Operand) (t tx : TypeId)
    (ho : o.op = .call { callee := .builtin .append, args := #[s, x], argTypes := #[t, tx] })
    (e : TypeId) (i : TypeInfo) (z : Value) (size bytes : Nat) (ht : P.underlying t = some (.slice e)) (hi : P.info? e = some i) (hz : i.zero = some z)
    (hsize : i.size = size) (hby : i.bytes = bytes) (hzs : z.cells.size = size)
    (ao : Option Addr) (n cap : Nat) (xs : List Value) (hsv : a.eval s = .slice ao n cap) (hown : w.ownsRow 0 e size (.slice ao n cap) n xs)
    (xv : Value) (m : Nat) (news : List Value) (hx : a.eval x = xv) (hs : Src P size tx xv m news w)
    (h63 : n + m ≤ maxLen) (hbytes : (n + m) * bytes ≤ 140737488355328)
    (h : ∀ ao' cap' w', w'.ownsRow 0 e size (.slice ao' (n + m) cap') (n + m) (xs ++ news) → w.grownBy w' (blockOf ao) → Moved w.heap.size ao ao' → K (a.put o.dst (.slice ao' (n + m) cap')) w') :
    if Region.wanted o (yielded ops a.tmps) = true then Oper.wp P o a w K Q else E := by
  have hw : Region.wanted o (yielded ops a.tmps) = true := by simp [Region.wanted, hgd]
  rw [if_pos hw]
  obtain ⟨ao', cap', w', hr, h2, h3, h4⟩ := run_append_src (P := P) w t tx o.type e i z size bytes ht hi hz hsize hby hzs ao n cap xs hown xv m news hs h63 hbytes
  unfold Oper.wp execOp
  simp only [ho, resolve, invoke, builtin, Sem.run_bind, Sem.run_pure, Result.andThen_ok, List.map_toArray, List.map_cons, List.map_nil, hsv, hx, hr]
  exact h ao' cap' w' h2 h3 h4
end

end Go.Proofs.Ytjbcagbnagefcaa
