/- Mem RowsV Mid Fault Bytes Args Tree0 Tree1 Mix MixT Tree2 OwnC RowR MixU -/
import Derived.WalkKit
import Derived.Deep.Draws
import Derived.Deep.AppendSrc
import Derived.Deep.RegionLaw
import Derived.Deep.MidRow
import Derived.Deep.DrawnRows
import Derived.Test.YtjbcagbnagefcaaGreatProg
import Derived.WalkLawsBesides
import Derived.Deep.QuietTactic
import Derived.BigQuiet
import Derived.Lib.Hide
import Derived.Lib.Strings
import Derived.Laws.DeepStrings4
import Derived.ProofKit
import Derived.OpenShut
import Derived.Deep.Slices
import Derived.OrdersHeld
import Derived.Tactics
import Derived.Deep.WholeRow
import Derived.Deep.Cut
import Derived.Deep.CutBlock
namespace Go.Proofs.YtjbcagbnagefcaaGreat
open Go.RowKit
structure Keeps (S : Nat → Prop) (w w' : World) : Prop where
 os : w'.os = w.os
 tape : w'.tape = w.tape
 output : w'.output = w.output
 size : w.heap.size ≤ w'.heap.size
 block : ∀ k, k < w.heap.size → ¬ S k → w'.heap[k]? = w.heap[k]?
structure Shut (p : Prop) : Prop where
 out : p
theorem shut {p : Prop} (h : p) : Shut p := ⟨h⟩
abbrev Nothing : Nat → Prop := fun _ => False
theorem Keeps.refl (S : Nat → Prop) (w : World) : Keeps S w w := ⟨rfl, rfl, rfl, Nat.le_refl _, fun _ _ _ => rfl⟩
theorem Keeps.trans {S S' : Nat → Prop} {a b c : World} (h : Keeps S a b) (k : Keeps S' b c) (hS : ∀ i, S' i → i < a.heap.size → S i) : Keeps S a c :=
 ⟨k.os.trans h.os, k.tape.trans h.tape, k.output.trans h.output, Nat.le_trans h.size k.size,
  fun i hi hn => (k.block i (Nat.lt_of_lt_of_le hi h.size) (fun hs => hn (hS i hs hi))).trans (h.block i hi hn)⟩
theorem Keeps.mono {S S' : Nat → Prop} {a b : World} (h : Keeps S a b) (hS : ∀ i, S i → i < a.heap.size → S' i) : Keeps S' a b :=
 ⟨h.os, h.tape, h.output, h.size, fun i hi hn => h.block i hi (fun hs => hn (hS i hs hi))⟩
theorem Keeps.drewN {S : Nat → Prop} {a b : World} (h : Keeps S a b) (n : Nat) : Keeps S a (b.drewN n) := ⟨h.os, h.tape, h.output, h.size, h.block⟩
theorem Keeps.drew {S : Nat → Prop} {a b : World} (h : Keeps S a b) : Keeps S a b.drew := ⟨h.os, h.tape, h.output, h.size, h.block⟩
theorem Keeps.alloc {S : Nat → Prop} {a b : World} (h : Keeps S a b) (o : Obj) : Keeps S a (b.alloc o) :=
 ⟨h.os, h.tape, h.output, by have := h.size; simp; omega, fun i hi hn => (Below.heap_alloc b o i (by have := h.size; omega)).trans (h.block i hi hn)⟩
theorem Keeps.setCell {S : Nat → Prop} {a b : World} (h : Keeps S a b) {p : Addr} (hp : p.block < a.heap.size → S p.block) (u : Value) : Keeps S a (b.setCell p u) :=
 ⟨h.os, h.tape, h.output, by have := h.size; simp; omega,
  fun i hi hn => (Below.heap_setCell b p u i (fun e => by subst e; exact hn (hp hi))).trans (h.block i hi hn)⟩
theorem Keeps.grown {S : Nat → Prop} {a b c : World} {row : Option Nat} (h : Keeps S a b) (hg : b.grownBy c row) (hr : ∀ k, row = some k → k < a.heap.size → S k) : Keeps S a c :=
 ⟨hg.os.trans h.os, hg.tape.trans h.tape, hg.output.trans h.output, Nat.le_trans h.size hg.size,
  fun i hi hn => (hg.block i (Nat.lt_of_lt_of_le hi h.size) (fun e => hn (hr i e.symm hi))).trans (h.block i hi hn)⟩
theorem Keeps.below {S : Nat → Prop} {a b : World} (h : Keeps S a b) {B : Nat} (hB : B ≤ a.heap.size) (hS : ∀ i, S i → B ≤ i) : Below B a b :=
 ⟨h.os, h.tape, h.output, h.size, fun i hi => h.block i (Nat.lt_of_lt_of_le hi hB) (fun hs => by have := hS i hs; omega)⟩
theorem Keeps.blk {S : Nat → Prop} {a b : World} (h : Keeps S a b) {k : Nat} {o : Obj} (hk : a.heap[k]? = some o) (hn : ¬ S k) : b.heap[k]? = some o :=
 (h.block k (lt_of_block hk) hn).trans hk
theorem Keeps.cell {S : Nat → Prop} {a b : World} (h : Keeps S a b) {p : Addr} {v : Value} (hp : a.cell? p = some v) (hn : ¬ S p.block) : b.cell? p = some v :=
 (World.cell?_of_block (h.block p.block (World.block_lt_of_cell? a p hp) hn)).trans hp
theorem Keeps.own {S : Nat → Prop} {a b : World} (h : Keeps S a b) {base : Nat} {e : TypeId} {size : Nat} {v : Value} {n : Nat} {xs : List Value} (ho : a.ownsRow base e size v n xs)
  (hn : ∀ k, v.ownBlock = some k → ¬ S k) : b.ownsRow base e size v n xs := by
 refine ⟨ho.1, ?_⟩
 rcases ho.2 with h2 | ⟨g, cap, cur, rfl, hg, hh, r⟩
 ·exact Or.inl h2
 ·exact Or.inr ⟨g, cap, cur, rfl, hg, h.blk hh (hn g rfl), r⟩
abbrev Blk (w : World) (p : Nat) (cs : Array Value) (t : TypeId) : Prop := w.heap[p]? = some (.cells cs t (0, 0))
theorem blk_cell {w : World} {p : Nat} {cs : Array Value} {t : TypeId} (h : Blk w p cs t) (i : Nat) {v : Value} (hi : cs[i]? = some v) : w.cell? ⟨p, i, none⟩ = some v := by
 simp [World.cell?, h, hi]
theorem blk_free {w : World} {p : Nat} {cs : Array Value} {t : TypeId} (h : Blk w p cs t) (i : Nat) : w.frozen? ⟨p, i, none⟩ = false := by
 simp [World.frozen?, h]
theorem blk_set {w : World} {p : Nat} {cs : Array Value} {t : TypeId} (h : Blk w p cs t) (i : Nat) (u : Value) : Blk (w.setCell ⟨p, i, none⟩ u) p (cs.setIfInBounds i u) t := by
 have hlt := lt_of_block h
 have h' : w.heap[p] = .cells cs t (0, 0) := by
  have := h
  unfold Blk at this
  rw [Array.getElem?_eq_getElem hlt] at this
  exact Option.some.inj this
 show (w.heap.modify p _)[p]? = _
 rw [Array.getElem?_eq_getElem (by simpa using hlt), Array.getElem_modify_self, h']
 rfl
theorem blk_new (w : World) (cs : Array Value) (t : TypeId) : Blk (w.alloc (.cells cs t)) w.heap.size cs t := heap_alloc_new w _
theorem blk_alloc {w : World} {p : Nat} {cs : Array Value} {t : TypeId} (h : Blk w p cs t) (o : Obj) : Blk (w.alloc o) p cs t :=
 (Below.heap_alloc w o p (lt_of_block h)).trans h
theorem blk_other {w : World} {p : Nat} {cs : Array Value} {t : TypeId} (h : Blk w p cs t) (a : Addr) (ha : p ≠ a.block) (u : Value) : Blk (w.setCell a u) p cs t :=
 (Below.heap_setCell w a u p ha).trans h
def byteV (b : UInt8) : Value := .int .u8 (b.toNat : Int)
theorem byteV_nat {y : Nat} (h : y < 256) : Value.int .u8 (y : Int) = byteV (UInt8.ofNat y) := by
 unfold byteV
 rw [UInt8.toNat_ofNat_of_lt' (show y < UInt8.size from h)]
theorem byteV_one (bs : List UInt8) : ∀ u ∈ bs.map byteV, u.oneCell' = true := by
 intro u hu; obtain ⟨_, _, rfl⟩ := List.mem_map.1 hu; rfl
def blockOf (ao : Option Addr) : Option Nat := ao.map (·.block)
abbrev Own8 (w : World) (e : TypeId) (ao : Option Addr) (cap : Nat) (bs : List UInt8) : Prop := w.ownsRow 0 e 1 (.slice ao bs.length cap) bs.length (bs.map byteV)
theorem ownBlock_eq (ao : Option Addr) (n c : Nat) : (Value.slice ao n c).ownBlock = blockOf ao := by cases ao <;> rfl
def Moved (B : Nat) (ao ao' : Option Addr) : Prop := blockOf ao' = blockOf ao ∨ ∃ g, blockOf ao' = some g ∧ B ≤ g
theorem Moved.refl (B : Nat) (v : Option Addr) : Moved B v v := .inl rfl
theorem Moved.trans {B B' : Nat} {a b c : Option Addr} (h : Moved B a b) (k : Moved B' b c) (hB : B ≤ B') : Moved B a c := by
 rcases k with k | ⟨g, k, hg⟩
 ·rcases h with h | ⟨g, h, hg⟩
  ·exact .inl (k.trans h)
  ·exact .inr ⟨g, k.trans h, hg⟩
 ·exact .inr ⟨g, k, Nat.le_trans hB hg⟩
theorem Moved.mono {B B' : Nat} {a b : Option Addr} (h : Moved B' a b) (hB : B ≤ B') : Moved B a b := by
 rcases h with h | ⟨g, h, hg⟩
 ·exact .inl h
 ·exact .inr ⟨g, h, Nat.le_trans hB hg⟩
theorem own_lt {w : World} {base : Nat} {e : TypeId} {size : Nat} {v : Value} {n : Nat} {xs : List Value} (ho : w.ownsRow base e size v n xs) {k : Nat} (hk : v.ownBlock = some k) : k < w.heap.size := (ho.lt k hk).2
theorem own_ne {w : World} {base : Nat} {e : TypeId} {size : Nat} {v : Value} {n : Nat} {xs : List Value} (ho : w.ownsRow base e size v n xs) {p : Nat} {cs : Array Value} {t : TypeId} (hp : Blk w p cs t) (hne : e ≠ t) : v.ownBlock ≠ some p := by
 intro hk
 rcases ho.2 with ⟨rfl, _⟩ | ⟨g, cap, cur, rfl, hg, hh, r⟩
 ·simp [Value.ownBlock] at hk
 ·simp [Value.ownBlock] at hk
  subst hk
  have := hp.symm.trans hh
  simp at this
  exact hne this.2.symm
theorem own8_head {w : World} {e : TypeId} {ao : Option Addr} {cap : Nat} {bs : List UInt8} (h : Own8 w e ao cap bs) (hne : bs ≠ []) : ∃ g, ao = some ⟨g, 0, none⟩ := by
 rcases h.2 with ⟨_, hn⟩ | ⟨g, cap', cur, hv, _⟩
 ·exact absurd (List.eq_nil_of_length_eq_zero hn) hne
 ·simp only [Value.slice.injEq] at hv
  exact ⟨g, hv.1⟩
theorem own8_cell {w : World} {e : TypeId} {g : Nat} {cap : Nat} {bs : List UInt8} (h : Own8 w e (some ⟨g, 0, none⟩) cap bs) {j : Nat} {c : UInt8} (hj : bs[j]? = some c) :
  w.cell? ⟨g, j, none⟩ = some (.int .u8 (c.toNat : Int)) := by
 have := World.ownsRow.cells h (g := g) rfl j (byteV c) (by simp [hj])
 rwa [Addr.add_lit, Nat.zero_add] at this
section
variable {P : Program}
theorem run_loadAt_blk (ty e : TypeId) (n : Nat) (hu : P.underlying ty = some (.array n e)) (hi : (P.info? ty).map (·.size) = some n) (w : World) (g : Nat) (cs : Array Value) (t : TypeId) (hg : w.heap[g]? = some (.cells cs t (0, 0))) (hs : cs.size = n) :
  (Instr.loadAt ty (.pointer (some ⟨g, 0, none⟩))).run P w = .ok (.agg cs) w := by
 simp only [Instr.loadAt, Instr.sureAddr, Sem.run_bind, Sem.run_pure, Result.andThen]
 exact run_loadVar_row w g t ty cs (0, 0) _ hg hu rfl (by rw [hi, hs])
theorem run_storeAt_blk (ty : TypeId) (n : Nat) (hi : (P.info? ty).map (·.size) = some n) (w : World) (g : Nat) (cs old : Array Value) (t : TypeId) (hg : w.heap[g]? = some (.cells old t (0, 0))) (ho : old.size = n) (hs : cs.size = n) (h1 : cs.all (·.oneCell') = true) :
  (Instr.storeAt ty (.pointer (some ⟨g, 0, none⟩)) (.agg cs)).run P w = .ok () (w.setRow g cs) := by
 simp only [Instr.storeAt, Instr.sureAddr, Sem.run_bind, Sem.run_pure, Result.andThen]
 exact run_storeVar_row w g t ty old cs hg (by rw [hi, hs]) (by omega) h1
theorem blk_setRow {w : World} {g : Nat} {cur cs : Array Value} {t : TypeId} (h : Blk w g cur t) : Blk (w.setRow g cs) g cs t := setRow_heap w g cur cs t _ h
theorem blk_setRow_other {w : World} {g p : Nat} {cs cs' : Array Value} {t : TypeId} (h : Blk w p cs t) (hn : p ≠ g) : Blk (w.setRow g cs') p cs t := (setRow_other w g p cs' hn).trans h
theorem Keeps.setRow {S : Nat → Prop} {a b : World} (h : Keeps S a b) {g : Nat} (hg : g < a.heap.size → S g) (cs : Array Value) : Keeps S a (b.setRow g cs) :=
 ⟨h.os, h.tape, h.output, by have := h.size; simp; omega, fun i hi hn => (setRow_other b g i cs (fun e => by subst e; exact hn (hg hi))).trans (h.block i hi hn)⟩
end
section
variable {P : Program} (w : World)
theorem run_append_src (t tx ty e : TypeId) (i : TypeInfo) (z : Value) (size bytes : Nat) (ht : P.underlying t = some (.slice e)) (hi : P.info? e = some i) (hz : i.zero = some z)
  (hsize : i.size = size) (hby : i.bytes = bytes) (hzs : z.cells.size = size)
  (ao : Option Addr) (n cap0 : Nat) (xs : List Value) (hown : w.ownsRow 0 e size (.slice ao n cap0) n xs) (x : Value) (m : Nat) (news : List Value) (hs : Src P size tx x m news w)
  (h63 : n + m ≤ maxLen) (hbytes : (n + m) * bytes ≤ 140737488355328) :
  ∃ ao' cap' w', (Builtin.append_ #[t, tx] ty #[.slice ao n cap0, x]).run P w = .ok (.slice ao' (n + m) cap') w' ∧ w'.ownsRow 0 e size (.slice ao' (n + m) cap') (n + m) (xs ++ news) ∧ w.grownBy w' (blockOf ao) ∧ Moved w.heap.size ao ao' := by
 subst hsize
 subst hby
 have hlen : (xs ++ news).length = (n + m) * i.size := by rw [List.length_append, hown.1, hs.newsLen, Nat.add_mul]
 have grown : ∀ (old : Nat), old < n + m → ∀ (row : Option Nat),
   (w.drew.alloc (.cells ((xs ++ news).toArray ++ Builtin.zeroCells z.cells (grownCap w (n + m) old e - (n + m))) e)).ownsRow 0 e i.size
    (.slice (some ⟨w.heap.size, 0, none⟩) (n + m) (grownCap w (n + m) old e)) (n + m) (xs ++ news) ∧
   w.grownBy (w.drew.alloc (.cells ((xs ++ news).toArray ++ Builtin.zeroCells z.cells (grownCap w (n + m) old e - (n + m))) e)) row := by
  intro old ho row
  have hge := grownCap_ge w (n + m) old e
  have hcm : grownCap w (n + m) old e ≤ maxLen := grownCap_le_maxLen w (n + m) old e h63
  refine ⟨⟨hlen, .inr ⟨w.heap.size, _, _, rfl, Nat.zero_le _, heap_alloc_new w.drew _, hge, hcm, ?_, ?_⟩⟩, ⟨rfl, rfl, rfl, by simp, fun k hk _ => Below.heap_alloc w.drew _ k hk⟩⟩
  ·simp only [Array.size_append, List.size_toArray, size_zeroCells, hzs, hlen, ← Nat.add_mul]
   congr 1
   omega
  ·simp only [Array.toList_append]
   rw [← hlen]
   exact List.take_left
 rcases hown.2 with ⟨hv, rfl⟩ | ⟨g, cap, cur, hv, hbg, hg, hnc, hcm, hcs, htake⟩
 ·simp only [Value.slice.injEq] at hv
  obtain ⟨rfl, _, rfl⟩ := hv
  have hx : xs = [] := List.eq_nil_of_length_eq_zero (by simpa using hown.1)
  subst hx
  by_cases hm : m = 0
  ·subst hm
   have hn : news = [] := List.eq_nil_of_length_eq_zero (by simpa using hs.newsLen)
   subst hn
   refine ⟨none, 0, w, ?_, World.ownsRow_nil w 0 e i.size, ⟨rfl, rfl, rfl, Nat.le_refl _, fun _ _ _ => rfl⟩, .inl rfl⟩
   rcases hs.kind with ⟨e', hk⟩ | hk <;> simp [Builtin.append_, run_underlying ht, run_underlying hk, sizeOf, typeInfo, hi, hs.len, hs.cells]
  ·have hold : (Builtin.firstCells i.size 0 (.slice none 0 0)).run P w.drew = .ok ([] : List Value).toArray w.drew := run_firstCells_none w.drew i.size 0 0 0
   have hr := run_append_grow_src (P := P) w t tx ty e i z ht hi hz none 0 0 [] hold x m news hs (by omega) (by simp only [maxLen] at h63; omega) (growslice_fits (by omega) (by simpa using hbytes))
   have hgr := grown 0 (by omega) (blockOf none)
   simp only [Nat.zero_add] at hr hgr ⊢
   exact ⟨_, _, _, hr, hgr.1, hgr.2, .inr ⟨w.heap.size, rfl, Nat.le_refl _⟩⟩
 ·simp only [Value.slice.injEq] at hv
  obtain ⟨rfl, _, rfl⟩ := hv
  by_cases hroom : n + m ≤ cap0
  ·have hfit : n * i.size + news.length ≤ cur.size := by rw [hs.newsLen, hcs, ← Nat.add_mul]; exact Nat.mul_le_mul_right _ hroom
   have hst := run_storeCells_at P g (n * i.size) e news 0 cur w hg (by simpa using hfit) hs.one
   simp only [Nat.add_zero] at hst
   have hr : (Builtin.append_ #[t, tx] ty #[.slice (some ⟨g, 0, none⟩) n cap0, x]).run P w =
     .ok (.slice (some ⟨g, 0, none⟩) (n + m) cap0) (w.setRow g (cur.toList.take (n * i.size) ++ news ++ cur.toList.drop (n * i.size + news.length)).toArray) := by
    rcases hs.kind with ⟨e', hk⟩ | hk <;> simp [Builtin.append_, run_underlying ht, run_underlying hk, sizeOf, typeInfo, hi, hs.len, hroom, hs.cells, Addr.add_lit, hst]
   refine ⟨_, _, _, hr, ⟨hlen, .inr ⟨g, cap0, _, rfl, hbg, setRow_heap w g cur _ e _ hg, hroom, hcm, ?_, ?_⟩⟩, ⟨rfl, rfl, rfl, by simp, fun k _ hk => setRow_other w g k _ (fun e => hk (by simp [blockOf, e]))⟩, .inl rfl⟩
   ·simp only [List.size_toArray, List.length_append, List.length_take, List.length_drop, Array.length_toList]
    omega
   ·rw [htake, ← hlen]
    exact List.take_left
  ·have holds : ∀ j u, xs[j]? = some u → w.drew.cell? ((⟨g, 0, none⟩ : Addr).add j) = some u := hown.cells (g := g) rfl
   have hold := run_firstCells_some (P := P) w.drew i.size n ⟨g, 0, none⟩ n cap0 xs hown.1 holds
   have hr := run_append_grow_src (P := P) w t tx ty e i z ht hi hz (some ⟨g, 0, none⟩) n cap0 xs hold x m news hs (by omega) (by simp only [maxLen] at h63; omega) (growslice_fits (by omega) hbytes)
   have hgr := grown cap0 (by omega) (blockOf (some ⟨g, 0, none⟩))
   exact ⟨_, _, _, hr, hgr.1, hgr.2, .inr ⟨w.heap.size, rfl, Nat.le_refl _⟩⟩
theorem wpList_append_src {ops : Array Oper} {rest : List Oper} {o : Oper} {a : Act} {Q : Exit → Act → World → Prop} (hgd : o.guard = none) (s x : Operand) (t tx : TypeId)
  (ho : o.op = .call { callee := .builtin .append, args := #[s, x], argTypes := #[t, tx] })
  (e : TypeId) (i : TypeInfo) (z : Value) (size bytes : Nat) (ht : P.underlying t = some (.slice e)) (hi : P.info? e = some i) (hz : i.zero = some z)
  (hsize : i.size = size) (hby : i.bytes = bytes) (hzs : z.cells.size = size)
  (ao : Option Addr) (n cap : Nat) (xs : List Value) (hsv : a.eval s = .slice ao n cap) (hown : w.ownsRow 0 e size (.slice ao n cap) n xs)
  (xv : Value) (m : Nat) (news : List Value) (hx : a.eval x = xv) (hs : Src P size tx xv m news w)
  (h63 : n + m ≤ maxLen) (hbytes : (n + m) * bytes ≤ 140737488355328)
  (h : ∀ ao' cap' w', w'.ownsRow 0 e size (.slice ao' (n + m) cap') (n + m) (xs ++ news) → w.grownBy w' (blockOf ao) → Moved w.heap.size ao ao' → wpList P ops Q rest (a.put o.dst (.slice ao' (n + m) cap')) w') : wpList P ops Q (o :: rest) a w := by
 refine wpList_plain hgd fun K hK => ?_
 obtain ⟨ao', cap', w', hr, h2, h3, h4⟩ := run_append_src (P := P) w t tx o.type e i z size bytes ht hi hz hsize hby hzs ao n cap xs hown xv m news hs h63 hbytes
 unfold Oper.wp execOp
 simp only [ho, resolve, invoke, builtin, Sem.run_bind, Sem.run_pure, Result.andThen_ok, List.map_toArray, List.map_cons, List.map_nil, hsv, hx, hr]
 exact hK _ _ (h ao' cap' w' h2 h3 h4)
end
end Go.Proofs.YtjbcagbnagefcaaGreat
namespace Go.Proofs.YtjbcagbnagefcaaGreat
open Go.RowKit
def rowOf (w : World) (g : Nat) : Array Value := match w.heap[g]? with | some (.cells cs _ _) => cs | _ => #[]
def rowOk (w : World) (g n : Nat) : Bool := match w.heap[g]? with | some (.cells cs _ (0, 0)) => cs.size == n | _ => false
def rowOfV (w : World) : Value → Array Value | .pointer (some ⟨g, 0, none⟩) => rowOf w g | _ => #[]
def rowOkV (w : World) (n : Nat) : Value → Bool | .pointer (some ⟨g, 0, none⟩) => rowOk w g n | _ => false
def rowSetV (w : World) (v : Value) (cs : Array Value) : World := match v with | .pointer (some ⟨g, 0, none⟩) => w.setRow g cs | _ => w
def aggOf : Value → Array Value | .agg cs => cs | _ => #[]
def aggOk (n : Nat) : Value → Bool | .agg cs => cs.size == n && cs.all (·.oneCell') | _ => false
theorem rowOfV_ptr (w : World) (g : Nat) : rowOfV w (.pointer (some ⟨g, 0, none⟩)) = rowOf w g := rfl
theorem rowOkV_ptr (w : World) (g n : Nat) : rowOkV w n (.pointer (some ⟨g, 0, none⟩)) = rowOk w g n := rfl
theorem rowSetV_ptr (w : World) (g : Nat) (cs : Array Value) : rowSetV w (.pointer (some ⟨g, 0, none⟩)) cs = w.setRow g cs := rfl
theorem aggOf_agg (cs : Array Value) : aggOf (.agg cs) = cs := rfl
theorem aggOk_agg (n : Nat) (cs : Array Value) (h1 : cs.size = n) (h2 : cs.all (·.oneCell') = true) : aggOk n (.agg cs) = true := by
 show (cs.size == n && cs.all (·.oneCell')) = true
 rw [h2, h1]
 simp
theorem rowOf_drew (w : World) (g : Nat) : rowOf w.drew g = rowOf w g := rfl
theorem rowOk_drew (w : World) (g n : Nat) : rowOk w.drew g n = rowOk w g n := rfl
theorem rowOf_drewN (w : World) (g k : Nat) : rowOf (w.drewN k) g = rowOf w g := rfl
theorem rowOk_drewN (w : World) (g n k : Nat) : rowOk (w.drewN k) g n = rowOk w g n := rfl
theorem rowOf_blk {w : World} {g : Nat} {cs : Array Value} {t : TypeId} (h : Blk w g cs t) : rowOf w g = cs := by
 have h' : w.heap[g]? = some (.cells cs t (0, 0)) := h
 simp [rowOf, h']
theorem rowOk_blk {w : World} {g n : Nat} {cs : Array Value} {t : TypeId} (h : Blk w g cs t) (hs : cs.size = n) : rowOk w g n = true := by
 have h' : w.heap[g]? = some (.cells cs t (0, 0)) := h
 simp [rowOk, h', hs]
theorem blk_rowOk {w : World} {g n : Nat} (h : rowOk w g n = true) : ∃ t, Blk w g (rowOf w g) t ∧ (rowOf w g).size = n := by
 unfold rowOk at h
 split at h
 ·rename_i cs t hg
  exact ⟨t, by simp only [Blk, rowOf, hg], by simp only [rowOf, hg]; simpa using h⟩
 ·cases h
section
variable {P : Program}
theorem exec_load (ty e : TypeId) (n : Nat) (hu : P.underlying ty = some (.array n e)) (hi : (P.info? ty).map (·.size) = some n)
  (ρ : Operand → Value) (dst : Option Tmp) (x : Operand) (ty' : TypeId) (pos : String) (af : Array Edge) (gd : Option (Nat × Bool)) (w : World) (h : rowOkV w n (ρ x) = true) :
  (execOp ρ ⟨dst, .load ty x, ty', pos, af, gd⟩).run P w = .ok (.value (.agg (rowOfV w (ρ x)))) w := by
 unfold rowOkV at h
 split at h
 ·rename_i g hx
  obtain ⟨t, hb, hs⟩ := blk_rowOk h
  have := run_loadAt_blk (P := P) ty e n hu hi w g _ t hb hs
  unfold execOp
  simp only [hx, Sem.run_bind, this, Result.andThen_ok, Sem.run_pure, rowOfV]
 ·cases h
theorem exec_store (ty : TypeId) (n : Nat) (hi : (P.info? ty).map (·.size) = some n)
  (ρ : Operand → Value) (dst : Option Tmp) (x y : Operand) (ty' : TypeId) (pos : String) (af : Array Edge) (gd : Option (Nat × Bool)) (w : World) (h : rowOkV w n (ρ x) = true) (hy : aggOk n (ρ y) = true) :
  (execOp ρ ⟨dst, .store ty x y, ty', pos, af, gd⟩).run P w = .ok .skip (rowSetV w (ρ x) (aggOf (ρ y))) := by
 unfold rowOkV at h
 split at h
 ·rename_i g hx
  unfold aggOk at hy
  split at hy
  ·rename_i cs hyv
   simp only [Bool.and_eq_true, beq_iff_eq] at hy
   obtain ⟨t, hb, hs⟩ := blk_rowOk h
   have := run_storeAt_blk (P := P) ty n hi w g cs _ t hb hs hy.1 hy.2
   unfold execOp
   simp only [hx, hyv, Sem.run_bind, this, Result.andThen_ok, Sem.run_pure, rowSetV, aggOf]
  ·cases hy
 ·cases h
end
theorem rowOk_new (w : World) (cs : Array Value) (t : TypeId) (n : Nat) : rowOk (w.alloc (.cells cs t)) w.heap.size n = (cs.size == n) := by
 unfold rowOk
 rw [show (w.alloc (.cells cs t)).heap[w.heap.size]? = some (.cells cs t (0, 0)) from heap_alloc_new w _]
 rfl
attribute [go_sem] rowOfV_ptr rowOkV_ptr rowSetV_ptr aggOf_agg rowOf_drew rowOk_drew rowOf_drewN rowOk_drewN
end Go.Proofs.YtjbcagbnagefcaaGreat
namespace Go.Proofs.YtjbcagbnagefcaaGreat
open Go.RowKit
def midOf (w : World) (g o n : Nat) : Array Value := ((List.range n).map fun j => (w.cell? ⟨g, o + j, none⟩).getD undef).toArray
def midOk (w : World) (g o n : Nat) : Bool := (List.range n).all fun j => (w.cell? ⟨g, o + j, none⟩).isSome
def midOfV (w : World) (n : Nat) : Value → Array Value | .pointer (some ⟨g, o, none⟩) => midOf w g o n | _ => #[]
def midOkV (w : World) (n : Nat) : Value → Bool | .pointer (some ⟨g, o, none⟩) => midOk w g o n | _ => false
theorem midOfV_ptr (w : World) (g o n : Nat) : midOfV w n (.pointer (some ⟨g, o, none⟩)) = midOf w g o n := rfl
theorem midOkV_ptr (w : World) (g o n : Nat) : midOkV w n (.pointer (some ⟨g, o, none⟩)) = midOk w g o n := rfl
theorem midOf_drew (w : World) (g o n : Nat) : midOf w.drew g o n = midOf w g o n := rfl
theorem midOk_drew (w : World) (g o n : Nat) : midOk w.drew g o n = midOk w g o n := rfl
theorem midOf_drewN (w : World) (g o n k : Nat) : midOf (w.drewN k) g o n = midOf w g o n := rfl
theorem midOk_drewN (w : World) (g o n k : Nat) : midOk (w.drewN k) g o n = midOk w g o n := rfl
theorem midOk_range {w : World} {g o : Nat} {cs : List Value} (h : w.rangeAt g o cs) : midOk w g o cs.length = true := by
 unfold midOk
 rw [List.all_eq_true]
 intro j hj
 rw [List.mem_range] at hj
 exact h.isSome j hj
theorem midOf_range {w : World} {g o : Nat} {cs : List Value} (h : w.rangeAt g o cs) : midOf w g o cs.length = cs.toArray := by
 unfold midOf
 congr 1
 apply List.ext_getElem?
 intro j
 by_cases hj : j < cs.length
 ·rw [List.getElem?_map, List.getElem?_range hj, Option.map_some, h j _ (List.getElem?_eq_getElem hj), List.getElem?_eq_getElem hj]; rfl
 ·rw [List.getElem?_eq_none (by simp; omega), List.getElem?_eq_none (by omega)]
theorem range_midOk {w : World} {g o n : Nat} (h : midOk w g o n = true) : w.rangeAt g o (midOf w g o n).toList := by
 unfold midOk at h
 rw [List.all_eq_true] at h
 intro j v hj
 unfold midOf at hj
 rw [List.toList_toArray, List.getElem?_map] at hj
 by_cases hlt : j < n
 ·rw [List.getElem?_range hlt, Option.map_some] at hj
  have := h j (List.mem_range.2 hlt)
  obtain ⟨u, hu⟩ := Option.isSome_iff_exists.1 this
  rw [hu] at hj ⊢
  exact hj
 ·rw [List.getElem?_eq_none (by simp; omega)] at hj
  cases hj
theorem exec_load_mid {P : Program} (ty : TypeId) (n : Nat) (d : TypeDesc) (hu : P.underlying ty = some d) (hd : d.isRow = true) (hi : (P.info? ty).map (·.size) = some n)
  (ρ : Operand → Value) (dst : Option Tmp) (x : Operand) (ty' : TypeId) (pos : String) (af : Array Edge) (gd : Option (Nat × Bool)) (w : World) (h : midOkV w n (ρ x) = true) :
  (execOp ρ ⟨dst, .load ty x, ty', pos, af, gd⟩).run P w = .ok (.value (.agg (midOfV w n (ρ x)))) w := by
 unfold midOkV at h
 split at h
 ·rename_i g o hx
  have hr := range_midOk h
  have hl : (midOf w g o n).toList.length = n := by simp [midOf]
  have := run_loadAt_mid (P := P) w g o ty (midOf w g o n).toList d hr hu hd (by rw [hi, hl])
  unfold execOp
  simp only [hx, Sem.run_bind, this, Result.andThen_ok, Sem.run_pure, midOfV, Array.toArray_toList]
 ·cases h
attribute [go_sem] midOfV_ptr midOkV_ptr midOf_drew midOk_drew midOf_drewN midOk_drewN
theorem rangeAt_keeps {S : Nat → Prop} {w w' : World} {g o : Nat} {cs : List Value} (h : w.rangeAt g o cs) (hk : Keeps S w w') (hg : ¬ S g) : w'.rangeAt g o cs :=
 fun j v hj => hk.cell (h j v hj) hg
theorem rangeAt_blk {w : World} {g : Nat} {cs : List Value} {t : TypeId} (h : Blk w g cs.toArray t) : w.rangeAt g 0 cs := fun j v hj => blk_cell h (0 + j) (by simpa using hj)
end Go.Proofs.YtjbcagbnagefcaaGreat
namespace Go.Proofs.YtjbcagbnagefcaaGreat
open Go.RowKit
theorem ret_bool {a b : Bool} (h : a = b) : Ending.returned (.bool a) = .returned (.bool b) := by rw [h]
theorem new_err (c at' : Int) (w : World) (hc : (c == 0) = false) :
  Calls Tryz.prog 37 #[.int .i64 c, .int .i64 at'] w fun e w' =>
   e = .returned (.iface 130 (.pointer (some ⟨w.heap.size, 0, none⟩))) ∧
   w' = w.alloc (.cells #[.int .i64 c, .int .i64 at', .iface 90 (.int .i64 c)] 132) := by
 go_enter Tryz.func37, Tryz.ntmps37
 go_wp2
 go_ret
 exact ⟨rfl, rfl⟩
def IsErr (B : Nat) (w : World) (v : Value) (c p : Int) : Prop :=
 (v = .nilIface ∧ c = 0 ∧ p = 0) ∨
 ∃ b, B ≤ b ∧ c ≠ 0 ∧ v = .iface 130 (.pointer (some ⟨b, 0, none⟩)) ∧ w.cell? ⟨b, 0, none⟩ = some (.int .i64 c) ∧ w.cell? ⟨b, 1, none⟩ = some (.int .i64 p) ∧
  w.cell? ⟨b, 2, none⟩ = some (.iface 90 (.int .i64 c))
theorem asFault (v : Value) (xT : TypeId) (w : World) : (Instr.typeAssert (.iface 130 v) xT 130 true).run Tryz.prog w = .ok (.tuple #[v, .bool true]) w := by kernel_rfl
theorem asFault_no (v : Value) (xT : TypeId) (w : World) : (Instr.typeAssert (.iface 90 v) xT 130 true).run Tryz.prog w = .ok (.tuple #[.pointer none, .bool false]) w := by kernel_rfl
attribute [local go_sem] asFault asFault_no
set_option maxRecDepth 100000 in
set_option maxHeartbeats 400000 in
theorem told_fault (b : Nat) (c p : Int) (w : World) (h0 : w.cell? ⟨b, 0, none⟩ = some (.int .i64 c)) (h1 : w.cell? ⟨b, 1, none⟩ = some (.int .i64 p))
  (h2 : w.cell? ⟨b, 2, none⟩ = some (.iface 90 (.int .i64 c))) :
  Calls Tryz.prog 44 #[.iface 130 (.pointer (some ⟨b, 0, none⟩))] w fun e w' =>
   e = .returned (.tuple #[.int .i64 c, .int .i64 p]) ∧ ∃ n, w' = w.drewN n := by
 go_enter Tryz.func44, Tryz.ntmps44
 go_wp2_with fail
 go_quiet (fail)
 go_wp2_with fail
 refine wp_loop_rounds 1 ?_
 rw [rounds_succ]
 go_wp2
 go_ret2
 exact ⟨rfl, _, rfl⟩
theorem told_nil (w : World) : Calls Tryz.prog 44 #[.nilIface] w fun e w' => e = .returned (.tuple #[.int .i64 0, .int .i64 0]) ∧ w' = w := by
 go_enter Tryz.func44, Tryz.ntmps44
 go_wp2
 go_ret2
 exact ⟨rfl, rfl⟩
theorem told_any {B : Nat} {w : World} {v : Value} {c p : Int} (h : IsErr B w v c p) :
  Calls Tryz.prog 44 #[v] w fun e w' => e = .returned (.tuple #[.int .i64 c, .int .i64 p]) ∧ ∃ n, w' = w.drewN n := by
 rcases h with ⟨rfl, rfl, rfl⟩ | ⟨b, _, _, rfl, h0, h1, h2⟩
 ·exact (told_nil w).mono fun e w' ⟨he, hw⟩ => ⟨he, 0, hw⟩
 ·exact told_fault b c p w h0 h1 h2
theorem is_any {B : Nat} {w : World} {v : Value} {c p : Int} (h : IsErr B w v c p) (x y : Int) :
  Calls Tryz.prog 15 #[v, .int .i64 x, .int .i64 y] w fun e w' => e = .returned (.bool (decide (c = x ∧ p = y))) ∧ ∃ n, w' = w.drewN n := by
 go_enter Tryz.func15, Tryz.ntmps15
 go_wp2_with fail
 refine (told_any h).mono ?_
 rintro e w' ⟨rfl, n, rfl⟩
 go_wp2
 ·go_ret
  refine ⟨ret_bool ?_, _, rfl⟩
  have hc : c = x := by assumption
  rw [Bool.eq_iff_iff]; simp [hc]
 ·go_ret
  refine ⟨ret_bool ?_, _, rfl⟩
  have hc : ¬ c = x := by assumption
  simp [hc]
theorem IsErr.keeps {B : Nat} {S : Nat → Prop} {w w' : World} {v : Value} {c p : Int} (h : IsErr B w v c p) (k : Keeps S w w') (hS : ∀ i, S i → i < B) : IsErr B w' v c p := by
 rcases h with h | ⟨b, hb, hc, hv, h0, h1, h2⟩
 ·exact .inl h
 ·have hn : ¬ S b := fun hs => by have := hS b hs; omega
  exact .inr ⟨b, hb, hc, hv, k.cell h0 hn, k.cell h1 hn, k.cell h2 hn⟩
theorem isErr_new (w : World) (c p : Int) (hc : (c == 0) = false) : IsErr w.heap.size (w.alloc (.cells #[.int .i64 c, .int .i64 p, .iface 90 (.int .i64 c)] 132)) (.iface 130 (.pointer (some ⟨w.heap.size, 0, none⟩))) c p :=
 .inr ⟨w.heap.size, Nat.le_refl _, by simpa using hc, rfl, by simp, by simp, by simp⟩
theorem isErr_yes {B : Nat} {w : World} {v : Value} {c p : Int} (h : IsErr B w v c p) (hc : c ≠ 0) : ∃ b, v = .iface 130 (.pointer (some ⟨b, 0, none⟩)) := by
 rcases h with ⟨_, h0, _⟩ | ⟨b, _, _, h, _⟩
 ·exact absurd h0 hc
 ·exact ⟨b, h⟩
theorem isErr_no {B : Nat} {w : World} {v : Value} {p : Int} (h : IsErr B w v 0 p) : v = .nilIface := by
 rcases h with ⟨h, _, _⟩ | ⟨b, _, h, _⟩
 ·exact h
 ·exact absurd rfl h
theorem isErr_nil (B : Nat) (w : World) : IsErr B w .nilIface 0 0 := .inl ⟨rfl, rfl, rfl⟩
end Go.Proofs.YtjbcagbnagefcaaGreat
namespace Go.Proofs.YtjbcagbnagefcaaGreat
open Go.RowKit
theorem info8 : (Tryz.prog.info? 5).map (fun i => (i.zero, i.size, i.bytes)) = some (some (.int .u8 0), 1, 1) := by kernel_rfl
theorem wpList_app8 (w : World) {ops : Array Oper} {rest : List Oper} {o : Oper} {a : Act} {Q : Exit → Act → World → Prop} (hgd : o.guard = none) (s x : Operand) (tx : TypeId)
  (ho : o.op = .call { callee := .builtin .append, args := #[s, x], argTypes := #[22, tx] })
  (ao : Option Addr) (cap : Nat) (bs : List UInt8) (hsv : a.eval s = .slice ao bs.length cap) (hown : Own8 w 5 ao cap bs)
  (xv : Value) (hx : a.eval x = xv) (cs : List UInt8) (hs : Src Tryz.prog 1 tx xv cs.length (cs.map byteV) w) (hb : bs.length ≤ 1000000000000) (hc : cs.length ≤ 1000000000000)
  (h : ∀ ao' cap' w', Own8 w' 5 ao' cap' (bs ++ cs) → Keeps (fun k => blockOf ao = some k) w w' → Moved w.heap.size ao ao' → wpList Tryz.prog ops Q rest (a.put o.dst (.slice ao' (bs ++ cs).length cap')) w') : wpList Tryz.prog ops Q (o :: rest) a w := by
 obtain ⟨i0, hi, hz0, hz1, hz2⟩ := info_parts info8
 refine wpList_append_src w hgd s x 22 tx ho 5 i0 (.int .u8 0) 1 1 Tryz.underlying22 hi hz0 hz1 hz2 rfl ao bs.length cap (bs.map byteV) hsv hown xv cs.length (cs.map byteV) hx hs
  (by unfold maxLen; omega) (by omega) fun ao' cap' w' h1 h2 h3 => ?_
 rw [← List.length_append, ← List.map_append] at h1
 rw [← List.length_append]
 exact h ao' cap' w' h1 ((Keeps.refl _ _).grown h2 (fun k hk _ => hk)) h3
theorem src_new (w : World) (b : UInt8) {u : Value} (hu : u = byteV b) : Src Tryz.prog 1 22 (.slice (some ⟨w.heap.size, 0, none⟩) 1 1) [b].length ([b].map byteV) (w.alloc (.cells #[u] 5)) := by
 subst hu
 refine Src.ofSlice _ Tryz.underlying22 ⟨w.heap.size, 0, none⟩ 1 1 _ rfl ?_ (byteV_one _)
 intro j u hj
 match j, hj with
 | 0, hj => simp at hj; subst hj; simp [Addr.add]
theorem own8_ne {w : World} {e : TypeId} {ao : Option Addr} {cap : Nat} {bs : List UInt8} (ho : Own8 w e ao cap bs) {p : Nat} {cs : Array Value} {t : TypeId} (hp : Blk w p cs t) (hne : e ≠ t) : blockOf ao ≠ some p := by
 have := own_ne ho hp hne
 rwa [ownBlock_eq] at this
def WrF (p : Nat) (ao : Option Addr) : Nat → Prop := fun k => k = p ∨ blockOf ao = some k
theorem wrF_back {B p : Nat} {ao ao1 : Option Addr} (hM : Moved B ao ao1) : ∀ i, WrF p ao1 i → i < B → WrF p ao i := by
 intro i hi hlt
 rcases hi with hi | hi
 ·exact .inl hi
 ·rcases hM with h | ⟨g, h, hg⟩
  ·exact .inr (h ▸ hi)
  ·rw [h] at hi; obtain rfl := Option.some.inj hi; omega
def bytesOf (s : ByteArray) : List UInt8 := s.data.toList
theorem bytesOf_length (s : ByteArray) : (bytesOf s).length = s.size := by unfold bytesOf; rw [Array.length_toList]; rfl
theorem byteCells_of (s : ByteArray) : byteCells s = (bytesOf s).map byteV := rfl
theorem src_string (w : World) (s : ByteArray) : Src Tryz.prog 1 9 (.string s) (bytesOf s).length ((bytesOf s).map byteV) w := by
 have := Src.ofString (P := Tryz.prog) w Tryz.underlying9 s
 rw [byteCells_of] at this
 rw [bytesOf_length]
 exact this
def NewBytes (w : World) (bs : List UInt8) (e : Ending) (w' : World) : Prop :=
 ∃ ao' cap', e = .returned (.slice ao' bs.length cap') ∧ Own8 w' 5 ao' cap' bs ∧ Keeps Nothing w w' ∧ (∀ g, blockOf ao' = some g → w.heap.size ≤ g)
theorem src_own {w : World} {ao : Option Addr} {cap : Nat} {bs : List UInt8} (h : Own8 w 5 ao cap bs) : Src Tryz.prog 1 22 (.slice ao bs.length cap) bs.length (bs.map byteV) w := by
 rcases h.2 with ⟨hv, hn⟩ | ⟨g, cap', cur, hv, _, hg, hnc, hcm, hcs, htake⟩
 ·simp only [Value.slice.injEq] at hv
  obtain ⟨rfl, _, rfl⟩ := hv
  have : bs = [] := List.eq_nil_of_length_eq_zero hn
  subst this
  exact Src.ofNil _ Tryz.underlying22 0
 ·have hv' := hv
  simp only [Value.slice.injEq] at hv
  obtain ⟨rfl, _, rfl⟩ := hv
  exact Src.ofSlice _ Tryz.underlying22 ⟨g, 0, none⟩ _ _ _ (by simp) (World.ownsRow.cells h rfl) (byteV_one _)
theorem own8_empty (w : World) : Own8 (w.alloc (.cells #[] 5)) 5 (some ⟨w.heap.size, 0, none⟩) 0 [] :=
 ⟨rfl, .inr ⟨w.heap.size, 0, #[], rfl, Nat.zero_le _, heap_alloc_new w _, Nat.zero_le _, Nat.zero_le _, rfl, rfl⟩⟩
def BytesAt (w : World) (ao : Option Addr) (bs : List UInt8) : Prop := (ao = none → bs = []) ∧ ∀ a, ao = some a → ∀ j c, bs[j]? = some c → w.cell? (a.add j) = some (.int .u8 (c.toNat : Int))
theorem run_str (w : World) {ao : Option Addr} {l : Nat} (c : Nat) (bs : List UInt8) (hl : bs.length = l) (h : BytesAt w ao bs) :
  (convert 22 9 (.slice ao l c)).run Tryz.prog w = .ok (.string ⟨bs.toArray⟩) w := by
 subst hl
 cases ao with
 | none =>
  have hb := h.1 rfl
  subst hb
  exact run_convert_bytes_nil w 22 5 Tryz.underlying22 Tryz.underlying5 _ c 9 Tryz.underlying9
 | some a =>
  exact run_convert_bytes_back w 22 9 5 a c bs Tryz.underlying22 Tryz.underlying5 Tryz.underlying9 fun j hj => h.2 a rfl j _ (List.getElem?_eq_getElem hj)
theorem bytesAt_nil {w : World} (ao : Option Addr) : BytesAt w ao [] := ⟨fun _ => rfl, fun _ _ _ _ hj => by simp at hj⟩
theorem own8_at {w : World} {ao : Option Addr} {cap : Nat} {bs : List UInt8} (h : Own8 w 5 ao cap bs) : BytesAt w ao bs := by
 refine ⟨fun e => ?_, fun a e j c hj => ?_⟩
 ·subst e
  rcases h.2 with ⟨_, hn⟩ | ⟨g, cap', cur, hv, _⟩
  ·exact List.eq_nil_of_length_eq_zero hn
  ·simp at hv
 ·have hne : bs ≠ [] := by intro e'; subst e'; simp at hj
  obtain ⟨g, hg⟩ := own8_head h hne
  rw [hg] at e h
  obtain rfl := Option.some.inj e
  rw [Addr.add_lit, Nat.zero_add]
  exact own8_cell h hj
theorem own8_cap {w : World} {e : TypeId} {ao : Option Addr} {cap : Nat} {bs : List UInt8} (h : Own8 w e ao cap bs) : bs.length ≤ cap ∧ cap ≤ 9223372036854775807 := by
 rcases h.2 with ⟨hv, hn⟩ | ⟨g, cap', cur, hv, _, _, hnc, hcm, _⟩
 ·simp only [Value.slice.injEq] at hv; omega
 ·simp only [Value.slice.injEq] at hv
  unfold maxLen at hcm
  omega
theorem bytesAt_take {w : World} {g off : Nat} {bs : List UInt8} (h : BytesAt w (some ⟨g, off, none⟩) bs) (k v : Nat) : BytesAt w (some ⟨g, off + k, none⟩) ((bs.drop k).take v) := by
 refine ⟨fun e => by simp at e, fun a e j c hj => ?_⟩
 obtain rfl := Option.some.inj e
 rw [List.getElem?_take] at hj
 split at hj
 ·rw [List.getElem?_drop] at hj
  have := h.2 _ rfl (k + j) c hj
  rw [Addr.add_lit] at this ⊢
  rwa [Nat.add_assoc]
 ·cases hj
def posOf (c k : Nat) : Int := if c = 0 then 0 else k
def ErrPost (w : World) (code pos : Int) (e : Ending) (w' : World) : Prop := ∃ ev, e = .returned ev ∧ IsErr w.heap.size w' ev code pos ∧ Keeps Nothing w w'
theorem drop_cons {bs : List UInt8} {j : Nat} {c : UInt8} (h : bs[j]? = some c) : bs.drop j = c :: bs.drop (j + 1) := by
 obtain ⟨hlt, hc⟩ := List.getElem?_eq_some_iff.1 h
 rw [List.drop_eq_getElem_cons hlt, hc]
theorem IsErr.mono {B B' : Nat} {w : World} {v : Value} {c p : Int} (h : IsErr B w v c p) (hB : B' ≤ B) : IsErr B' w v c p := by
 rcases h with h | ⟨b, hb, h⟩
 ·exact .inl h
 ·exact .inr ⟨b, Nat.le_trans hB hb, h⟩
theorem Keeps.put {S : Nat → Prop} {a b : World} (h : Keeps S a b) {p : Nat} (hp : S p) (i : Nat) (u : Value) : Keeps S a (b.setCell ⟨p, i, none⟩ u) := h.setCell (fun _ => hp) u
theorem src_at {w : World} {ao : Option Addr} (c : Nat) {bs : List UInt8} (h : BytesAt w ao bs) : Src Tryz.prog 1 22 (.slice ao bs.length c) bs.length (bs.map byteV) w := by
 cases ao with
 | none =>
  have hb := h.1 rfl
  subst hb
  exact Src.ofNil _ Tryz.underlying22 c
 | some a =>
  refine Src.ofSlice _ Tryz.underlying22 a _ _ _ (by simp) (fun j u hj => ?_) (byteV_one _)
  rw [List.getElem?_map] at hj
  obtain ⟨x, hx, rfl⟩ := Option.map_eq_some_iff.1 hj
  exact h.2 a rfl j x hx
theorem BytesAt.keeps {S : Nat → Prop} {w w' : World} {ao : Option Addr} {bs : List UInt8} (h : BytesAt w ao bs) (hK : Keeps S w w') (hS : ∀ b, blockOf ao = some b → ¬ S b) : BytesAt w' ao bs :=
 ⟨h.1, fun a e j c hj => hK.cell (h.2 a e j c hj) (by
  have : (a.add j).block = a.block := by unfold Addr.add; split <;> rfl
  rw [this]
  exact hS a.block (by rw [e]; rfl))⟩
theorem bytesAt_lit (w : World) (cs : List UInt8) (t : TypeId) : BytesAt (w.alloc (.cells (cs.map byteV).toArray t)) (some ⟨w.heap.size, 0, none⟩) cs := by
 refine ⟨fun e => by simp at e, fun a e j c hj => ?_⟩
 obtain rfl := Option.some.inj e
 rw [Addr.add_lit, Nat.zero_add, World.cell?_alloc_new]
 simp [hj, byteV]
theorem text_eta (s : ByteArray) : (⟨(bytesOf s).toArray⟩ : ByteArray) = s := by
 unfold bytesOf
 cases s
 simp
theorem extract_eq (bs : List UInt8) (a n : Nat) : (ByteArray.extract ⟨bs.toArray⟩ a (a + n)) = (⟨((bs.drop a).take n).toArray⟩ : ByteArray) := by
 rw [← text_eta (ByteArray.extract ⟨bs.toArray⟩ a (a + n))]
 unfold bytesOf
 rw [Lib.extract_data, Nat.add_sub_cancel_left]
end Go.Proofs.YtjbcagbnagefcaaGreat
namespace Go.Proofs.YtjbcagbnagefcaaGreat
open Go.RowKit Go.ChangeShapes Go.WideShapes
section
variable {H : Type} {enc : TypeId × Value → H} {w : World} {base : Nat} {spare : Nat → Bool} {held : Bool}
theorem u8_of {n : Int} (h : (Lit.int .u8 n).wf = true) : Value.int .u8 n = byteV (UInt8.ofNat n.toNat) := by
 have hb := bounds_u8 h
 obtain ⟨m, rfl⟩ := Int.eq_ofNat_of_zero_le hb.1
 exact byteV_nat (by omega)
theorem cells8 : Tryz.prog.cellsOf 5 = 1 := by kernel_rfl
theorem open_bytes {fuel : Nat} {v : Value} {ao : Option Addr} {len cap : Nat} {x : DataW H × List MemPlace} (hv : v = .slice ao len cap) (h : DataW.trod enc Tryz.prog w base spare held fuel 22 v.cells.toList = some x) :
  ∃ bs : List UInt8, bs.length = len ∧ BytesAt w ao bs ∧ len ≤ cap ∧ cap ≤ maxLen := by
 subst hv
 rcases open_ints Tryz.underlying22 Tryz.underlying5 cells8 h with ⟨hcs, _⟩ | ⟨a, l, c, zs, hcs, _, hl, hm, hz, _, hcell, hwz⟩
 ·simp [Value.cells] at hcs
  obtain ⟨rfl, rfl, rfl⟩ := hcs
  exact ⟨[], rfl, ⟨fun _ => rfl, fun a e => by simp at e⟩, Nat.le_refl _, Nat.zero_le _⟩
 ·simp [Value.cells] at hcs
  obtain ⟨rfl, rfl, rfl⟩ := hcs
  have hlz : len ≤ zs.length := by rw [hz]; split <;> omega
  refine ⟨(zs.take len).map fun z => UInt8.ofNat z.toNat, by simp; omega, ⟨fun e => by simp at e, fun a' e j c hj => ?_⟩, hl, hm⟩
  obtain rfl := Option.some.inj e
  rw [List.getElem?_map, List.getElem?_take] at hj
  split at hj
  ·rename_i hjl
   rw [List.getElem?_eq_getElem (by omega)] at hj
   obtain rfl := Option.some.inj hj
   rw [hcell j (by omega)]
   have hw := hwz _ (List.getElem_mem (show j < zs.length by omega))
   have := u8_of hw
   unfold byteV at this
   rw [← this]
   simp [List.getD, List.getElem?_eq_getElem (show j < zs.length by omega)]
  ·cases hj
end
end Go.Proofs.YtjbcagbnagefcaaGreat
namespace Go.Proofs.YtjbcagbnagefcaaGreat
open Go.RowKit
def bigN : Nat := 100000000
def txV (s : List UInt8) : Value := .string ⟨s.toArray⟩
inductive TyD where
 | mk (kind : Int) (name : List UInt8) (lives : List (List UInt8)) (elem : List TyD) : TyD
def TyD.kind : TyD → Int | .mk k _ _ _ => k
def TyD.name : TyD → List UInt8 | .mk _ n _ _ => n
def TyD.lives : TyD → List (List UInt8) | .mk _ _ l _ => l
def TyD.elem : TyD → List TyD | .mk _ _ _ e => e
structure PlD where
 name : List UInt8
 path : List (List UInt8)
structure OprD where
 kind : Int
 n : Int
 place : PlD
structure ValD where
 kind : Int
 a : OprD
 b : OprD
 op : Int
 place : PlD
 name : List UInt8
 names : List (List UInt8)
 args : List (OprD)
inductive StD where
 | mk (kind pos : Int) (mu : Bool) (name : List UInt8) (ty : TyD) (has : Bool) (place : PlD) (val : ValD) (cond : OprD) (thn els : List StD) : StD
def StD.kind : StD → Int | .mk x _ _ _ _ _ _ _ _ _ _ => x
def StD.pos : StD → Int | .mk _ x _ _ _ _ _ _ _ _ _ => x
def StD.mu : StD → Bool | .mk _ _ x _ _ _ _ _ _ _ _ => x
def StD.name : StD → List UInt8 | .mk _ _ _ x _ _ _ _ _ _ _ => x
def StD.ty : StD → TyD | .mk _ _ _ _ x _ _ _ _ _ _ => x
def StD.has : StD → Bool | .mk _ _ _ _ _ x _ _ _ _ _ => x
def StD.place : StD → PlD | .mk _ _ _ _ _ _ x _ _ _ _ => x
def StD.val : StD → ValD | .mk _ _ _ _ _ _ _ x _ _ _ => x
def StD.cond : StD → OprD | .mk _ _ _ _ _ _ _ _ x _ _ => x
def StD.thn : StD → List (StD) | .mk _ _ _ _ _ _ _ _ _ x _ => x
def StD.els : StD → List (StD) | .mk _ _ _ _ _ _ _ _ _ _ x => x
structure FldD where
 mu : Bool
 name : List UInt8
 ty : TyD
structure StrD where
 pub : Bool
 name : List UInt8
 lives : List (List UInt8)
 fields : List (FldD)
 pos : Int
structure LifD where
 name : List UInt8
 over : List (List UInt8)
structure FunD where
 pub : Bool
 name : List UInt8
 lives : List (LifD)
 params : List (FldD)
 result : TyD
 body : List (StD)
 pos : Int
structure CrD where
 structs : List (StrD)
 funcs : List (FunD)
def rowIs {α : Type} (w : World) (k : Nat) (P : α → List Value → Prop) : List α → Nat → Nat → Prop
 | [], _, _ => True
 | d :: r, b, o => (∃ cs, cs.length = k ∧ w.rangeAt b o cs ∧ P d cs) ∧ rowIs w k P r b (o + k)
def SlIs {α : Type} (S : Nat → Prop) (w : World) (k : Nat) (P : α → List Value → Prop) (ao : Option Addr) (l : List α) : Prop :=
 l.length ≤ bigN ∧ (l = [] ∨ ∃ b o, ao = some ⟨b, o, none⟩ ∧ S b ∧ rowIs w k P l b o)
def TxIs (s : List UInt8) (cs : List Value) : Prop := cs = [txV s] ∧ s.length ≤ bigN
theorem rowIs_get {α : Type} {w : World} {k : Nat} {P : α → List Value → Prop} : ∀ {l : List α} {b o : Nat}, rowIs w k P l b o → ∀ {j : Nat} {d : α}, l[j]? = some d → ∃ cs, cs.length = k ∧ w.rangeAt b (o + j * k) cs ∧ P d cs
 | [], _, _, _, _, _, h => by cases h
 | x :: r, b, o, h, 0, d, hd => by
  obtain rfl : x = d := by simpa using hd
  simpa using h.1
 | x :: r, b, o, h, j + 1, d, hd => by
  obtain ⟨cs, h1, h2, h3⟩ := rowIs_get h.2 (j := j) (d := d) (by simpa using hd)
  refine ⟨cs, h1, ?_, h3⟩
  rwa [Nat.add_assoc, Nat.add_comm k, ← Nat.succ_mul] at h2
theorem rowIs_mk {α : Type} {w : World} {k : Nat} {P : α → List Value → Prop} : ∀ {l : List α} {b o : Nat}, (∀ j d, l[j]? = some d → ∃ cs, cs.length = k ∧ w.rangeAt b (o + j * k) cs ∧ P d cs) → rowIs w k P l b o
 | [], _, _, _ => trivial
 | x :: r, b, o, h => by
  refine ⟨by simpa using h 0 x rfl, rowIs_mk fun j d hd => ?_⟩
  obtain ⟨cs, h1, h2, h3⟩ := h (j + 1) d (by simpa using hd)
  refine ⟨cs, h1, ?_, h3⟩
  rwa [Nat.add_assoc, Nat.add_comm k, ← Nat.succ_mul]
theorem rowIs_keeps {α : Type} {T : Nat → Prop} {w w' : World} {k : Nat} {P Q : α → List Value → Prop} : ∀ {l : List α} {b o : Nat}, rowIs w k P l b o → Keeps T w w' → ¬ T b → (∀ d ∈ l, ∀ cs, P d cs → Q d cs) → rowIs w' k Q l b o
 | [], _, _, _, _, _, _ => trivial
 | x :: r, b, o, h, K, hT, hq => by
  obtain ⟨⟨cs, h1, h2, h3⟩, h4⟩ := h
  exact ⟨⟨cs, h1, rangeAt_keeps h2 K hT, hq x (by simp) cs h3⟩, rowIs_keeps h4 K hT (fun d hd => hq d (List.mem_cons_of_mem _ hd))⟩
theorem SlIs.keeps {α : Type} {S S' T : Nat → Prop} {w w' : World} {k : Nat} {P Q : α → List Value → Prop} {ao : Option Addr} {l : List α} (h : SlIs S w k P ao l) (K : Keeps T w w') (hT : ∀ b, S b → ¬ T b) (hS : ∀ b, S b → S' b) (hq : ∀ d ∈ l, ∀ cs, P d cs → Q d cs) : SlIs S' w' k Q ao l := by
 refine ⟨h.1, ?_⟩
 rcases h.2 with h | ⟨b, o, h1, h2, h3⟩
 ·exact .inl h
 ·exact .inr ⟨b, o, h1, hS b h2, rowIs_keeps h3 K (hT b h2) hq⟩
theorem SlIs.get {α : Type} {S : Nat → Prop} {w : World} {k : Nat} {P : α → List Value → Prop} {ao : Option Addr} {l : List α} (h : SlIs S w k P ao l) {j : Nat} {d : α} (hd : l[j]? = some d) :
  ∃ b o, ao = some ⟨b, o, none⟩ ∧ S b ∧ ∃ cs, cs.length = k ∧ w.rangeAt b (o + j * k) cs ∧ P d cs := by
 rcases h.2 with rfl | ⟨b, o, h1, h2, h3⟩
 ·cases hd
 ·exact ⟨b, o, h1, h2, rowIs_get h3 hd⟩
theorem slIs_nil {α : Type} (S : Nat → Prop) (w : World) (k : Nat) (P : α → List Value → Prop) (ao : Option Addr) : SlIs S w k P ao [] := ⟨Nat.zero_le _, .inl rfl⟩
mutual
def TyIs (S : Nat → Prop) (w : World) : TyD → List Value → Prop
 | .mk x_kind x_name x_lives x_elem, cs => ∃ (a2 : Option Addr) (c2 : Nat) (a3 : Option Addr) (c3 : Nat), cs = [.int .i64 x_kind, txV x_name, .slice a2 (x_lives).length c2, .slice a3 (x_elem).length c3] ∧ (x_name).length ≤ bigN ∧ SlIs S w 1 TxIs a2 (x_lives) ∧ ((x_elem).length ≤ bigN ∧ ((x_elem) = [] ∨ ∃ b o, a3 = some ⟨b, o, none⟩ ∧ S b ∧ TysIs S w (x_elem) b o))
def TysIs (S : Nat → Prop) (w : World) : List TyD → Nat → Nat → Prop
 | [], _, _ => True
 | d :: r, b, o => (∃ cs, cs.length = 4 ∧ w.rangeAt b o cs ∧ TyIs S w d cs) ∧ TysIs S w r b (o + 4)
end
theorem TysIs_row (S : Nat → Prop) (w : World) : ∀ (l : List TyD) (b o : Nat), TysIs S w l b o ↔ rowIs w 4 (TyIs S w) l b o
 | [], _, _ => by unfold TysIs rowIs; exact Iff.rfl
 | d :: r, b, o => by
  unfold TysIs rowIs
  rw [TysIs_row S w r b (o + 4)]
theorem TyD.ind {P : TyD → Prop} (h : ∀ x_kind x_name x_lives x_elem, (∀ e ∈ x_elem, P e) → P (.mk x_kind x_name x_lives x_elem)) : ∀ t, P t
 | .mk x_kind x_name x_lives x_elem => h x_kind x_name x_lives x_elem (fun e he => by have := List.sizeOf_lt_of_mem he; exact TyD.ind h e)
theorem tyIs_iff (S : Nat → Prop) (w : World) (d : TyD) (cs : List Value) : TyIs S w d cs ↔ ∃ (a2 : Option Addr) (c2 : Nat) (a3 : Option Addr) (c3 : Nat), cs = [.int .i64 d.kind, txV d.name, .slice a2 (d.lives).length c2, .slice a3 (d.elem).length c3] ∧ (d.name).length ≤ bigN ∧ SlIs S w 1 TxIs a2 (d.lives) ∧ SlIs S w 4 (TyIs S w) a3 (d.elem) := by
 cases d
 unfold TyIs
 simp only [TysIs_row]
 exact Iff.rfl
theorem TyIs.keeps {S S' T : Nat → Prop} {w w' : World} {d : TyD} {cs : List Value} (h : TyIs S w d cs) (K : Keeps T w w') (hT : ∀ b, S b → ¬ T b) (hS : ∀ b, S b → S' b) : TyIs S' w' d cs := by
 refine TyD.ind (P := fun d => ∀ cs, TyIs S w d cs → TyIs S' w' d cs) ?_ d cs h
 clear h cs d
 intro x_kind x_name x_lives x_elem ih_elem cs h
 rw [tyIs_iff] at h ⊢
 obtain ⟨a2, c2, a3, c3, rfl, h0, h1, h2⟩ := h
 exact ⟨a2, c2, a3, c3, rfl, h0, h1.keeps K hT hS (fun _ _ _ h => h), h2.keeps K hT hS (fun e he cs hc => ih_elem e he cs hc)⟩
theorem TyIs.len {S : Nat → Prop} {w : World} {d : TyD} {cs : List Value} (h : TyIs S w d cs) : cs.length = 4 := by
 rw [tyIs_iff] at h
 obtain ⟨a2, c2, a3, c3, rfl, h0, h1, h2⟩ := h
 simp only [List.length_cons, List.length_nil]
theorem TyIs.one {S : Nat → Prop} {w : World} {d : TyD} {cs : List Value} (h : TyIs S w d cs) : ∀ u ∈ cs, u.oneCell' = true := by
 rw [tyIs_iff] at h
 obtain ⟨a2, c2, a3, c3, rfl, h0, h1, h2⟩ := h
 intro u hu
 simp only [List.mem_cons, List.not_mem_nil, or_false] at hu
 rcases hu with (rfl | rfl | rfl | rfl)
 all_goals first | rfl
def PlIs (S : Nat → Prop) (w : World) (d : PlD) (cs : List Value) : Prop := ∃ (a1 : Option Addr) (c1 : Nat), cs = [txV d.name, .slice a1 (d.path).length c1] ∧ (d.name).length ≤ bigN ∧ SlIs S w 1 TxIs a1 (d.path)
theorem PlIs.keeps {S S' T : Nat → Prop} {w w' : World} {d : PlD} {cs : List Value} (h : PlIs S w d cs) (K : Keeps T w w') (hT : ∀ b, S b → ¬ T b) (hS : ∀ b, S b → S' b) : PlIs S' w' d cs := by
 obtain ⟨a1, c1, rfl, h0, h1⟩ := h
 exact ⟨a1, c1, rfl, h0, h1.keeps K hT hS (fun _ _ _ h => h)⟩
theorem PlIs.len {S : Nat → Prop} {w : World} {d : PlD} {cs : List Value} (h : PlIs S w d cs) : cs.length = 2 := by
 obtain ⟨a1, c1, rfl, h0, h1⟩ := h
 simp only [List.length_cons, List.length_nil]
theorem PlIs.one {S : Nat → Prop} {w : World} {d : PlD} {cs : List Value} (h : PlIs S w d cs) : ∀ u ∈ cs, u.oneCell' = true := by
 obtain ⟨a1, c1, rfl, h0, h1⟩ := h
 intro u hu
 simp only [List.mem_cons, List.not_mem_nil, or_false] at hu
 rcases hu with (rfl | rfl)
 all_goals first | rfl
def OprIs (S : Nat → Prop) (w : World) (d : OprD) (cs : List Value) : Prop := ∃ (s2 : List Value), cs = [.int .i64 d.kind, .int .i64 d.n] ++ s2 ∧ PlIs S w (d.place) s2
theorem OprIs.keeps {S S' T : Nat → Prop} {w w' : World} {d : OprD} {cs : List Value} (h : OprIs S w d cs) (K : Keeps T w w') (hT : ∀ b, S b → ¬ T b) (hS : ∀ b, S b → S' b) : OprIs S' w' d cs := by
 obtain ⟨s2, rfl, h0⟩ := h
 exact ⟨s2, rfl, h0.keeps K hT hS⟩
theorem OprIs.len {S : Nat → Prop} {w : World} {d : OprD} {cs : List Value} (h : OprIs S w d cs) : cs.length = 4 := by
 obtain ⟨s2, rfl, h0⟩ := h
 simp only [List.length_append, List.length_cons, List.length_nil, h0.len]
theorem OprIs.one {S : Nat → Prop} {w : World} {d : OprD} {cs : List Value} (h : OprIs S w d cs) : ∀ u ∈ cs, u.oneCell' = true := by
 obtain ⟨s2, rfl, h0⟩ := h
 intro u hu
 simp only [List.mem_append, List.mem_cons, List.not_mem_nil, or_false] at hu
 rcases hu with ((rfl | rfl) | hu)
 all_goals first | rfl | exact h0.one _ hu
def ValIs (S : Nat → Prop) (w : World) (d : ValD) (cs : List Value) : Prop := ∃ (s1 : List Value) (s5 : List Value) (s10 : List Value) (a13 : Option Addr) (c13 : Nat) (a14 : Option Addr) (c14 : Nat), cs = [.int .i64 d.kind] ++ s1 ++ s5 ++ [.int .i64 d.op] ++ s10 ++ [txV d.name, .slice a13 (d.names).length c13, .slice a14 (d.args).length c14] ∧ OprIs S w (d.a) s1 ∧ OprIs S w (d.b) s5 ∧ PlIs S w (d.place) s10 ∧ (d.name).length ≤ bigN ∧ SlIs S w 1 TxIs a13 (d.names) ∧ SlIs S w 4 (OprIs S w) a14 (d.args)
theorem ValIs.keeps {S S' T : Nat → Prop} {w w' : World} {d : ValD} {cs : List Value} (h : ValIs S w d cs) (K : Keeps T w w') (hT : ∀ b, S b → ¬ T b) (hS : ∀ b, S b → S' b) : ValIs S' w' d cs := by
 obtain ⟨s1, s5, s10, a13, c13, a14, c14, rfl, h0, h1, h2, h3, h4, h5⟩ := h
 exact ⟨s1, s5, s10, a13, c13, a14, c14, rfl, h0.keeps K hT hS, h1.keeps K hT hS, h2.keeps K hT hS, h3, h4.keeps K hT hS (fun _ _ _ h => h), h5.keeps K hT hS (fun _ _ _ h => h.keeps K hT hS)⟩
theorem ValIs.len {S : Nat → Prop} {w : World} {d : ValD} {cs : List Value} (h : ValIs S w d cs) : cs.length = 15 := by
 obtain ⟨s1, s5, s10, a13, c13, a14, c14, rfl, h0, h1, h2, h3, h4, h5⟩ := h
 simp only [List.length_append, List.length_cons, List.length_nil, h0.len, h1.len, h2.len]
theorem ValIs.one {S : Nat → Prop} {w : World} {d : ValD} {cs : List Value} (h : ValIs S w d cs) : ∀ u ∈ cs, u.oneCell' = true := by
 obtain ⟨s1, s5, s10, a13, c13, a14, c14, rfl, h0, h1, h2, h3, h4, h5⟩ := h
 intro u hu
 simp only [List.mem_append, List.mem_cons, List.not_mem_nil, or_false] at hu
 rcases hu with ((((((rfl) | hu) | hu) | rfl) | hu) | rfl | rfl | rfl)
 all_goals first | rfl | exact h0.one _ hu | exact h1.one _ hu | exact h2.one _ hu
mutual
def StIs (S : Nat → Prop) (w : World) : StD → List Value → Prop
 | .mk x_kind x_pos x_mu x_name x_ty x_has x_place x_val x_cond x_thn x_els, cs => ∃ (s4 : List Value) (s9 : List Value) (s11 : List Value) (s26 : List Value) (a30 : Option Addr) (c30 : Nat) (a31 : Option Addr) (c31 : Nat), cs = [.int .i64 x_kind, .int .i64 x_pos, .bool x_mu, txV x_name] ++ s4 ++ [.bool x_has] ++ s9 ++ s11 ++ s26 ++ [.slice a30 (x_thn).length c30, .slice a31 (x_els).length c31] ∧ (x_name).length ≤ bigN ∧ TyIs S w (x_ty) s4 ∧ PlIs S w (x_place) s9 ∧ ValIs S w (x_val) s11 ∧ OprIs S w (x_cond) s26 ∧ ((x_thn).length ≤ bigN ∧ ((x_thn) = [] ∨ ∃ b o, a30 = some ⟨b, o, none⟩ ∧ S b ∧ StsIs S w (x_thn) b o)) ∧ ((x_els).length ≤ bigN ∧ ((x_els) = [] ∨ ∃ b o, a31 = some ⟨b, o, none⟩ ∧ S b ∧ StsIs S w (x_els) b o))
def StsIs (S : Nat → Prop) (w : World) : List StD → Nat → Nat → Prop
 | [], _, _ => True
 | d :: r, b, o => (∃ cs, cs.length = 32 ∧ w.rangeAt b o cs ∧ StIs S w d cs) ∧ StsIs S w r b (o + 32)
end
theorem StsIs_row (S : Nat → Prop) (w : World) : ∀ (l : List StD) (b o : Nat), StsIs S w l b o ↔ rowIs w 32 (StIs S w) l b o
 | [], _, _ => by unfold StsIs rowIs; exact Iff.rfl
 | d :: r, b, o => by
  unfold StsIs rowIs
  rw [StsIs_row S w r b (o + 32)]
theorem StD.ind {P : StD → Prop} (h : ∀ x_kind x_pos x_mu x_name x_ty x_has x_place x_val x_cond x_thn x_els, (∀ e ∈ x_thn, P e) → (∀ e ∈ x_els, P e) → P (.mk x_kind x_pos x_mu x_name x_ty x_has x_place x_val x_cond x_thn x_els)) : ∀ t, P t
 | .mk x_kind x_pos x_mu x_name x_ty x_has x_place x_val x_cond x_thn x_els => h x_kind x_pos x_mu x_name x_ty x_has x_place x_val x_cond x_thn x_els (fun e he => by have := List.sizeOf_lt_of_mem he; exact StD.ind h e) (fun e he => by have := List.sizeOf_lt_of_mem he; exact StD.ind h e)
theorem stIs_iff (S : Nat → Prop) (w : World) (d : StD) (cs : List Value) : StIs S w d cs ↔ ∃ (s4 : List Value) (s9 : List Value) (s11 : List Value) (s26 : List Value) (a30 : Option Addr) (c30 : Nat) (a31 : Option Addr) (c31 : Nat), cs = [.int .i64 d.kind, .int .i64 d.pos, .bool d.mu, txV d.name] ++ s4 ++ [.bool d.has] ++ s9 ++ s11 ++ s26 ++ [.slice a30 (d.thn).length c30, .slice a31 (d.els).length c31] ∧ (d.name).length ≤ bigN ∧ TyIs S w (d.ty) s4 ∧ PlIs S w (d.place) s9 ∧ ValIs S w (d.val) s11 ∧ OprIs S w (d.cond) s26 ∧ SlIs S w 32 (StIs S w) a30 (d.thn) ∧ SlIs S w 32 (StIs S w) a31 (d.els) := by
 cases d
 unfold StIs
 simp only [StsIs_row]
 exact Iff.rfl
theorem StIs.keeps {S S' T : Nat → Prop} {w w' : World} {d : StD} {cs : List Value} (h : StIs S w d cs) (K : Keeps T w w') (hT : ∀ b, S b → ¬ T b) (hS : ∀ b, S b → S' b) : StIs S' w' d cs := by
 refine StD.ind (P := fun d => ∀ cs, StIs S w d cs → StIs S' w' d cs) ?_ d cs h
 clear h cs d
 intro x_kind x_pos x_mu x_name x_ty x_has x_place x_val x_cond x_thn x_els ih_thn ih_els cs h
 rw [stIs_iff] at h ⊢
 obtain ⟨s4, s9, s11, s26, a30, c30, a31, c31, rfl, h0, h1, h2, h3, h4, h5, h6⟩ := h
 exact ⟨s4, s9, s11, s26, a30, c30, a31, c31, rfl, h0, h1.keeps K hT hS, h2.keeps K hT hS, h3.keeps K hT hS, h4.keeps K hT hS, h5.keeps K hT hS (fun e he cs hc => ih_thn e he cs hc), h6.keeps K hT hS (fun e he cs hc => ih_els e he cs hc)⟩
theorem StIs.len {S : Nat → Prop} {w : World} {d : StD} {cs : List Value} (h : StIs S w d cs) : cs.length = 32 := by
 rw [stIs_iff] at h
 obtain ⟨s4, s9, s11, s26, a30, c30, a31, c31, rfl, h0, h1, h2, h3, h4, h5, h6⟩ := h
 simp only [List.length_append, List.length_cons, List.length_nil, h1.len, h2.len, h3.len, h4.len]
theorem StIs.one {S : Nat → Prop} {w : World} {d : StD} {cs : List Value} (h : StIs S w d cs) : ∀ u ∈ cs, u.oneCell' = true := by
 rw [stIs_iff] at h
 obtain ⟨s4, s9, s11, s26, a30, c30, a31, c31, rfl, h0, h1, h2, h3, h4, h5, h6⟩ := h
 intro u hu
 simp only [List.mem_append, List.mem_cons, List.not_mem_nil, or_false] at hu
 rcases hu with (((((((rfl | rfl | rfl | rfl) | hu) | rfl) | hu) | hu) | hu) | rfl | rfl)
 all_goals first | rfl | exact h1.one _ hu | exact h2.one _ hu | exact h3.one _ hu | exact h4.one _ hu
def FldIs (S : Nat → Prop) (w : World) (d : FldD) (cs : List Value) : Prop := ∃ (s2 : List Value), cs = [.bool d.mu, txV d.name] ++ s2 ∧ (d.name).length ≤ bigN ∧ TyIs S w (d.ty) s2
theorem FldIs.keeps {S S' T : Nat → Prop} {w w' : World} {d : FldD} {cs : List Value} (h : FldIs S w d cs) (K : Keeps T w w') (hT : ∀ b, S b → ¬ T b) (hS : ∀ b, S b → S' b) : FldIs S' w' d cs := by
 obtain ⟨s2, rfl, h0, h1⟩ := h
 exact ⟨s2, rfl, h0, h1.keeps K hT hS⟩
theorem FldIs.len {S : Nat → Prop} {w : World} {d : FldD} {cs : List Value} (h : FldIs S w d cs) : cs.length = 6 := by
 obtain ⟨s2, rfl, h0, h1⟩ := h
 simp only [List.length_append, List.length_cons, List.length_nil, h1.len]
theorem FldIs.one {S : Nat → Prop} {w : World} {d : FldD} {cs : List Value} (h : FldIs S w d cs) : ∀ u ∈ cs, u.oneCell' = true := by
 obtain ⟨s2, rfl, h0, h1⟩ := h
 intro u hu
 simp only [List.mem_append, List.mem_cons, List.not_mem_nil, or_false] at hu
 rcases hu with ((rfl | rfl) | hu)
 all_goals first | rfl | exact h1.one _ hu
def StrIs (S : Nat → Prop) (w : World) (d : StrD) (cs : List Value) : Prop := ∃ (a2 : Option Addr) (c2 : Nat) (a3 : Option Addr) (c3 : Nat), cs = [.bool d.pub, txV d.name, .slice a2 (d.lives).length c2, .slice a3 (d.fields).length c3, .int .i64 d.pos] ∧ (d.name).length ≤ bigN ∧ SlIs S w 1 TxIs a2 (d.lives) ∧ SlIs S w 6 (FldIs S w) a3 (d.fields)
theorem StrIs.keeps {S S' T : Nat → Prop} {w w' : World} {d : StrD} {cs : List Value} (h : StrIs S w d cs) (K : Keeps T w w') (hT : ∀ b, S b → ¬ T b) (hS : ∀ b, S b → S' b) : StrIs S' w' d cs := by
 obtain ⟨a2, c2, a3, c3, rfl, h0, h1, h2⟩ := h
 exact ⟨a2, c2, a3, c3, rfl, h0, h1.keeps K hT hS (fun _ _ _ h => h), h2.keeps K hT hS (fun _ _ _ h => h.keeps K hT hS)⟩
theorem StrIs.len {S : Nat → Prop} {w : World} {d : StrD} {cs : List Value} (h : StrIs S w d cs) : cs.length = 5 := by
 obtain ⟨a2, c2, a3, c3, rfl, h0, h1, h2⟩ := h
 simp only [List.length_cons, List.length_nil]
theorem StrIs.one {S : Nat → Prop} {w : World} {d : StrD} {cs : List Value} (h : StrIs S w d cs) : ∀ u ∈ cs, u.oneCell' = true := by
 obtain ⟨a2, c2, a3, c3, rfl, h0, h1, h2⟩ := h
 intro u hu
 simp only [List.mem_cons, List.not_mem_nil, or_false] at hu
 rcases hu with (rfl | rfl | rfl | rfl | rfl)
 all_goals first | rfl
def LifIs (S : Nat → Prop) (w : World) (d : LifD) (cs : List Value) : Prop := ∃ (a1 : Option Addr) (c1 : Nat), cs = [txV d.name, .slice a1 (d.over).length c1] ∧ (d.name).length ≤ bigN ∧ SlIs S w 1 TxIs a1 (d.over)
theorem LifIs.keeps {S S' T : Nat → Prop} {w w' : World} {d : LifD} {cs : List Value} (h : LifIs S w d cs) (K : Keeps T w w') (hT : ∀ b, S b → ¬ T b) (hS : ∀ b, S b → S' b) : LifIs S' w' d cs := by
 obtain ⟨a1, c1, rfl, h0, h1⟩ := h
 exact ⟨a1, c1, rfl, h0, h1.keeps K hT hS (fun _ _ _ h => h)⟩
theorem LifIs.len {S : Nat → Prop} {w : World} {d : LifD} {cs : List Value} (h : LifIs S w d cs) : cs.length = 2 := by
 obtain ⟨a1, c1, rfl, h0, h1⟩ := h
 simp only [List.length_cons, List.length_nil]
theorem LifIs.one {S : Nat → Prop} {w : World} {d : LifD} {cs : List Value} (h : LifIs S w d cs) : ∀ u ∈ cs, u.oneCell' = true := by
 obtain ⟨a1, c1, rfl, h0, h1⟩ := h
 intro u hu
 simp only [List.mem_cons, List.not_mem_nil, or_false] at hu
 rcases hu with (rfl | rfl)
 all_goals first | rfl
def FunIs (S : Nat → Prop) (w : World) (d : FunD) (cs : List Value) : Prop := ∃ (a2 : Option Addr) (c2 : Nat) (a3 : Option Addr) (c3 : Nat) (s4 : List Value) (a8 : Option Addr) (c8 : Nat), cs = [.bool d.pub, txV d.name, .slice a2 (d.lives).length c2, .slice a3 (d.params).length c3] ++ s4 ++ [.slice a8 (d.body).length c8, .int .i64 d.pos] ∧ (d.name).length ≤ bigN ∧ SlIs S w 2 (LifIs S w) a2 (d.lives) ∧ SlIs S w 6 (FldIs S w) a3 (d.params) ∧ TyIs S w (d.result) s4 ∧ SlIs S w 32 (StIs S w) a8 (d.body)
theorem FunIs.keeps {S S' T : Nat → Prop} {w w' : World} {d : FunD} {cs : List Value} (h : FunIs S w d cs) (K : Keeps T w w') (hT : ∀ b, S b → ¬ T b) (hS : ∀ b, S b → S' b) : FunIs S' w' d cs := by
 obtain ⟨a2, c2, a3, c3, s4, a8, c8, rfl, h0, h1, h2, h3, h4⟩ := h
 exact ⟨a2, c2, a3, c3, s4, a8, c8, rfl, h0, h1.keeps K hT hS (fun _ _ _ h => h.keeps K hT hS), h2.keeps K hT hS (fun _ _ _ h => h.keeps K hT hS), h3.keeps K hT hS, h4.keeps K hT hS (fun _ _ _ h => h.keeps K hT hS)⟩
theorem FunIs.len {S : Nat → Prop} {w : World} {d : FunD} {cs : List Value} (h : FunIs S w d cs) : cs.length = 10 := by
 obtain ⟨a2, c2, a3, c3, s4, a8, c8, rfl, h0, h1, h2, h3, h4⟩ := h
 simp only [List.length_append, List.length_cons, List.length_nil, h3.len]
theorem FunIs.one {S : Nat → Prop} {w : World} {d : FunD} {cs : List Value} (h : FunIs S w d cs) : ∀ u ∈ cs, u.oneCell' = true := by
 obtain ⟨a2, c2, a3, c3, s4, a8, c8, rfl, h0, h1, h2, h3, h4⟩ := h
 intro u hu
 simp only [List.mem_append, List.mem_cons, List.not_mem_nil, or_false] at hu
 rcases hu with (((rfl | rfl | rfl | rfl) | hu) | rfl | rfl)
 all_goals first | rfl | exact h3.one _ hu
def CrIs (S : Nat → Prop) (w : World) (d : CrD) (cs : List Value) : Prop := ∃ (a0 : Option Addr) (c0 : Nat) (a1 : Option Addr) (c1 : Nat), cs = [.slice a0 (d.structs).length c0, .slice a1 (d.funcs).length c1] ∧ SlIs S w 5 (StrIs S w) a0 (d.structs) ∧ SlIs S w 10 (FunIs S w) a1 (d.funcs)
theorem CrIs.keeps {S S' T : Nat → Prop} {w w' : World} {d : CrD} {cs : List Value} (h : CrIs S w d cs) (K : Keeps T w w') (hT : ∀ b, S b → ¬ T b) (hS : ∀ b, S b → S' b) : CrIs S' w' d cs := by
 obtain ⟨a0, c0, a1, c1, rfl, h0, h1⟩ := h
 exact ⟨a0, c0, a1, c1, rfl, h0.keeps K hT hS (fun _ _ _ h => h.keeps K hT hS), h1.keeps K hT hS (fun _ _ _ h => h.keeps K hT hS)⟩
theorem CrIs.len {S : Nat → Prop} {w : World} {d : CrD} {cs : List Value} (h : CrIs S w d cs) : cs.length = 2 := by
 obtain ⟨a0, c0, a1, c1, rfl, h0, h1⟩ := h
 simp only [List.length_cons, List.length_nil]
theorem CrIs.one {S : Nat → Prop} {w : World} {d : CrD} {cs : List Value} (h : CrIs S w d cs) : ∀ u ∈ cs, u.oneCell' = true := by
 obtain ⟨a0, c0, a1, c1, rfl, h0, h1⟩ := h
 intro u hu
 simp only [List.mem_cons, List.not_mem_nil, or_false] at hu
 rcases hu with (rfl | rfl)
 all_goals first | rfl
end Go.Proofs.YtjbcagbnagefcaaGreat
namespace Go.Proofs.YtjbcagbnagefcaaGreat
open Go.RowKit
theorem sub_of {w : World} {g o n : Nat} {cs : List Value} (hr : w.rangeAt g o cs) (hl : cs.length = n) : midOk w g o n = true ∧ midOf w g o n = cs.toArray := by
 have h2 := midOk_range hr
 have h3 := midOf_range hr
 rw [hl] at h2 h3
 exact ⟨h2, h3⟩
theorem rng_app {w : World} {g o : Nat} {xs ys : List Value} (h : w.rangeAt g o (xs ++ ys)) : w.rangeAt g o xs ∧ w.rangeAt g (o + xs.length) ys := by
 refine ⟨fun j v hj => h j v ?_, fun j v hj => ?_⟩
 ·rw [List.getElem?_append_left (List.getElem?_eq_some_iff.1 hj).1]
  exact hj
 ·rw [Nat.add_assoc]
  refine h (xs.length + j) v ?_
  rw [List.getElem?_append_right (by omega), Nat.add_sub_cancel_left]
  exact hj
theorem TyR {w : World} {g o : Nat} {v0 v1 v2 v3 : Value}  (hr : w.rangeAt g o ([v0, v1, v2, v3])) :
  w.cell? ⟨g, o, none⟩ = some v0 ∧ w.cell? ⟨g, o + 1, none⟩ = some v1 ∧ w.cell? ⟨g, o + 2, none⟩ = some v2 ∧ w.cell? ⟨g, o + 3, none⟩ = some v3 := by
 have q0 := hr
 exact ⟨q0 0 _ rfl, q0 1 _ rfl, q0 2 _ rfl, q0 3 _ rfl⟩
theorem TyB {w : World} {g : Nat} {T : TypeId} {v0 v1 v2 v3 : Value}  {C : Array Value} (hC : C = ([v0, v1, v2, v3]).toArray) (hb : Blk w g C T) :
  w.cell? ⟨g, 0, none⟩ = some v0 ∧ w.cell? ⟨g, 1, none⟩ = some v1 ∧ w.cell? ⟨g, 2, none⟩ = some v2 ∧ w.cell? ⟨g, 3, none⟩ = some v3 := by
 subst hC
 have h := TyR  (rangeAt_blk hb)
 simpa only [Nat.zero_add] using h
theorem PlR {w : World} {g o : Nat} {v0 v1 : Value}  (hr : w.rangeAt g o ([v0, v1])) :
  w.cell? ⟨g, o, none⟩ = some v0 ∧ w.cell? ⟨g, o + 1, none⟩ = some v1 := by
 have q0 := hr
 exact ⟨q0 0 _ rfl, q0 1 _ rfl⟩
theorem PlB {w : World} {g : Nat} {T : TypeId} {v0 v1 : Value}  {C : Array Value} (hC : C = ([v0, v1]).toArray) (hb : Blk w g C T) :
  w.cell? ⟨g, 0, none⟩ = some v0 ∧ w.cell? ⟨g, 1, none⟩ = some v1 := by
 subst hC
 have h := PlR  (rangeAt_blk hb)
 simpa only [Nat.zero_add] using h
theorem OprR {w : World} {g o : Nat} {v0 v1 : Value} {s2 : List Value} (hl2 : s2.length = 2) (hr : w.rangeAt g o ([v0, v1] ++ s2)) :
  w.cell? ⟨g, o, none⟩ = some v0 ∧ w.cell? ⟨g, o + 1, none⟩ = some v1 ∧ (midOk w g (o + 2) 2 = true ∧ midOf w g (o + 2) 2 = s2.toArray) := by
 have q2 : w.rangeAt g (o + 2) s2 := by
  have h := (rng_app hr).2
  rwa [show ([v0, v1]).length = 2 by simp] at h
 have hr := (rng_app hr).1
 have q0 := hr
 exact ⟨q0 0 _ rfl, q0 1 _ rfl, sub_of q2 hl2⟩
theorem OprB {w : World} {g : Nat} {T : TypeId} {v0 v1 : Value} {s2 : List Value} (hl2 : s2.length = 2) {C : Array Value} (hC : C = ([v0, v1] ++ s2).toArray) (hb : Blk w g C T) :
  w.cell? ⟨g, 0, none⟩ = some v0 ∧ w.cell? ⟨g, 1, none⟩ = some v1 ∧ (midOk w g (2) 2 = true ∧ midOf w g (2) 2 = s2.toArray) := by
 subst hC
 have h := OprR hl2 (rangeAt_blk hb)
 simpa only [Nat.zero_add] using h
theorem ValR {w : World} {g o : Nat} {v0 v9 v12 v13 v14 : Value} {s1 : List Value} (hl1 : s1.length = 4) {s5 : List Value} (hl5 : s5.length = 4) {s10 : List Value} (hl10 : s10.length = 2) (hr : w.rangeAt g o ([v0] ++ s1 ++ s5 ++ [v9] ++ s10 ++ [v12, v13, v14])) :
  w.cell? ⟨g, o, none⟩ = some v0 ∧ (midOk w g (o + 1) 4 = true ∧ midOf w g (o + 1) 4 = s1.toArray) ∧ (midOk w g (o + 5) 4 = true ∧ midOf w g (o + 5) 4 = s5.toArray) ∧ w.cell? ⟨g, o + 9, none⟩ = some v9 ∧ (midOk w g (o + 10) 2 = true ∧ midOf w g (o + 10) 2 = s10.toArray) ∧ w.cell? ⟨g, o + 12, none⟩ = some v12 ∧ w.cell? ⟨g, o + 13, none⟩ = some v13 ∧ w.cell? ⟨g, o + 14, none⟩ = some v14 := by
 have q12 : w.rangeAt g (o + 12) [v12, v13, v14] := by
  have h := (rng_app hr).2
  rwa [show ([v0] ++ s1 ++ s5 ++ [v9] ++ s10).length = 12 by simp [hl1, hl5, hl10]] at h
 have hr := (rng_app hr).1
 have q10 : w.rangeAt g (o + 10) s10 := by
  have h := (rng_app hr).2
  rwa [show ([v0] ++ s1 ++ s5 ++ [v9]).length = 10 by simp [hl1, hl5]] at h
 have hr := (rng_app hr).1
 have q9 : w.rangeAt g (o + 9) [v9] := by
  have h := (rng_app hr).2
  rwa [show ([v0] ++ s1 ++ s5).length = 9 by simp [hl1, hl5]] at h
 have hr := (rng_app hr).1
 have q5 : w.rangeAt g (o + 5) s5 := by
  have h := (rng_app hr).2
  rwa [show ([v0] ++ s1).length = 5 by simp [hl1]] at h
 have hr := (rng_app hr).1
 have q1 : w.rangeAt g (o + 1) s1 := by
  have h := (rng_app hr).2
  rwa [show ([v0]).length = 1 by simp] at h
 have hr := (rng_app hr).1
 have q0 := hr
 exact ⟨q0 0 _ rfl, sub_of q1 hl1, sub_of q5 hl5, q9 0 _ rfl, sub_of q10 hl10, q12 0 _ rfl, q12 1 _ rfl, q12 2 _ rfl⟩
theorem ValB {w : World} {g : Nat} {T : TypeId} {v0 v9 v12 v13 v14 : Value} {s1 : List Value} (hl1 : s1.length = 4) {s5 : List Value} (hl5 : s5.length = 4) {s10 : List Value} (hl10 : s10.length = 2) {C : Array Value} (hC : C = ([v0] ++ s1 ++ s5 ++ [v9] ++ s10 ++ [v12, v13, v14]).toArray) (hb : Blk w g C T) :
  w.cell? ⟨g, 0, none⟩ = some v0 ∧ (midOk w g (1) 4 = true ∧ midOf w g (1) 4 = s1.toArray) ∧ (midOk w g (5) 4 = true ∧ midOf w g (5) 4 = s5.toArray) ∧ w.cell? ⟨g, 9, none⟩ = some v9 ∧ (midOk w g (10) 2 = true ∧ midOf w g (10) 2 = s10.toArray) ∧ w.cell? ⟨g, 12, none⟩ = some v12 ∧ w.cell? ⟨g, 13, none⟩ = some v13 ∧ w.cell? ⟨g, 14, none⟩ = some v14 := by
 subst hC
 have h := ValR hl1 hl5 hl10 (rangeAt_blk hb)
 simpa only [Nat.zero_add] using h
theorem StR {w : World} {g o : Nat} {v0 v1 v2 v3 v8 v30 v31 : Value} {s4 : List Value} (hl4 : s4.length = 4) {s9 : List Value} (hl9 : s9.length = 2) {s11 : List Value} (hl11 : s11.length = 15) {s26 : List Value} (hl26 : s26.length = 4) (hr : w.rangeAt g o ([v0, v1, v2, v3] ++ s4 ++ [v8] ++ s9 ++ s11 ++ s26 ++ [v30, v31])) :
  w.cell? ⟨g, o, none⟩ = some v0 ∧ w.cell? ⟨g, o + 1, none⟩ = some v1 ∧ w.cell? ⟨g, o + 2, none⟩ = some v2 ∧ w.cell? ⟨g, o + 3, none⟩ = some v3 ∧ (midOk w g (o + 4) 4 = true ∧ midOf w g (o + 4) 4 = s4.toArray) ∧ w.cell? ⟨g, o + 8, none⟩ = some v8 ∧ (midOk w g (o + 9) 2 = true ∧ midOf w g (o + 9) 2 = s9.toArray) ∧ (midOk w g (o + 11) 15 = true ∧ midOf w g (o + 11) 15 = s11.toArray) ∧ (midOk w g (o + 26) 4 = true ∧ midOf w g (o + 26) 4 = s26.toArray) ∧ w.cell? ⟨g, o + 30, none⟩ = some v30 ∧ w.cell? ⟨g, o + 31, none⟩ = some v31 := by
 have q30 : w.rangeAt g (o + 30) [v30, v31] := by
  have h := (rng_app hr).2
  rwa [show ([v0, v1, v2, v3] ++ s4 ++ [v8] ++ s9 ++ s11 ++ s26).length = 30 by simp [hl4, hl9, hl11, hl26]] at h
 have hr := (rng_app hr).1
 have q26 : w.rangeAt g (o + 26) s26 := by
  have h := (rng_app hr).2
  rwa [show ([v0, v1, v2, v3] ++ s4 ++ [v8] ++ s9 ++ s11).length = 26 by simp [hl4, hl9, hl11]] at h
 have hr := (rng_app hr).1
 have q11 : w.rangeAt g (o + 11) s11 := by
  have h := (rng_app hr).2
  rwa [show ([v0, v1, v2, v3] ++ s4 ++ [v8] ++ s9).length = 11 by simp [hl4, hl9]] at h
 have hr := (rng_app hr).1
 have q9 : w.rangeAt g (o + 9) s9 := by
  have h := (rng_app hr).2
  rwa [show ([v0, v1, v2, v3] ++ s4 ++ [v8]).length = 9 by simp [hl4]] at h
 have hr := (rng_app hr).1
 have q8 : w.rangeAt g (o + 8) [v8] := by
  have h := (rng_app hr).2
  rwa [show ([v0, v1, v2, v3] ++ s4).length = 8 by simp [hl4]] at h
 have hr := (rng_app hr).1
 have q4 : w.rangeAt g (o + 4) s4 := by
  have h := (rng_app hr).2
  rwa [show ([v0, v1, v2, v3]).length = 4 by simp] at h
 have hr := (rng_app hr).1
 have q0 := hr
 exact ⟨q0 0 _ rfl, q0 1 _ rfl, q0 2 _ rfl, q0 3 _ rfl, sub_of q4 hl4, q8 0 _ rfl, sub_of q9 hl9, sub_of q11 hl11, sub_of q26 hl26, q30 0 _ rfl, q30 1 _ rfl⟩
theorem StB {w : World} {g : Nat} {T : TypeId} {v0 v1 v2 v3 v8 v30 v31 : Value} {s4 : List Value} (hl4 : s4.length = 4) {s9 : List Value} (hl9 : s9.length = 2) {s11 : List Value} (hl11 : s11.length = 15) {s26 : List Value} (hl26 : s26.length = 4) {C : Array Value} (hC : C = ([v0, v1, v2, v3] ++ s4 ++ [v8] ++ s9 ++ s11 ++ s26 ++ [v30, v31]).toArray) (hb : Blk w g C T) :
  w.cell? ⟨g, 0, none⟩ = some v0 ∧ w.cell? ⟨g, 1, none⟩ = some v1 ∧ w.cell? ⟨g, 2, none⟩ = some v2 ∧ w.cell? ⟨g, 3, none⟩ = some v3 ∧ (midOk w g (4) 4 = true ∧ midOf w g (4) 4 = s4.toArray) ∧ w.cell? ⟨g, 8, none⟩ = some v8 ∧ (midOk w g (9) 2 = true ∧ midOf w g (9) 2 = s9.toArray) ∧ (midOk w g (11) 15 = true ∧ midOf w g (11) 15 = s11.toArray) ∧ (midOk w g (26) 4 = true ∧ midOf w g (26) 4 = s26.toArray) ∧ w.cell? ⟨g, 30, none⟩ = some v30 ∧ w.cell? ⟨g, 31, none⟩ = some v31 := by
 subst hC
 have h := StR hl4 hl9 hl11 hl26 (rangeAt_blk hb)
 simpa only [Nat.zero_add] using h
theorem FldR {w : World} {g o : Nat} {v0 v1 : Value} {s2 : List Value} (hl2 : s2.length = 4) (hr : w.rangeAt g o ([v0, v1] ++ s2)) :
  w.cell? ⟨g, o, none⟩ = some v0 ∧ w.cell? ⟨g, o + 1, none⟩ = some v1 ∧ (midOk w g (o + 2) 4 = true ∧ midOf w g (o + 2) 4 = s2.toArray) := by
 have q2 : w.rangeAt g (o + 2) s2 := by
  have h := (rng_app hr).2
  rwa [show ([v0, v1]).length = 2 by simp] at h
 have hr := (rng_app hr).1
 have q0 := hr
 exact ⟨q0 0 _ rfl, q0 1 _ rfl, sub_of q2 hl2⟩
theorem FldB {w : World} {g : Nat} {T : TypeId} {v0 v1 : Value} {s2 : List Value} (hl2 : s2.length = 4) {C : Array Value} (hC : C = ([v0, v1] ++ s2).toArray) (hb : Blk w g C T) :
  w.cell? ⟨g, 0, none⟩ = some v0 ∧ w.cell? ⟨g, 1, none⟩ = some v1 ∧ (midOk w g (2) 4 = true ∧ midOf w g (2) 4 = s2.toArray) := by
 subst hC
 have h := FldR hl2 (rangeAt_blk hb)
 simpa only [Nat.zero_add] using h
theorem StrR {w : World} {g o : Nat} {v0 v1 v2 v3 v4 : Value}  (hr : w.rangeAt g o ([v0, v1, v2, v3, v4])) :
  w.cell? ⟨g, o, none⟩ = some v0 ∧ w.cell? ⟨g, o + 1, none⟩ = some v1 ∧ w.cell? ⟨g, o + 2, none⟩ = some v2 ∧ w.cell? ⟨g, o + 3, none⟩ = some v3 ∧ w.cell? ⟨g, o + 4, none⟩ = some v4 := by
 have q0 := hr
 exact ⟨q0 0 _ rfl, q0 1 _ rfl, q0 2 _ rfl, q0 3 _ rfl, q0 4 _ rfl⟩
theorem StrB {w : World} {g : Nat} {T : TypeId} {v0 v1 v2 v3 v4 : Value}  {C : Array Value} (hC : C = ([v0, v1, v2, v3, v4]).toArray) (hb : Blk w g C T) :
  w.cell? ⟨g, 0, none⟩ = some v0 ∧ w.cell? ⟨g, 1, none⟩ = some v1 ∧ w.cell? ⟨g, 2, none⟩ = some v2 ∧ w.cell? ⟨g, 3, none⟩ = some v3 ∧ w.cell? ⟨g, 4, none⟩ = some v4 := by
 subst hC
 have h := StrR  (rangeAt_blk hb)
 simpa only [Nat.zero_add] using h
theorem LifR {w : World} {g o : Nat} {v0 v1 : Value}  (hr : w.rangeAt g o ([v0, v1])) :
  w.cell? ⟨g, o, none⟩ = some v0 ∧ w.cell? ⟨g, o + 1, none⟩ = some v1 := by
 have q0 := hr
 exact ⟨q0 0 _ rfl, q0 1 _ rfl⟩
theorem LifB {w : World} {g : Nat} {T : TypeId} {v0 v1 : Value}  {C : Array Value} (hC : C = ([v0, v1]).toArray) (hb : Blk w g C T) :
  w.cell? ⟨g, 0, none⟩ = some v0 ∧ w.cell? ⟨g, 1, none⟩ = some v1 := by
 subst hC
 have h := LifR  (rangeAt_blk hb)
 simpa only [Nat.zero_add] using h
theorem FunR {w : World} {g o : Nat} {v0 v1 v2 v3 v8 v9 : Value} {s4 : List Value} (hl4 : s4.length = 4) (hr : w.rangeAt g o ([v0, v1, v2, v3] ++ s4 ++ [v8, v9])) :
  w.cell? ⟨g, o, none⟩ = some v0 ∧ w.cell? ⟨g, o + 1, none⟩ = some v1 ∧ w.cell? ⟨g, o + 2, none⟩ = some v2 ∧ w.cell? ⟨g, o + 3, none⟩ = some v3 ∧ (midOk w g (o + 4) 4 = true ∧ midOf w g (o + 4) 4 = s4.toArray) ∧ w.cell? ⟨g, o + 8, none⟩ = some v8 ∧ w.cell? ⟨g, o + 9, none⟩ = some v9 := by
 have q8 : w.rangeAt g (o + 8) [v8, v9] := by
  have h := (rng_app hr).2
  rwa [show ([v0, v1, v2, v3] ++ s4).length = 8 by simp [hl4]] at h
 have hr := (rng_app hr).1
 have q4 : w.rangeAt g (o + 4) s4 := by
  have h := (rng_app hr).2
  rwa [show ([v0, v1, v2, v3]).length = 4 by simp] at h
 have hr := (rng_app hr).1
 have q0 := hr
 exact ⟨q0 0 _ rfl, q0 1 _ rfl, q0 2 _ rfl, q0 3 _ rfl, sub_of q4 hl4, q8 0 _ rfl, q8 1 _ rfl⟩
theorem FunB {w : World} {g : Nat} {T : TypeId} {v0 v1 v2 v3 v8 v9 : Value} {s4 : List Value} (hl4 : s4.length = 4) {C : Array Value} (hC : C = ([v0, v1, v2, v3] ++ s4 ++ [v8, v9]).toArray) (hb : Blk w g C T) :
  w.cell? ⟨g, 0, none⟩ = some v0 ∧ w.cell? ⟨g, 1, none⟩ = some v1 ∧ w.cell? ⟨g, 2, none⟩ = some v2 ∧ w.cell? ⟨g, 3, none⟩ = some v3 ∧ (midOk w g (4) 4 = true ∧ midOf w g (4) 4 = s4.toArray) ∧ w.cell? ⟨g, 8, none⟩ = some v8 ∧ w.cell? ⟨g, 9, none⟩ = some v9 := by
 subst hC
 have h := FunR hl4 (rangeAt_blk hb)
 simpa only [Nat.zero_add] using h
theorem CrR {w : World} {g o : Nat} {v0 v1 : Value}  (hr : w.rangeAt g o ([v0, v1])) :
  w.cell? ⟨g, o, none⟩ = some v0 ∧ w.cell? ⟨g, o + 1, none⟩ = some v1 := by
 have q0 := hr
 exact ⟨q0 0 _ rfl, q0 1 _ rfl⟩
theorem CrB {w : World} {g : Nat} {T : TypeId} {v0 v1 : Value}  {C : Array Value} (hC : C = ([v0, v1]).toArray) (hb : Blk w g C T) :
  w.cell? ⟨g, 0, none⟩ = some v0 ∧ w.cell? ⟨g, 1, none⟩ = some v1 := by
 subst hC
 have h := CrR  (rangeAt_blk hb)
 simpa only [Nat.zero_add] using h
end Go.Proofs.YtjbcagbnagefcaaGreat
namespace Go.Proofs.YtjbcagbnagefcaaGreat
open Go Go.RowKit
def noP (Q : Exit → Act → World → Prop) : Exit → Act → World → Prop
 | .panic _, _, _ => False
 | e, a, w => Q e a w
theorem noP_le {Q : Exit → Act → World → Prop} (e : Exit) (a : Act) (w : World) (h : noP Q e a w) : Q e a w := by
 cases e <;> first | exact h | exact h.elim
def wpMix (P : Program) (ops : Array Oper) (S : World → Prop) (Q : Exit → Act → World → Prop) : List (Bool × Oper) → Act → World → Prop
 | [], a, w => Q .normal a w
 | (true, o) :: r, a, w => if Region.wanted o (yielded ops a.tmps) = true then ∃ v, (∀ W, S W → (execOp a.eval o).run P W = .ok (.value v) W) ∧ wpMix P ops S Q r (a.put o.dst v) w else wpMix P ops S Q r (a.put o.dst undef) w
 | (false, o) :: r, a, w => wpList P ops (Exit.then (fun a' w' => S w' ∧ wpMix P ops S Q r a' w') (noP Q)) [o] a w
def mixItems (ops : List Oper) (plan : List (Bool × Nat)) : List (Bool × Oper) := plan.map fun p => (p.1, ops.getD p.2 default)
def mixB (ops : Array Oper) : List (Bool × Nat) → Array Bool → Bool
 | [], listed => (Region.ready .any ops listed).isEmpty
 | (true, k) :: r, listed => decide (k < ops.size) && (Region.ready .any ops listed).contains k && Region.free .any ops listed k && mixB ops r (listed.setIfInBounds k true)
 | (false, k) :: r, listed => decide (k < ops.size) && decide (Region.ready .any ops listed = [k]) && mixB ops r (listed.setIfInBounds k true)
section
variable {P : Program} {Q : Exit → Act → World → Prop} {S : World → Prop}
theorem oper_wp_mono {o : Oper} {a : Act} {w : World} {K K' : Act → World → Prop} {R R' : Exit → Act → World → Prop} (hK : ∀ a w, K a w → K' a w) (hP : ∀ c a w, R (.panic c) a w → R' (.panic c) a w)
  (hL : LetsOut R → LetsOut R') (h : o.wp P a w K R) : o.wp P a w K' R' := by
 unfold Oper.wp at *
 generalize (execOp a.eval o).run P w = r at *
 cases r with
 | ok n w' =>
  cases n <;> simp only [Oper.upon] at h ⊢
  case enter f args =>
   refine Calls.mono h fun e w'' he => ?_
   cases e with
   | returned u => exact hK _ _ he
   | panicked c => exact hP _ _ _ he
   | outgrown => exact hL he
  case row row args => exact Rows.mono h fun u w'' he => hK _ _ he
  all_goals exact hK _ _ h
 | halt x w' =>
  cases x <;> simp only [Oper.upon] at h ⊢
  case panic u => exact hP _ _ _ h
theorem mix_sound (l : List Oper) (hs : Region.noSelect l.toArray = true) : ∀ (plan : List (Bool × Nat)) (listed : Array Bool) (a : Act) (w : World), mixB l.toArray plan listed = true → S w →
  wpMix P l.toArray S Q (mixItems l plan) a w → wpAnyH P .any l.toArray (noP Q) S plan.length listed a w := by
 intro plan
 induction plan with
 | nil =>
  intro listed a w hB _ h
  exact ⟨by simpa [mixB] using hB, h⟩
 | cons p r ih =>
  intro listed a w hB hS h
  obtain ⟨b, k⟩ := p
  cases b with
  | true =>
   simp only [mixB, Bool.and_eq_true, decide_eq_true_eq] at hB
   obtain ⟨⟨⟨hlt, hr⟩, hf⟩, hB'⟩ := hB
   have hk : l.toArray[k]? = some (l.getD k default) := by
    have hlt' : k < l.length := by simpa using hlt
    simp [List.getD, hlt']
   unfold mixItems at h
   rw [List.map_cons] at h
   unfold wpMix at h
   simp only at h
   by_cases hw : Region.wanted (l.getD k default) (yielded l.toArray a.tmps) = true
   ·rw [if_pos hw] at h
    obtain ⟨v, hv, hn⟩ := h
    exact wpAnyH_take hk hs hf hr (fun c a w h => h) (.inl ⟨hw, hv⟩) hS (ih _ _ _ hB' hS hn)
   ·rw [if_neg hw] at h
    exact wpAnyH_take (v := undef) hk hs hf hr (fun c a w h => h) (.inr ⟨by simpa using hw, rfl⟩) hS (ih _ _ _ hB' hS h)
  | false =>
   simp only [mixB, Bool.and_eq_true, decide_eq_true_eq] at hB
   obtain ⟨⟨hlt, hr⟩, hB'⟩ := hB
   have hk : l.toArray[k]? = some (l.getD k default) := by
    have hlt' : k < l.length := by simpa using hlt
    simp [List.getD, hlt']
   unfold mixItems at h
   rw [List.map_cons] at h
   unfold wpMix at h
   simp only at h
   refine wpAnyH_all hr (by simp) fun i hi => ?_
   obtain rfl : i = k := by simpa using hi
   unfold wpOp
   simp only [hk]
   unfold wpList at h
   by_cases hw : Region.wanted (l.getD i default) (yielded l.toArray a.tmps) = true
   ·rw [if_pos hw] at h ⊢
    rcases h with h | ⟨h1, h2⟩
    ·refine .inl (oper_wp_mono (fun a w h => ?_) (fun c a w h => h) (fun h => ?_) h)
     ·unfold wpList at h
      exact ⟨h.1, ih _ _ _ hB' h.1 h.2⟩
     ·obtain ⟨a, w, h⟩ := h; exact ⟨a, w, h⟩
    ·obtain ⟨a, w, h⟩ := h2
     exact .inr ⟨h1, a, w, h⟩
   ·rw [if_neg hw] at h ⊢
    unfold wpList at h
    exact ⟨h.1, ih _ _ _ hB' h.1 h.2⟩
theorem wp_region_mix {id : Nat} {a : Act} {w : World} {l : List Oper} (S : World → Prop) (plan : List (Bool × Nat)) (hm : P.follows .mixedOrders = true)
  (hB : (Region.noSelect l.toArray && decide (plan.length = l.toArray.size) && mixB l.toArray plan (Array.replicate l.toArray.size false)) = true) (hS : S w.drew)
  (h : wpMix P l.toArray S Q (mixItems l plan) a w.drew) : (Code.region id l.toArray true).wp P Q a w := by
 simp only [Bool.and_eq_true, decide_eq_true_eq] at hB
 obtain ⟨⟨hs, hl⟩, hB⟩ := hB
 have H := mix_sound (P := P) (Q := Q) (S := S) l hs plan _ a w.drew hB hS h
 rw [hl] at H
 exact wp_mono (wp_region_held hm H) noP_le
theorem wpMix_nil {ops : Array Oper} {a : Act} {w : World} (h : Q .normal a w) : wpMix P ops S Q [] a w := h
theorem wpMix_free {ops : Array Oper} {a : Act} {w : World} {o : Oper} {r : List (Bool × Oper)}
  (h : ∀ K : Act → Prop, (∀ a, wpMix P ops S Q r a w → K a) → if Region.wanted o (yielded ops a.tmps) = true then ∃ v, (∀ W, (execOp a.eval o).run P W = .ok (.value v) W) ∧ K (a.put o.dst v) else K (a.put o.dst undef)) : wpMix P ops S Q ((true, o) :: r) a w := by
 have h2 := h (fun a => wpMix P ops S Q r a w) (fun _ h => h)
 unfold wpMix
 by_cases hw : Region.wanted o (yielded ops a.tmps) = true
 ·rw [if_pos hw] at h2 ⊢
  obtain ⟨v, hv, hn⟩ := h2
  exact ⟨v, fun W _ => hv W, hn⟩
 ·rw [if_neg hw] at h2 ⊢
  exact h2
theorem wpMix_yield {ops : Array Oper} {a : Act} {w : World} {o : Oper} {r : List (Bool × Oper)} {v : Value} (hr : ∀ W, S W → (execOp a.eval o).run P W = .ok (.value v) W)
  (h : ∀ K : Act → Prop, (∀ a, wpMix P ops S Q r a w → K a) → if Region.wanted o (yielded ops a.tmps) = true then K (a.put o.dst v) else K (a.put o.dst undef)) : wpMix P ops S Q ((true, o) :: r) a w := by
 have h2 := h (fun a => wpMix P ops S Q r a w) (fun _ h => h)
 unfold wpMix
 by_cases hw : Region.wanted o (yielded ops a.tmps) = true
 ·rw [if_pos hw] at h2 ⊢
  exact ⟨v, hr, h2⟩
 ·rw [if_neg hw] at h2 ⊢
  exact h2
theorem wpMix_one {ops : Array Oper} {a : Act} {w : World} {o : Oper} {r : List (Bool × Oper)}
  (h : ∀ K : Act → World → Prop, (∀ a w, S w → wpMix P ops S Q r a w → K a w) → wpList P ops (Exit.then K (noP Q)) [o] a w) : wpMix P ops S Q ((false, o) :: r) a w := by
 unfold wpMix
 exact h (fun a w => S w ∧ wpMix P ops S Q r a w) (fun a w h1 h2 => ⟨h1, h2⟩)
end
end Go.Proofs.YtjbcagbnagefcaaGreat
namespace Go.Proofs.YtjbcagbnagefcaaGreat
open Go Go.RowKit
inductive PlanT (α : Type) where
 | done : PlanT α
 | take : α → PlanT α → PlanT α
 | one : α → PlanT α → PlanT α
 | two : α → α → PlanT α → PlanT α → PlanT α
def PlanT.map {α β : Type} (f : α → β) : PlanT α → PlanT β
 | .done => .done
 | .take i r => .take (f i) (r.map f)
 | .one i r => .one (f i) (r.map f)
 | .two i j r s => .two (f i) (f j) (r.map f) (s.map f)
def PlanT.isDone {α : Type} : PlanT α → Bool
 | .done => true
 | _ => false
theorem PlanT.of_isDone {α : Type} {p : PlanT α} (h : p.isDone = true) : p = .done := by cases p <;> first | rfl | cases h
abbrev ItemT := PlanT (Bool × Oper)
def itemsT (ops : List Oper) (k : Nat) (p : PlanT Nat) : ItemT := p.map fun i => (i == k, ops.getD i default)
section
variable {P : Program} {Q : Exit → Act → World → Prop} {S : World → Prop}
def wpMixT (P : Program) (ops : Array Oper) (S : World → Prop) (Q : Exit → Act → World → Prop) : ItemT → Act → World → Prop
 | .done, a, w => Q .normal a w
 | .take o r, a, w => if Region.wanted o.2 (yielded ops a.tmps) = true then ∃ v, (∀ W, S W → (execOp a.eval o.2).run P W = .ok (.value v) W) ∧ wpMixT P ops S Q r (a.put o.2.dst v) w else wpMixT P ops S Q r (a.put o.2.dst undef) w
 | .one o r, a, w => wpList P ops (Exit.then (fun a' w' => (o.1 = true ∨ S w') ∧ wpMixT P ops S Q r a' w') (noP Q)) [o.2] a w
 | .two o u r s, a, w => wpList P ops (Exit.then (fun a' w' => (o.1 = true ∨ S w') ∧ wpMixT P ops S Q r a' w') (noP Q)) [o.2] a w ∧ wpList P ops (Exit.then (fun a' w' => (u.1 = true ∨ S w') ∧ wpMixT P ops S Q s a' w') (noP Q)) [u.2] a w
def waitsB (ops : Array Oper) (k i : Nat) : Bool := match ops[k]? with | some o => o.after.any fun e => Region.binds .any e && e.on == i | none => false
def mixT (ops : Array Oper) (k : Nat) : PlanT Nat → Array Bool → Bool
 | .done, listed => (Region.ready .any ops listed).isEmpty
 | .take i r, listed => decide (i < ops.size) && (Region.ready .any ops listed).contains i && Region.free .any ops listed i && waitsB ops k i && mixT ops k r (listed.setIfInBounds i true)
 | .one i r, listed => decide (i < ops.size) && decide (Region.ready .any ops listed = [i]) && (!(i == k) || r.isDone) && mixT ops k r (listed.setIfInBounds i true)
 | .two i j r s, listed => decide (i < ops.size) && decide (j < ops.size) && decide (Region.ready .any ops listed = [i, j]) && (!(i == k) || r.isDone) && (!(j == k) || s.isDone) && mixT ops k r (listed.setIfInBounds i true) && mixT ops k s (listed.setIfInBounds j true)
def sizeT : PlanT Nat → Nat → Bool
 | .done, n => n == 0
 | .take _ r, n + 1 => sizeT r n
 | .one _ r, n + 1 => sizeT r n
 | .two _ _ r s, n + 1 => sizeT r n && sizeT s n
 | _, 0 => false
def wpTo (P : Program) (ops : Array Oper) (Q : Exit → Act → World → Prop) (S : World → Prop) (k : Nat) : Nat → Array Bool → Act → World → Prop
 | 0, listed, a, w => Region.ready .any ops listed = [] ∧ Q .normal a w
 | n + 1, listed, a, w => (Region.ready .any ops listed = [] → Q .normal a w) ∧ ∀ i ∈ Region.ready .any ops listed, wpOp P ops Q i (fun a' w' => (i = k ∨ S w') ∧ wpTo P ops Q S k n (listed.setIfInBounds i true) a' w') a w
theorem wpAny_to {ops : Array Oper} {k : Nat} : ∀ (n : Nat) (listed : Array Bool) (a : Act) (w : World), wpTo P ops Q S k n listed a w → wpAny P .any ops Q n listed a w := by
 intro n
 induction n with
 | zero => intro listed a w h; exact h
 | succ n ih => intro listed a w h; exact ⟨h.1, fun i hi => wpOp_mono (fun a' w' h' => ih _ a' w' h'.2) (h.2 i hi)⟩
theorem waits_spec {ops : Array Oper} {k i : Nat} (h : waitsB ops k i = true) {listed : Array Bool} (hi : i ∈ Region.ready .any ops listed) : k ∉ Region.ready .any ops listed := by
 intro hk
 obtain ⟨_, o, ho, hall⟩ := mem_ready.1 hk
 unfold waitsB at h
 rw [ho] at h
 obtain ⟨e, he, hb⟩ := Array.any_eq_true'.1 h
 rw [Bool.and_eq_true, beq_iff_eq] at hb
 have h1 := hall e he hb.1
 have h0 := (mem_ready.1 hi).1
 rw [hb.2] at h1
 by_cases hlt : i < listed.size
 ·simp [hlt] at h0 h1
  rw [h0] at h1
  cases h1
 ·simp [Array.getElem?_eq_none (Nat.le_of_not_lt hlt)] at h1
theorem to_first {ops : Array Oper} {k i : Nat} {oi : Oper} {v : Value} (hi : ops[i]? = some oi) (hk : waitsB ops k i = true) (hik : i ≠ k) (hsel : ∀ (j : Nat) (o : Oper) cs b, ops[j]? = some o → o.op ≠ .select cs b)
  (hQ : ∀ c a w, Q (.panic c) (a.put oi.dst v) w → Q (.panic c) a w) : ∀ (n : Nat) (listed : Array Bool) (a : Act) (w : World),
  (∀ j oj, ops[j]? = some oj → j ≠ i → listed.getD j true = false → (∀ e ∈ oj.after, Region.binds .any e = true → e.on ≠ i) → oi.apart ops oj = true) →
  i ∈ Region.ready .any ops listed → YieldsIf P ops S oi v a → S w → wpTo P ops Q S k n (listed.setIfInBounds i true) (a.put oi.dst v) w → wpTo P ops Q S k (n + 1) listed a w := by
 intro n
 induction n with
 | zero =>
  intro listed a w _ hr hy hS H
  constructor
  ·intro h; rw [h] at hr; cases hr
  ·intro j hj
   by_cases e : j = i
   ·subst e
    exact hy.wpOp hi hS ⟨.inr hS, H⟩
   ·have h2 := ready_mono hj e
    rw [H.1] at h2
    cases h2
 | succ n ih =>
  intro listed a w hfree hr hy hS H
  constructor
  ·intro h; rw [h] at hr; cases hr
  ·intro j hj
   by_cases e : j = i
   ·subst e
    exact hy.wpOp hi hS ⟨.inr hS, H⟩
   ·have hjk : j ≠ k := fun e2 => by subst e2; exact waits_spec hk hr hj
    obtain ⟨hju, oj, hoj, hall⟩ := mem_ready.1 hj
    have hnot : ∀ d ∈ oj.after, Region.binds .any d = true → d.on ≠ i := by
     intro d hd hb hdi
     have q1 := hall d hd hb
     have q0 := (mem_ready.1 hr).1
     rw [hdi] at q1
     by_cases hlt : i < listed.size
     ·simp [hlt] at q0 q1
      rw [q0] at q1
      cases q1
     ·simp [Array.getElem?_eq_none (Nat.le_of_not_lt hlt)] at q1
    have step := wpOp_putIf hoj (hfree j oj hoj e hju hnot) (fun cs b => hsel i oi cs b hi) (fun cs b => hsel j oj cs b hoj) hQ hy (H.2 j (ready_mono hj e))
    refine wpOp_mono (fun a' w' q => ?_) step
    have hS' : S w' := q.2.1.resolve_left hjk
    refine ⟨.inr hS', ih (listed.setIfInBounds j true) a' w' (fun m om hm hmi hun hno => ?_) (ready_mono hr (Ne.symm e)) q.1 hS' ?_⟩
    ·refine hfree m om hm hmi ?_ hno
     by_cases ejm : j = m
     ·subst ejm; exact hju
     ·rw [getD_set_ne true ejm] at hun; exact hun
    ·rw [Array.setIfInBounds_comm _ _ e]
     exact q.2.2
theorem one_sound {l : List Oper} {k i n : Nat} {listed : Array Bool} {a : Act} {w : World} {r : ItemT} (hk : l.toArray[i]? = some (l.getD i default))
  (ih : ∀ a w, S w ∨ i = k → wpMixT P l.toArray S Q r a w → wpTo P l.toArray (noP Q) S k n (listed.setIfInBounds i true) a w)
  (h : wpList P l.toArray (Exit.then (fun a' w' => ((i == k) = true ∨ S w') ∧ wpMixT P l.toArray S Q r a' w') (noP Q)) [l.getD i default] a w) :
  wpOp P l.toArray (noP Q) i (fun a' w' => (i = k ∨ S w') ∧ wpTo P l.toArray (noP Q) S k n (listed.setIfInBounds i true) a' w') a w := by
 have fin : ∀ a w, ((i == k) = true ∨ S w) ∧ wpMixT P l.toArray S Q r a w → (i = k ∨ S w) ∧ wpTo P l.toArray (noP Q) S k n (listed.setIfInBounds i true) a w := fun a w q => by
  rcases q.1 with h1 | h1
  ·exact ⟨.inl (by simpa using h1), ih a w (.inr (by simpa using h1)) q.2⟩
  ·exact ⟨.inr h1, ih a w (.inl h1) q.2⟩
 unfold wpOp
 simp only [hk]
 unfold wpList at h
 by_cases hw : Region.wanted (l.getD i default) (yielded l.toArray a.tmps) = true
 ·rw [if_pos hw] at h ⊢
  rcases h with h | ⟨h1, h2⟩
  ·refine .inl (oper_wp_mono (fun a w h => ?_) (fun c a w h => h) (fun h => ?_) h)
   ·unfold wpList at h
    exact fin a w h
   ·obtain ⟨a, w, h⟩ := h; exact ⟨a, w, h⟩
  ·obtain ⟨a, w, h⟩ := h2
   exact .inr ⟨h1, a, w, h⟩
 ·rw [if_neg hw] at h ⊢
  unfold wpList at h
  exact fin _ _ h
theorem mixT_sound (l : List Oper) (k : Nat) (hs : Region.noSelect l.toArray = true) : ∀ (plan : PlanT Nat) (n : Nat) (listed : Array Bool) (a : Act) (w : World), sizeT plan n = true → mixT l.toArray k plan listed = true → (S w ∨ plan = .done) →
  wpMixT P l.toArray S Q (itemsT l k plan) a w → wpTo P l.toArray (noP Q) S k n listed a w := by
 have hget : ∀ i, i < l.toArray.size → l.toArray[i]? = some (l.getD i default) := fun i hi => by
  have hlt' : i < l.length := by simpa using hi
  simp [List.getD, hlt']
 intro plan
 induction plan with
 | done =>
  intro n listed a w hn hB _ h
  have hn0 : n = 0 := by simpa [sizeT] using hn
  subst hn0
  exact ⟨by simpa [mixT] using hB, h⟩
 | take i r ih =>
  intro n listed a w hn hB hS h
  cases n with
  | zero => simp [sizeT] at hn
  | succ n =>
   simp only [mixT, Bool.and_eq_true, decide_eq_true_eq] at hB
   obtain ⟨⟨⟨⟨hlt, hr⟩, hf⟩, hwt⟩, hB'⟩ := hB
   have hS' : S w := hS.resolve_right (by simp)
   have hk := hget i hlt
   have hr' : i ∈ Region.ready .any l.toArray listed := by simpa using hr
   have hik : i ≠ k := fun e => waits_spec hwt hr' (e ▸ hr')
   unfold itemsT PlanT.map wpMixT at h
   simp only at h
   by_cases hw : Region.wanted (l.getD i default) (yielded l.toArray a.tmps) = true
   ·rw [if_pos hw] at h
    obtain ⟨v, hv, hnn⟩ := h
    exact to_first hk hwt hik (Region.noSelect_spec hs) (fun c a w h => h) n listed a w (Region.free_spec hk hf) hr' (.inl ⟨hw, hv⟩) hS' (ih n _ _ _ hn hB' (.inl hS') hnn)
   ·rw [if_neg hw] at h
    exact to_first (v := undef) hk hwt hik (Region.noSelect_spec hs) (fun c a w h => h) n listed a w (Region.free_spec hk hf) hr' (.inr ⟨by simpa using hw, rfl⟩) hS' (ih n _ _ _ hn hB' (.inl hS') h)
 | one i r ih =>
  intro n listed a w hn hB hS h
  cases n with
  | zero => simp [sizeT] at hn
  | succ n =>
   simp only [mixT, Bool.and_eq_true, decide_eq_true_eq] at hB
   obtain ⟨⟨⟨hlt, hr⟩, hlast⟩, hB'⟩ := hB
   unfold itemsT PlanT.map wpMixT at h
   refine ⟨fun h0 => (by rw [hr] at h0; cases h0), fun j hj => ?_⟩
   rw [hr, List.mem_singleton] at hj
   subst hj
   refine one_sound (hget j hlt) (fun a w hq hm => ih n _ a w hn hB' ?_ hm) h
   rcases hq with hq | hq
   ·exact .inl hq
   ·exact .inr (PlanT.of_isDone (by rw [hq] at hlast; simpa using hlast))
 | two i j r s ih1 ih2 =>
  intro n listed a w hn hB hS h
  cases n with
  | zero => simp [sizeT] at hn
  | succ n =>
   simp only [mixT, Bool.and_eq_true, decide_eq_true_eq] at hB
   obtain ⟨⟨⟨⟨⟨⟨hlt, hlt2⟩, hr⟩, hla1⟩, hla2⟩, hB1⟩, hB2⟩ := hB
   simp only [sizeT, Bool.and_eq_true] at hn
   unfold itemsT PlanT.map wpMixT at h
   refine ⟨fun h0 => (by rw [hr] at h0; cases h0), fun m hm => ?_⟩
   rw [hr] at hm
   simp only [List.mem_cons, List.not_mem_nil, or_false] at hm
   rcases hm with rfl | rfl
   ·refine one_sound (hget _ hlt) (fun a w hq hm => ih1 n _ a w hn.1 hB1 ?_ hm) h.1
    rcases hq with hq | hq
    ·exact .inl hq
    ·exact .inr (PlanT.of_isDone (by rw [hq] at hla1; simpa using hla1))
   ·refine one_sound (hget _ hlt2) (fun a w hq hm => ih2 n _ a w hn.2 hB2 ?_ hm) h.2
    rcases hq with hq | hq
    ·exact .inl hq
    ·exact .inr (PlanT.of_isDone (by rw [hq] at hla2; simpa using hla2))
theorem wp_region_mixT {id : Nat} {a : Act} {w : World} {l : List Oper} (S : World → Prop) (k : Nat) (plan : PlanT Nat) (hm : P.follows .mixedOrders = true)
  (hB : (Region.noSelect l.toArray && sizeT plan l.toArray.size && mixT l.toArray k plan (Array.replicate l.toArray.size false)) = true) (hS : S w.drew)
  (h : wpMixT P l.toArray S Q (itemsT l k plan) a w.drew) : (Code.region id l.toArray true).wp P Q a w := by
 simp only [Bool.and_eq_true] at hB
 obtain ⟨⟨hs, hl⟩, hB⟩ := hB
 have H := mixT_sound (P := P) (Q := Q) (S := S) l k hs plan l.toArray.size _ a w.drew hl hB (.inl hS) h
 exact wp_mono (wp_region_any hm (wpAny_to _ _ _ _ H)) noP_le
theorem wpMixT_done {ops : Array Oper} {a : Act} {w : World} (h : Q .normal a w) : wpMixT P ops S Q .done a w := h
theorem wpMixT_free {ops : Array Oper} {a : Act} {w : World} {b : Bool} {o : Oper} {r : ItemT}
  (h : ∀ K : Act → Prop, (∀ a, wpMixT P ops S Q r a w → K a) → if Region.wanted o (yielded ops a.tmps) = true then ∃ v, (∀ W, (execOp a.eval o).run P W = .ok (.value v) W) ∧ K (a.put o.dst v) else K (a.put o.dst undef)) : wpMixT P ops S Q (.take (b, o) r) a w := by
 have h2 := h (fun a => wpMixT P ops S Q r a w) (fun _ h => h)
 unfold wpMixT
 by_cases hw : Region.wanted o (yielded ops a.tmps) = true
 ·rw [if_pos hw] at h2 ⊢
  obtain ⟨v, hv, hn⟩ := h2
  exact ⟨v, fun W _ => hv W, hn⟩
 ·rw [if_neg hw] at h2 ⊢
  exact h2
theorem wpMixT_yield {ops : Array Oper} {a : Act} {w : World} {b : Bool} {o : Oper} {r : ItemT} {v : Value} (hr : ∀ W, S W → (execOp a.eval o).run P W = .ok (.value v) W)
  (h : ∀ K : Act → Prop, (∀ a, wpMixT P ops S Q r a w → K a) → if Region.wanted o (yielded ops a.tmps) = true then K (a.put o.dst v) else K (a.put o.dst undef)) : wpMixT P ops S Q (.take (b, o) r) a w := by
 have h2 := h (fun a => wpMixT P ops S Q r a w) (fun _ h => h)
 unfold wpMixT
 by_cases hw : Region.wanted o (yielded ops a.tmps) = true
 ·rw [if_pos hw] at h2 ⊢
  exact ⟨v, hr, h2⟩
 ·rw [if_neg hw] at h2 ⊢
  exact h2
theorem wpMixT_one {ops : Array Oper} {a : Act} {w : World} {b : Bool} {o : Oper} {r : ItemT}
  (h : ∀ K : Act → World → Prop, (∀ a w, b = true ∨ S w → wpMixT P ops S Q r a w → K a w) → wpList P ops (Exit.then K (noP Q)) [o] a w) : wpMixT P ops S Q (.one (b, o) r) a w := by
 unfold wpMixT
 exact h (fun a w => (b = true ∨ S w) ∧ wpMixT P ops S Q r a w) (fun a w h1 h2 => ⟨h1, h2⟩)
theorem wpMixT_two {ops : Array Oper} {a : Act} {w : World} {b d : Bool} {o u : Oper} {r s : ItemT}
  (h1 : ∀ K : Act → World → Prop, (∀ a w, b = true ∨ S w → wpMixT P ops S Q r a w → K a w) → wpList P ops (Exit.then K (noP Q)) [o] a w)
  (h2 : ∀ K : Act → World → Prop, (∀ a w, d = true ∨ S w → wpMixT P ops S Q s a w → K a w) → wpList P ops (Exit.then K (noP Q)) [u] a w) : wpMixT P ops S Q (.two (b, o) (d, u) r s) a w := by
 unfold wpMixT
 exact ⟨h1 (fun a w => (b = true ∨ S w) ∧ wpMixT P ops S Q r a w) (fun a w h1 h2 => ⟨h1, h2⟩), h2 (fun a w => (d = true ∨ S w) ∧ wpMixT P ops S Q s a w) (fun a w h1 h2 => ⟨h1, h2⟩)⟩
end
end Go.Proofs.YtjbcagbnagefcaaGreat
namespace Go.Proofs.YtjbcagbnagefcaaGreat
open Go.RowKit
theorem infoTy : (Tryz.prog.info? 53).map (·.size) = some 4 := by kernel_rfl
theorem exec_mid_ty (ρ : Operand → Value) (dst : Option Tmp) (x : Operand) (ty' : TypeId) (pos : String) (af : Array Edge) (gd : Option (Nat × Bool)) (w : World) (h : midOkV w 4 (ρ x) = true) :
  (execOp ρ ⟨dst, .load 53 x, ty', pos, af, gd⟩).run Tryz.prog w = .ok (.value (.agg (midOfV w 4 (ρ x)))) w :=
 exec_load_mid _ 4 _ Tryz.underlying53 rfl infoTy ρ dst x ty' pos af gd w h
theorem exec_store_ty (ρ : Operand → Value) (dst : Option Tmp) (x y : Operand) (ty' : TypeId) (pos : String) (af : Array Edge) (gd : Option (Nat × Bool)) (w : World) (h : rowOkV w 4 (ρ x) = true) (hy : aggOk 4 (ρ y) = true) :
  (execOp ρ ⟨dst, .store 53 x y, ty', pos, af, gd⟩).run Tryz.prog w = .ok .skip (rowSetV w (ρ x) (aggOf (ρ y))) :=
 exec_store _ 4 infoTy ρ dst x y ty' pos af gd w h hy
theorem infoPl : (Tryz.prog.info? 114).map (·.size) = some 2 := by kernel_rfl
theorem exec_mid_pl (ρ : Operand → Value) (dst : Option Tmp) (x : Operand) (ty' : TypeId) (pos : String) (af : Array Edge) (gd : Option (Nat × Bool)) (w : World) (h : midOkV w 2 (ρ x) = true) :
  (execOp ρ ⟨dst, .load 114 x, ty', pos, af, gd⟩).run Tryz.prog w = .ok (.value (.agg (midOfV w 2 (ρ x)))) w :=
 exec_load_mid _ 2 _ Tryz.underlying114 rfl infoPl ρ dst x ty' pos af gd w h
theorem exec_store_pl (ρ : Operand → Value) (dst : Option Tmp) (x y : Operand) (ty' : TypeId) (pos : String) (af : Array Edge) (gd : Option (Nat × Bool)) (w : World) (h : rowOkV w 2 (ρ x) = true) (hy : aggOk 2 (ρ y) = true) :
  (execOp ρ ⟨dst, .store 114 x y, ty', pos, af, gd⟩).run Tryz.prog w = .ok .skip (rowSetV w (ρ x) (aggOf (ρ y))) :=
 exec_store _ 2 infoPl ρ dst x y ty' pos af gd w h hy
theorem infoOpr : (Tryz.prog.info? 116).map (·.size) = some 4 := by kernel_rfl
theorem exec_mid_opr (ρ : Operand → Value) (dst : Option Tmp) (x : Operand) (ty' : TypeId) (pos : String) (af : Array Edge) (gd : Option (Nat × Bool)) (w : World) (h : midOkV w 4 (ρ x) = true) :
  (execOp ρ ⟨dst, .load 116 x, ty', pos, af, gd⟩).run Tryz.prog w = .ok (.value (.agg (midOfV w 4 (ρ x)))) w :=
 exec_load_mid _ 4 _ Tryz.underlying116 rfl infoOpr ρ dst x ty' pos af gd w h
theorem exec_store_opr (ρ : Operand → Value) (dst : Option Tmp) (x y : Operand) (ty' : TypeId) (pos : String) (af : Array Edge) (gd : Option (Nat × Bool)) (w : World) (h : rowOkV w 4 (ρ x) = true) (hy : aggOk 4 (ρ y) = true) :
  (execOp ρ ⟨dst, .store 116 x y, ty', pos, af, gd⟩).run Tryz.prog w = .ok .skip (rowSetV w (ρ x) (aggOf (ρ y))) :=
 exec_store _ 4 infoOpr ρ dst x y ty' pos af gd w h hy
theorem infoVal : (Tryz.prog.info? 119).map (·.size) = some 15 := by kernel_rfl
theorem exec_mid_val (ρ : Operand → Value) (dst : Option Tmp) (x : Operand) (ty' : TypeId) (pos : String) (af : Array Edge) (gd : Option (Nat × Bool)) (w : World) (h : midOkV w 15 (ρ x) = true) :
  (execOp ρ ⟨dst, .load 119 x, ty', pos, af, gd⟩).run Tryz.prog w = .ok (.value (.agg (midOfV w 15 (ρ x)))) w :=
 exec_load_mid _ 15 _ Tryz.underlying119 rfl infoVal ρ dst x ty' pos af gd w h
theorem exec_store_val (ρ : Operand → Value) (dst : Option Tmp) (x y : Operand) (ty' : TypeId) (pos : String) (af : Array Edge) (gd : Option (Nat × Bool)) (w : World) (h : rowOkV w 15 (ρ x) = true) (hy : aggOk 15 (ρ y) = true) :
  (execOp ρ ⟨dst, .store 119 x y, ty', pos, af, gd⟩).run Tryz.prog w = .ok .skip (rowSetV w (ρ x) (aggOf (ρ y))) :=
 exec_store _ 15 infoVal ρ dst x y ty' pos af gd w h hy
theorem infoSt : (Tryz.prog.info? 121).map (·.size) = some 32 := by kernel_rfl
theorem exec_mid_st (ρ : Operand → Value) (dst : Option Tmp) (x : Operand) (ty' : TypeId) (pos : String) (af : Array Edge) (gd : Option (Nat × Bool)) (w : World) (h : midOkV w 32 (ρ x) = true) :
  (execOp ρ ⟨dst, .load 121 x, ty', pos, af, gd⟩).run Tryz.prog w = .ok (.value (.agg (midOfV w 32 (ρ x)))) w :=
 exec_load_mid _ 32 _ Tryz.underlying121 rfl infoSt ρ dst x ty' pos af gd w h
theorem exec_store_st (ρ : Operand → Value) (dst : Option Tmp) (x y : Operand) (ty' : TypeId) (pos : String) (af : Array Edge) (gd : Option (Nat × Bool)) (w : World) (h : rowOkV w 32 (ρ x) = true) (hy : aggOk 32 (ρ y) = true) :
  (execOp ρ ⟨dst, .store 121 x y, ty', pos, af, gd⟩).run Tryz.prog w = .ok .skip (rowSetV w (ρ x) (aggOf (ρ y))) :=
 exec_store _ 32 infoSt ρ dst x y ty' pos af gd w h hy
theorem infoFld : (Tryz.prog.info? 73).map (·.size) = some 6 := by kernel_rfl
theorem exec_mid_fld (ρ : Operand → Value) (dst : Option Tmp) (x : Operand) (ty' : TypeId) (pos : String) (af : Array Edge) (gd : Option (Nat × Bool)) (w : World) (h : midOkV w 6 (ρ x) = true) :
  (execOp ρ ⟨dst, .load 73 x, ty', pos, af, gd⟩).run Tryz.prog w = .ok (.value (.agg (midOfV w 6 (ρ x)))) w :=
 exec_load_mid _ 6 _ Tryz.underlying73 rfl infoFld ρ dst x ty' pos af gd w h
theorem exec_store_fld (ρ : Operand → Value) (dst : Option Tmp) (x y : Operand) (ty' : TypeId) (pos : String) (af : Array Edge) (gd : Option (Nat × Bool)) (w : World) (h : rowOkV w 6 (ρ x) = true) (hy : aggOk 6 (ρ y) = true) :
  (execOp ρ ⟨dst, .store 73 x y, ty', pos, af, gd⟩).run Tryz.prog w = .ok .skip (rowSetV w (ρ x) (aggOf (ρ y))) :=
 exec_store _ 6 infoFld ρ dst x y ty' pos af gd w h hy
theorem infoStr : (Tryz.prog.info? 49).map (·.size) = some 5 := by kernel_rfl
theorem exec_mid_str (ρ : Operand → Value) (dst : Option Tmp) (x : Operand) (ty' : TypeId) (pos : String) (af : Array Edge) (gd : Option (Nat × Bool)) (w : World) (h : midOkV w 5 (ρ x) = true) :
  (execOp ρ ⟨dst, .load 49 x, ty', pos, af, gd⟩).run Tryz.prog w = .ok (.value (.agg (midOfV w 5 (ρ x)))) w :=
 exec_load_mid _ 5 _ Tryz.underlying49 rfl infoStr ρ dst x ty' pos af gd w h
theorem exec_store_str (ρ : Operand → Value) (dst : Option Tmp) (x y : Operand) (ty' : TypeId) (pos : String) (af : Array Edge) (gd : Option (Nat × Bool)) (w : World) (h : rowOkV w 5 (ρ x) = true) (hy : aggOk 5 (ρ y) = true) :
  (execOp ρ ⟨dst, .store 49 x y, ty', pos, af, gd⟩).run Tryz.prog w = .ok .skip (rowSetV w (ρ x) (aggOf (ρ y))) :=
 exec_store _ 5 infoStr ρ dst x y ty' pos af gd w h hy
theorem infoLif : (Tryz.prog.info? 76).map (·.size) = some 2 := by kernel_rfl
theorem exec_mid_lif (ρ : Operand → Value) (dst : Option Tmp) (x : Operand) (ty' : TypeId) (pos : String) (af : Array Edge) (gd : Option (Nat × Bool)) (w : World) (h : midOkV w 2 (ρ x) = true) :
  (execOp ρ ⟨dst, .load 76 x, ty', pos, af, gd⟩).run Tryz.prog w = .ok (.value (.agg (midOfV w 2 (ρ x)))) w :=
 exec_load_mid _ 2 _ Tryz.underlying76 rfl infoLif ρ dst x ty' pos af gd w h
theorem exec_store_lif (ρ : Operand → Value) (dst : Option Tmp) (x y : Operand) (ty' : TypeId) (pos : String) (af : Array Edge) (gd : Option (Nat × Bool)) (w : World) (h : rowOkV w 2 (ρ x) = true) (hy : aggOk 2 (ρ y) = true) :
  (execOp ρ ⟨dst, .store 76 x y, ty', pos, af, gd⟩).run Tryz.prog w = .ok .skip (rowSetV w (ρ x) (aggOf (ρ y))) :=
 exec_store _ 2 infoLif ρ dst x y ty' pos af gd w h hy
theorem infoFun : (Tryz.prog.info? 56).map (·.size) = some 10 := by kernel_rfl
theorem exec_mid_fun (ρ : Operand → Value) (dst : Option Tmp) (x : Operand) (ty' : TypeId) (pos : String) (af : Array Edge) (gd : Option (Nat × Bool)) (w : World) (h : midOkV w 10 (ρ x) = true) :
  (execOp ρ ⟨dst, .load 56 x, ty', pos, af, gd⟩).run Tryz.prog w = .ok (.value (.agg (midOfV w 10 (ρ x)))) w :=
 exec_load_mid _ 10 _ Tryz.underlying56 rfl infoFun ρ dst x ty' pos af gd w h
theorem exec_store_fun (ρ : Operand → Value) (dst : Option Tmp) (x y : Operand) (ty' : TypeId) (pos : String) (af : Array Edge) (gd : Option (Nat × Bool)) (w : World) (h : rowOkV w 10 (ρ x) = true) (hy : aggOk 10 (ρ y) = true) :
  (execOp ρ ⟨dst, .store 56 x y, ty', pos, af, gd⟩).run Tryz.prog w = .ok .skip (rowSetV w (ρ x) (aggOf (ρ y))) :=
 exec_store _ 10 infoFun ρ dst x y ty' pos af gd w h hy
theorem infoCr : (Tryz.prog.info? 26).map (·.size) = some 2 := by kernel_rfl
theorem exec_mid_cr (ρ : Operand → Value) (dst : Option Tmp) (x : Operand) (ty' : TypeId) (pos : String) (af : Array Edge) (gd : Option (Nat × Bool)) (w : World) (h : midOkV w 2 (ρ x) = true) :
  (execOp ρ ⟨dst, .load 26 x, ty', pos, af, gd⟩).run Tryz.prog w = .ok (.value (.agg (midOfV w 2 (ρ x)))) w :=
 exec_load_mid _ 2 _ Tryz.underlying26 rfl infoCr ρ dst x ty' pos af gd w h
theorem exec_store_cr (ρ : Operand → Value) (dst : Option Tmp) (x y : Operand) (ty' : TypeId) (pos : String) (af : Array Edge) (gd : Option (Nat × Bool)) (w : World) (h : rowOkV w 2 (ρ x) = true) (hy : aggOk 2 (ρ y) = true) :
  (execOp ρ ⟨dst, .store 26 x y, ty', pos, af, gd⟩).run Tryz.prog w = .ok .skip (rowSetV w (ρ x) (aggOf (ρ y))) :=
 exec_store _ 2 infoCr ρ dst x y ty' pos af gd w h hy
def Entered (f : FuncId) : Prop := ∀ (args : Array Value) (W : World), (callFunc f args).run Tryz.prog W = .ok (.enter f args) W
theorem entered_of {f : FuncId} {fn : Func} (hf : Tryz.prog.funcs[f]? = some fn) (hn : (fn.name == "runtime.NumGoroutine") = false) (hb : fn.body.isNone = false) : Entered f := by
 intro args W
 unfold callFunc
 have h1 : ¬ fn.name = "runtime.NumGoroutine" := by simpa using hn
 have h2 : ¬ fn.body = none := by intro h; rw [h] at hb; cases hb
 simp [Sem.run_bind, hf, h1, h2]
def Tells (w : World) (p : Prop) (e : Ending) (w' : World) : Prop := (∃ z, e = .returned (.bool z) ∧ (z = true ↔ p)) ∧ Keeps Nothing w w'
theorem tells_t {w w' : World} {p : Prop} (h : p) (K : Keeps Nothing w w') : Tells w p (.returned (.bool true)) w' := ⟨⟨true, rfl, ⟨fun _ => h, fun _ => rfl⟩⟩, K⟩
theorem tells_f {w w' : World} {p : Prop} (h : ¬ p) (K : Keeps Nothing w w') : Tells w p (.returned (.bool false)) w' := ⟨⟨false, rfl, ⟨fun hf => (by cases hf), fun hp => absurd hp h⟩⟩, K⟩
theorem tells_z {w w' : World} {p : Prop} {z : Bool} (h : z = true ↔ p) (K : Keeps Nothing w w') : Tells w p (.returned (.bool z)) w' := ⟨⟨z, rfl, h⟩, K⟩
theorem agg_ok {n : Nat} {cs : List Value} (hl : cs.length = n) (h1 : ∀ u ∈ cs, u.oneCell' = true) : aggOk n (.agg cs.toArray) = true :=
 aggOk_agg n _ (by simpa using hl) (by rw [Array.all_eq_true]; intro i hi; exact h1 _ (by simp))
theorem blk_inv {w : World} {g : Nat} {C : Array Value} {t : TypeId} (h : Blk w g C t) {j : Nat} {v : Value} (hv : w.cell? ⟨g, j, none⟩ = some v) : C[j]? = some v := by
 by_cases hj : j < C.size
 ·have h2 := blk_cell h j (Array.getElem?_eq_getElem hj)
  rw [hv] at h2
  rw [Array.getElem?_eq_getElem hj]
  exact h2.symm
 ·have h' : w.heap[g]? = some (.cells C t (0, 0)) := h
  unfold World.cell? at hv
  simp [h', Array.getElem?_eq_none (show C.size ≤ j by omega)] at hv
theorem tblk_mid {w : World} {g n : Nat} {C : Array Value} {t : TypeId} (h : Blk w g C t) (hn : C.size = n) : midOk w g 0 n = true ∧ midOf w g 0 n = C := by
 have hr : w.rangeAt g 0 C.toList := fun j v hj => blk_cell h (0 + j) (by simpa using hj)
 have h1 := midOk_range hr
 have h2 := midOf_range hr
 rw [Array.length_toList, hn] at h1 h2
 exact ⟨h1, by rw [h2]⟩
theorem take_eq {α : Type} {l m : List α} {t : Nat} {a b : α} (hl : l[t]? = some a) (hm : m[t]? = some b) (h : l.take t = m.take t) (hab : a = b) : l.take (t + 1) = m.take (t + 1) := by
 rw [List.take_add_one, List.take_add_one, hl, hm, h, hab]
theorem ne_at {α : Type} {l m : List α} {t : Nat} {a b : α} (hl : l[t]? = some a) (hm : m[t]? = some b) (hab : a ≠ b) : l ≠ m := by
 intro h
 subst h
 rw [hl] at hm
 exact hab (Option.some.inj hm)
theorem tx_cell {S : Nat → Prop} {w : World} {ao : Option Addr} {l : List (List UInt8)} (h : SlIs S w 1 TxIs ao l) {j : Nat} {d : List UInt8} (hd : l[j]? = some d) : ∃ b o, ao = some ⟨b, o, none⟩ ∧ w.cell? ⟨b, o + j, none⟩ = some (.string ⟨d.toArray⟩) ∧ d.length ≤ bigN := by
 obtain ⟨b, o, h1, _, cs, _, h2, h3⟩ := h.get hd
 obtain ⟨rfl, h4⟩ := h3
 have := h2 0 _ rfl
 rw [Nat.mul_one, Nat.add_zero] at this
 exact ⟨b, o, h1, this, h4⟩
set_option maxRecDepth 100000 in
set_option maxHeartbeats 2000000 in
theorem equal_tx (w : World) {S S' : Nat → Prop} {ax ay : Option Addr} {l m : List (List UInt8)} (cx cy : Nat) (hx : SlIs S w 1 TxIs ax l) (hy : SlIs S' w 1 TxIs ay m) :
  Calls Tryz.prog 140 #[.slice ax l.length cx, .slice ay m.length cy] w (Tells w (l = m)) := by
 have hlx := hx.1
 have hly := hy.1
 unfold bigN at hlx hly
 have HX := shut hx
 have HY := shut hy
 clear hx hy
 by_cases hne : l.length = m.length
 ·obtain ⟨n, hn⟩ : ∃ n, l.length = n := ⟨_, rfl⟩
  have hm : m.length = n := by omega
  rw [hn, hm]
  rw [hn] at hlx
  clear hne hly
  have HN := shut hn
  have HM := shut hm
  clear hn hm
  go_enter Tryz.func140, Tryz.ntmps140
  go_wp2_with fail
  go_loopw [5, 13] (fun s5 s13 wx => ∃ t : Nat, s13 = .int .i64 t ∧ t ≤ n ∧ Keeps Nothing w wx ∧ Shut (l.take t = m.take t)) (fun _ s13 _ => n - (intOf s13).toNat)
  case atStart => exact ⟨0, rfl, Nat.zero_le _, Keeps.refl _ _, shut (by simp)⟩
  case round =>
   obtain ⟨t, rfl, ht, K, HT⟩ := hrel
   by_cases hlt : t < n
   ·obtain ⟨a, ha⟩ : ∃ a, l[t]? = some a := ⟨_, List.getElem?_eq_getElem (by rw [HN.out]; exact hlt)⟩
    obtain ⟨b, hb⟩ : ∃ b, m[t]? = some b := ⟨_, List.getElem?_eq_getElem (by rw [HM.out]; exact hlt)⟩
    obtain ⟨g1, o1, rfl, e1, -⟩ := tx_cell (HX.out.keeps K (fun _ _ h => h) (fun _ h => h) (fun _ _ _ h => h)) ha
    obtain ⟨g2, o2, rfl, e2, -⟩ := tx_cell (HY.out.keeps K (fun _ _ h => h) (fun _ h => h) (fun _ _ _ h => h)) hb
    have HA := shut ha
    have HB := shut hb
    clear ha hb
    have m0 : (0 : Int) ≤ t := by omega
    have m1 : (t : Int) < n := by omega
    by_cases hab : a = b
    ·subst hab
     have hbq : (a == a) = true := beq_self_eq_true _
     go_wp2_with fail
     go_quiet (fail)
     go_wp2_with fail
     go_roundw
     case rel => exact ⟨t + 1, by go_num, by omega, K.drewN _, shut (take_eq HA.out HB.out HT.out rfl)⟩
     case measure => simp [intOf]; omega
    ·have hbq : (a == b) = false := by rw [beq_eq_false_iff_ne]; exact hab
     have HAB := shut hab
     clear hab
     go_wp2_with fail
     go_quiet (fail)
     go_wp2_with fail
     go_ret
     exact tells_f (ne_at HA.out HB.out HAB.out) (K.drewN _)
   ·obtain rfl : t = n := by omega
    have m1 : ¬ (t : Int) < t := by omega
    go_wp2_with fail
    go_ret
    refine tells_t ?_ K
    have h := HT.out
    rwa [List.take_of_length_le (Nat.le_of_eq HN.out), List.take_of_length_le (Nat.le_of_eq HM.out)] at h
 ·have hne' : ¬ (l.length : Int) = m.length := by omega
  have hl : l ≠ m := fun h => hne (by rw [h])
  go_enter Tryz.func140, Tryz.ntmps140
  go_wp2_with fail
  go_ret
  exact tells_f hl (Keeps.refl _ _)
end Go.Proofs.YtjbcagbnagefcaaGreat
namespace Go.Proofs.YtjbcagbnagefcaaGreat
open Go.RowKit
abbrev OwnC (w : World) (e : TypeId) (k : Nat) (ao : Option Addr) (cap : Nat) (L : List (List Value)) : Prop := w.ownsRow 0 e k (.slice ao L.length cap) L.length L.flatten
theorem ownC_nil (w : World) (e : TypeId) (k : Nat) : OwnC w e k none 0 [] := World.ownsRow_nil w _ _ _
theorem flat_at {k : Nat} : ∀ {L : List (List Value)}, (∀ x ∈ L, x.length = k) → ∀ {j : Nat} {x : List Value}, L[j]? = some x → ∀ t v, x[t]? = some v → L.flatten[j * k + t]? = some v := by
 intro L
 induction L with
 | nil => intro _ j x h; simp at h
 | cons y l ih =>
  intro hall j x hj t v ht
  rw [List.flatten_cons]
  have hy := hall y (by simp)
  cases j with
  | zero =>
   obtain rfl : y = x := by simpa using hj
   have htl := (List.getElem?_eq_some_iff.1 ht).1
   rw [Nat.zero_mul, Nat.zero_add, List.getElem?_append_left htl]
   exact ht
  | succ j =>
   rw [List.getElem?_append_right (by rw [hy, Nat.succ_mul]; omega), hy, show (j + 1) * k + t - k = j * k + t by rw [Nat.succ_mul]; omega]
   exact ih (fun z hz => hall z (List.mem_cons_of_mem _ hz)) (by simpa using hj) t v ht
theorem OwnC.head {w : World} {e : TypeId} {k : Nat} {ao : Option Addr} {cap : Nat} {L : List (List Value)} (h : OwnC w e k ao cap L) (hn : L ≠ []) : ∃ g, ao = some ⟨g, 0, none⟩ := by
 rcases h.2 with ⟨_, hl⟩ | ⟨g, cap', cur, hv, _⟩
 ·exact absurd (List.eq_nil_of_length_eq_zero hl) hn
 ·simp only [Value.slice.injEq] at hv; exact ⟨g, hv.1⟩
theorem OwnC.shape {w : World} {e : TypeId} {k : Nat} {ao : Option Addr} {cap : Nat} {L : List (List Value)} (h : OwnC w e k ao cap L) : ao = none ∨ ∃ g, ao = some ⟨g, 0, none⟩ := by
 rcases h.2 with ⟨hv, hl⟩ | ⟨g, cap', cur, hv, _⟩
 ·simp only [Value.slice.injEq] at hv; exact .inl hv.1
 ·simp only [Value.slice.injEq] at hv; exact .inr ⟨g, hv.1⟩
theorem OwnC.blk {w : World} {e : TypeId} {k g : Nat} {cap : Nat} {L : List (List Value)} (h : OwnC w e k (some ⟨g, 0, none⟩) cap L) : ∃ cur, Blk w g cur e := by
 rcases h.2 with ⟨hv, _⟩ | ⟨g', cap', cur, hv, _, hg, _⟩
 ·simp at hv
 ·simp only [Value.slice.injEq, Option.some.injEq, Addr.mk.injEq] at hv
  obtain ⟨⟨rfl, _⟩, _⟩ := hv
  exact ⟨cur, hg⟩
theorem OwnC.range {w : World} {e : TypeId} {k g : Nat} {cap : Nat} {L : List (List Value)} (h : OwnC w e k (some ⟨g, 0, none⟩) cap L) (hall : ∀ x ∈ L, x.length = k) {j : Nat} {x : List Value} (hj : L[j]? = some x) : w.rangeAt g (j * k) x := fun t v ht => by
 have := World.ownsRow.cells h (g := g) rfl (j * k + t) v (flat_at hall hj t v ht)
 rwa [Addr.add_lit, Nat.zero_add] at this
theorem OwnC.keeps {S : Nat → Prop} {w w' : World} {e : TypeId} {k : Nat} {ao : Option Addr} {cap : Nat} {L : List (List Value)} (h : OwnC w e k ao cap L) (K : Keeps S w w') (hn : ∀ g, blockOf ao = some g → ¬ S g) : OwnC w' e k ao cap L :=
 K.own h (fun g hg => by rw [ownBlock_eq] at hg; exact hn g hg)
theorem OwnC.ne {w : World} {e : TypeId} {k : Nat} {ao : Option Addr} {cap : Nat} {L : List (List Value)} (h : OwnC w e k ao cap L) {p : Nat} {cs : Array Value} {t : TypeId} (hp : Blk w p cs t) (hne : e ≠ t) : blockOf ao ≠ some p := by
 have := own_ne h hp hne
 rwa [ownBlock_eq] at this
theorem OwnC.lt {w : World} {e : TypeId} {k : Nat} {ao : Option Addr} {cap : Nat} {L : List (List Value)} (h : OwnC w e k ao cap L) {g : Nat} (hg : blockOf ao = some g) : g < w.heap.size := own_lt h (by rw [ownBlock_eq]; exact hg)
section
variable {P : Program}
theorem wpList_appC (w : World) {ops : Array Oper} {rest : List Oper} {o : Oper} {a : Act} {Q : Exit → Act → World → Prop} (hgd : o.guard = none) (s x : Operand) (t : TypeId)
  (ho : o.op = .call { callee := .builtin .append, args := #[s, x], argTypes := #[t, t] })
  (e : TypeId) (i : TypeInfo) (z : Value) (k bytes : Nat) (ht : P.underlying t = some (.slice e)) (hi : P.info? e = some i) (hz : i.zero = some z)
  (hsize : i.size = k) (hby : i.bytes = bytes) (hzs : z.cells.size = k) (hb64 : bytes ≤ 1000)
  (ao : Option Addr) (cap : Nat) (L : List (List Value)) (n : Nat) (hn : L.length = n) (hsv : a.eval s = .slice ao n cap) (hown : OwnC w e k ao cap L) (g : Nat) (C : Array Value) (l : List Value) (hC : C = l.toArray) (hl : l.length = k) (h1 : ∀ u ∈ l, u.oneCell' = true)
  (hx : a.eval x = .slice (some ⟨g, 0, none⟩) 1 1) (hg : Blk w g C e) (hb : n ≤ 1000000000)
  (h : ∀ ao' cap' w', OwnC w' e k ao' cap' (L ++ [l]) → Keeps (fun k => blockOf ao = some k) w w' → Moved w.heap.size ao ao' → wpList P ops Q rest (a.put o.dst (.slice ao' (n + 1) cap')) w') : wpList P ops Q (o :: rest) a w := by
 subst hn
 have hsr : Src P k t (.slice (some ⟨g, 0, none⟩) 1 1) 1 l w := Src.ofSlice _ ht ⟨g, 0, none⟩ 1 1 _ (by rw [hl, Nat.one_mul]) (fun j u hj => by
  rw [Addr.add_lit, Nat.zero_add]
  exact blk_cell hg j (by rw [hC]; simpa using hj)) h1
 refine wpList_append_src w hgd s x t t ho e i z k bytes ht hi hz hsize hby hzs ao L.length cap L.flatten hsv hown _ 1 l hx hsr
  (by unfold maxLen; omega) (Nat.le_trans (Nat.mul_le_mul_left _ hb64) (by omega)) fun ao' cap' w' h1 h2 h3 => ?_
 have e1 : L.flatten ++ l = (L ++ [l]).flatten := by simp
 have e2 : L.length + 1 = (L ++ [l]).length := by rw [List.length_append]; rfl
 refine h ao' cap' w' ?_ ((Keeps.refl _ _).grown h2 (fun k hk _ => hk)) h3
 rw [e1, e2] at h1
 exact h1
end
theorem fillL : ∀ (l : List Value) (k : Nat) (Z : Array Value) (i : Nat), (List.foldl (fun cs (x : Value × Nat) => cs.setIfInBounds x.snd x.fst) Z (l.zipIdx k))[i]? = if i < k then Z[i]? else if i < k + l.length ∧ i < Z.size then l[i - k]? else Z[i]? := by
 intro l
 induction l with
 | nil => intro k Z i; simp; omega
 | cons v l ih =>
  intro k Z i
  rw [List.zipIdx_cons, List.foldl_cons, ih, Array.size_setIfInBounds, List.length_cons]
  by_cases h1 : i < k
  ·rw [if_pos (by omega), if_pos h1, Array.getElem?_setIfInBounds, if_neg (by omega)]
  ·rw [if_neg h1]
   by_cases h2 : i = k
   ·subst h2
    rw [if_pos (by omega), Array.getElem?_setIfInBounds, if_pos rfl]
    by_cases h3 : i < Z.size
    ·rw [if_pos h3, if_pos ⟨by omega, h3⟩, Nat.sub_self]; rfl
    ·rw [if_neg h3, if_neg (by omega), Array.getElem?_eq_none (by omega)]
   ·rw [if_neg (by omega)]
    by_cases h3 : i < k + (l.length + 1) ∧ i < Z.size
    ·rw [if_pos ⟨by omega, h3.2⟩, if_pos h3, show i - k = (i - (k + 1)) + 1 by omega, List.getElem?_cons_succ]
    ·rw [if_neg (by omega), if_neg h3, Array.getElem?_setIfInBounds, if_neg (by omega)]
theorem fillN {n : Nat} {Z C : Array Value} (hZ : Z.size = n) (hC : C.size = n) : Array.foldl (fun cs (x : Value × Nat) => cs.setIfInBounds x.snd x.fst) Z C.zipIdx 0 n = C := by
 have h1 : (C.zipIdx).size = n := by simp [hC]
 have h2 : Array.foldl (fun cs (x : Value × Nat) => cs.setIfInBounds x.snd x.fst) Z C.zipIdx 0 n = List.foldl (fun cs (x : Value × Nat) => cs.setIfInBounds x.snd x.fst) Z (C.toList.zipIdx 0) := by
  rw [← Array.toList_zipIdx, Array.foldl_toList, h1]
 rw [h2]
 apply Array.ext_getElem?
 intro i
 have hl : C.toList.length = n := by rw [Array.length_toList]; exact hC
 rw [fillL, if_neg (by omega), hl, hZ]
 by_cases hi : i < n
 ·rw [if_pos ⟨by omega, hi⟩, Nat.sub_zero, Array.getElem?_toList]
 ·rw [if_neg (by omega), Array.getElem?_eq_none (by omega), Array.getElem?_eq_none (by omega)]
end Go.Proofs.YtjbcagbnagefcaaGreat
namespace Go.Proofs.YtjbcagbnagefcaaGreat
open Go.RowKit
theorem ad_mid (b o i : Nat) : (⟨b, o, none⟩ : Addr).add i = ⟨b, o + i, none⟩ := Addr.add_lit b o i
structure RowR (w : World) (e : TypeId) (ao : Option Addr) (cap : Nat) (vs : List Value) : Prop where
 le : vs.length ≤ cap
 max : cap ≤ maxLen
 one : ∀ v ∈ vs, v.oneCell' = true
 at' : (ao = none ∧ vs = [] ∧ cap = 0) ∨ ∃ (g o : Nat) (cur : Array Value), ao = some ⟨g, o, none⟩ ∧ w.heap[g]? = some (.cells cur e (0, 0)) ∧ o + cap ≤ cur.size ∧ ∀ j v, vs[j]? = some v → cur[o + j]? = some v
theorem rowR_nil (w : World) (e : TypeId) : RowR w e none 0 [] := ⟨Nat.le_refl _, Nat.zero_le _, fun _ h => (by cases h), .inl ⟨rfl, rfl, rfl⟩⟩
theorem RowR.keeps {S : Nat → Prop} {w w' : World} {e : TypeId} {ao : Option Addr} {cap : Nat} {vs : List Value} (h : RowR w e ao cap vs) (k : Keeps S w w') (hn : ∀ g, blockOf ao = some g → ¬ S g) : RowR w' e ao cap vs := by
 refine ⟨h.le, h.max, h.one, ?_⟩
 rcases h.at' with h2 | ⟨g, o, cur, rfl, hg, hs, hc⟩
 ·exact .inl h2
 ·exact .inr ⟨g, o, cur, rfl, k.blk hg (hn g rfl), hs, hc⟩
theorem RowR.keepsN {w w' : World} {e : TypeId} {ao : Option Addr} {cap : Nat} {vs : List Value} (h : RowR w e ao cap vs) (k : Keeps Nothing w w') : RowR w' e ao cap vs := h.keeps k (fun _ _ h => h)
theorem RowR.head {w : World} {e : TypeId} {ao : Option Addr} {cap : Nat} {vs : List Value} (h : RowR w e ao cap vs) (hn : vs ≠ []) : ∃ g o, ao = some ⟨g, o, none⟩ := by
 rcases h.at' with ⟨_, h2, _⟩ | ⟨g, o, cur, rfl, _⟩
 ·exact absurd h2 hn
 ·exact ⟨g, o, rfl⟩
theorem RowR.lt {w : World} {e : TypeId} {ao : Option Addr} {cap : Nat} {vs : List Value} (h : RowR w e ao cap vs) {g : Nat} (hg : blockOf ao = some g) : g < w.heap.size := by
 rcases h.at' with ⟨rfl, _⟩ | ⟨g', o, cur, rfl, hb, _⟩
 ·cases hg
 ·obtain rfl := Option.some.inj hg; exact lt_of_block hb
theorem RowR.cell {w : World} {e : TypeId} {g o : Nat} {cap : Nat} {vs : List Value} (h : RowR w e (some ⟨g, o, none⟩) cap vs) {j : Nat} {v : Value} (hj : vs[j]? = some v) : w.cell? ⟨g, o + j, none⟩ = some v := by
 rcases h.at' with ⟨h2, _⟩ | ⟨g', o', cur, hv, hb, _, hc⟩
 ·cases h2
 ·simp only [Option.some.injEq, Addr.mk.injEq] at hv
  obtain ⟨rfl, rfl, _⟩ := hv
  exact blk_cell hb (o + j) (hc j v hj)
theorem RowR.ne {w : World} {e : TypeId} {ao : Option Addr} {cap : Nat} {vs : List Value} (h : RowR w e ao cap vs) {p : Nat} {cs : Array Value} {t : TypeId} (hp : Blk w p cs t) (hne : e ≠ t) : blockOf ao ≠ some p := by
 intro hk
 rcases h.at' with ⟨rfl, _⟩ | ⟨g, o, cur, rfl, hb, _⟩
 ·cases hk
 ·obtain rfl := Option.some.inj hk
  have := hp.symm.trans hb
  simp at this
  exact hne this.2.symm
theorem RowR.take {w : World} {e : TypeId} {ao : Option Addr} {cap : Nat} {vs : List Value} (h : RowR w e ao cap vs) (k : Nat) : RowR w e ao cap (vs.take k) := by
 have hl := List.length_take_le' k vs
 refine ⟨Nat.le_trans hl h.le, h.max, fun v hv => h.one v (List.mem_of_mem_take hv), ?_⟩
 rcases h.at' with ⟨rfl, rfl, rfl⟩ | ⟨g, o, cur, rfl, hb, hs, hc⟩
 ·exact .inl ⟨rfl, by simp, rfl⟩
 ·exact .inr ⟨g, o, cur, rfl, hb, hs, fun j v hj => hc j v (by rw [List.getElem?_take] at hj; split at hj; exact hj; cases hj)⟩
section
variable {P : Program} (w : World)
theorem run_append_row (t tx ty e : TypeId) (i : TypeInfo) (z : Value) (bytes : Nat) (ht : P.underlying t = some (.slice e)) (hi : P.info? e = some i) (hz : i.zero = some z)
  (hsize : i.size = 1) (hby : i.bytes = bytes) (hzs : z.cells.size = 1)
  (ao : Option Addr) (n cap0 : Nat) (vs : List Value) (hn : vs.length = n) (hr : RowR w e ao cap0 vs) (x : Value) (m : Nat) (news : List Value) (hs : Src P 1 tx x m news w)
  (h63 : n + m ≤ maxLen) (hbytes : (n + m) * bytes ≤ 140737488355328) :
  ∃ ao' cap' w', (Builtin.append_ #[t, tx] ty #[.slice ao n cap0, x]).run P w = .ok (.slice ao' (n + m) cap') w' ∧ RowR w' e ao' cap' (vs ++ news) ∧ w.grownBy w' (blockOf ao) ∧ Moved w.heap.size ao ao' ∧ RowR w' e ao cap0 vs := by
 subst hn
 subst hby
 have hnl : news.length = m := by have := hs.newsLen; omega
 have hlen : (vs ++ news).length = vs.length + m := by rw [List.length_append, hnl]
 have hone : ∀ v ∈ vs ++ news, v.oneCell' = true := fun v hv => (List.mem_append.1 hv).elim (hr.one v) (hs.one v)
 have hsrc : Src P i.size tx x m news w := by rw [hsize]; exact hs
 have grown : ∀ (old : Nat), old < vs.length + m → ∀ (row : Option Nat),
   RowR (w.drew.alloc (.cells ((vs ++ news).toArray ++ Builtin.zeroCells z.cells (grownCap w (vs.length + m) old e - (vs.length + m))) e)) e (some ⟨w.heap.size, 0, none⟩) (grownCap w (vs.length + m) old e) (vs ++ news) ∧
   w.grownBy (w.drew.alloc (.cells ((vs ++ news).toArray ++ Builtin.zeroCells z.cells (grownCap w (vs.length + m) old e - (vs.length + m))) e)) row := by
  intro old ho row
  have hge := grownCap_ge w (vs.length + m) old e
  have hcm : grownCap w (vs.length + m) old e ≤ maxLen := grownCap_le_maxLen w (vs.length + m) old e h63
  refine ⟨⟨by omega, hcm, hone, .inr ⟨w.heap.size, 0, _, rfl, heap_alloc_new w.drew _, ?_, fun j v hj => ?_⟩⟩, ⟨rfl, rfl, rfl, by simp, fun k hk _ => Below.heap_alloc w.drew _ k hk⟩⟩
  ·simp only [Array.size_append, List.size_toArray, size_zeroCells, hzs, hlen]
   omega
  ·have hjl := (List.getElem?_eq_some_iff.1 hj).1
   rw [Nat.zero_add, Array.getElem?_append_left (by simpa using hjl)]
   simpa using hj
 have whole : ∀ (hroomN : ¬ vs.length + m ≤ cap0) (hold : (Builtin.firstCells i.size vs.length (.slice ao vs.length cap0)).run P w.drew = .ok vs.toArray w.drew),
   ∃ ao' cap' w', (Builtin.append_ #[t, tx] ty #[.slice ao vs.length cap0, x]).run P w = .ok (.slice ao' (vs.length + m) cap') w' ∧ RowR w' e ao' cap' (vs ++ news) ∧ w.grownBy w' (blockOf ao) ∧ Moved w.heap.size ao ao' ∧ RowR w' e ao cap0 vs := by
  intro hroomN hold
  have hrr := run_append_grow_src (P := P) w t tx ty e i z ht hi hz ao vs.length cap0 vs hold x m news hsrc (by omega) (by simp only [maxLen] at h63; omega) (growslice_fits (by omega) hbytes)
  have hgr := grown cap0 (by omega) (blockOf ao)
  exact ⟨_, _, _, hrr, hgr.1, hgr.2, .inr ⟨w.heap.size, rfl, Nat.le_refl _⟩, hr.keepsN ((Keeps.refl Nothing w).drew.alloc _)⟩
 have hle := hr.le
 rcases hr.at' with ⟨rfl, rfl, rfl⟩ | ⟨g, o, cur, rfl, hg, hcs, hc⟩
 ·by_cases hm : m = 0
  ·subst hm
   have hn : news = [] := List.eq_nil_of_length_eq_zero hnl
   subst hn
   refine ⟨none, 0, w, ?_, rowR_nil w e, ⟨rfl, rfl, rfl, Nat.le_refl _, fun _ _ _ => rfl⟩, .inl rfl, rowR_nil w e⟩
   rcases hs.kind with ⟨e', hk⟩ | hk <;> simp [Builtin.append_, run_underlying ht, run_underlying hk, sizeOf, typeInfo, hi, hsrc.len, hsrc.cells]
  ·exact whole (by simp; omega) (run_firstCells_none w.drew i.size 0 0 0)
 ·by_cases hroom : vs.length + m ≤ cap0
  ·have hst := run_storeCells_at P g (o + vs.length) e news 0 cur w hg (by rw [hnl]; omega) hs.one
   simp only [Nat.add_zero, List.append_assoc] at hst
   have hrun : (Builtin.append_ #[t, tx] ty #[.slice (some ⟨g, o, none⟩) vs.length cap0, x]).run P w =
     .ok (.slice (some ⟨g, o, none⟩) (vs.length + m) cap0) (w.setRow g (cur.toList.take (o + vs.length) ++ news ++ cur.toList.drop (o + vs.length + news.length)).toArray) := by
    rcases hs.kind with ⟨e', hk⟩ | hk <;> simp [Builtin.append_, run_underlying ht, run_underlying hk, sizeOf, typeInfo, hi, hs.len, hroom, hs.cells, Addr.add_lit, hst, hsize]
   have htl : (cur.toList.take (o + vs.length)).length = o + vs.length := by have h9 : cur.toList.length = cur.size := Array.length_toList; rw [List.length_take]; omega
   have hnew : RowR (w.setRow g (cur.toList.take (o + vs.length) ++ news ++ cur.toList.drop (o + vs.length + news.length)).toArray) e (some ⟨g, o, none⟩) cap0 (vs ++ news) := by
    refine ⟨by omega, hr.max, hone, .inr ⟨g, o, _, rfl, setRow_heap w g cur _ e _ hg, ?_, fun j v hj => ?_⟩⟩
    ·simp only [List.size_toArray, List.length_append, List.length_take, List.length_drop, Array.length_toList]
     omega
    ·rw [List.getElem?_toArray, List.append_assoc]
     by_cases hjl : j < vs.length
     ·rw [List.getElem?_append_left hjl] at hj
      rw [List.getElem?_append_left (by omega), List.getElem?_take_of_lt (by omega), Array.getElem?_toList]
      exact hc j v hj
     ·rw [List.getElem?_append_right (by omega)] at hj
      have hjn := (List.getElem?_eq_some_iff.1 hj).1
      rw [List.getElem?_append_right (by omega), htl, List.getElem?_append_left (by omega), show o + j - (o + vs.length) = j - vs.length by omega]
      exact hj
   refine ⟨_, _, _, hrun, hnew, ⟨rfl, rfl, rfl, by simp, fun k _ hk => setRow_other w g k _ (fun e => hk (by simp [blockOf, e]))⟩, .inl rfl, ?_⟩
   have := hnew.take vs.length
   rwa [List.take_left] at this
  ·refine whole hroom (run_firstCells_some (P := P) w.drew i.size vs.length ⟨g, o, none⟩ vs.length cap0 vs (by rw [hsize, Nat.mul_one]) fun j v hj => ?_)
   rw [ad_mid]
   exact hr.cell hj
theorem wpList_append_row {ops : Array Oper} {rest : List Oper} {o : Oper} {a : Act} {Q : Exit → Act → World → Prop} (hgd : o.guard = none) (s x : Operand) (t tx : TypeId)
  (ho : o.op = .call { callee := .builtin .append, args := #[s, x], argTypes := #[t, tx] })
  (e : TypeId) (i : TypeInfo) (z : Value) (bytes : Nat) (ht : P.underlying t = some (.slice e)) (hi : P.info? e = some i) (hz : i.zero = some z)
  (hsize : i.size = 1) (hby : i.bytes = bytes) (hzs : z.cells.size = 1)
  (ao : Option Addr) (n cap : Nat) (vs : List Value) (hn : vs.length = n) (hsv : a.eval s = .slice ao n cap) (hr : RowR w e ao cap vs)
  (xv : Value) (m : Nat) (news : List Value) (hx : a.eval x = xv) (hs : Src P 1 tx xv m news w)
  (h63 : n + m ≤ maxLen) (hbytes : (n + m) * bytes ≤ 140737488355328)
  (h : ∀ ao' cap' w', RowR w' e ao' cap' (vs ++ news) → RowR w' e ao cap vs → Keeps (fun k => blockOf ao = some k) w w' → Moved w.heap.size ao ao' → wpList P ops Q rest (a.put o.dst (.slice ao' (n + m) cap')) w') : wpList P ops Q (o :: rest) a w := by
 refine wpList_plain hgd fun K hK => ?_
 obtain ⟨ao', cap', w', hrr, h2, h3, h4, h5⟩ := run_append_row (P := P) w t tx o.type e i z bytes ht hi hz hsize hby hzs ao n cap vs hn hr xv m news hs h63 hbytes
 unfold Oper.wp execOp
 simp only [ho, resolve, invoke, builtin, Sem.run_bind, Sem.run_pure, Result.andThen_ok, List.map_toArray, List.map_cons, List.map_nil, hsv, hx, hrr]
 exact hK _ _ (h ao' cap' w' h2 h5 ((Keeps.refl _ _).grown h3 (fun k hk _ => hk)) h4)
end
end Go.Proofs.YtjbcagbnagefcaaGreat
namespace Go.Proofs.YtjbcagbnagefcaaGreat
open Go Go.RowKit
section
variable {P : Program} {Q : Exit → Act → World → Prop} {S : World → Prop}
theorem wpMix_unwK {ops : Array Oper} {a : Act} {w : World} {o : Oper} {r : List (Bool × Oper)} (h1 : Region.wanted o (yielded ops a.tmps) = false)
  (h : wpMix P ops S Q r (a.put o.dst undef) w) : wpMix P ops S Q ((true, o) :: r) a w := by
 unfold wpMix
 rw [if_neg (by rw [h1]; exact Bool.false_ne_true)]
 exact h
theorem wpMix_unwK1 {ops : Array Oper} {a : Act} {w : World} {o : Oper} {r : List (Bool × Oper)} (h1 : Region.wanted o (yielded ops a.tmps) = false)
  (hS : S w) (h : wpMix P ops S Q r (a.put o.dst undef) w) : wpMix P ops S Q ((false, o) :: r) a w := by
 unfold wpMix wpList
 rw [if_neg (by rw [h1]; exact Bool.false_ne_true)]
 exact ⟨hS, h⟩
end
end Go.Proofs.YtjbcagbnagefcaaGreat
