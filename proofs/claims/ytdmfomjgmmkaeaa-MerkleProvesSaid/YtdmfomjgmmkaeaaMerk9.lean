/- merkle.made: the closure. -/
import Derived.Test.YtdmfomjgmmkaeaaMerk8
import Derived.Test.YtdmfomjgmmkaeaaMixT
namespace Go.Proofs.Ytdmfomjgmmkaeaa
open Go.RowKit

def upV (go gb gu : Nat) : Value := (.func (.func 59) #[] #[.pointer (some ⟨go, 0, none⟩), .pointer (some ⟨gb, 0, none⟩), .pointer (some ⟨gu, 0, none⟩)])
structure MdS (w0 w : World) (go gb gu : Nat) (ab : Option Addr) (nb cb : Nat) (ao : Option Addr) (cap : Nat) (rows : List (List UInt8)) (vs : List Value) : Prop where
  keep : Keeps Nothing w0 w
  fn : Blk w gu #[upV go gb gu] 90
  bv : Blk w gb #[.slice ab nb cb] 22
  ov : Blk w go #[.slice ao rows.length cap] 41
  own : OwnS w ao cap rows vs
  o0 : w0.heap.size ≤ go
  b0 : w0.heap.size ≤ gb
  u0 : w0.heap.size ≤ gu
  a0 : ∀ g, blockOf ao = some g → w0.heap.size ≤ g
  ne : blockOf ao ≠ some gb
section
variable {w0 w w' : World} {go gb gu : Nat} {ab : Option Addr} {nb cb : Nat} {ao ao' : Option Addr} {cap cap' : Nat} {rows : List (List UInt8)} {vs : List Value}
theorem MdS.keepsN (h : MdS w0 w go gb gu ab nb cb ao cap rows vs) (k : Keeps Nothing w w') : MdS w0 w' go gb gu ab nb cb ao cap rows vs :=
  ⟨h.keep.trans k (fun _ h _ => h), k.blk h.fn (fun h => h), k.blk h.bv (fun h => h), k.blk h.ov (fun h => h), h.own.keepsN k, h.o0, h.b0, h.u0, h.a0, h.ne⟩
theorem blk_type {w : World} {g : Nat} {c d : Array Value} {s t : TypeId} (h1 : Blk w g c s) (h2 : Blk w g d t) : s = t := by
  have := h1.symm.trans h2
  simp only [Option.some.injEq, Obj.cells.injEq] at this
  exact this.2.1
theorem ownS_ne {p : Nat} {cs : Array Value} {t : TypeId} (h : OwnS w ao cap rows vs) (hp : Blk w p cs t) (hne : 22 ≠ t) : blockOf ao ≠ some p := by
  intro e
  rcases ownS_head h with rfl | ⟨g, rfl⟩
  · simp [blockOf] at e
  · obtain ⟨cur, hc⟩ := ownS_blk h
    have : g = p := by simpa [blockOf] using e
    subst this
    exact hne (blk_type hc hp)
theorem OwnS.keepsB {g : Nat} {C : Array Value} (h : OwnS w ao cap rows vs) (hB : Blk w g C 25) (k : Keeps (fun j => j = g) w w') : OwnS w' ao cap rows vs :=
  ⟨k.own h.own (fun x hx e => by subst e; rw [ownBlock_eq] at hx; exact ownS_ne h hB (by decide) hx), fun j l hj => by
    obtain ⟨a8, c8, h1, h2⟩ := h.each j l hj
    exact ⟨a8, c8, h1, k.own h2 (fun x hx e => by subst e; rw [ownBlock_eq] at hx; exact own8_ne h2 hB (by decide) hx)⟩⟩
theorem MdS.keepsB {g : Nat} {C : Array Value} (h : MdS w0 w go gb gu ab nb cb ao cap rows vs) (hB : Blk w g C 25) (hg : w0.heap.size ≤ g) (k : Keeps (fun j => j = g) w w') : MdS w0 w' go gb gu ab nb cb ao cap rows vs :=
  ⟨h.keep.trans k (fun i hi hlt => by omega), k.blk h.fn (fun e => by subst e; exact absurd (blk_type h.fn hB) (by decide)), k.blk h.bv (fun e => by subst e; exact absurd (blk_type h.bv hB) (by decide)), k.blk h.ov (fun e => by subst e; exact absurd (blk_type h.ov hB) (by decide)), h.own.keepsB hB k, h.o0, h.b0, h.u0, h.a0, h.ne⟩
/-- One text more. -/
theorem MdS.app {t : List UInt8} {v : Value} (h : MdS w0 w go gb gu ab nb cb ao cap rows vs) (o : OwnS w' ao' cap' (rows ++ [t]) (vs ++ [v])) (k : Keeps (fun k => blockOf ao = some k) w w') (m : Moved w.heap.size ao ao') {n : Nat} (hn : (rows ++ [t]).length = n) :
    MdS w0 (w'.setCell ⟨go, 0, none⟩ (.slice ao' n cap')) go gb gu ab nb cb ao' cap' (rows ++ [t]) (vs ++ [v]) := by
  subst hn
  have f' := k.blk h.fn (ownS_ne h.own h.fn (by decide))
  have hgbo : blockOf ao ≠ some go := ownS_ne h.own h.ov (by decide)
  have ov' := k.blk h.ov hgbo
  have hbs := blk_set ov' 0 (.slice ao' (rows ++ [t]).length cap')
  have n1 : gu ≠ go := fun e => by subst e; exact absurd (blk_type h.fn h.ov) (by decide)
  have n2 : gb ≠ go := fun e => by subst e; exact absurd (blk_type h.bv h.ov) (by decide)
  have b' := k.blk h.bv h.ne
  have hgb := lt_of_block h.bv
  refine ⟨(h.keep.trans k (fun i hi hlt => by have := h.a0 i hi; omega)).setCell (fun h' => absurd h' (by have := h.o0; show ¬ go < _; omega)) _, blk_other f' _ (show gu ≠ go from n1) _, blk_other b' _ (show gb ≠ go from n2) _, hbs, ⟨ownsRow_setCell_other o.own (own_ne o.own ov' (by decide)) _, fun j l hj => ?_⟩, h.o0, h.b0, h.u0, m.new h.keep.size h.a0, fun e => by rcases m with m | ⟨g', m, hg'⟩; (rw [m] at e; exact h.ne e); (rw [m] at e; have := Option.some.inj e; omega)⟩
  obtain ⟨a8, c8, h1, h2⟩ := o.each j l hj
  exact ⟨a8, c8, h1, ownsRow_setCell_other h2 (own_ne h2 ov' (by decide)) _⟩
end

/-- How the closure ends. -/
def UpPost (w0 w : World) (go gb gu : Nat) (ab : Option Addr) (nb cb : Nat) (ao : Option Addr) (rows : List (List UInt8)) (r : List (List UInt8) × List UInt8 × Bool) (e : Ending) (w' : World) : Prop :=
  e = .returned (.tuple #[hashV r.2.1, .bool r.2.2]) ∧ ∃ ao' cap' vs', MdS w0 w' go gb gu ab nb cb ao' cap' (rows ++ r.1) vs' ∧ Keeps (fun j => j = go ∨ blockOf ao = some j) w w' ∧ Moved w.heap.size ao ao'
theorem results_hash_tmp (fn : Func) {p u : Tmp} (h : fn.results = #[.cell p 25, .tmp u]) (tmps : Array Value) (w : World) (g : Nat) (cs : Array Value) (ev : Value) (hb : Blk w g cs 25) (hs : cs.size = 32)
    (hp : tmps.getD p undef = .pointer (some ⟨g, 0, none⟩)) (hu : tmps.getD u undef = ev) : (results fn tmps).run Try.prog w = .ok (.tuple #[.agg cs, ev]) w :=
  results_row_tmp h tmps w g cs ev hp hu (run_loadVar_row w g 25 _ cs (0, 0) _ hb Try.underlying25 rfl (by rw [infoHash, hs]))

theorem exec_mid_hash (ρ : Operand → Value) (dst : Option Tmp) (x : Operand) (ty' : TypeId) (pos : String) (af : Array Edge) (gd : Option (Nat × Bool)) (w : World) (h : midOkV w 32 (ρ x) = true) :
    (execOp ρ ⟨dst, .load 25 x, ty', pos, af, gd⟩).run Try.prog w = .ok (.value (.agg (midOfV w 32 (ρ x)))) w :=
  exec_load_mid _ 32 _ Try.underlying25 rfl infoHash ρ dst x ty' pos af gd w h

attribute [local go_sem ↓] exec_mid_hash exec_load_hash exec_store_hash
attribute [local go_sem] rowOk_new World.setRow_alloc_new

set_option maxRecDepth 100000 in
set_option maxHeartbeats 8000000 in
theorem up_rec : ∀ (M : Nat) (w0 w : World) (go gb gu : Nat) (ab : Option Addr) (nb cb : Nat) (ao : Option Addr) (cap : Nat) (rows : List (List UInt8)) (vs : List Value) (b : List UInt8) (ap : Option Addr) (c i n : Nat) (path : List (List UInt8)),
    path.length = M → HashesAt w0 ap path → M ≤ c → c ≤ maxLen → i < n → n < 9223372036854775808 → BytesAt w0 ab b → b.length = nb → nb ≤ 1000 → rows.length + M ≤ 1000000 → M ≤ 1000000 → MdS w0 w go gb gu ab nb cb ao cap rows vs →
    Calls Try.prog 59 #[.int .i64 (i : Int), .int .i64 (n : Int), .slice ap M c, .pointer (some ⟨go, 0, none⟩), .pointer (some ⟨gb, 0, none⟩), .pointer (some ⟨gu, 0, none⟩)] w (UpPost w0 w go gb gu ab nb cb ao rows (upL b i n path)) := by
  intro M
  induction M with
  | zero =>
    intro w0 w go gb gu ab nb cb ao cap rows vs b ap c i n path hM hH hc hcm hi hn hB hnb hnb9 hrl _ S
    obtain ⟨Z, hZ⟩ : ∃ Z, Z = (zeros32.map byteV).toArray := ⟨_, rfl⟩
    have hZs : Z.size = 32 := by rw [hZ]; rfl
    have hZ1 : Z.all (·.oneCell') = true := by rw [hZ]; exact bytes_all _
    have hzl := zeros32_lit
    rw [← hZ] at hzl
    have HZ := shut hZ
    clear hZ
    have B9 := blk_new w Z 25
    have S9 := S.keepsN ((Keeps.refl _ _).alloc (.cells Z 25))
    have K9 := (Keeps.refl Nothing w).alloc (.cells Z 25)
    have m9 : Moved w.heap.size ao ao := Moved.refl _ _
    by_cases h1 : n = 1
    · subst h1
      have hup := upL_one b i path
      rw [hup]
      have hlf := fun W (K : Keeps Nothing w0 W) => leaf_any cb hnb (hB.keeps K (fun _ _ h => h)) (by omega)
      have hLf := fun W (K : Keeps Nothing w0 W) => bigleaf_any cb hnb (hB.keeps K (fun _ _ h => h)) hnb9
      have hll : (leafB b).length = nb + 1 := by simp [leafB, hnb]
      obtain ⟨X, hX, hXv, hXs, hag⟩ := hash_agg (leafB b)
      rw [hXv] at hLf
      have hfin : ∀ (W : World) (ao' : Option Addr) (cap' : Nat) (vs' : List Value), MdS w0 W go gb gu ab nb cb ao' cap' (rows ++ [leafB b]) vs' → Keeps (fun j => j = go ∨ blockOf ao = some j) w W → Moved w.heap.size ao ao' → UpPost w0 w go gb gu ab nb cb ao rows ([leafB b], shaOf (leafB b), path.isEmpty) (.returned (.tuple #[.agg X, .bool path.isEmpty])) W := fun W ao' cap' vs' h1 h2 h3 =>
        ⟨by rw [← hXv], ao', cap', vs', h1, h2, h3⟩
      have HFIN := shut hfin
      have hpe : ((((0 : Nat) : Int) : Int) == 0) = path.isEmpty := by rw [← hM]; cases path with | nil => rfl | cons x p => simp; omega
      obtain ⟨PE, hPE⟩ : ∃ PE, path.isEmpty = PE := ⟨_, rfl⟩
      rw [hPE] at hpe HFIN ⊢
      generalize leafB b = LF at *
      clear hX hXv hfin hup hPE
      go_enter Try.func59, Try.ntmps59
      go_wp2_with fail
      rw [← hzl]
      generalize w.alloc (.cells Z 25) = w1 at *
      generalize hg9 : w.heap.size = g9 at *
      have HG := shut hg9
      clear hg9
      have q1 := blk_cell S9.ov 0 (show (#[.slice ao rows.length cap] : Array Value)[0]? = some (.slice ao rows.length cap) from rfl)
      have q2 := blk_cell S9.bv 0 (show (#[.slice ab nb cb] : Array Value)[0]? = some (.slice ab nb cb) from rfl)
      refine wp_region_mixT (fun W => W.cell? ⟨go, 0, none⟩ = some (.slice ao rows.length cap) ∧ W.cell? ⟨gb, 0, none⟩ = some (.slice ab nb cb)) 5 (.take 0 (.take 1 (.one 2 (.one 3 (.one 4 (.one 5 .done)))))) (by kernel_rfl) (by kernel_rfl) ⟨q1, q2⟩ ?_
      simp only [itemsT, PlanT.map, List.getD_cons_zero, List.getD_cons_succ, Nat.reduceBEq]
      refine wpMixT_yield (v := .slice ao rows.length cap) (fun W hW => ?_) (fun K hK => ?_)
      · obtain ⟨z1, z2⟩ := hW
        go_simp
      go_simp
      refine hK _ ?_
      clear hK K
      refine wpMixT_yield (v := .slice ab nb cb) (fun W hW => ?_) (fun K hK => ?_)
      · obtain ⟨z1, z2⟩ := hW
        go_simp
      go_simp
      refine hK _ ?_
      clear hK K
      refine wpMixT_one (fun K hK => ?_)
      go_wp2_with fail
      refine (hlf _ S9.keep.drew).mono ?_
      rintro e w2 ⟨a2, c2, rfl, o2, k2, _⟩
      have S2 : MdS w0 w2 go gb gu ab nb cb ao cap rows vs := (S9.keepsN (Keeps.drew (Keeps.refl _ _))).keepsN k2
      have K2 : Keeps Nothing w w2 := K9.drew.trans k2 (fun _ h _ => h)
      have B2 := k2.blk (a := w1.drew) B9 (fun h => h)
      clear q1 q2
      have q1 := blk_cell S2.ov 0 (show (#[.slice ao rows.length cap] : Array Value)[0]? = some (.slice ao rows.length cap) from rfl)
      have q2 := blk_cell S2.bv 0 (show (#[.slice ab nb cb] : Array Value)[0]? = some (.slice ab nb cb) from rfl)
      rw [hll]
      go_wp2_with fail
      refine hK _ _ (.inr ⟨q1, q2⟩) ?_
      clear hK K S9 B9 k2
      refine wpMixT_one (fun K hK => ?_)
      go_wp2_with fail
      have S3 := S2.keepsN ((Keeps.refl _ _).alloc (.cells #[.slice a2 (nb + 1) c2] 22))
      have D3 := blk_new w2 #[.slice a2 (nb + 1) c2] 22
      have o3 : Own8 (w2.alloc (.cells #[.slice a2 (nb + 1) c2] 22)) 5 a2 c2 LF := World.ownsRow.alloc o2 _
      have K3 := K2.alloc (.cells #[.slice a2 (nb + 1) c2] 22)
      have B3 := blk_alloc B2 (.cells #[.slice a2 (nb + 1) c2] 22)
      clear q1 q2 S2 K2 B2 o2
      generalize w2.alloc (.cells #[.slice a2 (nb + 1) c2] 22) = w3 at *
      generalize w2.heap.size = g3 at *
      have q1 := blk_cell S3.ov 0 (show (#[.slice ao rows.length cap] : Array Value)[0]? = some (.slice ao rows.length cap) from rfl)
      have q2 := blk_cell S3.bv 0 (show (#[.slice ab nb cb] : Array Value)[0]? = some (.slice ab nb cb) from rfl)
      refine hK _ _ (.inr ⟨q1, q2⟩) ?_
      clear hK K
      refine wpMixT_one (fun K hK => ?_)
      refine wpList_appS _ rfl (.tmp 19) (.tmp 22) rfl ao cap rows vs rows.length rfl rfl S3.own g3 LF a2 c2 hll rfl D3 o3 (by omega) ?_
      intro a4 c4 w4 o4 k4 m4
      have S4 := S3.app o4 k4 m4 (n := rows.length + 1) (by simp)
      have ov4 := k4.blk S3.ov (ownS_ne S3.own S3.ov (by decide))
      have bv4 := k4.blk S3.bv S3.ne
      have B4 := k4.blk B3 (ownS_ne S3.own B3 (by decide))
      have K4 : Keeps (fun j => j = go ∨ blockOf ao = some j) w w4 := (K3.mono (fun _ h _ => h.elim)).trans k4 (fun j hj _ => .inr hj)
      have M4 : Moved w.heap.size ao a4 := m4.mono K3.size
      have hgo : g9 ≠ go := fun e => by subst e; exact absurd (blk_type B3 S3.ov) (by decide)
      clear q1 q2
      have q1 : w4.cell? ⟨go, 0, none⟩ = some (.slice ao rows.length cap) := blk_cell ov4 0 rfl
      have q2 : w4.cell? ⟨gb, 0, none⟩ = some (.slice ab nb cb) := blk_cell bv4 0 rfl
      have f1 := blk_free ov4 0
      clear S3 D3 o3 K3 B3 o4 k4 m4 bv4
      go_wp2_with fail
      refine hK _ _ (.inr ⟨q1, q2⟩) ?_
      clear hK K
      refine wpMixT_one (fun K hK => ?_)
      go_wp2_with fail
      refine hK _ _ (.inl trivial) ?_
      clear hK K
      have K5 : Keeps (fun j => j = go ∨ blockOf ao = some j) w (w4.setCell ⟨go, 0, none⟩ (.slice a4 (rows.length + 1) c4)) := K4.setCell (fun _ => .inl rfl) _
      have B5 : Blk (w4.setCell ⟨go, 0, none⟩ (.slice a4 (rows.length + 1) c4)) g9 Z 25 := blk_other B4 _ (show g9 ≠ go from hgo) _
      clear q1 q2 f1 K4 B4 ov4
      generalize w4.setCell ⟨go, 0, none⟩ (.slice a4 (rows.length + 1) c4) = w5 at *
      refine wpMixT_done ?_
      have q2 := blk_cell S4.bv 0 (show (#[.slice ab nb cb] : Array Value)[0]? = some (.slice ab nb cb) from rfl)
      go_wp2_with fail
      refine (hLf _ S4.keep).mono ?_
      rintro e w6 ⟨rfl, k6⟩
      have S6 := S4.keepsN k6
      have B6 := k6.blk B5 (fun h => h)
      have K6 := K5.trans k6 (fun _ h _ => h.elim)
      have r6 := rowOk_blk B6 hZs
      clear q2 S4 B5 K5 k6
      go_wp2_with fail
      have b3 := blk_setRow (cs := X) B6
      have S7 := S6.keepsB B6 (by have := S.keep.size; have := HG.out; omega) ((Keeps.refl (fun j => j = g9) w6).setRow (fun _ => rfl) X)
      have K7 : Keeps (fun j => j = go ∨ blockOf ao = some j) w (w6.setRow g9 X) := K6.setRow (fun h => absurd h (by have := HG.out; omega)) X
      refine bodyPost_ret (v := .tuple #[.agg X, .bool PE]) (results_hash_tmp _ rfl _ _ g9 X _ b3 hXs rfl (by first | rfl | (show Value.bool _ = Value.bool _; rw [← hpe]; rfl))) rfl ?_
      have hq := HFIN.out (w6.setRow g9 X) a4 c4 _ S7 K7 (HG.out ▸ M4)
      exact hq
    · have hup := upL_nil b i n h1
      obtain rfl : path = [] := List.eq_nil_of_length_eq_zero hM
      rw [hup]
      have m1 : ((n : Int) == 1) = false := by rw [beq_eq_false_iff_ne]; omega
      have m2 : ¬ (n : Int) = 1 := by omega
      have hfin : ∀ (W : World) (ao' : Option Addr) (cap' : Nat) (vs' : List Value), MdS w0 W go gb gu ab nb cb ao' cap' rows vs' → Keeps (fun j => j = go ∨ blockOf ao = some j) w W → Moved w.heap.size ao ao' → UpPost w0 w go gb gu ab nb cb ao rows ([], zeros32, false) (.returned (.tuple #[.agg Z, .bool false])) W := fun W ao' cap' vs' h1 h2 h3 =>
        ⟨by rw [HZ.out]; rfl, ao', cap', vs', by rw [List.append_nil]; exact h1, h2, h3⟩
      have HFIN := shut hfin
      have hag := aggOk_agg 32 Z hZs hZ1
      have hagL := hag
      rw [hzl] at hagL
      clear hfin hup
      go_enter Try.func59, Try.ntmps59
      go_wp2_with fail
      rw [← hzl]
      refine bodyPost_ret (v := .tuple #[.agg Z, .bool false]) (results_hash_tmp _ rfl _ _ w.heap.size Z _ B9 hZs rfl rfl) rfl ?_
      have hq := HFIN.out (w.alloc (.cells Z 25)) ao cap vs S9 (K9.mono (fun _ h _ => h.elim)) m9
      exact hq
  | succ M ih =>
    intro w0 w go gb gu ab nb cb ao cap rows vs b ap c i n path hM hH hc hcm hi hn hB hnb hnb9 hrl hM9 S
    obtain ⟨Z, hZ⟩ : ∃ Z, Z = (zeros32.map byteV).toArray := ⟨_, rfl⟩
    have hZs : Z.size = 32 := by rw [hZ]; rfl
    have hZ1 : Z.all (·.oneCell') = true := by rw [hZ]; exact bytes_all _
    have hzl := zeros32_lit
    rw [← hZ] at hzl
    have HZ := shut hZ
    clear hZ
    have B9 := blk_new w Z 25
    have S9 := S.keepsN ((Keeps.refl _ _).alloc (.cells Z 25))
    have K9 := (Keeps.refl Nothing w).alloc (.cells Z 25)
    have m9 : Moved w.heap.size ao ao := Moved.refl _ _
    by_cases h1 : n = 1
    · subst h1
      have hup := upL_one b i path
      rw [hup]
      have hlf := fun W (K : Keeps Nothing w0 W) => leaf_any cb hnb (hB.keeps K (fun _ _ h => h)) (by omega)
      have hLf := fun W (K : Keeps Nothing w0 W) => bigleaf_any cb hnb (hB.keeps K (fun _ _ h => h)) hnb9
      have hll : (leafB b).length = nb + 1 := by simp [leafB, hnb]
      obtain ⟨X, hX, hXv, hXs, hag⟩ := hash_agg (leafB b)
      rw [hXv] at hLf
      have hfin : ∀ (W : World) (ao' : Option Addr) (cap' : Nat) (vs' : List Value), MdS w0 W go gb gu ab nb cb ao' cap' (rows ++ [leafB b]) vs' → Keeps (fun j => j = go ∨ blockOf ao = some j) w W → Moved w.heap.size ao ao' → UpPost w0 w go gb gu ab nb cb ao rows ([leafB b], shaOf (leafB b), path.isEmpty) (.returned (.tuple #[.agg X, .bool path.isEmpty])) W := fun W ao' cap' vs' h1 h2 h3 =>
        ⟨by rw [← hXv], ao', cap', vs', h1, h2, h3⟩
      have HFIN := shut hfin
      have hpe : ((((M + 1 : Nat) : Int) : Int) == 0) = path.isEmpty := by rw [← hM]; cases path with | nil => rfl | cons x p => simp; omega
      obtain ⟨PE, hPE⟩ : ∃ PE, path.isEmpty = PE := ⟨_, rfl⟩
      rw [hPE] at hpe HFIN ⊢
      generalize leafB b = LF at *
      clear hX hXv hfin hup hPE
      go_enter Try.func59, Try.ntmps59
      go_wp2_with fail
      rw [← hzl]
      generalize w.alloc (.cells Z 25) = w1 at *
      generalize hg9 : w.heap.size = g9 at *
      have HG := shut hg9
      clear hg9
      have q1 := blk_cell S9.ov 0 (show (#[.slice ao rows.length cap] : Array Value)[0]? = some (.slice ao rows.length cap) from rfl)
      have q2 := blk_cell S9.bv 0 (show (#[.slice ab nb cb] : Array Value)[0]? = some (.slice ab nb cb) from rfl)
      refine wp_region_mixT (fun W => W.cell? ⟨go, 0, none⟩ = some (.slice ao rows.length cap) ∧ W.cell? ⟨gb, 0, none⟩ = some (.slice ab nb cb)) 5 (.take 0 (.take 1 (.one 2 (.one 3 (.one 4 (.one 5 .done)))))) (by kernel_rfl) (by kernel_rfl) ⟨q1, q2⟩ ?_
      simp only [itemsT, PlanT.map, List.getD_cons_zero, List.getD_cons_succ, Nat.reduceBEq]
      refine wpMixT_yield (v := .slice ao rows.length cap) (fun W hW => ?_) (fun K hK => ?_)
      · obtain ⟨z1, z2⟩ := hW
        go_simp
      go_simp
      refine hK _ ?_
      clear hK K
      refine wpMixT_yield (v := .slice ab nb cb) (fun W hW => ?_) (fun K hK => ?_)
      · obtain ⟨z1, z2⟩ := hW
        go_simp
      go_simp
      refine hK _ ?_
      clear hK K
      refine wpMixT_one (fun K hK => ?_)
      go_wp2_with fail
      refine (hlf _ S9.keep.drew).mono ?_
      rintro e w2 ⟨a2, c2, rfl, o2, k2, _⟩
      have S2 : MdS w0 w2 go gb gu ab nb cb ao cap rows vs := (S9.keepsN (Keeps.drew (Keeps.refl _ _))).keepsN k2
      have K2 : Keeps Nothing w w2 := K9.drew.trans k2 (fun _ h _ => h)
      have B2 := k2.blk (a := w1.drew) B9 (fun h => h)
      clear q1 q2
      have q1 := blk_cell S2.ov 0 (show (#[.slice ao rows.length cap] : Array Value)[0]? = some (.slice ao rows.length cap) from rfl)
      have q2 := blk_cell S2.bv 0 (show (#[.slice ab nb cb] : Array Value)[0]? = some (.slice ab nb cb) from rfl)
      rw [hll]
      go_wp2_with fail
      refine hK _ _ (.inr ⟨q1, q2⟩) ?_
      clear hK K S9 B9 k2
      refine wpMixT_one (fun K hK => ?_)
      go_wp2_with fail
      have S3 := S2.keepsN ((Keeps.refl _ _).alloc (.cells #[.slice a2 (nb + 1) c2] 22))
      have D3 := blk_new w2 #[.slice a2 (nb + 1) c2] 22
      have o3 : Own8 (w2.alloc (.cells #[.slice a2 (nb + 1) c2] 22)) 5 a2 c2 LF := World.ownsRow.alloc o2 _
      have K3 := K2.alloc (.cells #[.slice a2 (nb + 1) c2] 22)
      have B3 := blk_alloc B2 (.cells #[.slice a2 (nb + 1) c2] 22)
      clear q1 q2 S2 K2 B2 o2
      generalize w2.alloc (.cells #[.slice a2 (nb + 1) c2] 22) = w3 at *
      generalize w2.heap.size = g3 at *
      have q1 := blk_cell S3.ov 0 (show (#[.slice ao rows.length cap] : Array Value)[0]? = some (.slice ao rows.length cap) from rfl)
      have q2 := blk_cell S3.bv 0 (show (#[.slice ab nb cb] : Array Value)[0]? = some (.slice ab nb cb) from rfl)
      refine hK _ _ (.inr ⟨q1, q2⟩) ?_
      clear hK K
      refine wpMixT_one (fun K hK => ?_)
      refine wpList_appS _ rfl (.tmp 19) (.tmp 22) rfl ao cap rows vs rows.length rfl rfl S3.own g3 LF a2 c2 hll rfl D3 o3 (by omega) ?_
      intro a4 c4 w4 o4 k4 m4
      have S4 := S3.app o4 k4 m4 (n := rows.length + 1) (by simp)
      have ov4 := k4.blk S3.ov (ownS_ne S3.own S3.ov (by decide))
      have bv4 := k4.blk S3.bv S3.ne
      have B4 := k4.blk B3 (ownS_ne S3.own B3 (by decide))
      have K4 : Keeps (fun j => j = go ∨ blockOf ao = some j) w w4 := (K3.mono (fun _ h _ => h.elim)).trans k4 (fun j hj _ => .inr hj)
      have M4 : Moved w.heap.size ao a4 := m4.mono K3.size
      have hgo : g9 ≠ go := fun e => by subst e; exact absurd (blk_type B3 S3.ov) (by decide)
      clear q1 q2
      have q1 : w4.cell? ⟨go, 0, none⟩ = some (.slice ao rows.length cap) := blk_cell ov4 0 rfl
      have q2 : w4.cell? ⟨gb, 0, none⟩ = some (.slice ab nb cb) := blk_cell bv4 0 rfl
      have f1 := blk_free ov4 0
      clear S3 D3 o3 K3 B3 o4 k4 m4 bv4
      go_wp2_with fail
      refine hK _ _ (.inr ⟨q1, q2⟩) ?_
      clear hK K
      refine wpMixT_one (fun K hK => ?_)
      go_wp2_with fail
      refine hK _ _ (.inl trivial) ?_
      clear hK K
      have K5 : Keeps (fun j => j = go ∨ blockOf ao = some j) w (w4.setCell ⟨go, 0, none⟩ (.slice a4 (rows.length + 1) c4)) := K4.setCell (fun _ => .inl rfl) _
      have B5 : Blk (w4.setCell ⟨go, 0, none⟩ (.slice a4 (rows.length + 1) c4)) g9 Z 25 := blk_other B4 _ (show g9 ≠ go from hgo) _
      clear q1 q2 f1 K4 B4 ov4
      generalize w4.setCell ⟨go, 0, none⟩ (.slice a4 (rows.length + 1) c4) = w5 at *
      refine wpMixT_done ?_
      have q2 := blk_cell S4.bv 0 (show (#[.slice ab nb cb] : Array Value)[0]? = some (.slice ab nb cb) from rfl)
      go_wp2_with fail
      refine (hLf _ S4.keep).mono ?_
      rintro e w6 ⟨rfl, k6⟩
      have S6 := S4.keepsN k6
      have B6 := k6.blk B5 (fun h => h)
      have K6 := K5.trans k6 (fun _ h _ => h.elim)
      have r6 := rowOk_blk B6 hZs
      clear q2 S4 B5 K5 k6
      go_wp2_with fail
      have b3 := blk_setRow (cs := X) B6
      have S7 := S6.keepsB B6 (by have := S.keep.size; have := HG.out; omega) ((Keeps.refl (fun j => j = g9) w6).setRow (fun _ => rfl) X)
      have K7 : Keeps (fun j => j = go ∨ blockOf ao = some j) w (w6.setRow g9 X) := K6.setRow (fun h => absurd h (by have := HG.out; omega)) X
      refine bodyPost_ret (v := .tuple #[.agg X, .bool PE]) (results_hash_tmp _ rfl _ _ g9 X _ b3 hXs rfl (by first | rfl | (show Value.bool _ = Value.bool _; rw [← hpe]; rfl))) rfl ?_
      have hq := HFIN.out (w6.setRow g9 X) a4 c4 _ S7 K7 (HG.out ▸ M4)
      exact hq
    · have hn2 : 2 ≤ n := by omega
      obtain ⟨q, x, rfl⟩ : ∃ q x, path = q ++ [x] := ⟨path.dropLast, path.getLast (by rintro rfl; simp at hM), (List.dropLast_concat_getLast _).symm⟩
      have hq : q.length = M := by simp at hM; exact hM
      obtain ⟨pb, po, rfl⟩ := hH.head (by rw [hM]; omega)
      obtain ⟨_, hx, hxr⟩ := hH.2 _ rfl M x (by rw [List.getElem?_append_right (by omega), hq, Nat.sub_self]; rfl)
      have hH' := hH.take M
      rw [List.take_left' hq] at hH'
      have hq32 := hH'.all32
      obtain ⟨CX, hCX⟩ : ∃ CX, (x.map byteV).toArray = CX := ⟨_, rfl⟩
      have HCX := shut hCX
      have HXR := shut hxr
      have hxl : (x.map byteV).length = 32 := by simp [hx]
      have HX0 := shut (show (x.map byteV)[0]? = some ((x.map byteV)[0]'(by omega)) from List.getElem?_eq_getElem _)
      have hto := fun W => hashes_to pb po (M + 1) c M (by omega) (by omega) W
      obtain ⟨s0, s1⟩ := splitN_lt hn2
      have HW0 := shut (show w0.heap.size ≤ w.heap.size from S.keep.size)
      have m1 : ((n : Int) == 1) = false := by rw [beq_eq_false_iff_ne]; omega
      have m2 : ¬ (n : Int) = 1 := by omega
      have m3 : (((M + 1 : Nat) : Int) == 0) = false := by rw [beq_eq_false_iff_ne]; omega
      have m4 : ¬ ((M + 1 : Nat) : Int) = 0 := by omega
      have m8 : ((M : Int) + 1 == 0) = false := by rw [beq_eq_false_iff_ne]; omega
      have m9b : ¬ (M : Int) + 1 = 0 := by omega
      have mi0 : (0 : Int) ≤ M := by omega
      have mi1 : (M : Int) < (M : Int) + 1 := by omega
      clear hxr hCX hM
      by_cases hik : i < splitN n
      · have hup := upL_left (x := x) (p := q) b h1 hik
        obtain ⟨u1, u2, _⟩ := upL_facts b M i (splitN n) q hq hq32
        have hrec0 := fun (W : World) (ao : Option Addr) (cap : Nat) (rows : List (List UInt8)) (vs : List Value) (hb : rows.length + M ≤ 1000000) (S : MdS w0 W go gb gu ab nb cb ao cap rows vs) => ih w0 W go gb gu ab nb cb ao cap rows vs b (some ⟨pb, po, none⟩) c i (splitN n) q hq hH' (by omega) hcm (by omega) (by omega) hB hnb hnb9 hb (by omega) S
        obtain ⟨R, hR⟩ : ∃ R, upL b i (splitN n) q = R := ⟨_, rfl⟩
        obtain ⟨r1, r2, r3⟩ := R
        rw [hR] at hup hrec0 u1 u2
        have hr2 : r2.length = 32 := u1
        have hr1 : r1.length ≤ M + 1 := u2
        rw [hup]
        obtain ⟨H2, hH2⟩ : ∃ H2, H2 = (r2.map byteV).toArray := ⟨_, rfl⟩
        have hH2s : H2.size = 32 := by rw [hH2]; simp [hr2]
        have hagH : aggOk 32 (.agg H2) = true := aggOk_agg 32 H2 hH2s (by rw [hH2]; exact bytes_all _)
        have HH2 := shut hH2
        have hnd := fun W => node_any W hr2 hx HH2.out.symm HCX.out
        have hNDl : (nodeB r2 x).length = 65 := by unfold nodeB; simp [hr2, hx]
        obtain ⟨Y, hY, hYv, hYs, hagY⟩ := hash_agg (nodeB r2 x)
        have hsum := fun W (ao : Option Addr) (cap : Nat) (ho : Own8 W 5 ao cap (nodeB r2 x)) => sum_own ho (by omega)
        rw [hYv] at hsum
        have hfin : ∀ (W : World) (ao' : Option Addr) (cap' : Nat) (vs' : List Value), MdS w0 W go gb gu ab nb cb ao' cap' (rows ++ (r1 ++ [nodeB r2 x])) vs' → Keeps (fun j => j = go ∨ blockOf ao = some j) w W → Moved w.heap.size ao ao' → UpPost w0 w go gb gu ab nb cb ao rows (r1 ++ [nodeB r2 x], shaOf (nodeB r2 x), r3) (.returned (.tuple #[.agg Y, .bool r3])) W := fun W ao' cap' vs' h1 h2 h3 =>
          ⟨by rw [← hYv], ao', cap', vs', h1, h2, h3⟩
        have HFIN := shut hfin
        generalize nodeB r2 x = ND at *
        have hsp := fun W => split_any W n hn2 hn
        obtain ⟨k, hk⟩ : ∃ k, splitN n = k := ⟨_, rfl⟩
        rw [hk] at hsp hik s0 s1 hrec0
        have m5 : (i : Int) < k := by omega
        have hrec : ∀ (W : World) (ao : Option Addr) (cap : Nat) (rows : List (List UInt8)) (vs : List Value), rows.length + M ≤ 1000000 → MdS w0 W go gb gu ab nb cb ao cap rows vs → Calls Try.prog 59 #[.int .i64 (i : Int), .int .i64 (k : Int), .slice (some ⟨pb, po, none⟩) M c, .pointer (some ⟨go, 0, none⟩), .pointer (some ⟨gb, 0, none⟩), .pointer (some ⟨gu, 0, none⟩)] W fun e w' => e = .returned (.tuple #[.agg H2, .bool r3]) ∧ ∃ ao' cap' vs', MdS w0 w' go gb gu ab nb cb ao' cap' (rows ++ r1) vs' ∧ Keeps (fun j => j = go ∨ blockOf ao = some j) W w' ∧ Moved W.heap.size ao ao' := fun W ao cap rows vs hb S => (hrec0 W ao cap rows vs hb S).mono fun e w' h => by
          obtain ⟨he, h2⟩ := h
          exact ⟨by rw [he, HH2.out]; rfl, h2⟩
        clear hrec0 hfin hup hR u1 u2 hY hYv hH2 ih hk hH hH' hB hq32
        go_enter Try.func59, Try.ntmps59
        go_wp2_with fail
        rw [← hzl]
        generalize w.alloc (.cells Z 25) = w1 at *
        generalize hg9 : w.heap.size = g9 at B9 ⊢
        have HG := shut hg9
        clear hg9
        refine (hsp w1).mono ?_
        rintro e w1' ⟨rfl, hw⟩
        subst w1'
        go_wp2_with fail
        have fn1 : w1.cell? ⟨gu, 0, none⟩ = some (.func (.func 59) #[] #[.pointer (some ⟨go, 0, none⟩), .pointer (some ⟨gb, 0, none⟩), .pointer (some ⟨gu, 0, none⟩)]) := blk_cell S9.fn 0 rfl
        refine wp_region_mixT (fun W => W.cell? ⟨gu, 0, none⟩ = some (.func (.func 59) #[] #[.pointer (some ⟨go, 0, none⟩), .pointer (some ⟨gb, 0, none⟩), .pointer (some ⟨gu, 0, none⟩)])) 12 (.take 0 (.take 1 (.take 2 (.take 3 (.take 4 (.take 5 (.two 6 10 (.take 7 (.take 8 (.take 9 (.one 10 (.one 11 (.one 12 .done)))))) (.one 6 (.take 7 (.take 8 (.take 9 (.one 11 (.one 12 .done))))))))))))) (by kernel_rfl) (by kernel_rfl) fn1 ?_
        simp only [itemsT, PlanT.map, List.getD_cons_zero, List.getD_cons_succ, Nat.reduceBEq]
        refine wpMixT_yield (v := (.func (.func 59) #[] #[.pointer (some ⟨go, 0, none⟩), .pointer (some ⟨gb, 0, none⟩), .pointer (some ⟨gu, 0, none⟩)])) (fun W hW => ?_) (fun K hK => ?_)
        · skip
          go_simp
        go_simp
        refine hK _ ?_
        clear hK K
        repeat (refine wpMixT_free (fun K hK => ?_); go_simp; refine hK _ ?_; clear hK K)
        refine wpMixT_two (fun K hK => ?_) (fun K hK => ?_)
        · go_wp2_with fail
          refine (hrec w1.drew ao cap rows vs (by omega) (S9.keepsN (Keeps.drew (Keeps.refl _ _)))).mono ?_
          rintro e w2 ⟨rfl, ao2, cap2, vs2, S2, K2, M2⟩
          have hg9o : g9 ≠ go := fun e => by subst e; exact absurd (blk_type B9 S9.ov) (by decide)
          have hg9a : blockOf ao ≠ some g9 := ownS_ne S9.own B9 (by decide)
          have B9a := K2.blk (a := w1.drew) B9 (fun h => by rcases h with h | h; exact hg9o h; exact hg9a h)
          have K2b : Keeps (fun j => j = go ∨ blockOf ao = some j) w w2 := (K9.drew.mono (fun _ h _ => h.elim)).trans K2 (fun j hj _ => hj)
          have M8 : Moved w.heap.size ao ao2 := M2.mono (by have := K9.size; show w.heap.size ≤ w1.heap.size; exact this)
          have fn2 : w2.cell? ⟨gu, 0, none⟩ = some (.func (.func 59) #[] #[.pointer (some ⟨go, 0, none⟩), .pointer (some ⟨gb, 0, none⟩), .pointer (some ⟨gu, 0, none⟩)]) := blk_cell S2.fn 0 rfl
          clear K2 M2 hg9o hg9a S9 B9 K9 fn1
          go_wp2_with fail
          refine hK _ _ (.inr fn2) ?_
          clear hK K
          repeat (refine wpMixT_free (fun K hK => ?_); go_simp; refine hK _ ?_; clear hK K)
          refine wpMixT_one (fun K hK => ?_)
          go_wp2_with fail
          rw [← hzl]
          refine hK _ _ (.inr (((Keeps.refl Nothing w2).alloc (.cells Z 25)).cell fn2 (fun h => h))) ?_
          clear hK K
          refine wpMixT_one (fun K hK => ?_)
          go_wp2_with fail
          have B13 := blk_new w2 H2 25
          have S8 := S2.keepsN ((Keeps.refl _ _).alloc (.cells H2 25))
          have B9b := blk_alloc B9a (.cells H2 25)
          have K8 := K2b.alloc (.cells H2 25)
          have fn3 := ((Keeps.refl Nothing w2).alloc (.cells H2 25)).cell fn2 (fun h => h)
          clear S2 B9a K2b fn2
          generalize w2.alloc (.cells H2 25) = W8 at *
          generalize w2.heap.size = g13 at *
          refine hK _ _ (.inr fn3) ?_
          clear hK K
          refine wpMixT_one (fun K hK => ?_)
          go_wp2_with fail
          refine hK _ _ (.inl trivial) ?_
          clear hK K fn3
          refine wpMixT_done ?_
          have hx8 : W8.rangeAt pb (po + M * 32) (x.map byteV) := rangeAt_keeps HXR.out S8.keep (fun h => h)
          obtain ⟨N2, hN2⟩ : ∃ N2, (rows ++ r1).length = N2 := ⟨_, rfl⟩
          have hN2b : N2 ≤ 2000000 := by rw [← hN2, List.length_append]; omega
          have q1 : W8.cell? ⟨go, 0, none⟩ = some (.slice ao2 N2 cap2) := by rw [← hN2]; exact blk_cell S8.ov 0 rfl
          have HN2 := shut hN2
          clear hN2
          go_wp2_with fail
          refine wp_region_mixT (fun W => W.cell? ⟨go, 0, none⟩ = some (.slice ao2 N2 cap2) ∧ Blk W g13 H2 25 ∧ W.rangeAt pb (po + M * 32) (x.map byteV)) 9 (.take 0 (.take 1 (.take 2 (.take 3 (.take 4 (.take 5 (.one 6 (.one 7 (.one 8 (.one 9 .done)))))))))) (by kernel_rfl) (by kernel_rfl) ⟨q1, B13, hx8⟩ ?_
          simp only [itemsT, PlanT.map, List.getD_cons_zero, List.getD_cons_succ, Nat.reduceBEq]
          refine wpMixT_yield (v := .slice ao2 N2 cap2) (fun W hW => ?_) (fun K hK => ?_)
          · obtain ⟨z1, z2, z3⟩ := hW
            go_simp
          go_simp
          refine hK _ ?_
          clear hK K
          refine wpMixT_yield (v := .agg H2) (fun W hW => ?_) (fun K hK => ?_)
          · obtain ⟨z1, z2, z3⟩ := hW
            have r1 := rowOk_blk z2 hH2s
            have r2 := rowOf_blk z2
            go_simp
          go_simp
          refine hK _ ?_
          clear hK K
          repeat (refine wpMixT_free (fun K hK => ?_); go_simp; refine hK _ ?_; clear hK K)
          refine wpMixT_yield (v := .agg CX) (fun W hW => ?_) (fun K hK => ?_)
          · obtain ⟨z1, z2, z3⟩ := hW
            have k1 := midOk_range z3
            have k2 := midOf_range z3
            rw [hxl] at k1 k2
            rw [HCX.out] at k2
            go_simp
          go_simp
          refine hK _ ?_
          clear hK K
          repeat (refine wpMixT_free (fun K hK => ?_); go_simp; refine hK _ ?_; clear hK K)
          refine wpMixT_one (fun K hK => ?_)
          go_wp2_with fail
          refine (hnd W8.drew).mono ?_
          rintro e w9 ⟨an, cn, rfl, on, kn, _⟩
          have S10 : MdS w0 w9 go gb gu ab nb cb ao2 cap2 (rows ++ r1) vs2 := (S8.keepsN (Keeps.drew (Keeps.refl _ _))).keepsN kn
          have K10 : Keeps (fun j => j = go ∨ blockOf ao = some j) w w9 := K8.drew.trans kn (fun _ h _ => h.elim)
          have E9 := kn.blk (a := W8.drew) B9b (fun h => h)
          have E13 := kn.blk (a := W8.drew) B13 (fun h => h)
          have hx9 := rangeAt_keeps (w := W8.drew) hx8 kn (fun h => h)
          have p1 := kn.cell (a := W8.drew) q1 (fun h => h)
          clear S8 K8 B9b B13 hx8 q1 kn
          rw [hNDl]
          go_wp2_with fail
          refine hK _ _ (.inr ⟨p1, E13, hx9⟩) ?_
          clear hK K
          refine wpMixT_one (fun K hK => ?_)
          go_wp2_with fail
          have A1 := (Keeps.refl Nothing w9).alloc (.cells #[.slice an 65 cn] 22)
          have S11 := S10.keepsN A1
          have D11 := blk_new w9 #[.slice an 65 cn] 22
          have on11 : Own8 (w9.alloc (.cells #[.slice an 65 cn] 22)) 5 an cn ND := World.ownsRow.alloc on _
          have K11 := K10.alloc (.cells #[.slice an 65 cn] 22)
          have E9b := A1.blk E9 (fun h => h)
          have E13b := A1.blk E13 (fun h => h)
          have hx11 := rangeAt_keeps hx9 A1 (fun h => h)
          have p2 := A1.cell p1 (fun h => h)
          clear S10 K10 E9 E13 hx9 p1 on A1
          generalize w9.alloc (.cells #[.slice an 65 cn] 22) = w11 at *
          generalize w9.heap.size = g11 at *
          refine hK _ _ (.inr ⟨p2, E13b, hx11⟩) ?_
          clear hK K
          refine wpMixT_one (fun K hK => ?_)
          refine wpList_appS _ rfl (.tmp 51) (.tmp 58) rfl ao2 cap2 (rows ++ r1) vs2 N2 HN2.out rfl S11.own g11 ND an cn hNDl rfl D11 on11 (by omega) ?_
          intro a4 c4 w12 o12 k12 m12
          have S12 := S11.app o12 k12 m12 (n := N2 + 1) (by rw [List.length_append, HN2.out]; rfl)
          have ov12 := k12.blk S11.ov (ownS_ne S11.own S11.ov (by decide))
          have F9 := k12.blk E9b (ownS_ne S11.own E9b (by decide))
          have F13 := k12.blk E13b (ownS_ne S11.own E13b (by decide))
          have hsz12 : w.heap.size ≤ w11.heap.size := K11.size
          have K12 : Keeps (fun j => j = go ∨ blockOf ao = some j) w w12 := K11.trans k12 (fun j hj hlt => by
            rcases M8 with m | ⟨g', m, hg'⟩
            · rw [m] at hj; exact .inr hj
            · rw [m] at hj; have := Option.some.inj hj; omega)
          have M12 : Moved w.heap.size ao a4 := M8.trans m12 hsz12
          have hpbne : blockOf ao2 ≠ some pb := fun e => by
            have h1 := S11.a0 pb e
            have h2 := HXR.out 0 _ HX0.out
            have h3 : pb < w0.heap.size := World.block_lt_of_cell? _ _ h2
            omega
          have hx12 := rangeAt_keeps hx11 k12 hpbne
          have hgo : g9 ≠ go := fun e => by subst e; exact absurd (blk_type E9b S11.ov) (by decide)
          have p3 : w12.cell? ⟨go, 0, none⟩ = some (.slice ao2 N2 cap2) := by
            have h9 := blk_cell ov12 0 (show (#[.slice ao2 (rows ++ r1).length cap2] : Array Value)[0]? = some (.slice ao2 (rows ++ r1).length cap2) from rfl)
            rw [HN2.out] at h9
            exact h9
          have f3 := blk_free ov12 0
          clear S11 D11 on11 K11 E9b E13b hx11 p2 o12 k12 m12 M8 hpbne
          go_wp2_with fail
          refine hK _ _ (.inr ⟨p3, F13, hx12⟩) ?_
          clear hK K
          refine wpMixT_one (fun K hK => ?_)
          go_wp2_with fail
          refine hK _ _ (.inl trivial) ?_
          clear hK K
          have K13 : Keeps (fun j => j = go ∨ blockOf ao = some j) w (w12.setCell ⟨go, 0, none⟩ (.slice a4 (N2 + 1) c4)) := K12.setCell (fun _ => .inl rfl) _
          have G9 : Blk (w12.setCell ⟨go, 0, none⟩ (.slice a4 (N2 + 1) c4)) g9 Z 25 := blk_other F9 _ (show g9 ≠ go from hgo) _
          clear K12 F9 F13 hx12 p3 f3 ov12
          generalize w12.setCell ⟨go, 0, none⟩ (.slice a4 (N2 + 1) c4) = w13 at *
          refine wpMixT_done ?_
          have q5 : w13.cell? ⟨go, 0, none⟩ = some (.slice a4 (N2 + 1) c4) := by
            have h9 := blk_cell S12.ov 0 (show (#[.slice a4 ((rows ++ r1) ++ [ND]).length c4] : Array Value)[0]? = some (.slice a4 ((rows ++ r1) ++ [ND]).length c4) from rfl)
            rw [show ((rows ++ r1) ++ [ND]).length = N2 + 1 from by rw [List.length_append, HN2.out]; rfl] at h9
            exact h9
          obtain ⟨ae, ce, hve, hoe⟩ := S12.own.each N2 ND (by rw [List.getElem?_append_right (by rw [HN2.out]; exact Nat.le_refl _), HN2.out, Nat.sub_self]; rfl)
          rcases ownS_head S12.own with e4 | ⟨g4, e4⟩
          · have h9 := S12.own.own.2
            rw [e4] at h9
            rcases h9 with ⟨hv, hn0⟩ | ⟨g', cap', cur, hv, _⟩
            · rw [List.length_append] at hn0; simp at hn0
            · simp at hv
          · subst e4
            have hcell := World.ownsRow.cells S12.own.own (g := g4) rfl N2 _ hve
            rw [Addr.add_mid', Nat.zero_add, hNDl] at hcell
            have hse := hsum _ _ _ hoe
            rw [hNDl] at hse
            have j0 : (0 : Int) ≤ (N2 : Int) := by omega
            have j1 : (N2 : Int) < (N2 : Int) + 1 := by omega
            have j2 : (N2 : Int) + 1 - 1 = (N2 : Int) := by omega
            clear hve hoe
            go_wp2_with fail
            refine hse.mono ?_
            rintro e w14 ⟨rfl, k14⟩
            have S14 := S12.keepsN k14
            have B14 := k14.blk G9 (fun h => h)
            have K14 := K13.trans k14 (fun _ h _ => h.elim)
            have r14 := rowOk_blk B14 hZs
            clear hcell hse q5 S12 G9 K13 k14
            go_wp2_with fail
            have b3 := blk_setRow (cs := Y) B14
            have S15 := S14.keepsB B14 (by have := HG.out; have := HW0.out; omega) ((Keeps.refl (fun j => j = g9) w14).setRow (fun _ => rfl) Y)
            have K15 : Keeps (fun j => j = go ∨ blockOf ao = some j) w (w14.setRow g9 Y) := K14.setRow (fun h => absurd h (by have := HG.out; omega)) Y
            rw [List.append_assoc] at S15
            refine bodyPost_ret (v := .tuple #[.agg Y, .bool r3]) (results_hash_tmp _ rfl _ _ g9 Y _ b3 hYs rfl rfl) rfl ?_
            have hq := HFIN.out (w14.setRow g9 Y) (some ⟨g4, 0, none⟩) c4 _ S15 K15 M12
            exact hq
        · go_wp2_with fail
          rw [← hzl]
          have S9b : MdS w0 (w1.alloc (.cells Z 25)).drew go gb gu ab nb cb ao cap rows vs := (S9.keepsN ((Keeps.refl Nothing w1).alloc (.cells Z 25))).keepsN (Keeps.drew (Keeps.refl _ _))
          have B9c : Blk (w1.alloc (.cells Z 25)).drew g9 Z 25 := blk_alloc B9 _
          have B13z : Blk (w1.alloc (.cells Z 25)).drew w1.heap.size Z 25 := blk_new w1 Z 25
          have K9b : Keeps Nothing w (w1.alloc (.cells Z 25)).drew := (K9.alloc (.cells Z 25)).drew
          have fn2 : (w1.alloc (.cells Z 25)).drew.cell? ⟨gu, 0, none⟩ = some (.func (.func 59) #[] #[.pointer (some ⟨go, 0, none⟩), .pointer (some ⟨gb, 0, none⟩), .pointer (some ⟨gu, 0, none⟩)]) := blk_cell S9b.fn 0 rfl
          have hg913 : g9 ≠ w1.heap.size := by have := lt_of_block B9; omega
          have h13 : w0.heap.size ≤ w1.heap.size := S9.keep.size
          have HG13 := shut (show w.heap.size ≤ w1.heap.size from K9.size)
          clear S9 B9 K9 fn1
          generalize (w1.alloc (.cells Z 25)).drew = w1b at *
          generalize w1.heap.size = g13 at *
          refine hK _ _ (.inr fn2) ?_
          clear hK K
          refine wpMixT_one (fun K hK => ?_)
          go_wp2_with fail
          refine (hrec w1b ao cap rows vs (by omega) S9b).mono ?_
          rintro e w2 ⟨rfl, ao2, cap2, vs2, S2, K2, M2⟩
          have hg9o : g9 ≠ go := fun e => by subst e; exact absurd (blk_type B9c S9b.ov) (by decide)
          have hg9a : blockOf ao ≠ some g9 := ownS_ne S9b.own B9c (by decide)
          have hg3o : g13 ≠ go := fun e => by subst e; exact absurd (blk_type B13z S9b.ov) (by decide)
          have hg3a : blockOf ao ≠ some g13 := ownS_ne S9b.own B13z (by decide)
          have B9a := K2.blk B9c (fun h => by rcases h with h | h; exact hg9o h; exact hg9a h)
          have B13a := K2.blk B13z (fun h => by rcases h with h | h; exact hg3o h; exact hg3a h)
          have K2b : Keeps (fun j => j = go ∨ blockOf ao = some j) w w2 := (K9b.mono (fun _ h _ => h.elim)).trans K2 (fun j hj _ => hj)
          have M8 : Moved w.heap.size ao ao2 := M2.mono K9b.size
          have fn3 : w2.cell? ⟨gu, 0, none⟩ = some (.func (.func 59) #[] #[.pointer (some ⟨go, 0, none⟩), .pointer (some ⟨gb, 0, none⟩), .pointer (some ⟨gu, 0, none⟩)]) := blk_cell S2.fn 0 rfl
          have r13 := rowOk_blk B13a hZs
          clear K2 M2 hg9o hg9a hg3o hg3a S9b B9c B13z K9b fn2
          go_wp2_with fail
          refine hK _ _ (.inr fn3) ?_
          clear hK K
          repeat (refine wpMixT_free (fun K hK => ?_); go_simp; refine hK _ ?_; clear hK K)
          refine wpMixT_one (fun K hK => ?_)
          go_wp2_with fail
          have B13 := blk_setRow (cs := H2) B13a
          have kS : Keeps (fun j => j = g13) w2 (w2.setRow g13 H2) := Keeps.setRow (S := fun j => j = g13) (Keeps.refl _ _) (fun _ => rfl) H2
          have S8 := S2.keepsB B13a h13 kS
          have B9b := kS.blk B9a (fun e => hg913 e)
          have K8 : Keeps (fun j => j = go ∨ blockOf ao = some j) w (w2.setRow g13 H2) := K2b.setRow (fun h => absurd h (by have := HG13.out; omega)) H2
          have fn4 : (w2.setRow g13 H2).cell? ⟨gu, 0, none⟩ = some (.func (.func 59) #[] #[.pointer (some ⟨go, 0, none⟩), .pointer (some ⟨gb, 0, none⟩), .pointer (some ⟨gu, 0, none⟩)]) := blk_cell S8.fn 0 rfl
          clear S2 B9a K2b fn3 B13a r13 kS
          generalize w2.setRow g13 H2 = W8 at *
          refine hK _ _ (.inr fn4) ?_
          clear hK K
          refine wpMixT_one (fun K hK => ?_)
          go_wp2_with fail
          refine hK _ _ (.inl trivial) ?_
          clear hK K fn4
          refine wpMixT_done ?_
          have hx8 : W8.rangeAt pb (po + M * 32) (x.map byteV) := rangeAt_keeps HXR.out S8.keep (fun h => h)
          obtain ⟨N2, hN2⟩ : ∃ N2, (rows ++ r1).length = N2 := ⟨_, rfl⟩
          have hN2b : N2 ≤ 2000000 := by rw [← hN2, List.length_append]; omega
          have q1 : W8.cell? ⟨go, 0, none⟩ = some (.slice ao2 N2 cap2) := by rw [← hN2]; exact blk_cell S8.ov 0 rfl
          have HN2 := shut hN2
          clear hN2
          go_wp2_with fail
          refine wp_region_mixT (fun W => W.cell? ⟨go, 0, none⟩ = some (.slice ao2 N2 cap2) ∧ Blk W g13 H2 25 ∧ W.rangeAt pb (po + M * 32) (x.map byteV)) 9 (.take 0 (.take 1 (.take 2 (.take 3 (.take 4 (.take 5 (.one 6 (.one 7 (.one 8 (.one 9 .done)))))))))) (by kernel_rfl) (by kernel_rfl) ⟨q1, B13, hx8⟩ ?_
          simp only [itemsT, PlanT.map, List.getD_cons_zero, List.getD_cons_succ, Nat.reduceBEq]
          refine wpMixT_yield (v := .slice ao2 N2 cap2) (fun W hW => ?_) (fun K hK => ?_)
          · obtain ⟨z1, z2, z3⟩ := hW
            go_simp
          go_simp
          refine hK _ ?_
          clear hK K
          refine wpMixT_yield (v := .agg H2) (fun W hW => ?_) (fun K hK => ?_)
          · obtain ⟨z1, z2, z3⟩ := hW
            have r1 := rowOk_blk z2 hH2s
            have r2 := rowOf_blk z2
            go_simp
          go_simp
          refine hK _ ?_
          clear hK K
          repeat (refine wpMixT_free (fun K hK => ?_); go_simp; refine hK _ ?_; clear hK K)
          refine wpMixT_yield (v := .agg CX) (fun W hW => ?_) (fun K hK => ?_)
          · obtain ⟨z1, z2, z3⟩ := hW
            have k1 := midOk_range z3
            have k2 := midOf_range z3
            rw [hxl] at k1 k2
            rw [HCX.out] at k2
            go_simp
          go_simp
          refine hK _ ?_
          clear hK K
          repeat (refine wpMixT_free (fun K hK => ?_); go_simp; refine hK _ ?_; clear hK K)
          refine wpMixT_one (fun K hK => ?_)
          go_wp2_with fail
          refine (hnd W8.drew).mono ?_
          rintro e w9 ⟨an, cn, rfl, on, kn, _⟩
          have S10 : MdS w0 w9 go gb gu ab nb cb ao2 cap2 (rows ++ r1) vs2 := (S8.keepsN (Keeps.drew (Keeps.refl _ _))).keepsN kn
          have K10 : Keeps (fun j => j = go ∨ blockOf ao = some j) w w9 := K8.drew.trans kn (fun _ h _ => h.elim)
          have E9 := kn.blk (a := W8.drew) B9b (fun h => h)
          have E13 := kn.blk (a := W8.drew) B13 (fun h => h)
          have hx9 := rangeAt_keeps (w := W8.drew) hx8 kn (fun h => h)
          have p1 := kn.cell (a := W8.drew) q1 (fun h => h)
          clear S8 K8 B9b B13 hx8 q1 kn
          rw [hNDl]
          go_wp2_with fail
          refine hK _ _ (.inr ⟨p1, E13, hx9⟩) ?_
          clear hK K
          refine wpMixT_one (fun K hK => ?_)
          go_wp2_with fail
          have A1 := (Keeps.refl Nothing w9).alloc (.cells #[.slice an 65 cn] 22)
          have S11 := S10.keepsN A1
          have D11 := blk_new w9 #[.slice an 65 cn] 22
          have on11 : Own8 (w9.alloc (.cells #[.slice an 65 cn] 22)) 5 an cn ND := World.ownsRow.alloc on _
          have K11 := K10.alloc (.cells #[.slice an 65 cn] 22)
          have E9b := A1.blk E9 (fun h => h)
          have E13b := A1.blk E13 (fun h => h)
          have hx11 := rangeAt_keeps hx9 A1 (fun h => h)
          have p2 := A1.cell p1 (fun h => h)
          clear S10 K10 E9 E13 hx9 p1 on A1
          generalize w9.alloc (.cells #[.slice an 65 cn] 22) = w11 at *
          generalize w9.heap.size = g11 at *
          refine hK _ _ (.inr ⟨p2, E13b, hx11⟩) ?_
          clear hK K
          refine wpMixT_one (fun K hK => ?_)
          refine wpList_appS _ rfl (.tmp 51) (.tmp 58) rfl ao2 cap2 (rows ++ r1) vs2 N2 HN2.out rfl S11.own g11 ND an cn hNDl rfl D11 on11 (by omega) ?_
          intro a4 c4 w12 o12 k12 m12
          have S12 := S11.app o12 k12 m12 (n := N2 + 1) (by rw [List.length_append, HN2.out]; rfl)
          have ov12 := k12.blk S11.ov (ownS_ne S11.own S11.ov (by decide))
          have F9 := k12.blk E9b (ownS_ne S11.own E9b (by decide))
          have F13 := k12.blk E13b (ownS_ne S11.own E13b (by decide))
          have hsz12 : w.heap.size ≤ w11.heap.size := K11.size
          have K12 : Keeps (fun j => j = go ∨ blockOf ao = some j) w w12 := K11.trans k12 (fun j hj hlt => by
            rcases M8 with m | ⟨g', m, hg'⟩
            · rw [m] at hj; exact .inr hj
            · rw [m] at hj; have := Option.some.inj hj; omega)
          have M12 : Moved w.heap.size ao a4 := M8.trans m12 hsz12
          have hpbne : blockOf ao2 ≠ some pb := fun e => by
            have h1 := S11.a0 pb e
            have h2 := HXR.out 0 _ HX0.out
            have h3 : pb < w0.heap.size := World.block_lt_of_cell? _ _ h2
            omega
          have hx12 := rangeAt_keeps hx11 k12 hpbne
          have hgo : g9 ≠ go := fun e => by subst e; exact absurd (blk_type E9b S11.ov) (by decide)
          have p3 : w12.cell? ⟨go, 0, none⟩ = some (.slice ao2 N2 cap2) := by
            have h9 := blk_cell ov12 0 (show (#[.slice ao2 (rows ++ r1).length cap2] : Array Value)[0]? = some (.slice ao2 (rows ++ r1).length cap2) from rfl)
            rw [HN2.out] at h9
            exact h9
          have f3 := blk_free ov12 0
          clear S11 D11 on11 K11 E9b E13b hx11 p2 o12 k12 m12 M8 hpbne
          go_wp2_with fail
          refine hK _ _ (.inr ⟨p3, F13, hx12⟩) ?_
          clear hK K
          refine wpMixT_one (fun K hK => ?_)
          go_wp2_with fail
          refine hK _ _ (.inl trivial) ?_
          clear hK K
          have K13 : Keeps (fun j => j = go ∨ blockOf ao = some j) w (w12.setCell ⟨go, 0, none⟩ (.slice a4 (N2 + 1) c4)) := K12.setCell (fun _ => .inl rfl) _
          have G9 : Blk (w12.setCell ⟨go, 0, none⟩ (.slice a4 (N2 + 1) c4)) g9 Z 25 := blk_other F9 _ (show g9 ≠ go from hgo) _
          clear K12 F9 F13 hx12 p3 f3 ov12
          generalize w12.setCell ⟨go, 0, none⟩ (.slice a4 (N2 + 1) c4) = w13 at *
          refine wpMixT_done ?_
          have q5 : w13.cell? ⟨go, 0, none⟩ = some (.slice a4 (N2 + 1) c4) := by
            have h9 := blk_cell S12.ov 0 (show (#[.slice a4 ((rows ++ r1) ++ [ND]).length c4] : Array Value)[0]? = some (.slice a4 ((rows ++ r1) ++ [ND]).length c4) from rfl)
            rw [show ((rows ++ r1) ++ [ND]).length = N2 + 1 from by rw [List.length_append, HN2.out]; rfl] at h9
            exact h9
          obtain ⟨ae, ce, hve, hoe⟩ := S12.own.each N2 ND (by rw [List.getElem?_append_right (by rw [HN2.out]; exact Nat.le_refl _), HN2.out, Nat.sub_self]; rfl)
          rcases ownS_head S12.own with e4 | ⟨g4, e4⟩
          · have h9 := S12.own.own.2
            rw [e4] at h9
            rcases h9 with ⟨hv, hn0⟩ | ⟨g', cap', cur, hv, _⟩
            · rw [List.length_append] at hn0; simp at hn0
            · simp at hv
          · subst e4
            have hcell := World.ownsRow.cells S12.own.own (g := g4) rfl N2 _ hve
            rw [Addr.add_mid', Nat.zero_add, hNDl] at hcell
            have hse := hsum _ _ _ hoe
            rw [hNDl] at hse
            have j0 : (0 : Int) ≤ (N2 : Int) := by omega
            have j1 : (N2 : Int) < (N2 : Int) + 1 := by omega
            have j2 : (N2 : Int) + 1 - 1 = (N2 : Int) := by omega
            clear hve hoe
            go_wp2_with fail
            refine hse.mono ?_
            rintro e w14 ⟨rfl, k14⟩
            have S14 := S12.keepsN k14
            have B14 := k14.blk G9 (fun h => h)
            have K14 := K13.trans k14 (fun _ h _ => h.elim)
            have r14 := rowOk_blk B14 hZs
            clear hcell hse q5 S12 G9 K13 k14
            go_wp2_with fail
            have b3 := blk_setRow (cs := Y) B14
            have S15 := S14.keepsB B14 (by have := HG.out; have := HW0.out; omega) ((Keeps.refl (fun j => j = g9) w14).setRow (fun _ => rfl) Y)
            have K15 : Keeps (fun j => j = go ∨ blockOf ao = some j) w (w14.setRow g9 Y) := K14.setRow (fun h => absurd h (by have := HG.out; omega)) Y
            rw [List.append_assoc] at S15
            refine bodyPost_ret (v := .tuple #[.agg Y, .bool r3]) (results_hash_tmp _ rfl _ _ g9 Y _ b3 hYs rfl rfl) rfl ?_
            have hq := HFIN.out (w14.setRow g9 Y) (some ⟨g4, 0, none⟩) c4 _ S15 K15 M12
            exact hq
      · have hup := upL_right (x := x) (p := q) b h1 hik
        obtain ⟨u1, u2, _⟩ := upL_facts b M (i - splitN n) (n - splitN n) q hq hq32
        have hrec0 := fun (W : World) (ao : Option Addr) (cap : Nat) (rows : List (List UInt8)) (vs : List Value) (hb : rows.length + M ≤ 1000000) (S : MdS w0 W go gb gu ab nb cb ao cap rows vs) => ih w0 W go gb gu ab nb cb ao cap rows vs b (some ⟨pb, po, none⟩) c (i - splitN n) (n - splitN n) q hq hH' (by omega) hcm (by omega) (by omega) hB hnb hnb9 hb (by omega) S
        obtain ⟨R, hR⟩ : ∃ R, upL b (i - splitN n) (n - splitN n) q = R := ⟨_, rfl⟩
        obtain ⟨r1, r2, r3⟩ := R
        rw [hR] at hup hrec0 u1 u2
        have hr2 : r2.length = 32 := u1
        have hr1 : r1.length ≤ M + 1 := u2
        rw [hup]
        obtain ⟨H2, hH2⟩ : ∃ H2, H2 = (r2.map byteV).toArray := ⟨_, rfl⟩
        have hH2s : H2.size = 32 := by rw [hH2]; simp [hr2]
        have hagH : aggOk 32 (.agg H2) = true := aggOk_agg 32 H2 hH2s (by rw [hH2]; exact bytes_all _)
        have HH2 := shut hH2
        have hnd := fun W => node_any W hx hr2 HCX.out HH2.out.symm
        have hNDl : (nodeB x r2).length = 65 := by unfold nodeB; simp [hr2, hx]
        obtain ⟨Y, hY, hYv, hYs, hagY⟩ := hash_agg (nodeB x r2)
        have hsum := fun W (ao : Option Addr) (cap : Nat) (ho : Own8 W 5 ao cap (nodeB x r2)) => sum_own ho (by omega)
        rw [hYv] at hsum
        have hfin : ∀ (W : World) (ao' : Option Addr) (cap' : Nat) (vs' : List Value), MdS w0 W go gb gu ab nb cb ao' cap' (rows ++ (r1 ++ [nodeB x r2])) vs' → Keeps (fun j => j = go ∨ blockOf ao = some j) w W → Moved w.heap.size ao ao' → UpPost w0 w go gb gu ab nb cb ao rows (r1 ++ [nodeB x r2], shaOf (nodeB x r2), r3) (.returned (.tuple #[.agg Y, .bool r3])) W := fun W ao' cap' vs' h1 h2 h3 =>
          ⟨by rw [← hYv], ao', cap', vs', h1, h2, h3⟩
        have HFIN := shut hfin
        generalize nodeB x r2 = ND at *
        have hsp := fun W => split_any W n hn2 hn
        obtain ⟨k, hk⟩ : ∃ k, splitN n = k := ⟨_, rfl⟩
        rw [hk] at hsp hik s0 s1 hrec0
        obtain ⟨j1, hj1⟩ : ∃ j1, i - k = j1 := ⟨_, rfl⟩
        obtain ⟨j2, hj2⟩ : ∃ j2, n - k = j2 := ⟨_, rfl⟩
        rw [hj1, hj2] at hrec0
        have m5 : ¬ (i : Int) < k := by omega
        have m6 : (i : Int) - (k : Int) = (j1 : Int) := by omega
        have m7 : (n : Int) - (k : Int) = (j2 : Int) := by omega
        have hrec : ∀ (W : World) (ao : Option Addr) (cap : Nat) (rows : List (List UInt8)) (vs : List Value), rows.length + M ≤ 1000000 → MdS w0 W go gb gu ab nb cb ao cap rows vs → Calls Try.prog 59 #[.int .i64 (j1 : Int), .int .i64 (j2 : Int), .slice (some ⟨pb, po, none⟩) M c, .pointer (some ⟨go, 0, none⟩), .pointer (some ⟨gb, 0, none⟩), .pointer (some ⟨gu, 0, none⟩)] W fun e w' => e = .returned (.tuple #[.agg H2, .bool r3]) ∧ ∃ ao' cap' vs', MdS w0 w' go gb gu ab nb cb ao' cap' (rows ++ r1) vs' ∧ Keeps (fun j => j = go ∨ blockOf ao = some j) W w' ∧ Moved W.heap.size ao ao' := fun W ao cap rows vs hb S => (hrec0 W ao cap rows vs hb S).mono fun e w' h => by
          obtain ⟨he, h2⟩ := h
          exact ⟨by rw [he, HH2.out]; rfl, h2⟩
        clear hrec0 hfin hup hR u1 u2 hY hYv hH2 ih hk hH hH' hB hq32
        go_enter Try.func59, Try.ntmps59
        go_wp2_with fail
        rw [← hzl]
        generalize w.alloc (.cells Z 25) = w1 at *
        generalize hg9 : w.heap.size = g9 at B9 ⊢
        have HG := shut hg9
        clear hg9
        refine (hsp w1).mono ?_
        rintro e w1' ⟨rfl, hw⟩
        subst w1'
        go_wp2_with fail
        have fn1 : w1.cell? ⟨gu, 0, none⟩ = some (.func (.func 59) #[] #[.pointer (some ⟨go, 0, none⟩), .pointer (some ⟨gb, 0, none⟩), .pointer (some ⟨gu, 0, none⟩)]) := blk_cell S9.fn 0 rfl
        refine wp_region_mixT (fun W => W.cell? ⟨gu, 0, none⟩ = some (.func (.func 59) #[] #[.pointer (some ⟨go, 0, none⟩), .pointer (some ⟨gb, 0, none⟩), .pointer (some ⟨gu, 0, none⟩)])) 16 (.take 0 (.take 1 (.take 2 (.take 3 (.take 4 (.take 5 (.take 6 (.take 7 (.take 8 (.take 9 (.two 10 14 (.take 11 (.take 12 (.take 13 (.one 14 (.one 15 (.one 16 .done)))))) (.one 10 (.take 11 (.take 12 (.take 13 (.one 15 (.one 16 .done))))))))))))))))) (by kernel_rfl) (by kernel_rfl) fn1 ?_
        simp only [itemsT, PlanT.map, List.getD_cons_zero, List.getD_cons_succ, Nat.reduceBEq]
        refine wpMixT_yield (v := (.func (.func 59) #[] #[.pointer (some ⟨go, 0, none⟩), .pointer (some ⟨gb, 0, none⟩), .pointer (some ⟨gu, 0, none⟩)])) (fun W hW => ?_) (fun K hK => ?_)
        · skip
          go_simp
        go_simp
        refine hK _ ?_
        clear hK K
        repeat (refine wpMixT_free (fun K hK => ?_); go_simp; refine hK _ ?_; clear hK K)
        refine wpMixT_two (fun K hK => ?_) (fun K hK => ?_)
        · go_wp2_with fail
          refine (hrec w1.drew ao cap rows vs (by omega) (S9.keepsN (Keeps.drew (Keeps.refl _ _)))).mono ?_
          rintro e w2 ⟨rfl, ao2, cap2, vs2, S2, K2, M2⟩
          have hg9o : g9 ≠ go := fun e => by subst e; exact absurd (blk_type B9 S9.ov) (by decide)
          have hg9a : blockOf ao ≠ some g9 := ownS_ne S9.own B9 (by decide)
          have B9a := K2.blk (a := w1.drew) B9 (fun h => by rcases h with h | h; exact hg9o h; exact hg9a h)
          have K2b : Keeps (fun j => j = go ∨ blockOf ao = some j) w w2 := (K9.drew.mono (fun _ h _ => h.elim)).trans K2 (fun j hj _ => hj)
          have M8 : Moved w.heap.size ao ao2 := M2.mono (by have := K9.size; show w.heap.size ≤ w1.heap.size; exact this)
          have fn2 : w2.cell? ⟨gu, 0, none⟩ = some (.func (.func 59) #[] #[.pointer (some ⟨go, 0, none⟩), .pointer (some ⟨gb, 0, none⟩), .pointer (some ⟨gu, 0, none⟩)]) := blk_cell S2.fn 0 rfl
          clear K2 M2 hg9o hg9a S9 B9 K9 fn1
          go_wp2_with fail
          refine hK _ _ (.inr fn2) ?_
          clear hK K
          repeat (refine wpMixT_free (fun K hK => ?_); go_simp; refine hK _ ?_; clear hK K)
          refine wpMixT_one (fun K hK => ?_)
          go_wp2_with fail
          rw [← hzl]
          refine hK _ _ (.inr (((Keeps.refl Nothing w2).alloc (.cells Z 25)).cell fn2 (fun h => h))) ?_
          clear hK K
          refine wpMixT_one (fun K hK => ?_)
          go_wp2_with fail
          have B13 := blk_new w2 H2 25
          have S8 := S2.keepsN ((Keeps.refl _ _).alloc (.cells H2 25))
          have B9b := blk_alloc B9a (.cells H2 25)
          have K8 := K2b.alloc (.cells H2 25)
          have fn3 := ((Keeps.refl Nothing w2).alloc (.cells H2 25)).cell fn2 (fun h => h)
          clear S2 B9a K2b fn2
          generalize w2.alloc (.cells H2 25) = W8 at *
          generalize w2.heap.size = g13 at *
          refine hK _ _ (.inr fn3) ?_
          clear hK K
          refine wpMixT_one (fun K hK => ?_)
          go_wp2_with fail
          refine hK _ _ (.inl trivial) ?_
          clear hK K fn3
          refine wpMixT_done ?_
          have hx8 : W8.rangeAt pb (po + M * 32) (x.map byteV) := rangeAt_keeps HXR.out S8.keep (fun h => h)
          obtain ⟨N2, hN2⟩ : ∃ N2, (rows ++ r1).length = N2 := ⟨_, rfl⟩
          have hN2b : N2 ≤ 2000000 := by rw [← hN2, List.length_append]; omega
          have q1 : W8.cell? ⟨go, 0, none⟩ = some (.slice ao2 N2 cap2) := by rw [← hN2]; exact blk_cell S8.ov 0 rfl
          have HN2 := shut hN2
          clear hN2
          go_wp2_with fail
          refine wp_region_mixT (fun W => W.cell? ⟨go, 0, none⟩ = some (.slice ao2 N2 cap2) ∧ Blk W g13 H2 25 ∧ W.rangeAt pb (po + M * 32) (x.map byteV)) 9 (.take 0 (.take 1 (.take 2 (.take 3 (.take 4 (.take 5 (.one 6 (.one 7 (.one 8 (.one 9 .done)))))))))) (by kernel_rfl) (by kernel_rfl) ⟨q1, B13, hx8⟩ ?_
          simp only [itemsT, PlanT.map, List.getD_cons_zero, List.getD_cons_succ, Nat.reduceBEq]
          refine wpMixT_yield (v := .slice ao2 N2 cap2) (fun W hW => ?_) (fun K hK => ?_)
          · obtain ⟨z1, z2, z3⟩ := hW
            go_simp
          go_simp
          refine hK _ ?_
          clear hK K
          repeat (refine wpMixT_free (fun K hK => ?_); go_simp; refine hK _ ?_; clear hK K)
          refine wpMixT_yield (v := .agg CX) (fun W hW => ?_) (fun K hK => ?_)
          · obtain ⟨z1, z2, z3⟩ := hW
            have k1 := midOk_range z3
            have k2 := midOf_range z3
            rw [hxl] at k1 k2
            rw [HCX.out] at k2
            go_simp
          go_simp
          refine hK _ ?_
          clear hK K
          refine wpMixT_yield (v := .agg H2) (fun W hW => ?_) (fun K hK => ?_)
          · obtain ⟨z1, z2, z3⟩ := hW
            have r1 := rowOk_blk z2 hH2s
            have r2 := rowOf_blk z2
            go_simp
          go_simp
          refine hK _ ?_
          clear hK K
          repeat (refine wpMixT_free (fun K hK => ?_); go_simp; refine hK _ ?_; clear hK K)
          refine wpMixT_one (fun K hK => ?_)
          go_wp2_with fail
          refine (hnd W8.drew).mono ?_
          rintro e w9 ⟨an, cn, rfl, on, kn, _⟩
          have S10 : MdS w0 w9 go gb gu ab nb cb ao2 cap2 (rows ++ r1) vs2 := (S8.keepsN (Keeps.drew (Keeps.refl _ _))).keepsN kn
          have K10 : Keeps (fun j => j = go ∨ blockOf ao = some j) w w9 := K8.drew.trans kn (fun _ h _ => h.elim)
          have E9 := kn.blk (a := W8.drew) B9b (fun h => h)
          have E13 := kn.blk (a := W8.drew) B13 (fun h => h)
          have hx9 := rangeAt_keeps (w := W8.drew) hx8 kn (fun h => h)
          have p1 := kn.cell (a := W8.drew) q1 (fun h => h)
          clear S8 K8 B9b B13 hx8 q1 kn
          rw [hNDl]
          go_wp2_with fail
          refine hK _ _ (.inr ⟨p1, E13, hx9⟩) ?_
          clear hK K
          refine wpMixT_one (fun K hK => ?_)
          go_wp2_with fail
          have A1 := (Keeps.refl Nothing w9).alloc (.cells #[.slice an 65 cn] 22)
          have S11 := S10.keepsN A1
          have D11 := blk_new w9 #[.slice an 65 cn] 22
          have on11 : Own8 (w9.alloc (.cells #[.slice an 65 cn] 22)) 5 an cn ND := World.ownsRow.alloc on _
          have K11 := K10.alloc (.cells #[.slice an 65 cn] 22)
          have E9b := A1.blk E9 (fun h => h)
          have E13b := A1.blk E13 (fun h => h)
          have hx11 := rangeAt_keeps hx9 A1 (fun h => h)
          have p2 := A1.cell p1 (fun h => h)
          clear S10 K10 E9 E13 hx9 p1 on A1
          generalize w9.alloc (.cells #[.slice an 65 cn] 22) = w11 at *
          generalize w9.heap.size = g11 at *
          refine hK _ _ (.inr ⟨p2, E13b, hx11⟩) ?_
          clear hK K
          refine wpMixT_one (fun K hK => ?_)
          refine wpList_appS _ rfl (.tmp 82) (.tmp 89) rfl ao2 cap2 (rows ++ r1) vs2 N2 HN2.out rfl S11.own g11 ND an cn hNDl rfl D11 on11 (by omega) ?_
          intro a4 c4 w12 o12 k12 m12
          have S12 := S11.app o12 k12 m12 (n := N2 + 1) (by rw [List.length_append, HN2.out]; rfl)
          have ov12 := k12.blk S11.ov (ownS_ne S11.own S11.ov (by decide))
          have F9 := k12.blk E9b (ownS_ne S11.own E9b (by decide))
          have F13 := k12.blk E13b (ownS_ne S11.own E13b (by decide))
          have hsz12 : w.heap.size ≤ w11.heap.size := K11.size
          have K12 : Keeps (fun j => j = go ∨ blockOf ao = some j) w w12 := K11.trans k12 (fun j hj hlt => by
            rcases M8 with m | ⟨g', m, hg'⟩
            · rw [m] at hj; exact .inr hj
            · rw [m] at hj; have := Option.some.inj hj; omega)
          have M12 : Moved w.heap.size ao a4 := M8.trans m12 hsz12
          have hpbne : blockOf ao2 ≠ some pb := fun e => by
            have h1 := S11.a0 pb e
            have h2 := HXR.out 0 _ HX0.out
            have h3 : pb < w0.heap.size := World.block_lt_of_cell? _ _ h2
            omega
          have hx12 := rangeAt_keeps hx11 k12 hpbne
          have hgo : g9 ≠ go := fun e => by subst e; exact absurd (blk_type E9b S11.ov) (by decide)
          have p3 : w12.cell? ⟨go, 0, none⟩ = some (.slice ao2 N2 cap2) := by
            have h9 := blk_cell ov12 0 (show (#[.slice ao2 (rows ++ r1).length cap2] : Array Value)[0]? = some (.slice ao2 (rows ++ r1).length cap2) from rfl)
            rw [HN2.out] at h9
            exact h9
          have f3 := blk_free ov12 0
          clear S11 D11 on11 K11 E9b E13b hx11 p2 o12 k12 m12 M8 hpbne
          go_wp2_with fail
          refine hK _ _ (.inr ⟨p3, F13, hx12⟩) ?_
          clear hK K
          refine wpMixT_one (fun K hK => ?_)
          go_wp2_with fail
          refine hK _ _ (.inl trivial) ?_
          clear hK K
          have K13 : Keeps (fun j => j = go ∨ blockOf ao = some j) w (w12.setCell ⟨go, 0, none⟩ (.slice a4 (N2 + 1) c4)) := K12.setCell (fun _ => .inl rfl) _
          have G9 : Blk (w12.setCell ⟨go, 0, none⟩ (.slice a4 (N2 + 1) c4)) g9 Z 25 := blk_other F9 _ (show g9 ≠ go from hgo) _
          clear K12 F9 F13 hx12 p3 f3 ov12
          generalize w12.setCell ⟨go, 0, none⟩ (.slice a4 (N2 + 1) c4) = w13 at *
          refine wpMixT_done ?_
          have q5 : w13.cell? ⟨go, 0, none⟩ = some (.slice a4 (N2 + 1) c4) := by
            have h9 := blk_cell S12.ov 0 (show (#[.slice a4 ((rows ++ r1) ++ [ND]).length c4] : Array Value)[0]? = some (.slice a4 ((rows ++ r1) ++ [ND]).length c4) from rfl)
            rw [show ((rows ++ r1) ++ [ND]).length = N2 + 1 from by rw [List.length_append, HN2.out]; rfl] at h9
            exact h9
          obtain ⟨ae, ce, hve, hoe⟩ := S12.own.each N2 ND (by rw [List.getElem?_append_right (by rw [HN2.out]; exact Nat.le_refl _), HN2.out, Nat.sub_self]; rfl)
          rcases ownS_head S12.own with e4 | ⟨g4, e4⟩
          · have h9 := S12.own.own.2
            rw [e4] at h9
            rcases h9 with ⟨hv, hn0⟩ | ⟨g', cap', cur, hv, _⟩
            · rw [List.length_append] at hn0; simp at hn0
            · simp at hv
          · subst e4
            have hcell := World.ownsRow.cells S12.own.own (g := g4) rfl N2 _ hve
            rw [Addr.add_mid', Nat.zero_add, hNDl] at hcell
            have hse := hsum _ _ _ hoe
            rw [hNDl] at hse
            have j0 : (0 : Int) ≤ (N2 : Int) := by omega
            have j1 : (N2 : Int) < (N2 : Int) + 1 := by omega
            have j2 : (N2 : Int) + 1 - 1 = (N2 : Int) := by omega
            clear hve hoe
            go_wp2_with fail
            refine hse.mono ?_
            rintro e w14 ⟨rfl, k14⟩
            have S14 := S12.keepsN k14
            have B14 := k14.blk G9 (fun h => h)
            have K14 := K13.trans k14 (fun _ h _ => h.elim)
            have r14 := rowOk_blk B14 hZs
            clear hcell hse q5 S12 G9 K13 k14
            go_wp2_with fail
            have b3 := blk_setRow (cs := Y) B14
            have S15 := S14.keepsB B14 (by have := HG.out; have := HW0.out; omega) ((Keeps.refl (fun j => j = g9) w14).setRow (fun _ => rfl) Y)
            have K15 : Keeps (fun j => j = go ∨ blockOf ao = some j) w (w14.setRow g9 Y) := K14.setRow (fun h => absurd h (by have := HG.out; omega)) Y
            rw [List.append_assoc] at S15
            refine bodyPost_ret (v := .tuple #[.agg Y, .bool r3]) (results_hash_tmp _ rfl _ _ g9 Y _ b3 hYs rfl rfl) rfl ?_
            have hq := HFIN.out (w14.setRow g9 Y) (some ⟨g4, 0, none⟩) c4 _ S15 K15 M12
            exact hq
        · go_wp2_with fail
          rw [← hzl]
          have S9b : MdS w0 (w1.alloc (.cells Z 25)).drew go gb gu ab nb cb ao cap rows vs := (S9.keepsN ((Keeps.refl Nothing w1).alloc (.cells Z 25))).keepsN (Keeps.drew (Keeps.refl _ _))
          have B9c : Blk (w1.alloc (.cells Z 25)).drew g9 Z 25 := blk_alloc B9 _
          have B13z : Blk (w1.alloc (.cells Z 25)).drew w1.heap.size Z 25 := blk_new w1 Z 25
          have K9b : Keeps Nothing w (w1.alloc (.cells Z 25)).drew := (K9.alloc (.cells Z 25)).drew
          have fn2 : (w1.alloc (.cells Z 25)).drew.cell? ⟨gu, 0, none⟩ = some (.func (.func 59) #[] #[.pointer (some ⟨go, 0, none⟩), .pointer (some ⟨gb, 0, none⟩), .pointer (some ⟨gu, 0, none⟩)]) := blk_cell S9b.fn 0 rfl
          have hg913 : g9 ≠ w1.heap.size := by have := lt_of_block B9; omega
          have h13 : w0.heap.size ≤ w1.heap.size := S9.keep.size
          have HG13 := shut (show w.heap.size ≤ w1.heap.size from K9.size)
          clear S9 B9 K9 fn1
          generalize (w1.alloc (.cells Z 25)).drew = w1b at *
          generalize w1.heap.size = g13 at *
          refine hK _ _ (.inr fn2) ?_
          clear hK K
          refine wpMixT_one (fun K hK => ?_)
          go_wp2_with fail
          refine (hrec w1b ao cap rows vs (by omega) S9b).mono ?_
          rintro e w2 ⟨rfl, ao2, cap2, vs2, S2, K2, M2⟩
          have hg9o : g9 ≠ go := fun e => by subst e; exact absurd (blk_type B9c S9b.ov) (by decide)
          have hg9a : blockOf ao ≠ some g9 := ownS_ne S9b.own B9c (by decide)
          have hg3o : g13 ≠ go := fun e => by subst e; exact absurd (blk_type B13z S9b.ov) (by decide)
          have hg3a : blockOf ao ≠ some g13 := ownS_ne S9b.own B13z (by decide)
          have B9a := K2.blk B9c (fun h => by rcases h with h | h; exact hg9o h; exact hg9a h)
          have B13a := K2.blk B13z (fun h => by rcases h with h | h; exact hg3o h; exact hg3a h)
          have K2b : Keeps (fun j => j = go ∨ blockOf ao = some j) w w2 := (K9b.mono (fun _ h _ => h.elim)).trans K2 (fun j hj _ => hj)
          have M8 : Moved w.heap.size ao ao2 := M2.mono K9b.size
          have fn3 : w2.cell? ⟨gu, 0, none⟩ = some (.func (.func 59) #[] #[.pointer (some ⟨go, 0, none⟩), .pointer (some ⟨gb, 0, none⟩), .pointer (some ⟨gu, 0, none⟩)]) := blk_cell S2.fn 0 rfl
          have r13 := rowOk_blk B13a hZs
          clear K2 M2 hg9o hg9a hg3o hg3a S9b B9c B13z K9b fn2
          go_wp2_with fail
          refine hK _ _ (.inr fn3) ?_
          clear hK K
          repeat (refine wpMixT_free (fun K hK => ?_); go_simp; refine hK _ ?_; clear hK K)
          refine wpMixT_one (fun K hK => ?_)
          go_wp2_with fail
          have B13 := blk_setRow (cs := H2) B13a
          have kS : Keeps (fun j => j = g13) w2 (w2.setRow g13 H2) := Keeps.setRow (S := fun j => j = g13) (Keeps.refl _ _) (fun _ => rfl) H2
          have S8 := S2.keepsB B13a h13 kS
          have B9b := kS.blk B9a (fun e => hg913 e)
          have K8 : Keeps (fun j => j = go ∨ blockOf ao = some j) w (w2.setRow g13 H2) := K2b.setRow (fun h => absurd h (by have := HG13.out; omega)) H2
          have fn4 : (w2.setRow g13 H2).cell? ⟨gu, 0, none⟩ = some (.func (.func 59) #[] #[.pointer (some ⟨go, 0, none⟩), .pointer (some ⟨gb, 0, none⟩), .pointer (some ⟨gu, 0, none⟩)]) := blk_cell S8.fn 0 rfl
          clear S2 B9a K2b fn3 B13a r13 kS
          generalize w2.setRow g13 H2 = W8 at *
          refine hK _ _ (.inr fn4) ?_
          clear hK K
          refine wpMixT_one (fun K hK => ?_)
          go_wp2_with fail
          refine hK _ _ (.inl trivial) ?_
          clear hK K fn4
          refine wpMixT_done ?_
          have hx8 : W8.rangeAt pb (po + M * 32) (x.map byteV) := rangeAt_keeps HXR.out S8.keep (fun h => h)
          obtain ⟨N2, hN2⟩ : ∃ N2, (rows ++ r1).length = N2 := ⟨_, rfl⟩
          have hN2b : N2 ≤ 2000000 := by rw [← hN2, List.length_append]; omega
          have q1 : W8.cell? ⟨go, 0, none⟩ = some (.slice ao2 N2 cap2) := by rw [← hN2]; exact blk_cell S8.ov 0 rfl
          have HN2 := shut hN2
          clear hN2
          go_wp2_with fail
          refine wp_region_mixT (fun W => W.cell? ⟨go, 0, none⟩ = some (.slice ao2 N2 cap2) ∧ Blk W g13 H2 25 ∧ W.rangeAt pb (po + M * 32) (x.map byteV)) 9 (.take 0 (.take 1 (.take 2 (.take 3 (.take 4 (.take 5 (.one 6 (.one 7 (.one 8 (.one 9 .done)))))))))) (by kernel_rfl) (by kernel_rfl) ⟨q1, B13, hx8⟩ ?_
          simp only [itemsT, PlanT.map, List.getD_cons_zero, List.getD_cons_succ, Nat.reduceBEq]
          refine wpMixT_yield (v := .slice ao2 N2 cap2) (fun W hW => ?_) (fun K hK => ?_)
          · obtain ⟨z1, z2, z3⟩ := hW
            go_simp
          go_simp
          refine hK _ ?_
          clear hK K
          repeat (refine wpMixT_free (fun K hK => ?_); go_simp; refine hK _ ?_; clear hK K)
          refine wpMixT_yield (v := .agg CX) (fun W hW => ?_) (fun K hK => ?_)
          · obtain ⟨z1, z2, z3⟩ := hW
            have k1 := midOk_range z3
            have k2 := midOf_range z3
            rw [hxl] at k1 k2
            rw [HCX.out] at k2
            go_simp
          go_simp
          refine hK _ ?_
          clear hK K
          refine wpMixT_yield (v := .agg H2) (fun W hW => ?_) (fun K hK => ?_)
          · obtain ⟨z1, z2, z3⟩ := hW
            have r1 := rowOk_blk z2 hH2s
            have r2 := rowOf_blk z2
            go_simp
          go_simp
          refine hK _ ?_
          clear hK K
          repeat (refine wpMixT_free (fun K hK => ?_); go_simp; refine hK _ ?_; clear hK K)
          refine wpMixT_one (fun K hK => ?_)
          go_wp2_with fail
          refine (hnd W8.drew).mono ?_
          rintro e w9 ⟨an, cn, rfl, on, kn, _⟩
          have S10 : MdS w0 w9 go gb gu ab nb cb ao2 cap2 (rows ++ r1) vs2 := (S8.keepsN (Keeps.drew (Keeps.refl _ _))).keepsN kn
          have K10 : Keeps (fun j => j = go ∨ blockOf ao = some j) w w9 := K8.drew.trans kn (fun _ h _ => h.elim)
          have E9 := kn.blk (a := W8.drew) B9b (fun h => h)
          have E13 := kn.blk (a := W8.drew) B13 (fun h => h)
          have hx9 := rangeAt_keeps (w := W8.drew) hx8 kn (fun h => h)
          have p1 := kn.cell (a := W8.drew) q1 (fun h => h)
          clear S8 K8 B9b B13 hx8 q1 kn
          rw [hNDl]
          go_wp2_with fail
          refine hK _ _ (.inr ⟨p1, E13, hx9⟩) ?_
          clear hK K
          refine wpMixT_one (fun K hK => ?_)
          go_wp2_with fail
          have A1 := (Keeps.refl Nothing w9).alloc (.cells #[.slice an 65 cn] 22)
          have S11 := S10.keepsN A1
          have D11 := blk_new w9 #[.slice an 65 cn] 22
          have on11 : Own8 (w9.alloc (.cells #[.slice an 65 cn] 22)) 5 an cn ND := World.ownsRow.alloc on _
          have K11 := K10.alloc (.cells #[.slice an 65 cn] 22)
          have E9b := A1.blk E9 (fun h => h)
          have E13b := A1.blk E13 (fun h => h)
          have hx11 := rangeAt_keeps hx9 A1 (fun h => h)
          have p2 := A1.cell p1 (fun h => h)
          clear S10 K10 E9 E13 hx9 p1 on A1
          generalize w9.alloc (.cells #[.slice an 65 cn] 22) = w11 at *
          generalize w9.heap.size = g11 at *
          refine hK _ _ (.inr ⟨p2, E13b, hx11⟩) ?_
          clear hK K
          refine wpMixT_one (fun K hK => ?_)
          refine wpList_appS _ rfl (.tmp 82) (.tmp 89) rfl ao2 cap2 (rows ++ r1) vs2 N2 HN2.out rfl S11.own g11 ND an cn hNDl rfl D11 on11 (by omega) ?_
          intro a4 c4 w12 o12 k12 m12
          have S12 := S11.app o12 k12 m12 (n := N2 + 1) (by rw [List.length_append, HN2.out]; rfl)
          have ov12 := k12.blk S11.ov (ownS_ne S11.own S11.ov (by decide))
          have F9 := k12.blk E9b (ownS_ne S11.own E9b (by decide))
          have F13 := k12.blk E13b (ownS_ne S11.own E13b (by decide))
          have hsz12 : w.heap.size ≤ w11.heap.size := K11.size
          have K12 : Keeps (fun j => j = go ∨ blockOf ao = some j) w w12 := K11.trans k12 (fun j hj hlt => by
            rcases M8 with m | ⟨g', m, hg'⟩
            · rw [m] at hj; exact .inr hj
            · rw [m] at hj; have := Option.some.inj hj; omega)
          have M12 : Moved w.heap.size ao a4 := M8.trans m12 hsz12
          have hpbne : blockOf ao2 ≠ some pb := fun e => by
            have h1 := S11.a0 pb e
            have h2 := HXR.out 0 _ HX0.out
            have h3 : pb < w0.heap.size := World.block_lt_of_cell? _ _ h2
            omega
          have hx12 := rangeAt_keeps hx11 k12 hpbne
          have hgo : g9 ≠ go := fun e => by subst e; exact absurd (blk_type E9b S11.ov) (by decide)
          have p3 : w12.cell? ⟨go, 0, none⟩ = some (.slice ao2 N2 cap2) := by
            have h9 := blk_cell ov12 0 (show (#[.slice ao2 (rows ++ r1).length cap2] : Array Value)[0]? = some (.slice ao2 (rows ++ r1).length cap2) from rfl)
            rw [HN2.out] at h9
            exact h9
          have f3 := blk_free ov12 0
          clear S11 D11 on11 K11 E9b E13b hx11 p2 o12 k12 m12 M8 hpbne
          go_wp2_with fail
          refine hK _ _ (.inr ⟨p3, F13, hx12⟩) ?_
          clear hK K
          refine wpMixT_one (fun K hK => ?_)
          go_wp2_with fail
          refine hK _ _ (.inl trivial) ?_
          clear hK K
          have K13 : Keeps (fun j => j = go ∨ blockOf ao = some j) w (w12.setCell ⟨go, 0, none⟩ (.slice a4 (N2 + 1) c4)) := K12.setCell (fun _ => .inl rfl) _
          have G9 : Blk (w12.setCell ⟨go, 0, none⟩ (.slice a4 (N2 + 1) c4)) g9 Z 25 := blk_other F9 _ (show g9 ≠ go from hgo) _
          clear K12 F9 F13 hx12 p3 f3 ov12
          generalize w12.setCell ⟨go, 0, none⟩ (.slice a4 (N2 + 1) c4) = w13 at *
          refine wpMixT_done ?_
          have q5 : w13.cell? ⟨go, 0, none⟩ = some (.slice a4 (N2 + 1) c4) := by
            have h9 := blk_cell S12.ov 0 (show (#[.slice a4 ((rows ++ r1) ++ [ND]).length c4] : Array Value)[0]? = some (.slice a4 ((rows ++ r1) ++ [ND]).length c4) from rfl)
            rw [show ((rows ++ r1) ++ [ND]).length = N2 + 1 from by rw [List.length_append, HN2.out]; rfl] at h9
            exact h9
          obtain ⟨ae, ce, hve, hoe⟩ := S12.own.each N2 ND (by rw [List.getElem?_append_right (by rw [HN2.out]; exact Nat.le_refl _), HN2.out, Nat.sub_self]; rfl)
          rcases ownS_head S12.own with e4 | ⟨g4, e4⟩
          · have h9 := S12.own.own.2
            rw [e4] at h9
            rcases h9 with ⟨hv, hn0⟩ | ⟨g', cap', cur, hv, _⟩
            · rw [List.length_append] at hn0; simp at hn0
            · simp at hv
          · subst e4
            have hcell := World.ownsRow.cells S12.own.own (g := g4) rfl N2 _ hve
            rw [Addr.add_mid', Nat.zero_add, hNDl] at hcell
            have hse := hsum _ _ _ hoe
            rw [hNDl] at hse
            have j0 : (0 : Int) ≤ (N2 : Int) := by omega
            have j1 : (N2 : Int) < (N2 : Int) + 1 := by omega
            have j2 : (N2 : Int) + 1 - 1 = (N2 : Int) := by omega
            clear hve hoe
            go_wp2_with fail
            refine hse.mono ?_
            rintro e w14 ⟨rfl, k14⟩
            have S14 := S12.keepsN k14
            have B14 := k14.blk G9 (fun h => h)
            have K14 := K13.trans k14 (fun _ h _ => h.elim)
            have r14 := rowOk_blk B14 hZs
            clear hcell hse q5 S12 G9 K13 k14
            go_wp2_with fail
            have b3 := blk_setRow (cs := Y) B14
            have S15 := S14.keepsB B14 (by have := HG.out; have := HW0.out; omega) ((Keeps.refl (fun j => j = g9) w14).setRow (fun _ => rfl) Y)
            have K15 : Keeps (fun j => j = go ∨ blockOf ao = some j) w (w14.setRow g9 Y) := K14.setRow (fun h => absurd h (by have := HG.out; omega)) Y
            rw [List.append_assoc] at S15
            refine bodyPost_ret (v := .tuple #[.agg Y, .bool r3]) (results_hash_tmp _ rfl _ _ g9 Y _ b3 hYs rfl rfl) rfl ?_
            have hq := HFIN.out (w14.setRow g9 Y) (some ⟨g4, 0, none⟩) c4 _ S15 K15 M12
            exact hq

end Go.Proofs.Ytdmfomjgmmkaeaa
