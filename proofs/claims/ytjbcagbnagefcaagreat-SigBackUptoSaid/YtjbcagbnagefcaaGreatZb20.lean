/- Tree36 -/
import Derived.Test.YtjbcagbnagefcaaGreatRows
import Derived.Test.YtjbcagbnagefcaaGreatZb6
import Derived.ProofKit
import Derived.OpenShut
import Derived.Deep.Slices
namespace Go.Proofs.YtjbcagbnagefcaaGreat
open Go.RowKit Go.ChangeShapes Go.WideShapes
theorem cntL_map : ∀ l : List StD, cntL l = (l.map (fun d => 1 + cntS d)).sum
 | [] => by simp [cntL]
 | s :: r => by simp only [cntL, List.map_cons, List.sum_cons, cntL_map r]
theorem list_of {α : Type} {R : Nat → α → Prop} : ∀ n, (∀ i, i < n → ∃ d, R i d) → ∃ l : List α, l.length = n ∧ ∀ i d, l[i]? = some d → R i d
 | 0, _ => ⟨[], rfl, fun i d h => by simp at h⟩
 | n + 1, h => by
  obtain ⟨l, hl, hr⟩ := list_of n (fun i hi => h i (by omega))
  obtain ⟨d, hd⟩ := h n (by omega)
  refine ⟨l ++ [d], by simp [hl], fun i e he => ?_⟩
  by_cases hi : i < n
  ·rw [List.getElem?_append_left (by omega)] at he
   exact hr i e he
  ·rw [List.getElem?_append_right (by omega), hl] at he
   have : i - n = 0 := by
    have := (List.getElem?_eq_some_iff.1 he).1
    simp at this
    omega
   rw [this] at he
   obtain rfl : d = e := by simpa using he
   obtain rfl : i = n := by omega
   exact hd
theorem cut_at (cs : List Value) (o k : Nat) : cs.drop o = (cs.drop o).take k ++ cs.drop (o + k) := by
 rw [← List.drop_drop, List.take_append_drop]
section
variable {H : Type} {enc : TypeId × Value → H} {w : World} {base : Nat} {spare : Nat → Bool} {held : Bool}
theorem bulk_one {H : Type} (d : DataW H) : 1 ≤ Rows.uptoBulk d := by
 cases d with
 | lit l => cases l <;> simp [Rows.uptoBulk]
 | nil => simp [Rows.uptoBulk]
 | ptr d => simp [Rows.uptoBulk]
 | slice elems spare => simp [Rows.uptoBulk]
 | agg parts => simp [Rows.uptoBulk]
 | iface t d => simp [Rows.uptoBulk]
 | map entries => simp [Rows.uptoBulk]
 | held h => simp [Rows.uptoBulk]
theorem bulk_sum {α H : Type} {m : α → Nat} : ∀ (l : List α) (ys : List (DataW H × List MemPlace)), l.length = ys.length → (∀ (i : Nat) (d : α), l[i]? = some d → ∃ y : DataW H × List MemPlace, ys[i]? = some y ∧ m d ≤ Rows.uptoBulk y.1) → (l.map m).sum ≤ Rows.uptoBulkAll (ys.map (·.1)) ∧ l.length ≤ Rows.uptoBulkAll (ys.map (·.1))
 | [], ys, _, _ => by simp
 | d :: r, [], h, _ => by simp at h
 | d :: r, y :: ys, h, hm => by
  obtain ⟨y', e, h0⟩ := hm 0 d rfl
  obtain rfl : y = y' := by simpa using e
  have ih := bulk_sum r ys (by simpa using h) (fun i d hd => by simpa using hm (i + 1) d (by simpa using hd))
  have := bulk_one y.1
  simp only [List.map_cons, List.sum_cons, Rows.uptoBulkAll, List.length_cons]
  omega
theorem bulk_part {H : Type} : ∀ (l : List (DataW H × List MemPlace)) (i : Nat) (y : DataW H × List MemPlace), l[i]? = some y → Rows.uptoBulk y.1 ≤ Rows.uptoBulkAll (l.map (·.1))
 | [], i, y, h => by simp at h
 | x :: r, 0, y, h => by
  obtain rfl : x = y := by simpa using h
  simp only [List.map_cons, Rows.uptoBulkAll]; omega
 | x :: r, i + 1, y, h => by
  have := bulk_part r i y (by simpa using h)
  simp only [List.map_cons, Rows.uptoBulkAll]; omega
theorem trod_tx {fuel : Nat} {cs : List Value} {x : DataW H × List MemPlace} (h : DataW.trod enc Tryz.prog w base spare held fuel 9 cs = some x) (hb : Rows.uptoBulk x.1 ≤ bigN) : ∃ s : List UInt8, cs = [txV s] ∧ s.length ≤ bigN := by
 obtain ⟨s, rfl, rfl, _⟩ := DataW.trod_string Tryz.underlying9 h
 refine ⟨s.data.toList, rfl, ?_⟩
 simp only [Rows.uptoBulk] at hb
 omega
theorem trod_sl {α : Type} {t e : TypeId} {k fuel : Nat} {cs : List Value} {x : DataW H × List MemPlace} {P : α → List Value → Prop} {m : α → Nat} (ht : Tryz.prog.underlying t = some (.slice e)) (hk : Tryz.prog.cellsOf e = k) (hk0 : 0 < k)
  (h : DataW.trod enc Tryz.prog w base spare held fuel t cs = some x) (hb : Rows.uptoBulk x.1 ≤ bigN)
  (he : ∀ n, n < fuel → ∀ (cs : List Value) (y : DataW H × List MemPlace), DataW.trod enc Tryz.prog w base spare held n e cs = some y → Rows.uptoBulk y.1 ≤ bigN → ∃ d, P d cs ∧ m d ≤ Rows.uptoBulk y.1) :
  ∃ (ao : Option Addr) (c : Nat) (l : List α), cs = [.slice ao l.length c] ∧ SlIs (· < w.heap.size) w k P ao l ∧ (l.map m).sum + 1 ≤ Rows.uptoBulk x.1 ∧ l.length + 1 ≤ Rows.uptoBulk x.1 := by
 rcases DataW.trod_slice ht h with ⟨rfl, rfl⟩ | ⟨a, len, cap, elems, rest, n, hfu, rfl, rfl, hbs, hlc, hcm, hlen, hel, _, _⟩
 ·exact ⟨none, 0, [], rfl, slIs_nil _ _ _ _ _, by simp [Rows.uptoBulk], by simp [Rows.uptoBulk]⟩
 ·simp only [Rows.uptoBulk] at hb
  obtain ⟨l, hl, hr⟩ := list_of (R := fun i d => ∃ y cs', elems[i]? = some y ∧ w.cells? base (a.add (i * k)) k = some cs' ∧ P d cs' ∧ m d ≤ Rows.uptoBulk y.1) len (fun i hi => by
   have h1 := hel i hi
   obtain ⟨y, hy⟩ : ∃ y, elems[i]? = some y := ⟨_, List.getElem?_eq_getElem (by omega)⟩
   rw [hy, hk] at h1
   obtain ⟨cs', hc, ht'⟩ := Option.bind_eq_some_iff.1 h1
   have h2 := bulk_part elems i y hy
   obtain ⟨d, hd, hm⟩ := he n (by omega) cs' y ht' (by omega)
   exact ⟨d, y, cs', hy, hc, hd, hm⟩)
  have hs := bulk_sum (m := m) l elems (by omega) (fun i d hd => by
   obtain ⟨y, cs', h1, _, _, h4⟩ := hr i d hd
   exact ⟨y, h1, h4⟩)
  refine ⟨some a, cap, l, by rw [hl], ⟨by omega, ?_⟩, by simp only [Rows.uptoBulk]; omega, by simp only [Rows.uptoBulk]; omega⟩
  by_cases hn : l = []
  ·exact .inl hn
  ·right
   obtain ⟨d0, hd0⟩ : ∃ d, l[0]? = some d := ⟨_, List.getElem?_eq_getElem (List.length_pos_iff.2 hn)⟩
   obtain ⟨y, cs', _, hc, _, _⟩ := hr 0 d0 hd0
   obtain ⟨_, hlen0, hcell⟩ := World.cells?_some hc
   have hsp : a.spot = none := by
    obtain ⟨v0, hv0⟩ : ∃ v, cs'[0]? = some v := ⟨_, List.getElem?_eq_getElem (by omega)⟩
    have h1 : w.cell? ((a.add (0 * k)).add 0) = some v0 := by rw [hcell 0 (by omega)]; exact hv0
    have hs0 := World.cell?_spot h1
    rw [Deep.add_add] at hs0
    unfold Addr.add at hs0
    simpa using hs0
   obtain ⟨b, o, sp⟩ := a
   simp only at hsp
   subst hsp
   have hrow : ∀ j d, l[j]? = some d → ∃ cs, cs.length = k ∧ w.rangeAt b (o + j * k) cs ∧ P d cs := by
    intro j d hd
    obtain ⟨y, cs', _, hc, hp, _⟩ := hr j d hd
    obtain ⟨_, hlen', hcell'⟩ := World.cells?_some hc
    refine ⟨cs', hlen', fun i v hi => ?_, hp⟩
    have hik : i < k := by have := (List.getElem?_eq_some_iff.1 hi).1; omega
    have h1 := hcell' i hik
    rw [Deep.add_add, Addr.add_lit] at h1
    rw [Nat.add_assoc, h1]
    exact hi
   refine ⟨b, o, rfl, ?_, rowIs_mk hrow⟩
   obtain ⟨cs2, hl2, hr2, _⟩ := hrow 0 d0 hd0
   obtain ⟨v0, hv0⟩ : ∃ v, cs2[0]? = some v := ⟨_, List.getElem?_eq_getElem (by omega)⟩
   exact block_lt_of_cell (hr2 0 v0 hv0)
theorem cells_Pl : Tryz.prog.cellsOf 114 = 2 := by kernel_rfl
theorem cells_Opr : Tryz.prog.cellsOf 116 = 4 := by kernel_rfl
theorem cells_Val : Tryz.prog.cellsOf 119 = 15 := by kernel_rfl
theorem cells_Ty : Tryz.prog.cellsOf 53 = 4 := by kernel_rfl
theorem cells_St : Tryz.prog.cellsOf 121 = 32 := by kernel_rfl
theorem cells_Fld : Tryz.prog.cellsOf 73 = 6 := by kernel_rfl
theorem cells_Str : Tryz.prog.cellsOf 49 = 5 := by kernel_rfl
theorem cells_Lif : Tryz.prog.cellsOf 76 = 2 := by kernel_rfl
theorem cells_Fun : Tryz.prog.cellsOf 56 = 10 := by kernel_rfl
theorem cells_Cr : Tryz.prog.cellsOf 26 = 2 := by kernel_rfl
theorem cells_int : Tryz.prog.cellsOf 3 = 1 := by kernel_rfl
theorem cells_bool : Tryz.prog.cellsOf 4 = 1 := by kernel_rfl
theorem cells_str : Tryz.prog.cellsOf 9 = 1 := by kernel_rfl
theorem cells_sTx : Tryz.prog.cellsOf 34 = 1 := by kernel_rfl
theorem cells_sOpr : Tryz.prog.cellsOf 117 = 1 := by kernel_rfl
theorem cells_sTy : Tryz.prog.cellsOf 51 = 1 := by kernel_rfl
theorem cells_sSt : Tryz.prog.cellsOf 54 = 1 := by kernel_rfl
theorem cells_sFld : Tryz.prog.cellsOf 47 = 1 := by kernel_rfl
theorem cells_sStr : Tryz.prog.cellsOf 23 = 1 := by kernel_rfl
theorem cells_sLif : Tryz.prog.cellsOf 50 = 1 := by kernel_rfl
theorem cells_sFun : Tryz.prog.cellsOf 24 = 1 := by kernel_rfl
set_option linter.unusedSimpArgs false in
theorem trod_Pl (fuel : Nat) (cs : List Value) (x : DataW H × List MemPlace) (h : DataW.trod enc Tryz.prog w base spare held fuel 114 cs = some x) (hb : Rows.uptoBulk x.1 ≤ bigN) : ∃ d : PlD, PlIs (· < w.heap.size) w d cs := by
 obtain ⟨xs, n, hfu, rfl, hl, hlen, hf⟩ := DataW.trod_struct Tryz.underlying114 h
 rw [cells_Pl] at hl
 obtain ⟨y0, y1, rfl⟩ : ∃ y0 y1, xs = [y0, y1] := by
  match xs, hlen with
  | [y0, y1], _ => exact ⟨y0, y1, rfl⟩
 simp only [List.map_cons, List.map_nil, Rows.uptoBulk, Rows.uptoBulkAll] at hb
 have f0 : DataW.trod enc Tryz.prog w base spare held n 9 ((cs.drop 0).take 1) = some y0 := by have h := hf 0 _ rfl; exact (cells_str ▸ h : _)
 have f1 : DataW.trod enc Tryz.prog w base spare held n 34 ((cs.drop 1).take 1) = some y1 := by have h := hf 1 _ rfl; exact (cells_sTx ▸ h : _)
 have hcut : cs = (cs.drop 0).take 1 ++ ((cs.drop 1).take 1 ++ ([])) := by
  have d0 := List.drop_zero (l := cs)
  have c0 := cut_at cs 0 1
  have c1 := cut_at cs 1 1
  have ce : cs.drop 2 = [] := List.drop_eq_nil_of_le (by omega)
  simp only [Nat.zero_add, Nat.reduceAdd] at c0 c1
  exact d0.symm.trans (c0.trans (congrArg (fun r => (cs.drop 0).take 1 ++ r) (c1.trans (congrArg (fun r => (cs.drop 1).take 1 ++ r) ce))))
 generalize (cs.drop 0).take 1 = p0 at *
 generalize (cs.drop 1).take 1 = p1 at *
 obtain ⟨v0, rfl, hv0⟩ := trod_tx f0 (by omega)
 obtain ⟨a1, c1, v1, rfl, hv1, hm1, hn1⟩ := trod_sl (P := TxIs) (m := (fun _ => 0)) Tryz.underlying34 cells_str (by decide) f1 (by omega) (fun n _ cs y hy hb => by obtain ⟨s, e, hs⟩ := trod_tx hy hb; exact ⟨s, ⟨e, hs⟩, Nat.zero_le _⟩)
 have hcs : cs = [txV v0, .slice a1 v1.length c1] := by rw [hcut]; simp
 exact ⟨⟨v0, v1⟩, ⟨a1, c1, hcs, hv0, hv1⟩⟩
set_option linter.unusedSimpArgs false in
theorem trod_Opr (fuel : Nat) (cs : List Value) (x : DataW H × List MemPlace) (h : DataW.trod enc Tryz.prog w base spare held fuel 116 cs = some x) (hb : Rows.uptoBulk x.1 ≤ bigN) : ∃ d : OprD, OprIs (· < w.heap.size) w d cs := by
 obtain ⟨xs, n, hfu, rfl, hl, hlen, hf⟩ := DataW.trod_struct Tryz.underlying116 h
 rw [cells_Opr] at hl
 obtain ⟨y0, y1, y2, rfl⟩ : ∃ y0 y1 y2, xs = [y0, y1, y2] := by
  match xs, hlen with
  | [y0, y1, y2], _ => exact ⟨y0, y1, y2, rfl⟩
 simp only [List.map_cons, List.map_nil, Rows.uptoBulk, Rows.uptoBulkAll] at hb
 have f0 : DataW.trod enc Tryz.prog w base spare held n 3 ((cs.drop 0).take 1) = some y0 := by have h := hf 0 _ rfl; exact (cells_int ▸ h : _)
 have f1 : DataW.trod enc Tryz.prog w base spare held n 3 ((cs.drop 1).take 1) = some y1 := by have h := hf 1 _ rfl; exact (cells_int ▸ h : _)
 have f2 : DataW.trod enc Tryz.prog w base spare held n 114 ((cs.drop 2).take 2) = some y2 := by have h := hf 2 _ rfl; exact (cells_Pl ▸ h : _)
 have hcut : cs = (cs.drop 0).take 1 ++ ((cs.drop 1).take 1 ++ ((cs.drop 2).take 2 ++ ([]))) := by
  have d0 := List.drop_zero (l := cs)
  have c0 := cut_at cs 0 1
  have c1 := cut_at cs 1 1
  have c2 := cut_at cs 2 2
  have ce : cs.drop 4 = [] := List.drop_eq_nil_of_le (by omega)
  simp only [Nat.zero_add, Nat.reduceAdd] at c0 c1 c2
  exact d0.symm.trans (c0.trans (congrArg (fun r => (cs.drop 0).take 1 ++ r) (c1.trans (congrArg (fun r => (cs.drop 1).take 1 ++ r) (c2.trans (congrArg (fun r => (cs.drop 2).take 2 ++ r) ce))))))
 generalize (cs.drop 0).take 1 = p0 at *
 generalize (cs.drop 1).take 1 = p1 at *
 generalize (cs.drop 2).take 2 = p2 at *
 obtain ⟨v0, rfl, _, _⟩ := DataW.trod_int Tryz.underlying3 f0
 obtain ⟨v1, rfl, _, _⟩ := DataW.trod_int Tryz.underlying3 f1
 obtain ⟨v2, hv2⟩ := trod_Pl n p2 y2 f2 (by omega)
 have hcs : cs = [.int .i64 v0, .int .i64 v1] ++ p2 := by rw [hcut]; simp
 exact ⟨⟨v0, v1, v2⟩, ⟨p2, hcs, hv2⟩⟩
set_option linter.unusedSimpArgs false in
theorem trod_Val (fuel : Nat) (cs : List Value) (x : DataW H × List MemPlace) (h : DataW.trod enc Tryz.prog w base spare held fuel 119 cs = some x) (hb : Rows.uptoBulk x.1 ≤ bigN) : ∃ d : ValD, ValIs (· < w.heap.size) w d cs := by
 obtain ⟨xs, n, hfu, rfl, hl, hlen, hf⟩ := DataW.trod_struct Tryz.underlying119 h
 rw [cells_Val] at hl
 obtain ⟨y0, y1, y2, y3, y4, y5, y6, y7, rfl⟩ : ∃ y0 y1 y2 y3 y4 y5 y6 y7, xs = [y0, y1, y2, y3, y4, y5, y6, y7] := by
  match xs, hlen with
  | [y0, y1, y2, y3, y4, y5, y6, y7], _ => exact ⟨y0, y1, y2, y3, y4, y5, y6, y7, rfl⟩
 simp only [List.map_cons, List.map_nil, Rows.uptoBulk, Rows.uptoBulkAll] at hb
 have f0 : DataW.trod enc Tryz.prog w base spare held n 3 ((cs.drop 0).take 1) = some y0 := by have h := hf 0 _ rfl; exact (cells_int ▸ h : _)
 have f1 : DataW.trod enc Tryz.prog w base spare held n 116 ((cs.drop 1).take 4) = some y1 := by have h := hf 1 _ rfl; exact (cells_Opr ▸ h : _)
 have f2 : DataW.trod enc Tryz.prog w base spare held n 116 ((cs.drop 5).take 4) = some y2 := by have h := hf 2 _ rfl; exact (cells_Opr ▸ h : _)
 have f3 : DataW.trod enc Tryz.prog w base spare held n 3 ((cs.drop 9).take 1) = some y3 := by have h := hf 3 _ rfl; exact (cells_int ▸ h : _)
 have f4 : DataW.trod enc Tryz.prog w base spare held n 114 ((cs.drop 10).take 2) = some y4 := by have h := hf 4 _ rfl; exact (cells_Pl ▸ h : _)
 have f5 : DataW.trod enc Tryz.prog w base spare held n 9 ((cs.drop 12).take 1) = some y5 := by have h := hf 5 _ rfl; exact (cells_str ▸ h : _)
 have f6 : DataW.trod enc Tryz.prog w base spare held n 34 ((cs.drop 13).take 1) = some y6 := by have h := hf 6 _ rfl; exact (cells_sTx ▸ h : _)
 have f7 : DataW.trod enc Tryz.prog w base spare held n 117 ((cs.drop 14).take 1) = some y7 := by have h := hf 7 _ rfl; exact (cells_sOpr ▸ h : _)
 have hcut : cs = (cs.drop 0).take 1 ++ ((cs.drop 1).take 4 ++ ((cs.drop 5).take 4 ++ ((cs.drop 9).take 1 ++ ((cs.drop 10).take 2 ++ ((cs.drop 12).take 1 ++ ((cs.drop 13).take 1 ++ ((cs.drop 14).take 1 ++ ([])))))))) := by
  have d0 := List.drop_zero (l := cs)
  have c0 := cut_at cs 0 1
  have c1 := cut_at cs 1 4
  have c2 := cut_at cs 5 4
  have c3 := cut_at cs 9 1
  have c4 := cut_at cs 10 2
  have c5 := cut_at cs 12 1
  have c6 := cut_at cs 13 1
  have c7 := cut_at cs 14 1
  have ce : cs.drop 15 = [] := List.drop_eq_nil_of_le (by omega)
  simp only [Nat.zero_add, Nat.reduceAdd] at c0 c1 c2 c3 c4 c5 c6 c7
  exact d0.symm.trans (c0.trans (congrArg (fun r => (cs.drop 0).take 1 ++ r) (c1.trans (congrArg (fun r => (cs.drop 1).take 4 ++ r) (c2.trans (congrArg (fun r => (cs.drop 5).take 4 ++ r) (c3.trans (congrArg (fun r => (cs.drop 9).take 1 ++ r) (c4.trans (congrArg (fun r => (cs.drop 10).take 2 ++ r) (c5.trans (congrArg (fun r => (cs.drop 12).take 1 ++ r) (c6.trans (congrArg (fun r => (cs.drop 13).take 1 ++ r) (c7.trans (congrArg (fun r => (cs.drop 14).take 1 ++ r) ce))))))))))))))))
 generalize (cs.drop 0).take 1 = p0 at *
 generalize (cs.drop 1).take 4 = p1 at *
 generalize (cs.drop 5).take 4 = p2 at *
 generalize (cs.drop 9).take 1 = p3 at *
 generalize (cs.drop 10).take 2 = p4 at *
 generalize (cs.drop 12).take 1 = p5 at *
 generalize (cs.drop 13).take 1 = p6 at *
 generalize (cs.drop 14).take 1 = p7 at *
 obtain ⟨v0, rfl, _, _⟩ := DataW.trod_int Tryz.underlying3 f0
 obtain ⟨v1, hv1⟩ := trod_Opr n p1 y1 f1 (by omega)
 obtain ⟨v2, hv2⟩ := trod_Opr n p2 y2 f2 (by omega)
 obtain ⟨v3, rfl, _, _⟩ := DataW.trod_int Tryz.underlying3 f3
 obtain ⟨v4, hv4⟩ := trod_Pl n p4 y4 f4 (by omega)
 obtain ⟨v5, rfl, hv5⟩ := trod_tx f5 (by omega)
 obtain ⟨a6, c6, v6, rfl, hv6, hm6, hn6⟩ := trod_sl (P := TxIs) (m := (fun _ => 0)) Tryz.underlying34 cells_str (by decide) f6 (by omega) (fun n _ cs y hy hb => by obtain ⟨s, e, hs⟩ := trod_tx hy hb; exact ⟨s, ⟨e, hs⟩, Nat.zero_le _⟩)
 obtain ⟨a7, c7, v7, rfl, hv7, hm7, hn7⟩ := trod_sl (P := (OprIs (· < w.heap.size) w)) (m := (fun _ => 0)) Tryz.underlying117 cells_Opr (by decide) f7 (by omega) (fun n2 _ cs y hy hb => by obtain ⟨d, hd⟩ := trod_Opr n2 cs y hy hb; exact ⟨d, hd, Nat.zero_le _⟩)
 have hcs : cs = [.int .i64 v0] ++ p1 ++ p2 ++ [.int .i64 v3] ++ p4 ++ [txV v5, .slice a6 v6.length c6, .slice a7 v7.length c7] := by rw [hcut]; simp
 exact ⟨⟨v0, v1, v2, v3, v4, v5, v6, v7⟩, ⟨p1, p2, p4, a6, c6, a7, c7, hcs, hv1, hv2, hv4, hv5, hv6, hv7⟩⟩
set_option linter.unusedSimpArgs false in
theorem trod_Ty : ∀ (fuel : Nat) (cs : List Value) (x : DataW H × List MemPlace), DataW.trod enc Tryz.prog w base spare held fuel 53 cs = some x → Rows.uptoBulk x.1 ≤ bigN → ∃ d : TyD, TyIs (· < w.heap.size) w d cs := by
 intro fuel
 induction fuel using Nat.strongRecOn with
 | _ fuel ih =>
 intro cs x h hb
 obtain ⟨xs, n, hfu, rfl, hl, hlen, hf⟩ := DataW.trod_struct Tryz.underlying53 h
 rw [cells_Ty] at hl
 obtain ⟨y0, y1, y2, y3, rfl⟩ : ∃ y0 y1 y2 y3, xs = [y0, y1, y2, y3] := by
  match xs, hlen with
  | [y0, y1, y2, y3], _ => exact ⟨y0, y1, y2, y3, rfl⟩
 simp only [List.map_cons, List.map_nil, Rows.uptoBulk, Rows.uptoBulkAll] at hb
 have f0 : DataW.trod enc Tryz.prog w base spare held n 3 ((cs.drop 0).take 1) = some y0 := by have h := hf 0 _ rfl; exact (cells_int ▸ h : _)
 have f1 : DataW.trod enc Tryz.prog w base spare held n 9 ((cs.drop 1).take 1) = some y1 := by have h := hf 1 _ rfl; exact (cells_str ▸ h : _)
 have f2 : DataW.trod enc Tryz.prog w base spare held n 34 ((cs.drop 2).take 1) = some y2 := by have h := hf 2 _ rfl; exact (cells_sTx ▸ h : _)
 have f3 : DataW.trod enc Tryz.prog w base spare held n 51 ((cs.drop 3).take 1) = some y3 := by have h := hf 3 _ rfl; exact (cells_sTy ▸ h : _)
 have hcut : cs = (cs.drop 0).take 1 ++ ((cs.drop 1).take 1 ++ ((cs.drop 2).take 1 ++ ((cs.drop 3).take 1 ++ ([])))) := by
  have d0 := List.drop_zero (l := cs)
  have c0 := cut_at cs 0 1
  have c1 := cut_at cs 1 1
  have c2 := cut_at cs 2 1
  have c3 := cut_at cs 3 1
  have ce : cs.drop 4 = [] := List.drop_eq_nil_of_le (by omega)
  simp only [Nat.zero_add, Nat.reduceAdd] at c0 c1 c2 c3
  exact d0.symm.trans (c0.trans (congrArg (fun r => (cs.drop 0).take 1 ++ r) (c1.trans (congrArg (fun r => (cs.drop 1).take 1 ++ r) (c2.trans (congrArg (fun r => (cs.drop 2).take 1 ++ r) (c3.trans (congrArg (fun r => (cs.drop 3).take 1 ++ r) ce))))))))
 generalize (cs.drop 0).take 1 = p0 at *
 generalize (cs.drop 1).take 1 = p1 at *
 generalize (cs.drop 2).take 1 = p2 at *
 generalize (cs.drop 3).take 1 = p3 at *
 obtain ⟨v0, rfl, _, _⟩ := DataW.trod_int Tryz.underlying3 f0
 obtain ⟨v1, rfl, hv1⟩ := trod_tx f1 (by omega)
 obtain ⟨a2, c2, v2, rfl, hv2, hm2, hn2⟩ := trod_sl (P := TxIs) (m := (fun _ => 0)) Tryz.underlying34 cells_str (by decide) f2 (by omega) (fun n _ cs y hy hb => by obtain ⟨s, e, hs⟩ := trod_tx hy hb; exact ⟨s, ⟨e, hs⟩, Nat.zero_le _⟩)
 obtain ⟨a3, c3, v3, rfl, hv3, hm3, hn3⟩ := trod_sl (P := (TyIs (· < w.heap.size) w)) (m := (fun _ => 0)) Tryz.underlying51 cells_Ty (by decide) f3 (by omega) (fun n2 hn cs y hy hb => by obtain ⟨d, hd⟩ := ih n2 (by omega) cs y hy hb; exact ⟨d, hd, Nat.zero_le _⟩)
 have hcs : cs = [.int .i64 v0, txV v1, .slice a2 v2.length c2, .slice a3 v3.length c3] := by rw [hcut]; simp
 refine ⟨.mk v0 v1 v2 v3, ?_⟩
 rw [tyIs_iff]
 exact ⟨a2, c2, a3, c3, hcs, hv1, hv2, hv3⟩
set_option linter.unusedSimpArgs false in
theorem trod_St : ∀ (fuel : Nat) (cs : List Value) (x : DataW H × List MemPlace), DataW.trod enc Tryz.prog w base spare held fuel 121 cs = some x → Rows.uptoBulk x.1 ≤ bigN → ∃ d : StD, StIs (· < w.heap.size) w d cs ∧ 1 + cntS d ≤ Rows.uptoBulk x.1 := by
 intro fuel
 induction fuel using Nat.strongRecOn with
 | _ fuel ih =>
 intro cs x h hb
 obtain ⟨xs, n, hfu, rfl, hl, hlen, hf⟩ := DataW.trod_struct Tryz.underlying121 h
 rw [cells_St] at hl
 obtain ⟨y0, y1, y2, y3, y4, y5, y6, y7, y8, y9, y10, rfl⟩ : ∃ y0 y1 y2 y3 y4 y5 y6 y7 y8 y9 y10, xs = [y0, y1, y2, y3, y4, y5, y6, y7, y8, y9, y10] := by
  match xs, hlen with
  | [y0, y1, y2, y3, y4, y5, y6, y7, y8, y9, y10], _ => exact ⟨y0, y1, y2, y3, y4, y5, y6, y7, y8, y9, y10, rfl⟩
 simp only [List.map_cons, List.map_nil, Rows.uptoBulk, Rows.uptoBulkAll] at hb ⊢
 have f0 : DataW.trod enc Tryz.prog w base spare held n 3 ((cs.drop 0).take 1) = some y0 := by have h := hf 0 _ rfl; exact (cells_int ▸ h : _)
 have f1 : DataW.trod enc Tryz.prog w base spare held n 3 ((cs.drop 1).take 1) = some y1 := by have h := hf 1 _ rfl; exact (cells_int ▸ h : _)
 have f2 : DataW.trod enc Tryz.prog w base spare held n 4 ((cs.drop 2).take 1) = some y2 := by have h := hf 2 _ rfl; exact (cells_bool ▸ h : _)
 have f3 : DataW.trod enc Tryz.prog w base spare held n 9 ((cs.drop 3).take 1) = some y3 := by have h := hf 3 _ rfl; exact (cells_str ▸ h : _)
 have f4 : DataW.trod enc Tryz.prog w base spare held n 53 ((cs.drop 4).take 4) = some y4 := by have h := hf 4 _ rfl; exact (cells_Ty ▸ h : _)
 have f5 : DataW.trod enc Tryz.prog w base spare held n 4 ((cs.drop 8).take 1) = some y5 := by have h := hf 5 _ rfl; exact (cells_bool ▸ h : _)
 have f6 : DataW.trod enc Tryz.prog w base spare held n 114 ((cs.drop 9).take 2) = some y6 := by have h := hf 6 _ rfl; exact (cells_Pl ▸ h : _)
 have f7 : DataW.trod enc Tryz.prog w base spare held n 119 ((cs.drop 11).take 15) = some y7 := by have h := hf 7 _ rfl; exact (cells_Val ▸ h : _)
 have f8 : DataW.trod enc Tryz.prog w base spare held n 116 ((cs.drop 26).take 4) = some y8 := by have h := hf 8 _ rfl; exact (cells_Opr ▸ h : _)
 have f9 : DataW.trod enc Tryz.prog w base spare held n 54 ((cs.drop 30).take 1) = some y9 := by have h := hf 9 _ rfl; exact (cells_sSt ▸ h : _)
 have f10 : DataW.trod enc Tryz.prog w base spare held n 54 ((cs.drop 31).take 1) = some y10 := by have h := hf 10 _ rfl; exact (cells_sSt ▸ h : _)
 have hcut : cs = (cs.drop 0).take 1 ++ ((cs.drop 1).take 1 ++ ((cs.drop 2).take 1 ++ ((cs.drop 3).take 1 ++ ((cs.drop 4).take 4 ++ ((cs.drop 8).take 1 ++ ((cs.drop 9).take 2 ++ ((cs.drop 11).take 15 ++ ((cs.drop 26).take 4 ++ ((cs.drop 30).take 1 ++ ((cs.drop 31).take 1 ++ ([]))))))))))) := by
  have d0 := List.drop_zero (l := cs)
  have c0 := cut_at cs 0 1
  have c1 := cut_at cs 1 1
  have c2 := cut_at cs 2 1
  have c3 := cut_at cs 3 1
  have c4 := cut_at cs 4 4
  have c5 := cut_at cs 8 1
  have c6 := cut_at cs 9 2
  have c7 := cut_at cs 11 15
  have c8 := cut_at cs 26 4
  have c9 := cut_at cs 30 1
  have c10 := cut_at cs 31 1
  have ce : cs.drop 32 = [] := List.drop_eq_nil_of_le (by omega)
  simp only [Nat.zero_add, Nat.reduceAdd] at c0 c1 c2 c3 c4 c5 c6 c7 c8 c9 c10
  exact d0.symm.trans (c0.trans (congrArg (fun r => (cs.drop 0).take 1 ++ r) (c1.trans (congrArg (fun r => (cs.drop 1).take 1 ++ r) (c2.trans (congrArg (fun r => (cs.drop 2).take 1 ++ r) (c3.trans (congrArg (fun r => (cs.drop 3).take 1 ++ r) (c4.trans (congrArg (fun r => (cs.drop 4).take 4 ++ r) (c5.trans (congrArg (fun r => (cs.drop 8).take 1 ++ r) (c6.trans (congrArg (fun r => (cs.drop 9).take 2 ++ r) (c7.trans (congrArg (fun r => (cs.drop 11).take 15 ++ r) (c8.trans (congrArg (fun r => (cs.drop 26).take 4 ++ r) (c9.trans (congrArg (fun r => (cs.drop 30).take 1 ++ r) (c10.trans (congrArg (fun r => (cs.drop 31).take 1 ++ r) ce))))))))))))))))))))))
 generalize (cs.drop 0).take 1 = p0 at *
 generalize (cs.drop 1).take 1 = p1 at *
 generalize (cs.drop 2).take 1 = p2 at *
 generalize (cs.drop 3).take 1 = p3 at *
 generalize (cs.drop 4).take 4 = p4 at *
 generalize (cs.drop 8).take 1 = p5 at *
 generalize (cs.drop 9).take 2 = p6 at *
 generalize (cs.drop 11).take 15 = p7 at *
 generalize (cs.drop 26).take 4 = p8 at *
 generalize (cs.drop 30).take 1 = p9 at *
 generalize (cs.drop 31).take 1 = p10 at *
 obtain ⟨v0, rfl, _, _⟩ := DataW.trod_int Tryz.underlying3 f0
 obtain ⟨v1, rfl, _, _⟩ := DataW.trod_int Tryz.underlying3 f1
 obtain ⟨v2, rfl, _⟩ := DataW.trod_bool Tryz.underlying4 f2
 obtain ⟨v3, rfl, hv3⟩ := trod_tx f3 (by omega)
 obtain ⟨v4, hv4⟩ := trod_Ty n p4 y4 f4 (by omega)
 obtain ⟨v5, rfl, _⟩ := DataW.trod_bool Tryz.underlying4 f5
 obtain ⟨v6, hv6⟩ := trod_Pl n p6 y6 f6 (by omega)
 obtain ⟨v7, hv7⟩ := trod_Val n p7 y7 f7 (by omega)
 obtain ⟨v8, hv8⟩ := trod_Opr n p8 y8 f8 (by omega)
 obtain ⟨a9, c9, v9, rfl, hv9, hm9, hn9⟩ := trod_sl (P := (StIs (· < w.heap.size) w)) (m := (fun d => 1 + cntS d)) Tryz.underlying54 cells_St (by decide) f9 (by omega) (fun n2 hn cs y hy hb => by obtain ⟨d, hd, hm⟩ := ih n2 (by omega) cs y hy hb; exact ⟨d, hd, hm⟩)
 obtain ⟨a10, c10, v10, rfl, hv10, hm10, hn10⟩ := trod_sl (P := (StIs (· < w.heap.size) w)) (m := (fun d => 1 + cntS d)) Tryz.underlying54 cells_St (by decide) f10 (by omega) (fun n2 hn cs y hy hb => by obtain ⟨d, hd, hm⟩ := ih n2 (by omega) cs y hy hb; exact ⟨d, hd, hm⟩)
 have hcs : cs = [.int .i64 v0, .int .i64 v1, .bool v2, txV v3] ++ p4 ++ [.bool v5] ++ p6 ++ p7 ++ p8 ++ [.slice a9 v9.length c9, .slice a10 v10.length c10] := by rw [hcut]; simp
 refine ⟨.mk v0 v1 v2 v3 v4 v5 v6 v7 v8 v9 v10, ?_, ?_⟩
 ·rw [stIs_iff]
  exact ⟨p4, p6, p7, p8, a9, c9, a10, c10, hcs, hv3, hv4, hv6, hv7, hv8, hv9, hv10⟩
 ·rw [cntS_mk]
  simp only [StD.thn, StD.els, cntL_map]
  omega
set_option linter.unusedSimpArgs false in
theorem trod_Fld (fuel : Nat) (cs : List Value) (x : DataW H × List MemPlace) (h : DataW.trod enc Tryz.prog w base spare held fuel 73 cs = some x) (hb : Rows.uptoBulk x.1 ≤ bigN) : ∃ d : FldD, FldIs (· < w.heap.size) w d cs := by
 obtain ⟨xs, n, hfu, rfl, hl, hlen, hf⟩ := DataW.trod_struct Tryz.underlying73 h
 rw [cells_Fld] at hl
 obtain ⟨y0, y1, y2, rfl⟩ : ∃ y0 y1 y2, xs = [y0, y1, y2] := by
  match xs, hlen with
  | [y0, y1, y2], _ => exact ⟨y0, y1, y2, rfl⟩
 simp only [List.map_cons, List.map_nil, Rows.uptoBulk, Rows.uptoBulkAll] at hb
 have f0 : DataW.trod enc Tryz.prog w base spare held n 4 ((cs.drop 0).take 1) = some y0 := by have h := hf 0 _ rfl; exact (cells_bool ▸ h : _)
 have f1 : DataW.trod enc Tryz.prog w base spare held n 9 ((cs.drop 1).take 1) = some y1 := by have h := hf 1 _ rfl; exact (cells_str ▸ h : _)
 have f2 : DataW.trod enc Tryz.prog w base spare held n 53 ((cs.drop 2).take 4) = some y2 := by have h := hf 2 _ rfl; exact (cells_Ty ▸ h : _)
 have hcut : cs = (cs.drop 0).take 1 ++ ((cs.drop 1).take 1 ++ ((cs.drop 2).take 4 ++ ([]))) := by
  have d0 := List.drop_zero (l := cs)
  have c0 := cut_at cs 0 1
  have c1 := cut_at cs 1 1
  have c2 := cut_at cs 2 4
  have ce : cs.drop 6 = [] := List.drop_eq_nil_of_le (by omega)
  simp only [Nat.zero_add, Nat.reduceAdd] at c0 c1 c2
  exact d0.symm.trans (c0.trans (congrArg (fun r => (cs.drop 0).take 1 ++ r) (c1.trans (congrArg (fun r => (cs.drop 1).take 1 ++ r) (c2.trans (congrArg (fun r => (cs.drop 2).take 4 ++ r) ce))))))
 generalize (cs.drop 0).take 1 = p0 at *
 generalize (cs.drop 1).take 1 = p1 at *
 generalize (cs.drop 2).take 4 = p2 at *
 obtain ⟨v0, rfl, _⟩ := DataW.trod_bool Tryz.underlying4 f0
 obtain ⟨v1, rfl, hv1⟩ := trod_tx f1 (by omega)
 obtain ⟨v2, hv2⟩ := trod_Ty n p2 y2 f2 (by omega)
 have hcs : cs = [.bool v0, txV v1] ++ p2 := by rw [hcut]; simp
 exact ⟨⟨v0, v1, v2⟩, ⟨p2, hcs, hv1, hv2⟩⟩
set_option linter.unusedSimpArgs false in
theorem trod_Str (fuel : Nat) (cs : List Value) (x : DataW H × List MemPlace) (h : DataW.trod enc Tryz.prog w base spare held fuel 49 cs = some x) (hb : Rows.uptoBulk x.1 ≤ bigN) : ∃ d : StrD, StrIs (· < w.heap.size) w d cs := by
 obtain ⟨xs, n, hfu, rfl, hl, hlen, hf⟩ := DataW.trod_struct Tryz.underlying49 h
 rw [cells_Str] at hl
 obtain ⟨y0, y1, y2, y3, y4, rfl⟩ : ∃ y0 y1 y2 y3 y4, xs = [y0, y1, y2, y3, y4] := by
  match xs, hlen with
  | [y0, y1, y2, y3, y4], _ => exact ⟨y0, y1, y2, y3, y4, rfl⟩
 simp only [List.map_cons, List.map_nil, Rows.uptoBulk, Rows.uptoBulkAll] at hb
 have f0 : DataW.trod enc Tryz.prog w base spare held n 4 ((cs.drop 0).take 1) = some y0 := by have h := hf 0 _ rfl; exact (cells_bool ▸ h : _)
 have f1 : DataW.trod enc Tryz.prog w base spare held n 9 ((cs.drop 1).take 1) = some y1 := by have h := hf 1 _ rfl; exact (cells_str ▸ h : _)
 have f2 : DataW.trod enc Tryz.prog w base spare held n 34 ((cs.drop 2).take 1) = some y2 := by have h := hf 2 _ rfl; exact (cells_sTx ▸ h : _)
 have f3 : DataW.trod enc Tryz.prog w base spare held n 47 ((cs.drop 3).take 1) = some y3 := by have h := hf 3 _ rfl; exact (cells_sFld ▸ h : _)
 have f4 : DataW.trod enc Tryz.prog w base spare held n 3 ((cs.drop 4).take 1) = some y4 := by have h := hf 4 _ rfl; exact (cells_int ▸ h : _)
 have hcut : cs = (cs.drop 0).take 1 ++ ((cs.drop 1).take 1 ++ ((cs.drop 2).take 1 ++ ((cs.drop 3).take 1 ++ ((cs.drop 4).take 1 ++ ([]))))) := by
  have d0 := List.drop_zero (l := cs)
  have c0 := cut_at cs 0 1
  have c1 := cut_at cs 1 1
  have c2 := cut_at cs 2 1
  have c3 := cut_at cs 3 1
  have c4 := cut_at cs 4 1
  have ce : cs.drop 5 = [] := List.drop_eq_nil_of_le (by omega)
  simp only [Nat.zero_add, Nat.reduceAdd] at c0 c1 c2 c3 c4
  exact d0.symm.trans (c0.trans (congrArg (fun r => (cs.drop 0).take 1 ++ r) (c1.trans (congrArg (fun r => (cs.drop 1).take 1 ++ r) (c2.trans (congrArg (fun r => (cs.drop 2).take 1 ++ r) (c3.trans (congrArg (fun r => (cs.drop 3).take 1 ++ r) (c4.trans (congrArg (fun r => (cs.drop 4).take 1 ++ r) ce))))))))))
 generalize (cs.drop 0).take 1 = p0 at *
 generalize (cs.drop 1).take 1 = p1 at *
 generalize (cs.drop 2).take 1 = p2 at *
 generalize (cs.drop 3).take 1 = p3 at *
 generalize (cs.drop 4).take 1 = p4 at *
 obtain ⟨v0, rfl, _⟩ := DataW.trod_bool Tryz.underlying4 f0
 obtain ⟨v1, rfl, hv1⟩ := trod_tx f1 (by omega)
 obtain ⟨a2, c2, v2, rfl, hv2, hm2, hn2⟩ := trod_sl (P := TxIs) (m := (fun _ => 0)) Tryz.underlying34 cells_str (by decide) f2 (by omega) (fun n _ cs y hy hb => by obtain ⟨s, e, hs⟩ := trod_tx hy hb; exact ⟨s, ⟨e, hs⟩, Nat.zero_le _⟩)
 obtain ⟨a3, c3, v3, rfl, hv3, hm3, hn3⟩ := trod_sl (P := (FldIs (· < w.heap.size) w)) (m := (fun _ => 0)) Tryz.underlying47 cells_Fld (by decide) f3 (by omega) (fun n2 _ cs y hy hb => by obtain ⟨d, hd⟩ := trod_Fld n2 cs y hy hb; exact ⟨d, hd, Nat.zero_le _⟩)
 obtain ⟨v4, rfl, _, _⟩ := DataW.trod_int Tryz.underlying3 f4
 have hcs : cs = [.bool v0, txV v1, .slice a2 v2.length c2, .slice a3 v3.length c3, .int .i64 v4] := by rw [hcut]; simp
 exact ⟨⟨v0, v1, v2, v3, v4⟩, ⟨a2, c2, a3, c3, hcs, hv1, hv2, hv3⟩⟩
set_option linter.unusedSimpArgs false in
theorem trod_Lif (fuel : Nat) (cs : List Value) (x : DataW H × List MemPlace) (h : DataW.trod enc Tryz.prog w base spare held fuel 76 cs = some x) (hb : Rows.uptoBulk x.1 ≤ bigN) : ∃ d : LifD, LifIs (· < w.heap.size) w d cs := by
 obtain ⟨xs, n, hfu, rfl, hl, hlen, hf⟩ := DataW.trod_struct Tryz.underlying76 h
 rw [cells_Lif] at hl
 obtain ⟨y0, y1, rfl⟩ : ∃ y0 y1, xs = [y0, y1] := by
  match xs, hlen with
  | [y0, y1], _ => exact ⟨y0, y1, rfl⟩
 simp only [List.map_cons, List.map_nil, Rows.uptoBulk, Rows.uptoBulkAll] at hb
 have f0 : DataW.trod enc Tryz.prog w base spare held n 9 ((cs.drop 0).take 1) = some y0 := by have h := hf 0 _ rfl; exact (cells_str ▸ h : _)
 have f1 : DataW.trod enc Tryz.prog w base spare held n 34 ((cs.drop 1).take 1) = some y1 := by have h := hf 1 _ rfl; exact (cells_sTx ▸ h : _)
 have hcut : cs = (cs.drop 0).take 1 ++ ((cs.drop 1).take 1 ++ ([])) := by
  have d0 := List.drop_zero (l := cs)
  have c0 := cut_at cs 0 1
  have c1 := cut_at cs 1 1
  have ce : cs.drop 2 = [] := List.drop_eq_nil_of_le (by omega)
  simp only [Nat.zero_add, Nat.reduceAdd] at c0 c1
  exact d0.symm.trans (c0.trans (congrArg (fun r => (cs.drop 0).take 1 ++ r) (c1.trans (congrArg (fun r => (cs.drop 1).take 1 ++ r) ce))))
 generalize (cs.drop 0).take 1 = p0 at *
 generalize (cs.drop 1).take 1 = p1 at *
 obtain ⟨v0, rfl, hv0⟩ := trod_tx f0 (by omega)
 obtain ⟨a1, c1, v1, rfl, hv1, hm1, hn1⟩ := trod_sl (P := TxIs) (m := (fun _ => 0)) Tryz.underlying34 cells_str (by decide) f1 (by omega) (fun n _ cs y hy hb => by obtain ⟨s, e, hs⟩ := trod_tx hy hb; exact ⟨s, ⟨e, hs⟩, Nat.zero_le _⟩)
 have hcs : cs = [txV v0, .slice a1 v1.length c1] := by rw [hcut]; simp
 exact ⟨⟨v0, v1⟩, ⟨a1, c1, hcs, hv0, hv1⟩⟩
set_option linter.unusedSimpArgs false in
theorem trod_Fun (fuel : Nat) (cs : List Value) (x : DataW H × List MemPlace) (h : DataW.trod enc Tryz.prog w base spare held fuel 56 cs = some x) (hb : Rows.uptoBulk x.1 ≤ bigN) : ∃ d : FunD, FunIs (· < w.heap.size) w d cs ∧ d.params.length + cntL d.body ≤ Rows.uptoBulk x.1 := by
 obtain ⟨xs, n, hfu, rfl, hl, hlen, hf⟩ := DataW.trod_struct Tryz.underlying56 h
 rw [cells_Fun] at hl
 obtain ⟨y0, y1, y2, y3, y4, y5, y6, rfl⟩ : ∃ y0 y1 y2 y3 y4 y5 y6, xs = [y0, y1, y2, y3, y4, y5, y6] := by
  match xs, hlen with
  | [y0, y1, y2, y3, y4, y5, y6], _ => exact ⟨y0, y1, y2, y3, y4, y5, y6, rfl⟩
 simp only [List.map_cons, List.map_nil, Rows.uptoBulk, Rows.uptoBulkAll] at hb ⊢
 have f0 : DataW.trod enc Tryz.prog w base spare held n 4 ((cs.drop 0).take 1) = some y0 := by have h := hf 0 _ rfl; exact (cells_bool ▸ h : _)
 have f1 : DataW.trod enc Tryz.prog w base spare held n 9 ((cs.drop 1).take 1) = some y1 := by have h := hf 1 _ rfl; exact (cells_str ▸ h : _)
 have f2 : DataW.trod enc Tryz.prog w base spare held n 50 ((cs.drop 2).take 1) = some y2 := by have h := hf 2 _ rfl; exact (cells_sLif ▸ h : _)
 have f3 : DataW.trod enc Tryz.prog w base spare held n 47 ((cs.drop 3).take 1) = some y3 := by have h := hf 3 _ rfl; exact (cells_sFld ▸ h : _)
 have f4 : DataW.trod enc Tryz.prog w base spare held n 53 ((cs.drop 4).take 4) = some y4 := by have h := hf 4 _ rfl; exact (cells_Ty ▸ h : _)
 have f5 : DataW.trod enc Tryz.prog w base spare held n 54 ((cs.drop 8).take 1) = some y5 := by have h := hf 5 _ rfl; exact (cells_sSt ▸ h : _)
 have f6 : DataW.trod enc Tryz.prog w base spare held n 3 ((cs.drop 9).take 1) = some y6 := by have h := hf 6 _ rfl; exact (cells_int ▸ h : _)
 have hcut : cs = (cs.drop 0).take 1 ++ ((cs.drop 1).take 1 ++ ((cs.drop 2).take 1 ++ ((cs.drop 3).take 1 ++ ((cs.drop 4).take 4 ++ ((cs.drop 8).take 1 ++ ((cs.drop 9).take 1 ++ ([]))))))) := by
  have d0 := List.drop_zero (l := cs)
  have c0 := cut_at cs 0 1
  have c1 := cut_at cs 1 1
  have c2 := cut_at cs 2 1
  have c3 := cut_at cs 3 1
  have c4 := cut_at cs 4 4
  have c5 := cut_at cs 8 1
  have c6 := cut_at cs 9 1
  have ce : cs.drop 10 = [] := List.drop_eq_nil_of_le (by omega)
  simp only [Nat.zero_add, Nat.reduceAdd] at c0 c1 c2 c3 c4 c5 c6
  exact d0.symm.trans (c0.trans (congrArg (fun r => (cs.drop 0).take 1 ++ r) (c1.trans (congrArg (fun r => (cs.drop 1).take 1 ++ r) (c2.trans (congrArg (fun r => (cs.drop 2).take 1 ++ r) (c3.trans (congrArg (fun r => (cs.drop 3).take 1 ++ r) (c4.trans (congrArg (fun r => (cs.drop 4).take 4 ++ r) (c5.trans (congrArg (fun r => (cs.drop 8).take 1 ++ r) (c6.trans (congrArg (fun r => (cs.drop 9).take 1 ++ r) ce))))))))))))))
 generalize (cs.drop 0).take 1 = p0 at *
 generalize (cs.drop 1).take 1 = p1 at *
 generalize (cs.drop 2).take 1 = p2 at *
 generalize (cs.drop 3).take 1 = p3 at *
 generalize (cs.drop 4).take 4 = p4 at *
 generalize (cs.drop 8).take 1 = p5 at *
 generalize (cs.drop 9).take 1 = p6 at *
 obtain ⟨v0, rfl, _⟩ := DataW.trod_bool Tryz.underlying4 f0
 obtain ⟨v1, rfl, hv1⟩ := trod_tx f1 (by omega)
 obtain ⟨a2, c2, v2, rfl, hv2, hm2, hn2⟩ := trod_sl (P := (LifIs (· < w.heap.size) w)) (m := (fun _ => 0)) Tryz.underlying50 cells_Lif (by decide) f2 (by omega) (fun n2 _ cs y hy hb => by obtain ⟨d, hd⟩ := trod_Lif n2 cs y hy hb; exact ⟨d, hd, Nat.zero_le _⟩)
 obtain ⟨a3, c3, v3, rfl, hv3, hm3, hn3⟩ := trod_sl (P := (FldIs (· < w.heap.size) w)) (m := (fun _ => 0)) Tryz.underlying47 cells_Fld (by decide) f3 (by omega) (fun n2 _ cs y hy hb => by obtain ⟨d, hd⟩ := trod_Fld n2 cs y hy hb; exact ⟨d, hd, Nat.zero_le _⟩)
 obtain ⟨v4, hv4⟩ := trod_Ty n p4 y4 f4 (by omega)
 obtain ⟨a5, c5, v5, rfl, hv5, hm5, hn5⟩ := trod_sl (P := (StIs (· < w.heap.size) w)) (m := (fun d => 1 + cntS d)) Tryz.underlying54 cells_St (by decide) f5 (by omega) (fun n2 _ cs y hy hb => trod_St n2 cs y hy hb)
 obtain ⟨v6, rfl, _, _⟩ := DataW.trod_int Tryz.underlying3 f6
 have hcs : cs = [.bool v0, txV v1, .slice a2 v2.length c2, .slice a3 v3.length c3] ++ p4 ++ [.slice a5 v5.length c5, .int .i64 v6] := by rw [hcut]; simp
 refine ⟨⟨v0, v1, v2, v3, v4, v5, v6⟩, ⟨a2, c2, a3, c3, p4, a5, c5, hcs, hv1, hv2, hv3, hv4, hv5⟩, ?_⟩
 simp only [cntL_map]
 omega
set_option linter.unusedSimpArgs false in
theorem trod_Cr (fuel : Nat) (cs : List Value) (x : DataW H × List MemPlace) (h : DataW.trod enc Tryz.prog w base spare held fuel 26 cs = some x) (hb : Rows.uptoBulk x.1 ≤ bigN) : ∃ d : CrD, CrIs (· < w.heap.size) w d cs := by
 obtain ⟨xs, n, hfu, rfl, hl, hlen, hf⟩ := DataW.trod_struct Tryz.underlying26 h
 rw [cells_Cr] at hl
 obtain ⟨y0, y1, rfl⟩ : ∃ y0 y1, xs = [y0, y1] := by
  match xs, hlen with
  | [y0, y1], _ => exact ⟨y0, y1, rfl⟩
 simp only [List.map_cons, List.map_nil, Rows.uptoBulk, Rows.uptoBulkAll] at hb
 have f0 : DataW.trod enc Tryz.prog w base spare held n 23 ((cs.drop 0).take 1) = some y0 := by have h := hf 0 _ rfl; exact (cells_sStr ▸ h : _)
 have f1 : DataW.trod enc Tryz.prog w base spare held n 24 ((cs.drop 1).take 1) = some y1 := by have h := hf 1 _ rfl; exact (cells_sFun ▸ h : _)
 have hcut : cs = (cs.drop 0).take 1 ++ ((cs.drop 1).take 1 ++ ([])) := by
  have d0 := List.drop_zero (l := cs)
  have c0 := cut_at cs 0 1
  have c1 := cut_at cs 1 1
  have ce : cs.drop 2 = [] := List.drop_eq_nil_of_le (by omega)
  simp only [Nat.zero_add, Nat.reduceAdd] at c0 c1
  exact d0.symm.trans (c0.trans (congrArg (fun r => (cs.drop 0).take 1 ++ r) (c1.trans (congrArg (fun r => (cs.drop 1).take 1 ++ r) ce))))
 generalize (cs.drop 0).take 1 = p0 at *
 generalize (cs.drop 1).take 1 = p1 at *
 obtain ⟨a0, c0, v0, rfl, hv0, hm0, hn0⟩ := trod_sl (P := (StrIs (· < w.heap.size) w)) (m := (fun _ => 0)) Tryz.underlying23 cells_Str (by decide) f0 (by omega) (fun n2 _ cs y hy hb => by obtain ⟨d, hd⟩ := trod_Str n2 cs y hy hb; exact ⟨d, hd, Nat.zero_le _⟩)
 obtain ⟨a1, c1, v1, rfl, hv1, hm1, hn1⟩ := trod_sl (P := (FunIs (· < w.heap.size) w)) (m := (fun _ => 0)) Tryz.underlying24 cells_Fun (by decide) f1 (by omega) (fun n2 _ cs y hy hb => by obtain ⟨d, hd, _⟩ := trod_Fun n2 cs y hy hb; exact ⟨d, hd, Nat.zero_le _⟩)
 have hcs : cs = [.slice a0 v0.length c0, .slice a1 v1.length c1] := by rw [hcut]; simp
 exact ⟨⟨v0, v1⟩, ⟨a0, c0, a1, c1, hcs, hv0, hv1⟩⟩
end
end Go.Proofs.YtjbcagbnagefcaaGreat
