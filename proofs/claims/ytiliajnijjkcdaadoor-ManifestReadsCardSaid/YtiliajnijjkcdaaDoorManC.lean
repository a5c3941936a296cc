/- The document's answer: Index. Rows of places compared. -/
import Derived.Test.YtiliajnijjkcdaaDoorMan18
import Derived.Test.YtiliajnijjkcdaaDoorMixU
namespace Go.Proofs.YtiliajnijjkcdaaDoor
open Go.RowKit

attribute [local irreducible] wpMix wpList
attribute [local go_sem ↓] exec_mid_src exec_store_src
attribute [local go_sem] rowOk_new World.setRow_alloc_new aggOk_src

/-- The first crate of a name from t on. -/
def atL (l : List SrcD) (d : List UInt8) (t : Nat) : Int := if idxOf (l.drop t) d < 0 then -1 else idxOf (l.drop t) d + t
theorem idxOf_ge : ∀ (l : List SrcD) (d : List UInt8), -1 ≤ idxOf l d
  | [], d => by unfold idxOf; omega
  | x :: r, d => by
    have := idxOf_ge r d
    unfold idxOf
    split
    · omega
    · split <;> omega
theorem atL_end (l : List SrcD) (d : List UInt8) : atL l d l.length = -1 := by
  unfold atL
  rw [List.drop_length, if_pos]
  show (-1 : Int) < 0
  omega
theorem atL_zero (l : List SrcD) (d : List UInt8) : atL l d 0 = idxOf l d := by
  have := idxOf_ge l d
  unfold atL
  rw [List.drop_zero]
  split <;> omega
theorem drop_at {l : List SrcD} {t : Nat} {x : SrcD} (hx : l[t]? = some x) : l.drop t = x :: l.drop (t + 1) := by
  obtain ⟨h1, h2⟩ := List.getElem?_eq_some_iff.1 hx
  rw [List.drop_eq_getElem_cons h1, h2]
theorem atL_hit {l : List SrcD} {d : List UInt8} {t : Nat} {x : SrcD} (hx : l[t]? = some x) (h : x.name = d) : atL l d t = t := by
  unfold atL
  rw [drop_at hx]
  have : idxOf (x :: l.drop (t + 1)) d = 0 := by unfold idxOf; rw [if_pos h]
  rw [this, if_neg (by omega)]
  omega
theorem atL_miss {l : List SrcD} {d : List UInt8} {t : Nat} {x : SrcD} (hx : l[t]? = some x) (h : ¬ x.name = d) : atL l d t = atL l d (t + 1) := by
  have hg := idxOf_ge (l.drop (t + 1)) d
  unfold atL
  rw [drop_at hx]
  have : idxOf (x :: l.drop (t + 1)) d = if idxOf (l.drop (t + 1)) d = -1 then -1 else idxOf (l.drop (t + 1)) d + 1 := by
    rw [idxOf, if_neg h]
  rw [this]
  by_cases h1 : idxOf (l.drop (t + 1)) d = -1
  · rw [if_pos h1, if_pos (by omega), if_pos (by omega)]
  · rw [if_neg h1, if_neg (by omega), if_neg (by omega)]
    omega
theorem atL_bd (l : List SrcD) (d : List UInt8) (t : Nat) : -1 ≤ atL l d t := by
  unfold atL
  split <;> omega

/-- What the document's Index leaves. -/
def RIdxPost (w : World) (r : Int × Nat × List (List Int)) (e : Ending) (w' : World) : Prop :=
  Keeps Nothing w w' ∧ ((r.1 = 0 ∧ r.2.1 = 0 ∧ ∃ ao cap vs, e = .returned (.tuple #[.slice ao r.2.2.length cap, .int .i64 0, .int .i64 0]) ∧ RowR w' 23 ao cap vs ∧ vs.length = r.2.2.length ∧ ∀ (j : Nat) (x : List Int), r.2.2[j]? = some x → ∃ v, vs[j]? = some v ∧ IntsIs w' x v) ∨
    (r.1 ≠ 0 ∧ e = .returned (.tuple #[.slice none 0 0, .int .i64 r.1, .int .i64 (r.2.1 : Int)])))

set_option maxRecDepth 100000 in
set_option linter.unusedSimpArgs false in
set_option maxHeartbeats 8000000 in
theorem rindex_any {S : Nat → Prop} (l : List SrcD) (w : World) {al : Option Addr} (cl : Nat) (hl : SlIs S w 3 (SrcIs S w) al l) (h64 : l.length ≤ 1000000) (hd64 : ∀ d ∈ l, d.deps.length ≤ 1000000) :
    Calls Tryd.prog 14 #[.slice al l.length cl] w (RIdxPost w (idxL l)) := by
  have HL := shut hl
  have HD := shut hd64
  obtain ⟨n, hn⟩ : ∃ n, l.length = n := ⟨_, rfl⟩
  rw [hn] at h64 ⊢
  have HN := shut hn
  obtain ⟨RR, hRR⟩ : ∃ RR, idxL l = RR := ⟨_, rfl⟩
  rw [hRR]
  have HRR := shut hRR
  clear hl hd64 hn hRR
  have H0 : Shut (∃ ao cap vs R, (Value.slice none 0 0) = .slice ao 0 cap ∧ IdxO w w l 0 ao cap vs R) := shut ⟨none, 0, [], [], rfl, Keeps.refl _ _, rowR_nil _ _, fun g hg => (by cases hg), rfl, rfl, rfl, fun j x hx => (by simp at hx)⟩
  go_enter Tryd.func14, Tryd.ntmps14
  go_wp2_with fail
  go_loopw [5, 6, 7, 8, 9, 10] (fun s5 s6 _ _ _ _ wx => ∃ (i : Nat) (ao : Option Addr) (cap : Nat) (vs : List Value) (R : List (List Int)), s6 = .int .i64 i ∧ s5 = .slice ao i cap ∧ i ≤ n ∧ Shut (IdxO w wx l i ao cap vs R)) (fun _ s6 _ _ _ _ _ => n - (intOf s6).toNat)
  case atStart =>
    obtain ⟨ao, cap, vs, R, e, h⟩ := H0.out
    exact ⟨0, ao, cap, vs, R, rfl, e, Nat.zero_le _, shut h⟩
  case round =>
    obtain ⟨i, ao, cap, vs, R, rfl, rfl, hi, HO⟩ := hrel
    clear H0
    by_cases hlt : i < n
    rotate_left
    · obtain rfl : i = n := by omega
      have m1 : ¬ (i : Int) < i := by omega
      have hfin : RIdxPost w RR (.returned (.tuple #[.slice ao i cap, .int .i64 0, .int .i64 0])) wr := by
        have h := HO.out
        have ha := h.all
        rw [List.take_of_length_le (Nat.le_of_eq HN.out)] at ha
        have : RR = (0, 0, R) := by rw [← HRR.out]; exact ha
        subst this
        exact ⟨keepsHi h.keep, .inl ⟨rfl, rfl, ao, cap, vs, by rw [h.rlen], h.row, by rw [h.vlen, h.rlen], h.ints⟩⟩
      have HF := shut hfin
      clear hfin HO HRR HL HD
      go_wp2_with fail
      go_ret3
      exact HF.out
    have m1 : (i : Int) < n := by omega
    have m0 : (0 : Int) ≤ i := by omega
    obtain ⟨x, hx⟩ : ∃ x, l[i]? = some x := ⟨_, List.getElem?_eq_getElem (by rw [HN.out]; exact hlt)⟩
    have kw := keepsHi HO.out.keep
    have HLw := shut (HL.out.keeps (Q := SrcIs S wr) kw (fun _ _ h => h) (fun _ h => h) (fun _ _ _ h => h.keeps kw (fun _ _ h => h) (fun _ h => h)))
    have hdl := HD.out x (List.mem_of_getElem? hx)
    obtain ⟨m, hm⟩ : ∃ m, x.deps.length = m := ⟨_, rfl⟩
    rw [hm] at hdl
    have HM := shut hm
    have HX := shut hx
    clear hx kw hm
    obtain ⟨wb, rfl⟩ : ∃ wb, wb = wr := ⟨_, rfl⟩
    have H1 : Shut (∃ aR cR row, (Value.slice none 0 0) = .slice aR 0 cR ∧ (RowR wb 3 aR cR (row.map intV) ∧ (∀ g, blockOf aR = some g → wb.heap.size ≤ g) ∧ row.length = 0 ∧ idxRow l (x.deps.take 0) = some row)) := shut ⟨none, 0, [], rfl, rowR_nil _ _, fun g hg => (by cases hg), rfl, rfl⟩
    go_wp2_with fail
    go_loopw [7, 8, 9, 10] (fun s7 s8 _ _ wx => ∃ (t : Nat) (aR : Option Addr) (cR : Nat) (row : List Int), s8 = .int .i64 t ∧ s7 = .slice aR t cR ∧ t ≤ m ∧ Keeps (fun b => wb.heap.size ≤ b) wb wx ∧ Shut (RowR wx 3 aR cR (row.map intV) ∧ (∀ g, blockOf aR = some g → wb.heap.size ≤ g) ∧ row.length = t ∧ idxRow l (x.deps.take t) = some row)) (fun _ s8 _ _ _ => m - (intOf s8).toNat)
    case atStart =>
      obtain ⟨aR, cR, row, e, h⟩ := H1.out
      exact ⟨0, aR, cR, row, rfl, e, Nat.zero_le _, Keeps.refl _ _, shut h⟩
    case round =>
      obtain ⟨t, aR, cR, row, rfl, rfl, ht, K, HR⟩ := hrel
      clear H1
      have kb := keepsHi K
      have HLv := shut (HLw.out.keeps (S' := S) (Q := SrcIs S wr) kb (fun _ _ h => h) (fun _ h => h) (fun _ _ _ h => h.keeps kb (fun _ _ h => h) (fun _ h => h)))
      obtain ⟨gl, ol, aq, cq, rfl, -, dq, -, HDQ⟩ := srcd_at HLv.out HX.out
      rw [HM.out] at dq
      have HDQ := shut HDQ
      by_cases hlt2 : t < m
      rotate_left
      · obtain rfl : t = m := by omega
        have q1 : ¬ (t : Int) < t := by omega
        have HO2 := shut (HO.out.keeps K)
        have kv := (Keeps.refl Nothing wr).alloc (.cells #[.slice aR t cR] 23)
        have BV := blk_new wr #[.slice aR t cR] 23
        have HO3 := shut (HO2.out.keeps (kv.mono (fun _ h _ => h.elim)))
        have HVL := shut HO3.out.vlen
        have hvb : i ≤ 1000000000 := by omega
        have hks1 : w.heap.size ≤ wr.heap.size := HO2.out.keep.size
        clear HO2 HLv HLw HDQ
        go_wp2_with (at_builtin; refine wpList_appNs _ rfl (.tmp 56) (.tmp 58) rfl ao cap vs i HVL.out rfl HO3.out.row _ (.slice aR t cR) rfl rfl BV hvb ?_)
        intro a2 c2 w3 R2 k2 mv
        have HR2 := HR.out
        have hrow : idxRow l x.deps = some row := by have := HR2.2.2.2; rwa [List.take_of_length_le (Nat.le_of_eq HM.out)] at this
        have hst := (idxAll_upto l l 0 i R _ HO3.out.all HX.out).2 row hrow
        have hio : ∀ g cur, Blk (wr.alloc (.cells #[.slice aR t cR] 23)) g cur 3 → ¬ blockOf ao = some g := fun g cur hc q => HO3.out.row.ne hc (by decide) q
        have hnew : IntsIs w3 row (.slice aR t cR) := by
          have h1 : IntsIs (wr.alloc (.cells #[.slice aR t cR] 23)) row (.slice aR t cR) := ⟨aR, cR, by rw [HR2.2.2.1], HR2.1.keepsN kv⟩
          exact h1.keeps k2 hio
        have HO4 : Shut (IdxO w w3 l (i + 1) a2 c2 (vs ++ [.slice aR t cR]) (R ++ [row])) := shut ⟨HO3.out.keep.trans k2 (fun g hg _ => HO3.out.new g hg), R2, fun g hg => moved_ge mv HO3.out.new (by omega) hg, by rw [List.length_append, HVL.out]; rfl, by rw [List.length_append, HO3.out.rlen]; rfl, hst, fun j y hy => by
          by_cases hj : j < R.length
          · rw [List.getElem?_append_left hj] at hy
            obtain ⟨v, e1, e2⟩ := HO3.out.ints j y hy
            exact ⟨v, by rw [List.getElem?_append_left (by rw [HVL.out, ← HO3.out.rlen]; exact hj)]; exact e1, e2.keeps k2 hio⟩
          · have hj2 : j = R.length := by
              have := (List.getElem?_eq_some_iff.1 hy).1
              simp at this
              omega
            subst hj2
            rw [List.getElem?_concat_length] at hy
            obtain rfl := Option.some.inj hy
            exact ⟨_, by rw [HO3.out.rlen, ← HVL.out, List.getElem?_concat_length], hnew⟩⟩
        clear HO3 HR HR2 hrow hst hio hnew R2 k2 mv kv BV HO
        go_wp2_with fail
        go_roundw
        case rel => exact ⟨i + 1, a2, c2, _, _, by go_num, rfl, by omega, HO4⟩
        case measure => (simp [intOf]; try omega)
      have q1 : (t : Int) < m := by omega
      have q0 : (0 : Int) ≤ t := by omega
      obtain ⟨d0, hd0⟩ : ∃ d0, x.deps[t]? = some d0 := ⟨_, List.getElem?_eq_getElem (by rw [HM.out]; exact hlt2)⟩
      obtain ⟨g0, o0, rfl, dc0, -⟩ := tx_cell HDQ.out hd0
      have HD0 := shut hd0
      have hwn : IntKind.i64.wrap ((n : Int) - 1) = (n : Int) - 1 := by rw [IntKind.wrap_i64]; omega
      have hat := atL_end l d0
      rw [HN.out] at hat
      have HAT := shut hat
      clear hd0 hat
      obtain ⟨wv, rfl⟩ : ∃ wv, wv = wr := ⟨_, rfl⟩
      go_wp2_with fail
      go_loopw [9, 10] (fun s9 s10 wx => ∃ (j : Nat) (z : Int), s10 = .int .i64 ((j : Int) - 1) ∧ s9 = .int .i64 z ∧ j ≤ n ∧ -1 ≤ z ∧ z ≤ n ∧ Keeps Nothing wv wx ∧ Shut (atL l d0 j = z)) (fun _ s10 _ => (intOf s10 + 1).toNat)
      case atStart => exact ⟨n, -1, rfl, rfl, Nat.le_refl _, by omega, by omega, Keeps.refl _ _, HAT⟩
      case round =>
        obtain ⟨j, z, rfl, rfl, hj, hz1, hz2, KV, HZ⟩ := hrel
        clear HAT
        cases j with
        | zero =>
          have p1 : ¬ (0 : Int) ≤ ((0 : Nat) : Int) - 1 := by omega
          have p2 : ((0 : Nat) : Int) - 1 < 0 := by omega
          have hzi : idxOf l d0 = z := by rw [← atL_zero]; exact HZ.out
          have HZI := shut hzi
          have KK : Keeps (fun b => wb.heap.size ≤ b) wb wr := K.trans KV (fun _ h _ => h.elim)
          have HR3 : Shut (RowR wr 3 aR cR (row.map intV)) := shut (HR.out.1.keepsN KV)
          clear hzi HZ hwn
          by_cases hneg : z < 0
          · have hrow := (idxRow_upto l x.deps t row d0 HR.out.2.2.2 HD0.out).1 (by rw [HZI.out]; exact hneg)
            have hst := (idxAll_upto l l 0 i R _ HO.out.all HX.out).1 hrow
            rw [Nat.zero_add] at hst
            have hrr : RR = (41, i, []) := by rw [← HRR.out]; exact hst
            have kfin := shut (keepsHi (HO.out.keep.trans KK (fun b hb hlt => by have := HO.out.keep.size; omega)))
            subst hrr
            clear HRR HR HR3 HZI hrow hst HO HL HLv HLw HDQ HD K KK HD0
            go_wp2_with fail
            go_ret3
            exact ⟨kfin.out, .inr ⟨by show ¬ (41 : Int) = 0; decide, rfl⟩⟩
          · have kbz := (Keeps.refl Nothing wr).alloc (.cells #[.int .i64 z] 3)
            have BZ := blk_new wr #[.int .i64 z] 3
            have hsrow := (idxRow_upto l x.deps t row d0 HR.out.2.2.2 HD0.out).2 (by rw [HZI.out]; exact hneg)
            rw [HZI.out] at hsrow
            have HSR := shut hsrow
            have HR4 : Shut (RowR (wr.alloc (.cells #[.int .i64 z] 3)) 3 aR cR (row.map intV)) := shut (HR3.out.keepsN kbz)
            have HRL : Shut ((row.map intV).length = t) := shut (by rw [List.length_map]; exact HR.out.2.2.1)
            have HRN : Shut (∀ g, blockOf aR = some g → wb.heap.size ≤ g) := shut HR.out.2.1
            have HRE : Shut (row.length = t) := shut HR.out.2.2.1
            have htb : t ≤ 1000000000 := by omega
            have KB : Keeps (fun b => wb.heap.size ≤ b) wb (wr.alloc (.cells #[.int .i64 z] 3)) := KK.trans kbz (fun _ h _ => h.elim)
            have hks : wb.heap.size ≤ wr.heap.size := KK.size
            clear hsrow HR HR3 HZI K KK HD0 kbz HLv HDQ dq dc0 kb
            go_wp2_with (at_builtin; refine wpList_appN _ rfl (.tmp 52) (.tmp 54) rfl aR cR (row.map intV) t HRL.out rfl HR4.out _ (.int .i64 z) rfl rfl BZ htb ?_)
            intro a2 c2 w5 R2 k2 mv
            have KF : Keeps (fun b => wb.heap.size ≤ b) wb w5 := KB.trans k2 (fun g hg _ => HRN.out g hg)
            have HRF : Shut (RowR w5 3 a2 c2 ((row ++ [z]).map intV) ∧ (∀ g, blockOf a2 = some g → wb.heap.size ≤ g) ∧ (row ++ [z]).length = t + 1 ∧ idxRow l (x.deps.take (t + 1)) = some (row ++ [z])) :=
              shut ⟨by rw [List.map_append]; exact R2, fun g hg => moved_ge mv HRN.out (by omega) hg, by rw [List.length_append, HRE.out]; rfl, HSR.out⟩
            clear HSR HR4 HRL HRN HRE KB BZ R2 k2 mv
            go_wp2_with fail
            go_roundw
            case rel => exact ⟨t + 1, a2, c2, _, by go_num, rfl, by omega, KF, HRF⟩
            case measure => (simp [intOf]; try omega)
        | succ j =>
          have e1 : ((j + 1 : Nat) : Int) - 1 = (j : Int) := by omega
          rw [e1]
          have p0 : (0 : Int) ≤ j := by omega
          have p1 : (j : Int) < n := by omega
          obtain ⟨y, hy⟩ : ∃ y, l[j]? = some y := ⟨_, List.getElem?_eq_getElem (by rw [HN.out]; omega)⟩
          obtain ⟨gl', ol', ay, cy, hgl, ny, -, -, -⟩ := srcd_at HLv.out hy
          simp only [Option.some.injEq, Addr.mk.injEq, and_true] at hgl
          obtain ⟨rfl, rfl⟩ := hgl
          have ny := KV.cell ny (fun h => h)
          have dq2 := KV.cell dq (fun h => h)
          have dc2 := KV.cell dc0 (fun h => h)
          by_cases hyd : y.name = d0
          · have hyb : (y.name == d0) = true := by rw [beq_iff_eq]; exact hyd
            have HH := shut (atL_hit hy hyd)
            clear hyd hy HZ
            go_wp2_with fail
            go_quiet (fail)
            go_wp2_with fail
            go_roundw
            case rel => exact ⟨j, (j : Int), by go_num, rfl, by omega, by omega, by omega, KV.drewN _, HH⟩
            case measure => (simp [intOf]; try omega)
          · have hyb : (y.name == d0) = false := by rw [beq_eq_false_iff_ne]; exact hyd
            have HH : Shut (atL l d0 j = z) := shut (by rw [atL_miss hy hyd]; exact HZ.out)
            clear hyd hy HZ
            go_wp2_with fail
            go_quiet (fail)
            go_wp2_with fail
            go_roundw
            case rel => exact ⟨j, z, by go_num, rfl, by omega, hz1, hz2, KV.drewN _, HH⟩
            case measure => (simp [intOf]; try omega)

end Go.Proofs.YtiliajnijjkcdaaDoor

namespace Go.Proofs.YtiliajnijjkcdaaDoor
open Go.RowKit

attribute [local irreducible] wpMix wpList
attribute [local go_sem ↓] exec_mid_src exec_store_src
attribute [local go_sem] rowOk_new World.setRow_alloc_new aggOk_src

set_option maxRecDepth 100000 in
set_option linter.unusedSimpArgs false in
set_option maxHeartbeats 8000000 in
theorem rints_any (w : World) {ax ay : Option Addr} {xs ys : List Int} (cx cy cx' cy' : Nat) (hx : RowR w 3 ax cx (xs.map intV)) (hy : RowR w 3 ay cy (ys.map intV)) (hl : xs.length ≤ 1000000000) :
    Calls Tryd.prog 30 #[.slice ax xs.length cx', .slice ay ys.length cy'] w (Tells w (xs = ys)) := by
  have HX := shut hx
  have HY := shut hy
  clear hx hy
  by_cases hne : xs.length = ys.length
  rotate_left
  · have hne' : ¬ (xs.length : Int) = ys.length := by omega
    have hq : ((xs.length : Int) == ys.length) = false := by rw [beq_eq_false_iff_ne]; omega
    have hl : xs ≠ ys := fun h => hne (by rw [h])
    go_enter Tryd.func30, Tryd.ntmps30
    go_wp2_with fail
    go_ret
    exact tells_f hl (Keeps.refl _ _)
  obtain ⟨n, hn⟩ : ∃ n, xs.length = n := ⟨_, rfl⟩
  have hm : ys.length = n := by omega
  rw [hn, hm]
  rw [hn] at hl
  clear hne
  have HN := shut hn
  have HM := shut hm
  clear hn hm
  go_enter Tryd.func30, Tryd.ntmps30
  go_wp2_with fail
  go_loopw [5] (fun s5 wx => ∃ t : Nat, s5 = .int .i64 t ∧ t ≤ n ∧ Keeps Nothing w wx ∧ Shut (xs.take t = ys.take t)) (fun s5 _ => n - (intOf s5).toNat)
  case atStart => exact ⟨0, rfl, Nat.zero_le _, Keeps.refl _ _, shut (by simp)⟩
  case round =>
    obtain ⟨t, rfl, ht, K, HT⟩ := hrel
    by_cases hlt : t < n
    rotate_left
    · obtain rfl : t = n := by omega
      have m1 : ¬ (t : Int) < t := by omega
      go_wp2_with fail
      go_ret
      refine tells_t ?_ K
      have h := HT.out
      rwa [List.take_of_length_le (Nat.le_of_eq HN.out), List.take_of_length_le (Nat.le_of_eq HM.out)] at h
    obtain ⟨a, ha⟩ : ∃ a, xs[t]? = some a := ⟨_, List.getElem?_eq_getElem (by rw [HN.out]; exact hlt)⟩
    obtain ⟨b, hb⟩ : ∃ b, ys[t]? = some b := ⟨_, List.getElem?_eq_getElem (by rw [HM.out]; exact hlt)⟩
    have HXw := HX.out.keepsN K
    have HYw := HY.out.keepsN K
    obtain ⟨g1, o1, rfl⟩ := HXw.head (by intro q; have := congrArg List.length q; rw [List.length_map, HN.out] at this; simp at this; omega)
    obtain ⟨g2, o2, rfl⟩ := HYw.head (by intro q; have := congrArg List.length q; rw [List.length_map, HM.out] at this; simp at this; omega)
    have e1 := HXw.cell (j := t) (v := intV a) (by rw [List.getElem?_map, ha]; rfl)
    have e2 := HYw.cell (j := t) (v := intV b) (by rw [List.getElem?_map, hb]; rfl)
    unfold intV at e1 e2
    have HA := shut ha
    have HB := shut hb
    clear ha hb HXw HYw
    have m0 : (0 : Int) ≤ t := by omega
    have m1 : (t : Int) < n := by omega
    by_cases hab : a = b
    · subst hab
      go_wp2_with fail
      go_quiet (fail)
      go_wp2_with fail
      go_roundw
      case rel => exact ⟨t + 1, by go_num, by omega, K.drewN _, shut (take_eq HA.out HB.out HT.out rfl)⟩
      case measure => (simp [intOf]; try omega)
    · have hbq : (a == b) = false := by rw [beq_eq_false_iff_ne]; exact hab
      have hab' : ¬ a = b := hab
      go_wp2_with fail
      go_quiet (fail)
      go_wp2_with fail
      go_ret
      exact tells_f (ne_at HA.out HB.out hab) (K.drewN _)

/-- Rows of places in memory, one behind the other. -/
structure IntRows (w : World) (ao : Option Addr) (cap : Nat) (R : List (List Int)) : Prop where
  row : ∃ vs, RowR w 23 ao cap vs ∧ vs.length = R.length ∧ ∀ (j : Nat) (x : List Int), R[j]? = some x → ∃ v, vs[j]? = some v ∧ IntsIs w x v
theorem IntRows.keepsN {w w' : World} {ao : Option Addr} {cap : Nat} {R : List (List Int)} (h : IntRows w ao cap R) (K : Keeps Nothing w w') : IntRows w' ao cap R := by
  obtain ⟨vs, h1, h2, h3⟩ := h.row
  refine ⟨⟨vs, h1.keepsN K, h2, fun j x hx => ?_⟩⟩
  obtain ⟨v, e1, e2⟩ := h3 j x hx
  exact ⟨v, e1, e2.keeps K (fun _ _ _ h => h)⟩
theorem IntRows.get {w : World} {ao : Option Addr} {cap : Nat} {R : List (List Int)} (h : IntRows w ao cap R) {j : Nat} {x : List Int} (hx : R[j]? = some x) : ∃ g o a c, ao = some ⟨g, o, none⟩ ∧ w.cell? ⟨g, o + j, none⟩ = some (.slice a x.length c) ∧ RowR w 3 a c (x.map intV) := by
  obtain ⟨vs, h1, h2, h3⟩ := h.row
  obtain ⟨v, e1, a, c, rfl, e3⟩ := h3 j x hx
  obtain ⟨g, o, rfl⟩ := h1.head (by rintro rfl; simp at e1)
  exact ⟨g, o, a, c, rfl, h1.cell e1, e3⟩

set_option maxRecDepth 100000 in
set_option linter.unusedSimpArgs false in
set_option maxHeartbeats 8000000 in
theorem rows_any (w : World) {ax ay : Option Addr} {R Q : List (List Int)} (cx cy cx' cy' : Nat) (hx : IntRows w ax cx R) (hy : IntRows w ay cy Q) (hl : R.length ≤ 1000000000) (hr : ∀ x ∈ R, x.length ≤ 1000000000) :
    Calls Tryd.prog 15 #[.slice ax R.length cx', .slice ay Q.length cy'] w (Tells w (R = Q)) := by
  have HX := shut hx
  have HY := shut hy
  have HRL := shut hr
  clear hx hy hr
  by_cases hne : R.length = Q.length
  rotate_left
  · have hne' : ¬ (R.length : Int) = Q.length := by omega
    have hq : ((R.length : Int) == Q.length) = false := by rw [beq_eq_false_iff_ne]; omega
    have hl : R ≠ Q := fun h => hne (by rw [h])
    go_enter Tryd.func15, Tryd.ntmps15
    go_wp2_with fail
    go_ret
    exact tells_f hl (Keeps.refl _ _)
  obtain ⟨n, hn⟩ : ∃ n, R.length = n := ⟨_, rfl⟩
  have hm : Q.length = n := by omega
  rw [hn, hm]
  rw [hn] at hl
  clear hne
  have HN := shut hn
  have HM := shut hm
  clear hn hm
  go_enter Tryd.func15, Tryd.ntmps15
  go_wp2_with fail
  go_loopw [5] (fun s5 wx => ∃ t : Nat, s5 = .int .i64 t ∧ t ≤ n ∧ Keeps Nothing w wx ∧ Shut (R.take t = Q.take t)) (fun s5 _ => n - (intOf s5).toNat)
  case atStart => exact ⟨0, rfl, Nat.zero_le _, Keeps.refl _ _, shut (by simp)⟩
  case round =>
    obtain ⟨t, rfl, ht, KL, HT⟩ := hrel
    by_cases hlt : t < n
    rotate_left
    · obtain rfl : t = n := by omega
      have m1 : ¬ (t : Int) < t := by omega
      go_wp2_with fail
      go_ret
      refine tells_t ?_ KL
      have h := HT.out
      rwa [List.take_of_length_le (Nat.le_of_eq HN.out), List.take_of_length_le (Nat.le_of_eq HM.out)] at h
    obtain ⟨a, ha⟩ : ∃ a, R[t]? = some a := ⟨_, List.getElem?_eq_getElem (by rw [HN.out]; exact hlt)⟩
    obtain ⟨b, hb⟩ : ∃ b, Q[t]? = some b := ⟨_, List.getElem?_eq_getElem (by rw [HM.out]; exact hlt)⟩
    obtain ⟨g1, o1, qa, da, rfl, a1, ra⟩ := (HX.out.keepsN KL).get ha
    obtain ⟨g2, o2, qb, db, rfl, b1, rb⟩ := (HY.out.keepsN KL).get hb
    have RA := shut ra
    have RB := shut rb
    have HA := shut ha
    have HB := shut hb
    have hal := HRL.out a (List.mem_of_getElem? ha)
    clear ha hb ra rb
    have m0 : (0 : Int) ≤ t := by omega
    have m1 : (t : Int) < n := by omega
    have hcl := rints_any wr.drew da db da db (RA.out.keepsN (Keeps.refl Nothing wr).drew) (RB.out.keepsN (Keeps.refl Nothing wr).drew) hal
    have kdr : Keeps Nothing wr wr.drew := (Keeps.refl Nothing wr).drew
    go_wp2_with fail
    refine wp_region_mix (fun V => V.cell? ⟨g1, o1 + t, none⟩ = some (.slice qa a.length da) ∧ V.cell? ⟨g2, o2 + t, none⟩ = some (.slice qb b.length db)) [(true, 0), (true, 1), (true, 2), (true, 3), (true, 4), (true, 5), (true, 6), (true, 7), (false, 8), (true, 9)] (by kernel_rfl) (by kernel_rfl) ⟨kdr.cell a1 (fun h => h), kdr.cell b1 (fun h => h)⟩ ?_
    simp only [mixItems, List.map_cons, List.map_nil, List.getD_cons_zero, List.getD_cons_succ]
    iterate 3
      refine wpMix_free (fun K hK => ?_); go_simp; refine hK _ ?_; clear hK K
    refine wpMix_yield (v := .slice qa a.length da) (fun V hV => ?_) (fun K hK => ?_)
    · have hV1 := hV.1
      go_simp
    go_simp
    refine hK _ ?_
    clear hK K
    iterate 3
      refine wpMix_free (fun K hK => ?_); go_simp; refine hK _ ?_; clear hK K
    refine wpMix_yield (v := .slice qb b.length db) (fun V hV => ?_) (fun K hK => ?_)
    · have hV1 := hV.2
      go_simp
    go_simp
    refine hK _ ?_
    clear hK K
    refine wpMix_one (fun K hK => ?_)
    go_wp2_with fail
    refine hcl.mono ?_
    rintro e wz ⟨⟨z, rfl, hz⟩, kz⟩
    have a1z := kz.cell (kdr.cell a1 (fun h => h)) (fun h => h)
    have b1z := kz.cell (kdr.cell b1 (fun h => h)) (fun h => h)
    have HZ := shut hz
    have KK := KL.trans (kdr.trans kz (fun _ h _ => h)) (fun _ h _ => h)
    clear hz hcl kz
    go_wp2_with fail
    refine hK _ _ ⟨a1z, b1z⟩ ?_
    clear hK K
    repeat (refine wpMix_free (fun K hK => ?_); go_simp; refine hK _ ?_; clear hK K)
    refine wpMix_nil ?_
    cases z with
    | true =>
      go_wp2_with fail
      go_roundw
      case rel => exact ⟨t + 1, by go_num, by omega, KK, shut (take_eq HA.out HB.out HT.out (HZ.out.1 rfl))⟩
      case measure => (simp [intOf]; try omega)
    | false =>
      go_wp2_with fail
      go_ret
      exact tells_f (ne_at HA.out HB.out (fun q => by have := HZ.out.2 q; cases this)) KK

end Go.Proofs.YtiliajnijjkcdaaDoor
