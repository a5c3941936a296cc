/- Package manifest: Index, walked. -/
import Derived.Test.YtiliajnijjkcdaaDoorMan16
namespace Go.Proofs.YtiliajnijjkcdaaDoor
open Go.RowKit

attribute [local go_sem ↓] exec_mid_src exec_store_src
attribute [local go_sem] rowOk_new World.setRow_alloc_new aggOk_src

/-- The rows so far. -/
structure IdxO (w wx : World) (l : List SrcD) (i : Nat) (ao : Option Addr) (cap : Nat) (vs : List Value) (R : List (List Int)) : Prop where
  keep : Keeps (fun b => w.heap.size ≤ b) w wx
  row : RowR wx 23 ao cap vs
  new : ∀ g, blockOf ao = some g → w.heap.size ≤ g
  vlen : vs.length = i
  rlen : R.length = i
  all : idxAll l 0 (l.take i) = (0, 0, R)
  ints : ∀ (j : Nat) (x : List Int), R[j]? = some x → ∃ v, vs[j]? = some v ∧ IntsIs wx x v
theorem IdxO.keeps {w wx wy : World} {l : List SrcD} {i : Nat} {ao : Option Addr} {cap : Nat} {vs : List Value} {R : List (List Int)} (h : IdxO w wx l i ao cap vs R) (K : Keeps (fun b => wx.heap.size ≤ b) wx wy) : IdxO w wy l i ao cap vs R :=
  ⟨h.keep.trans K (fun b hb hlt => by have := h.keep.size; omega), h.row.keeps K (fun g hg q => by have := h.row.lt hg; omega), h.new, h.vlen, h.rlen, h.all, fun j x hx => by
    obtain ⟨v, e1, e2⟩ := h.ints j x hx
    exact ⟨v, e1, e2.keeps K (fun g cur hc q => by have := lt_of_block hc; omega)⟩⟩

set_option maxRecDepth 100000 in
set_option linter.unusedSimpArgs false in
set_option maxHeartbeats 8000000 in
theorem index_any {S : Nat → Prop} (l : List SrcD) (w : World) {al : Option Addr} (cl : Nat) (hl : SlIs S w 3 (SrcIs S w) al l) (h64 : l.length ≤ 1000000) (hd64 : ∀ d ∈ l, d.deps.length ≤ 1000000) :
    Calls Tryd.prog 13 #[.slice al l.length cl] w (IdxPost w (idxL l)) := by
  have HL := shut hl
  have HD := shut hd64
  obtain ⟨n, hn⟩ : ∃ n, l.length = n := ⟨_, rfl⟩
  rw [hn] at h64 ⊢
  have HN := shut hn
  obtain ⟨RR, hRR⟩ : ∃ RR, idxL l = RR := ⟨_, rfl⟩
  rw [hRR]
  have HRR := shut hRR
  clear hl hd64 hn hRR
  have H0 : Shut (∃ ao cap vs R, (Value.slice none 0 0) = .slice ao 0 cap ∧ IdxO w w l 0 ao cap vs R) := shut ⟨none, 0, [], [], rfl, Keeps.refl _ _, rowR_nil _ _, fun g hg => (by cases hg), rfl, rfl, rfl, fun j x hx => (by simp at hx)⟩
  go_enter Tryd.func13, Tryd.ntmps13
  go_wp2_with fail
  go_loopw [4, 5, 6, 7, 9, 10, 13] (fun s4 _ _ _ _ _ s13 wx => ∃ (i : Nat) (ao : Option Addr) (cap : Nat) (vs : List Value) (R : List (List Int)), s13 = .int .i64 i ∧ s4 = .slice ao i cap ∧ i ≤ n ∧ Shut (IdxO w wx l i ao cap vs R)) (fun _ _ _ _ _ _ s13 _ => n - (intOf s13).toNat)
  case atStart =>
    obtain ⟨ao, cap, vs, R, e, h⟩ := H0.out
    exact ⟨0, ao, cap, vs, R, rfl, e, Nat.zero_le _, shut h⟩
  case round =>
    obtain ⟨i, ao, cap, vs, R, rfl, rfl, hi, HO⟩ := hrel
    clear H0
    by_cases hlt : i < n
    rotate_left
    · obtain rfl : i = n := by omega
      have m1 : ¬ (i : Int) < i := by omega
      have hfin : IdxPost w RR (.returned (.tuple #[.slice ao i cap, .nilIface])) wr := by
        have h := HO.out
        have ha := h.all
        rw [List.take_of_length_le (Nat.le_of_eq HN.out)] at ha
        have : RR = (0, 0, R) := by rw [← HRR.out]; exact ha
        subst this
        exact ⟨keepsHi h.keep, .inl ⟨rfl, ao, cap, vs, by rw [h.rlen], h.row, by rw [h.vlen, h.rlen], h.ints⟩⟩
      have HF := shut hfin
      clear hfin HO HRR HL HD
      go_wp2_with fail
      go_ret2
      exact HF.out
    have m1 : (i : Int) < n := by omega
    have m0 : (0 : Int) ≤ i := by omega
    obtain ⟨x, hx⟩ : ∃ x, l[i]? = some x := ⟨_, List.getElem?_eq_getElem (by rw [HN.out]; exact hlt)⟩
    have kw := keepsHi HO.out.keep
    obtain ⟨g1, o1, rfl, -, cs, l1, r1, i1⟩ := (HL.out.keeps kw (fun _ _ h => h) (fun _ h => h) (fun _ _ _ h => h.keeps kw (fun _ _ h => h) (fun _ h => h))).get hx
    have hdl := HD.out x (List.mem_of_getElem? hx)
    have HX := shut hx
    clear hx
    have ag1 := agg_ok l1 i1.one
    have hk := midOk_range r1
    have ho := midOf_range r1
    rw [l1] at hk ho
    obtain ⟨x_name, x_deps, x_text⟩ := x
    obtain ⟨q, d, rfl, -, -, ⟨hcd, -⟩, hxd⟩ := i1
    simp only at ag1 hxd hcd hdl ho
    unfold txV at ag1 ho
    have ka : Keeps Nothing wr (wr.alloc (.cells #[.string ⟨x_name.toArray⟩, .slice q x_deps.length d, .string ⟨x_text.toArray⟩] 43)) := (Keeps.refl Nothing wr).alloc _
    have BX := blk_new wr #[.string ⟨x_name.toArray⟩, .slice q x_deps.length d, .string ⟨x_text.toArray⟩] 43
    have HO1 := shut (HO.out.keeps (ka.mono (fun _ h _ => h.elim)))
    have HXD := shut (hxd.keeps ka (fun _ _ h => h) (fun _ h => h) (fun _ _ _ h => h))
    obtain ⟨m, hm⟩ : ∃ m, x_deps.length = m := ⟨_, rfl⟩
    rw [hm] at BX hcd hdl ag1 ho
    rw [hm] at HO1 HXD ka
    have HM := shut hm
    clear hxd hm r1 l1 HO kw
    go_upto_region 5 with fail
    clear hk ho ag1
    have hgx := lt_of_block BX
    have hszr : wr.heap.size ≤ (wr.alloc (.cells #[.string ⟨x_name.toArray⟩, .slice q m d, .string ⟨x_text.toArray⟩] 43)).heap.size := ka.size
    clear ka
    generalize wr.alloc (.cells #[.string ⟨x_name.toArray⟩, .slice q m d, .string ⟨x_text.toArray⟩] 43) = wb at *
    generalize wr.heap.size = gx at *
    have ex1 := blk_cell BX 1 (v := .slice q m d) rfl
    have H1 : Shut (∃ aR cR row, (Value.slice none 0 0) = .slice aR 0 cR ∧ (RowR wb 3 aR cR (row.map intV) ∧ (∀ g, blockOf aR = some g → wb.heap.size ≤ g) ∧ row.length = 0 ∧ idxRow l (x_deps.take 0) = some row)) := shut ⟨none, 0, [], rfl, rowR_nil _ _, fun g hg => (by cases hg), rfl, rfl⟩
    go_wp2_with fail
    go_loopw [7, 9, 10, 21] (fun s7 _ _ s21 wx => ∃ (t : Nat) (aR : Option Addr) (cR : Nat) (row : List Int), s21 = .int .i64 t ∧ s7 = .slice aR t cR ∧ t ≤ m ∧ Keeps (fun b => wb.heap.size ≤ b) wb wx ∧ Shut (RowR wx 3 aR cR (row.map intV) ∧ (∀ g, blockOf aR = some g → wb.heap.size ≤ g) ∧ row.length = t ∧ idxRow l (x_deps.take t) = some row)) (fun _ _ _ s21 _ => m - (intOf s21).toNat)
    case atStart =>
      obtain ⟨aR, cR, row, e, h⟩ := H1.out
      exact ⟨0, aR, cR, row, rfl, e, Nat.zero_le _, Keeps.refl _ _, shut h⟩
    case round =>
      obtain ⟨t, aR, cR, row, rfl, rfl, ht, K, HR⟩ := hrel
      clear H1
      by_cases hlt2 : t < m
      rotate_left
      · obtain rfl : t = m := by omega
        have q1 : ¬ (t : Int) < t := by omega
        have HO2 := shut (HO1.out.keeps K)
        have kv := (Keeps.refl Nothing wr).alloc (.cells #[.slice aR t cR] 23)
        have BV := blk_new wr #[.slice aR t cR] 23
        have HO3 := shut (HO2.out.keeps (kv.mono (fun _ h _ => h.elim)))
        have HVL := shut HO3.out.vlen
        have hvb : i ≤ 1000000000 := by omega
        have hks1 : w.heap.size ≤ wr.heap.size := HO2.out.keep.size
        clear HO2
        go_wp2_with (at_builtin; refine wpList_appNs _ rfl (.tmp 37) (.tmp 39) rfl ao cap vs i HVL.out rfl HO3.out.row _ (.slice aR t cR) rfl rfl BV hvb ?_)
        intro a2 c2 w3 R2 k2 mv
        have HR2 := HR.out
        have hrow : idxRow l x_deps = some row := by have := HR2.2.2.2; rwa [List.take_of_length_le (Nat.le_of_eq HM.out)] at this
        have hst := (idxAll_upto l l 0 i R _ HO3.out.all HX.out).2 row hrow
        have hio : ∀ g cur, Blk (wr.alloc (.cells #[.slice aR t cR] 23)) g cur 3 → ¬ blockOf ao = some g := fun g cur hc q => HO3.out.row.ne hc (by decide) q
        have hnew : IntsIs w3 row (.slice aR t cR) := by
          have h1 : IntsIs (wr.alloc (.cells #[.slice aR t cR] 23)) row (.slice aR t cR) := ⟨aR, cR, by rw [HR2.2.2.1], HR2.1.keepsN kv⟩
          exact h1.keeps k2 hio
        have HO4 : Shut (IdxO w w3 l (i + 1) a2 c2 (vs ++ [.slice aR t cR]) (R ++ [row])) := shut ⟨HO3.out.keep.trans k2 (fun g hg _ => HO3.out.new g hg), R2, fun g hg => moved_ge mv HO3.out.new (by omega) hg, by rw [List.length_append, HVL.out]; rfl, by rw [List.length_append, HO3.out.rlen]; rfl, hst, fun j y hy => by
          by_cases hj : j < R.length
          · rw [List.getElem?_append_left hj] at hy
            obtain ⟨v, e1, e2⟩ := HO3.out.ints j y hy
            exact ⟨v, by rw [List.getElem?_append_left (by rw [HVL.out, ← HO3.out.rlen]; exact hj)]; exact e1, e2.keeps k2 hio⟩
          · have hj2 : j = R.length := by
              have := (List.getElem?_eq_some_iff.1 hy).1
              simp at this
              omega
            subst hj2
            rw [List.getElem?_concat_length] at hy
            obtain rfl := Option.some.inj hy
            exact ⟨_, by rw [HO3.out.rlen, ← HVL.out, List.getElem?_concat_length], hnew⟩⟩
        clear HO3 HR HR2 hrow hst hio hnew R2 k2 mv kv BV HO1
        go_wp2_with fail
        go_roundw
        case rel => exact ⟨i + 1, a2, c2, _, _, by go_num, rfl, by omega, HO4⟩
        case measure => simp [intOf]; omega
      have q1 : (t : Int) < m := by omega
      have q0 : (0 : Int) ≤ t := by omega
      obtain ⟨d0, hd0⟩ : ∃ d0, x_deps[t]? = some d0 := ⟨_, List.getElem?_eq_getElem (by rw [HM.out]; exact hlt2)⟩
      have kw2 : Keeps Nothing w wr := keepsHi (HO1.out.keep.trans K (fun b hb hlt => by have := HO1.out.keep.size; omega))
      have HXD2 := HXD.out.keeps (keepsHi K) (fun _ _ h => h) (fun _ h => h) (fun _ _ _ h => h)
      obtain ⟨b1, p1, rfl, hdc, -⟩ := tx_cell HXD2 hd0
      have HD0 := shut hd0
      clear hd0 HXD2
      have kd : Keeps Nothing wr (wr.alloc (.cells #[.string ⟨d0.toArray⟩] 9)) := (Keeps.refl Nothing wr).alloc _
      have BD := blk_new wr #[.string ⟨d0.toArray⟩] 9
      have hcd0 := blk_cell BD 0 (v := .string ⟨d0.toArray⟩) rfl
      have kwd := kw2.trans kd (fun _ h _ => h)
      have hix := index_src 29 ent_index1 (.pointer (some ⟨wr.heap.size, 0, none⟩)) (p := fun a => a.name = d0) (wr.alloc (.cells #[.string ⟨d0.toArray⟩] 9))
        (fun a _ W cs hW ha => index1_any a W cs ha wr.heap.size d0 (hW.cell hcd0 (fun h => h))) cl (HL.out.keeps kwd (fun _ _ h => h) (fun _ h => h) (fun _ _ _ h => h.keeps kwd (fun _ _ h => h) (fun _ h => h)))
      rw [HN.out] at hix
      clear kw2
      go_wp2_with fail
      refine hix.mono ?_
      rintro e w3 ⟨⟨z, rfl, hz⟩, k3⟩
      have hzi := idx_first d0 l z hz
      have HZ := shut hzi
      have kS := kd.trans k3 (fun _ h _ => h)
      have KK : Keeps (fun b => wb.heap.size ≤ b) wb w3 := K.trans kS (fun _ h _ => h.elim)
      have HR3 : Shut (RowR w3 3 aR cR (row.map intV)) := shut (HR.out.1.keepsN kS)
      clear hix hz hzi hdc kd BD hcd0 k3 kS
      by_cases hneg : z < 0
      · have hrow := (idxRow_upto l x_deps t row d0 HR.out.2.2.2 HD0.out).1 (by rw [HZ.out]; exact hneg)
        have hst := (idxAll_upto l l 0 i R _ HO1.out.all HX.out).1 hrow
        rw [Nat.zero_add] at hst
        have hrr : RR = (41, i, []) := by rw [← HRR.out]; exact hst
        have kfin := shut (keepsHi (HO1.out.keep.trans KK (fun b hb hlt => by have := HO1.out.keep.size; omega)))
        have hn := new_code 41 (i : Int) w3
        subst hrr
        clear HRR HR HR3 HZ hrow hst HO1 HXD HL HD K KK HD0
        go_wp2_with fail
        refine hn.mono ?_
        rintro e w4 ⟨ev, rfl, k4, hev⟩
        rcases hev with ⟨h, _⟩ | ⟨hc, ⟨b, rfl⟩, hE⟩
        · exact absurd h (by decide)
        have hE := shut hE
        clear hn
        go_wp2_with fail
        go_ret2
        exact ⟨kfin.out.trans k4 (fun _ h _ => h), .inr ⟨by show ¬ (41 : Int) = 0; decide, _, rfl, ⟨b, rfl⟩, hE.out.mono kfin.out.size⟩⟩
      · have kb := (Keeps.refl Nothing w3).alloc (.cells #[.int .i64 z] 3)
        have BZ := blk_new w3 #[.int .i64 z] 3
        have hsrow := (idxRow_upto l x_deps t row d0 HR.out.2.2.2 HD0.out).2 (by rw [HZ.out]; exact hneg)
        rw [HZ.out] at hsrow
        have HSR := shut hsrow
        have HR4 : Shut (RowR (w3.alloc (.cells #[.int .i64 z] 3)) 3 aR cR (row.map intV)) := shut (HR3.out.keepsN kb)
        have HRL : Shut ((row.map intV).length = t) := shut (by rw [List.length_map]; exact HR.out.2.2.1)
        have HRN : Shut (∀ g, blockOf aR = some g → wb.heap.size ≤ g) := shut HR.out.2.1
        have HRE : Shut (row.length = t) := shut HR.out.2.2.1
        have htb : t ≤ 1000000000 := by omega
        have KB : Keeps (fun b => wb.heap.size ≤ b) wb (w3.alloc (.cells #[.int .i64 z] 3)) := KK.trans kb (fun _ h _ => h.elim)
        have hks : wb.heap.size ≤ w3.heap.size := KK.size
        clear hsrow HR HR3 HZ K KK HD0 kb
        go_wp2_with (at_builtin; refine wpList_appN _ rfl (.tmp 32) (.tmp 34) rfl aR cR (row.map intV) t HRL.out rfl HR4.out _ (.int .i64 z) rfl rfl BZ htb ?_)
        intro a2 c2 w5 R2 k2 mv
        have KF : Keeps (fun b => wb.heap.size ≤ b) wb w5 := KB.trans k2 (fun g hg _ => HRN.out g hg)
        have HRF : Shut (RowR w5 3 a2 c2 ((row ++ [z]).map intV) ∧ (∀ g, blockOf a2 = some g → wb.heap.size ≤ g) ∧ (row ++ [z]).length = t + 1 ∧ idxRow l (x_deps.take (t + 1)) = some (row ++ [z])) :=
          shut ⟨by rw [List.map_append]; exact R2, fun g hg => moved_ge mv HRN.out (by omega) hg, by rw [List.length_append, HRE.out]; rfl, HSR.out⟩
        clear HSR HR4 HRL HRN HRE KB BZ R2 k2 mv
        go_wp2_with fail
        go_roundw
        case rel => exact ⟨t + 1, a2, c2, _, by go_num, rfl, by omega, KF, HRF⟩
        case measure => simp [intOf]; omega

end Go.Proofs.YtiliajnijjkcdaaDoor
