/- Rows of elements compared by a function that is handed in; tree.SameType. -/
import Derived.Test.YtjbcagbnagefcaaTree2
namespace Go.Proofs.Ytjbcagbnagefcaa
open Go.RowKit

attribute [local go_sem ↓] exec_mid_ty exec_store_ty exec_mid_pl exec_store_pl exec_mid_opr exec_store_opr exec_mid_val exec_store_val exec_mid_st exec_store_st exec_mid_fld exec_store_fld exec_mid_str exec_store_str exec_mid_lif exec_store_lif exec_mid_fun exec_store_fun exec_mid_cr exec_store_cr
attribute [local go_sem] rowOk_new World.setRow_alloc_new

set_option maxRecDepth 100000 in
set_option maxHeartbeats 4000000 in
theorem eqf_ty (f : FuncId) (hcf : Entered f) {S S' : Nat → Prop} {l m : List TyD} (hf : ∀ a ∈ l, ∀ b ∈ m, ∀ (W : World) (cs ds : List Value), TyIs S W a cs → TyIs S' W b ds → Calls Try.prog f #[.agg cs.toArray, .agg ds.toArray] W (Tells W (a = b)))
    (w : World) {ax ay : Option Addr} (cx cy : Nat) (hx : SlIs S w 4 (TyIs S w) ax l) (hy : SlIs S' w 4 (TyIs S' w) ay m) :
    Calls Try.prog 65 #[.slice ax l.length cx, .slice ay m.length cy, .func (.func f) #[] #[]] w (Tells w (l = m)) := by
  have hlx := hx.1
  have hly := hy.1
  unfold bigN at hlx hly
  have HX := shut hx
  have HY := shut hy
  have HF := shut hf
  clear hx hy hf
  by_cases hne : l.length = m.length
  · obtain ⟨n, hn⟩ : ∃ n, l.length = n := ⟨_, rfl⟩
    have hm : m.length = n := by omega
    rw [hn, hm]
    rw [hn] at hlx
    clear hne hly
    have HN := shut hn
    have HM := shut hm
    clear hn hm
    go_enter Try.func65, Try.ntmps65
    go_wp2_with fail
    go_loopw [7, 8, 9, 17] (fun s7 s8 s9 s17 wx => ∃ t : Nat, s17 = .int .i64 t ∧ t ≤ n ∧ Keeps Nothing w wx ∧ Shut (l.take t = m.take t)) (fun _ _ _ s17 _ => n - (intOf s17).toNat)
    case atStart => exact ⟨0, rfl, Nat.zero_le _, Keeps.refl _ _, shut (by simp)⟩
    case round =>
      obtain ⟨t, rfl, ht, K, HT⟩ := hrel
      by_cases hlt : t < n
      · obtain ⟨a, ha⟩ : ∃ a, l[t]? = some a := ⟨_, List.getElem?_eq_getElem (by rw [HN.out]; exact hlt)⟩
        obtain ⟨b, hb⟩ : ∃ b, m[t]? = some b := ⟨_, List.getElem?_eq_getElem (by rw [HM.out]; exact hlt)⟩
        have HA := shut ha
        have HB := shut hb
        obtain ⟨g1, o1, rfl, -, cs, l1, r1, i1⟩ := (HX.out.keeps K (fun _ _ h => h) (fun _ h => h) (fun _ _ _ h => h.keeps K (fun _ _ h => h) (fun _ h => h))).get ha
        obtain ⟨g2, o2, rfl, -, ds, l2, r2, i2⟩ := (HY.out.keeps K (fun _ _ h => h) (fun _ h => h) (fun _ _ _ h => h.keeps K (fun _ _ h => h) (fun _ h => h))).get hb
        have ag1 := agg_ok l1 i1.one
        have ag2 := agg_ok l2 i2.one
        have hcm := List.mem_of_getElem? ha
        have hdm := List.mem_of_getElem? hb
        clear ha hb
        have m0 : (0 : Int) ≤ t := by omega
        have m1 : (t : Int) < n := by omega
        have hk := midOk_range r1
        have ho := midOf_range r1
        rw [l1] at hk ho
        have hz : cs.toArray.size = 4 := by simpa using l1
        obtain ⟨C, hC⟩ : ∃ C, C = cs.toArray := ⟨_, rfl⟩
        rw [← hC] at ag1 ho hz
        have HC := shut hC
        clear hC
        go_upto_region 6 with fail
        have kb1 : Keeps Nothing wr (wr.alloc (.cells C 33)) := (Keeps.refl Nothing wr).alloc _
        have bx1 := blk_new wr C 33
        have r2' := rangeAt_keeps r2 kb1 (fun h => h)
        clear hk ho r2
        generalize hgx1 : wr.heap.size = gx1 at *
        clear hgx1
        have hk := midOk_range r2'
        have ho := midOf_range r2'
        rw [l2] at hk ho
        have hz2 : ds.toArray.size = 4 := by simpa using l2
        obtain ⟨D, hD⟩ : ∃ D, D = ds.toArray := ⟨_, rfl⟩
        rw [← hD] at ag2 ho hz2
        have HD := shut hD
        clear hD
        have KB := K.trans kb1 (fun _ h _ => h)
        have j1 := i1.keeps kb1 (fun _ _ h => h) (fun _ h => h)
        have j2 := i2.keeps kb1 (fun _ _ h => h) (fun _ h => h)
        clear i1 i2 kb1 K r1
        generalize wr.alloc (.cells C 33) = w1 at *
        go_upto_region 7 with fail
        have kb2 : Keeps Nothing w1 (w1.alloc (.cells D 33)) := (Keeps.refl Nothing w1).alloc _
        have bx2 := blk_new w1 D 33
        have bx1 := kb2.blk bx1 (fun h => h)
        have KC := KB.trans kb2 (fun _ h _ => h)
        have q1 := j1.keeps kb2 (fun _ _ h => h) (fun _ h => h)
        have q2 := j2.keeps kb2 (fun _ _ h => h) (fun _ h => h)
        clear hk ho r2' j1 j2 kb2 KB
        generalize hgx2 : w1.heap.size = gx2 at *
        clear hgx2
        generalize w1.alloc (.cells D 33) = w2 at *
        obtain ⟨y1, y2⟩ := tblk_mid bx1 hz
        obtain ⟨y3, y4⟩ := tblk_mid bx2 hz2
        have hcall := HF.out a hcm b hdm w2 cs ds q1 q2
        rw [← HC.out, ← HD.out] at hcall
        clear q1 q2 bx1 bx2
        have hcf2 := hcf #[.agg C, .agg D] w2
        go_wp2_with fail
        clear hcf2
        refine hcall.mono ?_
        rintro e w3 ⟨⟨z, rfl, hzz⟩, k3⟩
        have KD := KC.trans k3 (fun _ h _ => h)
        have HZ := shut hzz
        clear hcall y1 y2 y3 y4 KC k3 hzz
        cases z with
        | true =>
          have HAB := shut (HZ.out.1 rfl)
          clear HZ
          go_wp2_with fail
          go_roundw
          case rel => exact ⟨t + 1, by go_num, by omega, KD, shut (take_eq HA.out HB.out HT.out HAB.out)⟩
          case measure => simp [intOf]; omega
        | false =>
          have HAB : Shut (a ≠ b) := shut (fun h => by have h2 := HZ.out.2 h; cases h2)
          clear HZ
          go_wp2_with fail
          go_ret
          exact tells_f (ne_at HA.out HB.out HAB.out) KD
      · obtain rfl : t = n := by omega
        have m1 : ¬ (t : Int) < t := by omega
        go_wp2_with fail
        go_ret
        refine tells_t ?_ K
        have h := HT.out
        rwa [List.take_of_length_le (Nat.le_of_eq HN.out), List.take_of_length_le (Nat.le_of_eq HM.out)] at h
  · have hne' : ¬ (l.length : Int) = m.length := by omega
    have hl : l ≠ m := fun h => hne (by rw [h])
    go_enter Try.func65, Try.ntmps65
    go_wp2_with fail
    go_ret
    exact tells_f hl (Keeps.refl _ _)

set_option maxHeartbeats 1000000 in
theorem each_ty (f : FuncId) (hcf : Entered f) {S S' : Nat → Prop} {l m : List TyD} (hf : ∀ a ∈ l, ∀ b ∈ m, ∀ (W : World) (cs ds : List Value), TyIs S W a cs → TyIs S' W b ds → Calls Try.prog f #[.agg cs.toArray, .agg ds.toArray] W (Tells W (a = b)))
    (w : World) {ax ay : Option Addr} (cx cy : Nat) (hx : SlIs S w 4 (TyIs S w) ax l) (hy : SlIs S' w 4 (TyIs S' w) ay m) :
    Calls Try.prog 38 #[.slice ax l.length cx, .slice ay m.length cy, .func (.func f) #[] #[]] w (Tells w (l = m)) := by
  have h := eqf_ty f hcf hf w cx cy hx hy
  clear hf hcf hx hy
  go_enter Try.func38, Try.ntmps38
  go_wp2_with fail
  refine h.mono ?_
  rintro e w1 ⟨⟨z, rfl, hz⟩, k⟩
  have HZ := shut hz
  clear hz h
  go_wp2_with fail
  go_ret
  exact tells_z HZ.out k
theorem ent_sameType : Entered 15 := entered_of Try.func15 (by kernel_rfl) (by kernel_rfl)
set_option maxRecDepth 100000 in
set_option maxHeartbeats 4000000 in
theorem sameType_any {S S' : Nat → Prop} : ∀ (a b : TyD) (w : World) (cs ds : List Value), TyIs S w a cs → TyIs S' w b ds → Calls Try.prog 15 #[.agg cs.toArray, .agg ds.toArray] w (Tells w (a = b)) := by
  refine TyD.ind ?_
  intro a_kind a_name a_lives a_elem ih_elem b w cs ds ha hb
  obtain ⟨b_kind, b_name, b_lives, b_elem⟩ := b
  have hih_elem : ∀ a ∈ a_elem, ∀ b ∈ b_elem, ∀ (W : World) (cs ds : List Value), TyIs S W a cs → TyIs S' W b ds → Calls Try.prog 15 #[.agg cs.toArray, .agg ds.toArray] W (Tells W (a = b)) := fun a h b _ W cs ds => ih_elem a h b W cs ds
  have HI_elem := shut hih_elem
  clear hih_elem ih_elem
  have ag1 := agg_ok ha.len ha.one
  have ag2 := agg_ok hb.len hb.one
  rw [tyIs_iff] at ha hb
  obtain ⟨p2, q2, p3, q3, hcs, ah_name, ah_lives, ah_elem⟩ := ha
  have HCA := shut hcs
  clear hcs
  obtain ⟨x2, y2, x3, y3, hcs, bh_name, bh_lives, bh_elem⟩ := hb
  have HCB := shut hcs
  clear hcs
  simp only [TyD.kind, TyD.name, TyD.lives, TyD.elem] at ah_name bh_name ah_lives bh_lives ah_elem bh_elem HCA HCB
  have HE : Shut ((TyD.mk a_kind a_name a_lives a_elem) = (TyD.mk b_kind b_name b_lives b_elem) ↔ a_kind = b_kind ∧ a_name = b_name ∧ a_lives = b_lives ∧ a_elem = b_elem) := shut (by rw [TyD.mk.injEq])
  obtain ⟨XA, hXA⟩ : ∃ X, X = TyD.mk a_kind a_name a_lives a_elem := ⟨_, rfl⟩
  obtain ⟨XB, hXB⟩ : ∃ X, X = TyD.mk b_kind b_name b_lives b_elem := ⟨_, rfl⟩
  rw [← hXA, ← hXB] at HE ⊢
  clear hXA hXB
  obtain ⟨CA, hCA⟩ : ∃ C, C = cs.toArray := ⟨_, rfl⟩
  obtain ⟨CB, hCB⟩ : ∃ C, C = ds.toArray := ⟨_, rfl⟩
  rw [← hCA] at ag1 ⊢
  rw [← hCB] at ag2 ⊢
  rw [HCA.out] at hCA
  rw [HCB.out] at hCB
  have GCA := shut hCA
  have GCB := shut hCB
  clear hCA hCB HCA HCB
  have KW : Keeps Nothing w ((w.alloc (.cells CA 33)).alloc (.cells CB 33)) := ((Keeps.refl Nothing w).alloc _).alloc _
  have BA : Blk ((w.alloc (.cells CA 33)).alloc (.cells CB 33)) w.heap.size CA 33 := blk_alloc (blk_new w CA 33) _
  have BB : Blk ((w.alloc (.cells CA 33)).alloc (.cells CB 33)) (w.heap.size + 1) CB 33 := by have h := blk_new (w.alloc (.cells CA 33)) CB 33; rwa [World.size_alloc] at h
  go_enter Try.func15, Try.ntmps15
  obtain ⟨ae0, ae1, ae2, -⟩ := TyB  GCA.out BA
  obtain ⟨be0, be1, be2, -⟩ := TyB  GCB.out BB
  have ac0 := blk_inv BA ae0
  have bc0 := blk_inv BB be0
  have ac1 := blk_inv BA ae1
  have bc1 := blk_inv BB be1
  have ac2 := blk_inv BA ae2
  have bc2 := blk_inv BB be2
  by_cases e_kind : a_kind = b_kind
  rotate_left
  · have hno : Shut (¬ XA = XB) := shut (fun h => e_kind ((HE.out.1 h).1))
    clear HE GCA GCB BA BB
    unfold txV at *
    go_wp2_with fail
    go_ret
    exact tells_f hno.out KW
  subst e_kind
  by_cases e_name : a_name = b_name
  rotate_left
  · have hno : Shut (¬ XA = XB) := shut (fun h => e_name ((HE.out.1 h).2.1))
    clear HE GCA GCB BA BB
    have hq : (a_name == b_name) = false := by rw [beq_eq_false_iff_ne]; exact e_name
    unfold txV at *
    go_wp2_with fail
    go_ret
    exact tells_f hno.out KW
  subst e_name
  have hq_name : (a_name == a_name) = true := beq_self_eq_true _
  have hc := equal_tx ((w.alloc (.cells CA 33)).alloc (.cells CB 33)) q2 y2 (ah_lives.keeps KW (fun _ _ h => h) (fun _ h => h) (fun _ _ _ h => h)) (bh_lives.keeps KW (fun _ _ h => h) (fun _ h => h) (fun _ _ _ h => h))
  unfold txV at *
  go_wp2_with fail
  refine hc.mono ?_
  rintro e w1 ⟨⟨z, rfl, hz⟩, k1⟩
  have KW := KW.trans k1 (fun _ h _ => h)
  have BA := k1.blk BA (fun h => h)
  have BB := k1.blk BB (fun h => h)
  clear hc k1 ae0 ac0 be0 bc0 ae1 ac1 be1 bc1 ae2 ac2 be2 bc2 hq_name
  cases z
  · have hno : Shut (¬ XA = XB) := shut (fun h => by have h2 := hz.2 ((HE.out.1 h).2.2.1); cases h2)
    clear HE GCA GCB BA BB hz
    go_wp2_with fail
    go_ret
    exact tells_f hno.out KW
  have E_lives := shut (hz.1 rfl)
  clear hz
  obtain ⟨-, -, -, ae3⟩ := TyB  GCA.out BA
  obtain ⟨-, -, -, be3⟩ := TyB  GCB.out BB
  have hc := each_ty _ ent_sameType HI_elem.out w1 q3 y3 (ah_elem.keeps KW (fun _ _ h => h) (fun _ h => h) (fun _ _ _ h => h.keeps KW (fun _ _ h => h) (fun _ h => h))) (bh_elem.keeps KW (fun _ _ h => h) (fun _ h => h) (fun _ _ _ h => h.keeps KW (fun _ _ h => h) (fun _ h => h)))
  skip
  go_wp2_with fail
  refine hc.mono ?_
  rintro e w2 ⟨⟨z, rfl, hz⟩, k2⟩
  have KW := KW.trans k2 (fun _ h _ => h)
  have BA := k2.blk BA (fun h => h)
  have BB := k2.blk BB (fun h => h)
  clear hc k2 ae3 be3
  cases z
  · have hno : Shut (¬ XA = XB) := shut (fun h => by have h2 := hz.2 ((HE.out.1 h).2.2.2); cases h2)
    clear HE GCA GCB BA BB hz
    go_wp2_with fail
    go_ret
    exact tells_f hno.out KW
  have E_elem := shut (hz.1 rfl)
  clear hz
  go_wp2_with fail
  go_ret
  exact tells_t (HE.out.2 ⟨(by first | rfl | trivial), (by first | rfl | trivial), E_lives.out, E_elem.out⟩) KW
set_option maxRecDepth 100000 in
set_option maxHeartbeats 4000000 in
theorem samePlace_any {S S' : Nat → Prop} (a b : PlD) (w : World) (cs ds : List Value) (ha : PlIs S w a cs) (hb : PlIs S' w b ds) : Calls Try.prog 83 #[.agg cs.toArray, .agg ds.toArray] w (Tells w (a = b)) := by
  obtain ⟨a_name, a_path⟩ := a
  obtain ⟨b_name, b_path⟩ := b
  have ag1 := agg_ok ha.len ha.one
  have ag2 := agg_ok hb.len hb.one
  obtain ⟨p1, q1, hcs, ah_name, ah_path⟩ := ha
  have HCA := shut hcs
  clear hcs
  obtain ⟨x1, y1, hcs, bh_name, bh_path⟩ := hb
  have HCB := shut hcs
  clear hcs
  simp only at HCA HCB ah_name bh_name ah_path bh_path
  have HE : Shut ((PlD.mk a_name a_path) = (PlD.mk b_name b_path) ↔ a_name = b_name ∧ a_path = b_path) := shut (by rw [PlD.mk.injEq])
  obtain ⟨XA, hXA⟩ : ∃ X, X = PlD.mk a_name a_path := ⟨_, rfl⟩
  obtain ⟨XB, hXB⟩ : ∃ X, X = PlD.mk b_name b_path := ⟨_, rfl⟩
  rw [← hXA, ← hXB] at HE ⊢
  clear hXA hXB
  obtain ⟨CA, hCA⟩ : ∃ C, C = cs.toArray := ⟨_, rfl⟩
  obtain ⟨CB, hCB⟩ : ∃ C, C = ds.toArray := ⟨_, rfl⟩
  rw [← hCA] at ag1 ⊢
  rw [← hCB] at ag2 ⊢
  rw [HCA.out] at hCA
  rw [HCB.out] at hCB
  have GCA := shut hCA
  have GCB := shut hCB
  clear hCA hCB HCA HCB
  have KW : Keeps Nothing w ((w.alloc (.cells CA 39)).alloc (.cells CB 39)) := ((Keeps.refl Nothing w).alloc _).alloc _
  have BA : Blk ((w.alloc (.cells CA 39)).alloc (.cells CB 39)) w.heap.size CA 39 := blk_alloc (blk_new w CA 39) _
  have BB : Blk ((w.alloc (.cells CA 39)).alloc (.cells CB 39)) (w.heap.size + 1) CB 39 := by have h := blk_new (w.alloc (.cells CA 39)) CB 39; rwa [World.size_alloc] at h
  go_enter Try.func83, Try.ntmps83
  obtain ⟨ae0, ae1⟩ := PlB  GCA.out BA
  obtain ⟨be0, be1⟩ := PlB  GCB.out BB
  have ac0 := blk_inv BA ae0
  have bc0 := blk_inv BB be0
  have ac1 := blk_inv BA ae1
  have bc1 := blk_inv BB be1
  by_cases e_name : a_name = b_name
  rotate_left
  · have hno : Shut (¬ XA = XB) := shut (fun h => e_name ((HE.out.1 h).1))
    clear HE GCA GCB BA BB
    have hq : (a_name == b_name) = false := by rw [beq_eq_false_iff_ne]; exact e_name
    unfold txV at *
    go_wp2_with fail
    go_ret
    exact tells_f hno.out KW
  subst e_name
  have hq_name : (a_name == a_name) = true := beq_self_eq_true _
  have hc := equal_tx ((w.alloc (.cells CA 39)).alloc (.cells CB 39)) q1 y1 (ah_path.keeps KW (fun _ _ h => h) (fun _ h => h) (fun _ _ _ h => h)) (bh_path.keeps KW (fun _ _ h => h) (fun _ h => h) (fun _ _ _ h => h))
  unfold txV at *
  go_wp2_with fail
  refine hc.mono ?_
  rintro e w1 ⟨⟨z, rfl, hz⟩, k1⟩
  have KW := KW.trans k1 (fun _ h _ => h)
  have BA := k1.blk BA (fun h => h)
  have BB := k1.blk BB (fun h => h)
  clear hc k1 ae0 ac0 be0 bc0 ae1 ac1 be1 bc1 hq_name
  cases z
  · have hno : Shut (¬ XA = XB) := shut (fun h => by have h2 := hz.2 ((HE.out.1 h).2); cases h2)
    clear HE GCA GCB BA BB hz
    go_wp2_with fail
    go_ret
    exact tells_f hno.out KW
  have E_path := shut (hz.1 rfl)
  clear hz
  go_wp2_with fail
  go_ret
  exact tells_t (HE.out.2 ⟨(by first | rfl | trivial), E_path.out⟩) KW
theorem ent_sameOper : Entered 85 := entered_of Try.func85 (by kernel_rfl) (by kernel_rfl)
set_option maxRecDepth 100000 in
set_option maxHeartbeats 4000000 in
theorem sameOper_any {S S' : Nat → Prop} (a b : OprD) (w : World) (cs ds : List Value) (ha : OprIs S w a cs) (hb : OprIs S' w b ds) : Calls Try.prog 85 #[.agg cs.toArray, .agg ds.toArray] w (Tells w (a = b)) := by
  obtain ⟨a_kind, a_n, a_place⟩ := a
  obtain ⟨b_kind, b_n, b_place⟩ := b
  have ag1 := agg_ok ha.len ha.one
  have ag2 := agg_ok hb.len hb.one
  obtain ⟨s2, hcs, ah_place⟩ := ha
  have HCA := shut hcs
  clear hcs
  obtain ⟨t2, hcs, bh_place⟩ := hb
  have HCB := shut hcs
  clear hcs
  simp only at HCA HCB ah_place bh_place
  have HE : Shut ((OprD.mk a_kind a_n a_place) = (OprD.mk b_kind b_n b_place) ↔ a_kind = b_kind ∧ a_n = b_n ∧ a_place = b_place) := shut (by rw [OprD.mk.injEq])
  obtain ⟨XA, hXA⟩ : ∃ X, X = OprD.mk a_kind a_n a_place := ⟨_, rfl⟩
  obtain ⟨XB, hXB⟩ : ∃ X, X = OprD.mk b_kind b_n b_place := ⟨_, rfl⟩
  rw [← hXA, ← hXB] at HE ⊢
  clear hXA hXB
  obtain ⟨CA, hCA⟩ : ∃ C, C = cs.toArray := ⟨_, rfl⟩
  obtain ⟨CB, hCB⟩ : ∃ C, C = ds.toArray := ⟨_, rfl⟩
  rw [← hCA] at ag1 ⊢
  rw [← hCB] at ag2 ⊢
  rw [HCA.out] at hCA
  rw [HCB.out] at hCB
  have GCA := shut hCA
  have GCB := shut hCB
  clear hCA hCB HCA HCB
  have KW : Keeps Nothing w ((w.alloc (.cells CA 41)).alloc (.cells CB 41)) := ((Keeps.refl Nothing w).alloc _).alloc _
  have BA : Blk ((w.alloc (.cells CA 41)).alloc (.cells CB 41)) w.heap.size CA 41 := blk_alloc (blk_new w CA 41) _
  have BB : Blk ((w.alloc (.cells CA 41)).alloc (.cells CB 41)) (w.heap.size + 1) CB 41 := by have h := blk_new (w.alloc (.cells CA 41)) CB 41; rwa [World.size_alloc] at h
  have al_place := ah_place.len
  have bl_place := bh_place.len
  go_enter Try.func85, Try.ntmps85
  obtain ⟨ae0, ae1, ⟨ae2, af2⟩⟩ := OprB al_place GCA.out BA
  obtain ⟨be0, be1, ⟨be2, bf2⟩⟩ := OprB bl_place GCB.out BB
  have ac0 := blk_inv BA ae0
  have bc0 := blk_inv BB be0
  have ac1 := blk_inv BA ae1
  have bc1 := blk_inv BB be1
  by_cases e_kind : a_kind = b_kind
  rotate_left
  · have hno : Shut (¬ XA = XB) := shut (fun h => e_kind ((HE.out.1 h).1))
    clear HE GCA GCB BA BB
    go_wp2_with fail
    go_ret
    exact tells_f hno.out KW
  subst e_kind
  by_cases e_n : a_n = b_n
  rotate_left
  · have hno : Shut (¬ XA = XB) := shut (fun h => e_n ((HE.out.1 h).2.1))
    clear HE GCA GCB BA BB
    go_wp2_with fail
    go_ret
    exact tells_f hno.out KW
  subst e_n
  have hc := samePlace_any _ _ ((w.alloc (.cells CA 41)).alloc (.cells CB 41)) _ _ (ah_place.keeps KW (fun _ _ h => h) (fun _ h => h)) (bh_place.keeps KW (fun _ _ h => h) (fun _ h => h))
  generalize hsa : s2.toArray = sa at *
  generalize hsb : t2.toArray = sb at *
  clear hsa hsb
  skip
  go_wp2_with fail
  refine hc.mono ?_
  rintro e w1 ⟨⟨z, rfl, hz⟩, k1⟩
  have KW := KW.trans k1 (fun _ h _ => h)
  have BA := k1.blk BA (fun h => h)
  have BB := k1.blk BB (fun h => h)
  clear hc k1 ae0 ac0 be0 bc0 ae1 ac1 be1 bc1 ae2 af2 be2 bf2
  cases z
  · have hno : Shut (¬ XA = XB) := shut (fun h => by have h2 := hz.2 ((HE.out.1 h).2.2); cases h2)
    clear HE GCA GCB BA BB hz
    go_wp2_with fail
    go_ret
    exact tells_f hno.out KW
  have E_place := shut (hz.1 rfl)
  clear hz
  go_wp2_with fail
  go_ret
  exact tells_t (HE.out.2 ⟨(by first | rfl | trivial), (by first | rfl | trivial), E_place.out⟩) KW

set_option maxRecDepth 100000 in
set_option maxHeartbeats 4000000 in
theorem eqf_opr (f : FuncId) (hcf : Entered f) {S S' : Nat → Prop} {l m : List OprD} (hf : ∀ a ∈ l, ∀ b ∈ m, ∀ (W : World) (cs ds : List Value), OprIs S W a cs → OprIs S' W b ds → Calls Try.prog f #[.agg cs.toArray, .agg ds.toArray] W (Tells W (a = b)))
    (w : World) {ax ay : Option Addr} (cx cy : Nat) (hx : SlIs S w 4 (OprIs S w) ax l) (hy : SlIs S' w 4 (OprIs S' w) ay m) :
    Calls Try.prog 101 #[.slice ax l.length cx, .slice ay m.length cy, .func (.func f) #[] #[]] w (Tells w (l = m)) := by
  have hlx := hx.1
  have hly := hy.1
  unfold bigN at hlx hly
  have HX := shut hx
  have HY := shut hy
  have HF := shut hf
  clear hx hy hf
  by_cases hne : l.length = m.length
  · obtain ⟨n, hn⟩ : ∃ n, l.length = n := ⟨_, rfl⟩
    have hm : m.length = n := by omega
    rw [hn, hm]
    rw [hn] at hlx
    clear hne hly
    have HN := shut hn
    have HM := shut hm
    clear hn hm
    go_enter Try.func101, Try.ntmps101
    go_wp2_with fail
    go_loopw [7, 8, 9, 17] (fun s7 s8 s9 s17 wx => ∃ t : Nat, s17 = .int .i64 t ∧ t ≤ n ∧ Keeps Nothing w wx ∧ Shut (l.take t = m.take t)) (fun _ _ _ s17 _ => n - (intOf s17).toNat)
    case atStart => exact ⟨0, rfl, Nat.zero_le _, Keeps.refl _ _, shut (by simp)⟩
    case round =>
      obtain ⟨t, rfl, ht, K, HT⟩ := hrel
      by_cases hlt : t < n
      · obtain ⟨a, ha⟩ : ∃ a, l[t]? = some a := ⟨_, List.getElem?_eq_getElem (by rw [HN.out]; exact hlt)⟩
        obtain ⟨b, hb⟩ : ∃ b, m[t]? = some b := ⟨_, List.getElem?_eq_getElem (by rw [HM.out]; exact hlt)⟩
        have HA := shut ha
        have HB := shut hb
        obtain ⟨g1, o1, rfl, -, cs, l1, r1, i1⟩ := (HX.out.keeps K (fun _ _ h => h) (fun _ h => h) (fun _ _ _ h => h.keeps K (fun _ _ h => h) (fun _ h => h))).get ha
        obtain ⟨g2, o2, rfl, -, ds, l2, r2, i2⟩ := (HY.out.keeps K (fun _ _ h => h) (fun _ h => h) (fun _ _ _ h => h.keeps K (fun _ _ h => h) (fun _ h => h))).get hb
        have ag1 := agg_ok l1 i1.one
        have ag2 := agg_ok l2 i2.one
        have hcm := List.mem_of_getElem? ha
        have hdm := List.mem_of_getElem? hb
        clear ha hb
        have m0 : (0 : Int) ≤ t := by omega
        have m1 : (t : Int) < n := by omega
        have hk := midOk_range r1
        have ho := midOf_range r1
        rw [l1] at hk ho
        have hz : cs.toArray.size = 4 := by simpa using l1
        obtain ⟨C, hC⟩ : ∃ C, C = cs.toArray := ⟨_, rfl⟩
        rw [← hC] at ag1 ho hz
        have HC := shut hC
        clear hC
        go_upto_region 6 with fail
        have kb1 : Keeps Nothing wr (wr.alloc (.cells C 41)) := (Keeps.refl Nothing wr).alloc _
        have bx1 := blk_new wr C 41
        have r2' := rangeAt_keeps r2 kb1 (fun h => h)
        clear hk ho r2
        generalize hgx1 : wr.heap.size = gx1 at *
        clear hgx1
        have hk := midOk_range r2'
        have ho := midOf_range r2'
        rw [l2] at hk ho
        have hz2 : ds.toArray.size = 4 := by simpa using l2
        obtain ⟨D, hD⟩ : ∃ D, D = ds.toArray := ⟨_, rfl⟩
        rw [← hD] at ag2 ho hz2
        have HD := shut hD
        clear hD
        have KB := K.trans kb1 (fun _ h _ => h)
        have j1 := i1.keeps kb1 (fun _ _ h => h) (fun _ h => h)
        have j2 := i2.keeps kb1 (fun _ _ h => h) (fun _ h => h)
        clear i1 i2 kb1 K r1
        generalize wr.alloc (.cells C 41) = w1 at *
        go_upto_region 7 with fail
        have kb2 : Keeps Nothing w1 (w1.alloc (.cells D 41)) := (Keeps.refl Nothing w1).alloc _
        have bx2 := blk_new w1 D 41
        have bx1 := kb2.blk bx1 (fun h => h)
        have KC := KB.trans kb2 (fun _ h _ => h)
        have q1 := j1.keeps kb2 (fun _ _ h => h) (fun _ h => h)
        have q2 := j2.keeps kb2 (fun _ _ h => h) (fun _ h => h)
        clear hk ho r2' j1 j2 kb2 KB
        generalize hgx2 : w1.heap.size = gx2 at *
        clear hgx2
        generalize w1.alloc (.cells D 41) = w2 at *
        obtain ⟨y1, y2⟩ := tblk_mid bx1 hz
        obtain ⟨y3, y4⟩ := tblk_mid bx2 hz2
        have hcall := HF.out a hcm b hdm w2 cs ds q1 q2
        rw [← HC.out, ← HD.out] at hcall
        clear q1 q2 bx1 bx2
        have hcf2 := hcf #[.agg C, .agg D] w2
        go_wp2_with fail
        clear hcf2
        refine hcall.mono ?_
        rintro e w3 ⟨⟨z, rfl, hzz⟩, k3⟩
        have KD := KC.trans k3 (fun _ h _ => h)
        have HZ := shut hzz
        clear hcall y1 y2 y3 y4 KC k3 hzz
        cases z with
        | true =>
          have HAB := shut (HZ.out.1 rfl)
          clear HZ
          go_wp2_with fail
          go_roundw
          case rel => exact ⟨t + 1, by go_num, by omega, KD, shut (take_eq HA.out HB.out HT.out HAB.out)⟩
          case measure => simp [intOf]; omega
        | false =>
          have HAB : Shut (a ≠ b) := shut (fun h => by have h2 := HZ.out.2 h; cases h2)
          clear HZ
          go_wp2_with fail
          go_ret
          exact tells_f (ne_at HA.out HB.out HAB.out) KD
      · obtain rfl : t = n := by omega
        have m1 : ¬ (t : Int) < t := by omega
        go_wp2_with fail
        go_ret
        refine tells_t ?_ K
        have h := HT.out
        rwa [List.take_of_length_le (Nat.le_of_eq HN.out), List.take_of_length_le (Nat.le_of_eq HM.out)] at h
  · have hne' : ¬ (l.length : Int) = m.length := by omega
    have hl : l ≠ m := fun h => hne (by rw [h])
    go_enter Try.func101, Try.ntmps101
    go_wp2_with fail
    go_ret
    exact tells_f hl (Keeps.refl _ _)

set_option maxHeartbeats 1000000 in
theorem each_opr (f : FuncId) (hcf : Entered f) {S S' : Nat → Prop} {l m : List OprD} (hf : ∀ a ∈ l, ∀ b ∈ m, ∀ (W : World) (cs ds : List Value), OprIs S W a cs → OprIs S' W b ds → Calls Try.prog f #[.agg cs.toArray, .agg ds.toArray] W (Tells W (a = b)))
    (w : World) {ax ay : Option Addr} (cx cy : Nat) (hx : SlIs S w 4 (OprIs S w) ax l) (hy : SlIs S' w 4 (OprIs S' w) ay m) :
    Calls Try.prog 98 #[.slice ax l.length cx, .slice ay m.length cy, .func (.func f) #[] #[]] w (Tells w (l = m)) := by
  have h := eqf_opr f hcf hf w cx cy hx hy
  clear hf hcf hx hy
  go_enter Try.func98, Try.ntmps98
  go_wp2_with fail
  refine h.mono ?_
  rintro e w1 ⟨⟨z, rfl, hz⟩, k⟩
  have HZ := shut hz
  clear hz h
  go_wp2_with fail
  go_ret
  exact tells_z HZ.out k
set_option maxRecDepth 100000 in
set_option maxHeartbeats 4000000 in
theorem sameValue_any {S S' : Nat → Prop} (a b : ValD) (w : World) (cs ds : List Value) (ha : ValIs S w a cs) (hb : ValIs S' w b ds) : Calls Try.prog 84 #[.agg cs.toArray, .agg ds.toArray] w (Tells w (a = b)) := by
  obtain ⟨a_kind, a_a, a_b, a_op, a_place, a_name, a_names, a_args⟩ := a
  obtain ⟨b_kind, b_a, b_b, b_op, b_place, b_name, b_names, b_args⟩ := b
  have ag1 := agg_ok ha.len ha.one
  have ag2 := agg_ok hb.len hb.one
  obtain ⟨s1, s5, s10, p13, q13, p14, q14, hcs, ah_a, ah_b, ah_place, ah_name, ah_names, ah_args⟩ := ha
  have HCA := shut hcs
  clear hcs
  obtain ⟨t1, t5, t10, x13, y13, x14, y14, hcs, bh_a, bh_b, bh_place, bh_name, bh_names, bh_args⟩ := hb
  have HCB := shut hcs
  clear hcs
  simp only at HCA HCB ah_a bh_a ah_b bh_b ah_place bh_place ah_name bh_name ah_names bh_names ah_args bh_args
  have HE : Shut ((ValD.mk a_kind a_a a_b a_op a_place a_name a_names a_args) = (ValD.mk b_kind b_a b_b b_op b_place b_name b_names b_args) ↔ a_kind = b_kind ∧ a_a = b_a ∧ a_b = b_b ∧ a_op = b_op ∧ a_place = b_place ∧ a_name = b_name ∧ a_names = b_names ∧ a_args = b_args) := shut (by rw [ValD.mk.injEq])
  obtain ⟨XA, hXA⟩ : ∃ X, X = ValD.mk a_kind a_a a_b a_op a_place a_name a_names a_args := ⟨_, rfl⟩
  obtain ⟨XB, hXB⟩ : ∃ X, X = ValD.mk b_kind b_a b_b b_op b_place b_name b_names b_args := ⟨_, rfl⟩
  rw [← hXA, ← hXB] at HE ⊢
  clear hXA hXB
  obtain ⟨CA, hCA⟩ : ∃ C, C = cs.toArray := ⟨_, rfl⟩
  obtain ⟨CB, hCB⟩ : ∃ C, C = ds.toArray := ⟨_, rfl⟩
  rw [← hCA] at ag1 ⊢
  rw [← hCB] at ag2 ⊢
  rw [HCA.out] at hCA
  rw [HCB.out] at hCB
  have GCA := shut hCA
  have GCB := shut hCB
  clear hCA hCB HCA HCB
  have KW : Keeps Nothing w ((w.alloc (.cells CA 44)).alloc (.cells CB 44)) := ((Keeps.refl Nothing w).alloc _).alloc _
  have BA : Blk ((w.alloc (.cells CA 44)).alloc (.cells CB 44)) w.heap.size CA 44 := blk_alloc (blk_new w CA 44) _
  have BB : Blk ((w.alloc (.cells CA 44)).alloc (.cells CB 44)) (w.heap.size + 1) CB 44 := by have h := blk_new (w.alloc (.cells CA 44)) CB 44; rwa [World.size_alloc] at h
  have al_a := ah_a.len
  have bl_a := bh_a.len
  have al_b := ah_b.len
  have bl_b := bh_b.len
  have al_place := ah_place.len
  have bl_place := bh_place.len
  go_enter Try.func84, Try.ntmps84
  obtain ⟨ae0, ⟨ae1, af1⟩, -, -, -, -, -, -⟩ := ValB al_a al_b al_place GCA.out BA
  obtain ⟨be0, ⟨be1, bf1⟩, -, -, -, -, -, -⟩ := ValB bl_a bl_b bl_place GCB.out BB
  have ac0 := blk_inv BA ae0
  have bc0 := blk_inv BB be0
  by_cases e_kind : a_kind = b_kind
  rotate_left
  · have hno : Shut (¬ XA = XB) := shut (fun h => e_kind ((HE.out.1 h).1))
    clear HE GCA GCB BA BB
    go_wp2_with fail
    go_ret
    exact tells_f hno.out KW
  subst e_kind
  have hc := sameOper_any _ _ ((w.alloc (.cells CA 44)).alloc (.cells CB 44)) _ _ (ah_a.keeps KW (fun _ _ h => h) (fun _ h => h)) (bh_a.keeps KW (fun _ _ h => h) (fun _ h => h))
  generalize hsa : s1.toArray = sa at *
  generalize hsb : t1.toArray = sb at *
  clear hsa hsb
  skip
  go_wp2_with fail
  refine hc.mono ?_
  rintro e w1 ⟨⟨z, rfl, hz⟩, k1⟩
  have KW := KW.trans k1 (fun _ h _ => h)
  have BA := k1.blk BA (fun h => h)
  have BB := k1.blk BB (fun h => h)
  clear hc k1 ae0 ac0 be0 bc0 ae1 af1 be1 bf1
  cases z
  · have hno : Shut (¬ XA = XB) := shut (fun h => by have h2 := hz.2 ((HE.out.1 h).2.1); cases h2)
    clear HE GCA GCB BA BB hz
    go_wp2_with fail
    go_ret
    exact tells_f hno.out KW
  have E_a := shut (hz.1 rfl)
  clear hz
  obtain ⟨-, -, ⟨ae5, af5⟩, -, -, -, -, -⟩ := ValB al_a al_b al_place GCA.out BA
  obtain ⟨-, -, ⟨be5, bf5⟩, -, -, -, -, -⟩ := ValB bl_a bl_b bl_place GCB.out BB
  have hc := sameOper_any _ _ w1 _ _ (ah_b.keeps KW (fun _ _ h => h) (fun _ h => h)) (bh_b.keeps KW (fun _ _ h => h) (fun _ h => h))
  generalize hsa : s5.toArray = sa at *
  generalize hsb : t5.toArray = sb at *
  clear hsa hsb
  skip
  go_wp2_with fail
  refine hc.mono ?_
  rintro e w2 ⟨⟨z, rfl, hz⟩, k2⟩
  have KW := KW.trans k2 (fun _ h _ => h)
  have BA := k2.blk BA (fun h => h)
  have BB := k2.blk BB (fun h => h)
  clear hc k2 ae5 af5 be5 bf5
  cases z
  · have hno : Shut (¬ XA = XB) := shut (fun h => by have h2 := hz.2 ((HE.out.1 h).2.2.1); cases h2)
    clear HE GCA GCB BA BB hz
    go_wp2_with fail
    go_ret
    exact tells_f hno.out KW
  have E_b := shut (hz.1 rfl)
  clear hz
  obtain ⟨-, -, -, ae9, ⟨ae10, af10⟩, -, -, -⟩ := ValB al_a al_b al_place GCA.out BA
  obtain ⟨-, -, -, be9, ⟨be10, bf10⟩, -, -, -⟩ := ValB bl_a bl_b bl_place GCB.out BB
  by_cases e_op : a_op = b_op
  rotate_left
  · have hno : Shut (¬ XA = XB) := shut (fun h => e_op ((HE.out.1 h).2.2.2.1))
    clear HE GCA GCB BA BB
    go_wp2_with fail
    go_ret
    exact tells_f hno.out KW
  subst e_op
  have hc := samePlace_any _ _ w2 _ _ (ah_place.keeps KW (fun _ _ h => h) (fun _ h => h)) (bh_place.keeps KW (fun _ _ h => h) (fun _ h => h))
  generalize hsa : s10.toArray = sa at *
  generalize hsb : t10.toArray = sb at *
  clear hsa hsb
  skip
  go_wp2_with fail
  refine hc.mono ?_
  rintro e w3 ⟨⟨z, rfl, hz⟩, k3⟩
  have KW := KW.trans k3 (fun _ h _ => h)
  have BA := k3.blk BA (fun h => h)
  have BB := k3.blk BB (fun h => h)
  clear hc k3 ae9 be9 ae10 af10 be10 bf10
  cases z
  · have hno : Shut (¬ XA = XB) := shut (fun h => by have h2 := hz.2 ((HE.out.1 h).2.2.2.2.1); cases h2)
    clear HE GCA GCB BA BB hz
    go_wp2_with fail
    go_ret
    exact tells_f hno.out KW
  have E_place := shut (hz.1 rfl)
  clear hz
  obtain ⟨-, -, -, -, -, ae12, ae13, -⟩ := ValB al_a al_b al_place GCA.out BA
  obtain ⟨-, -, -, -, -, be12, be13, -⟩ := ValB bl_a bl_b bl_place GCB.out BB
  by_cases e_name : a_name = b_name
  rotate_left
  · have hno : Shut (¬ XA = XB) := shut (fun h => e_name ((HE.out.1 h).2.2.2.2.2.1))
    clear HE GCA GCB BA BB
    have hq : (a_name == b_name) = false := by rw [beq_eq_false_iff_ne]; exact e_name
    unfold txV at *
    go_wp2_with fail
    go_ret
    exact tells_f hno.out KW
  subst e_name
  have hq_name : (a_name == a_name) = true := beq_self_eq_true _
  have hc := equal_tx w3 q13 y13 (ah_names.keeps KW (fun _ _ h => h) (fun _ h => h) (fun _ _ _ h => h)) (bh_names.keeps KW (fun _ _ h => h) (fun _ h => h) (fun _ _ _ h => h))
  unfold txV at *
  go_wp2_with fail
  refine hc.mono ?_
  rintro e w4 ⟨⟨z, rfl, hz⟩, k4⟩
  have KW := KW.trans k4 (fun _ h _ => h)
  have BA := k4.blk BA (fun h => h)
  have BB := k4.blk BB (fun h => h)
  clear hc k4 ae12 be12 ae13 be13 hq_name
  cases z
  · have hno : Shut (¬ XA = XB) := shut (fun h => by have h2 := hz.2 ((HE.out.1 h).2.2.2.2.2.2.1); cases h2)
    clear HE GCA GCB BA BB hz
    go_wp2_with fail
    go_ret
    exact tells_f hno.out KW
  have E_names := shut (hz.1 rfl)
  clear hz
  obtain ⟨-, -, -, -, -, -, -, ae14⟩ := ValB al_a al_b al_place GCA.out BA
  obtain ⟨-, -, -, -, -, -, -, be14⟩ := ValB bl_a bl_b bl_place GCB.out BB
  have hc := each_opr _ ent_sameOper (fun a _ b _ W cs ds h1 h2 => sameOper_any a b W cs ds h1 h2) w4 q14 y14 (ah_args.keeps KW (fun _ _ h => h) (fun _ h => h) (fun _ _ _ h => h.keeps KW (fun _ _ h => h) (fun _ h => h))) (bh_args.keeps KW (fun _ _ h => h) (fun _ h => h) (fun _ _ _ h => h.keeps KW (fun _ _ h => h) (fun _ h => h)))
  skip
  go_wp2_with fail
  refine hc.mono ?_
  rintro e w5 ⟨⟨z, rfl, hz⟩, k5⟩
  have KW := KW.trans k5 (fun _ h _ => h)
  have BA := k5.blk BA (fun h => h)
  have BB := k5.blk BB (fun h => h)
  clear hc k5 ae14 be14
  cases z
  · have hno : Shut (¬ XA = XB) := shut (fun h => by have h2 := hz.2 ((HE.out.1 h).2.2.2.2.2.2.2); cases h2)
    clear HE GCA GCB BA BB hz
    go_wp2_with fail
    go_ret
    exact tells_f hno.out KW
  have E_args := shut (hz.1 rfl)
  clear hz
  go_wp2_with fail
  go_ret
  exact tells_t (HE.out.2 ⟨(by first | rfl | trivial), E_a.out, E_b.out, (by first | rfl | trivial), E_place.out, (by first | rfl | trivial), E_names.out, E_args.out⟩) KW

end Go.Proofs.Ytjbcagbnagefcaa
